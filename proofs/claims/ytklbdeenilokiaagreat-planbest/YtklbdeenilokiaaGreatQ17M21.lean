/- Contracts of functions of the program, and what they lean on: a part of the proof that planBest_proved stands; no condition. -/
import Derived.Test.YtklbdeenilokiaaGreatProg
import Derived.Test.YtklbdeenilokiaaGreatQ17M18
import Derived.Test.YtklbdeenilokiaaGreatQ17A3
import Derived.Test.YtklbdeenilokiaaGreatQ17M10
set_option linter.unusedVariables false
set_option linter.unusedSimpArgs false
namespace Go.Abs
open Go Go.Proofs
theorem wholeI_eq (s : ByteArray) : wholeI s = rightI s := by
 unfold wholeI rightI
 cases (strL s)[0]? with
 | none => rfl
 | some c =>
  simp only [nextC, oneC]
  by_cases hl : letter c.toNat = true
  ·have hd : digit c.toNat = false := by
    simp only [letter, digit, Bool.or_eq_true, Bool.and_eq_true, decide_eq_true_eq, Bool.and_eq_false_iff, decide_eq_false_iff_not] at hl ⊢
    omega
   by_cases h20 : (20 : Int) < runB part (strL s) <;> simp [hl, hd, h20]
  ·have hl' : letter c.toNat = false := by simpa using hl
   by_cases hd : digit c.toNat = true
   ·by_cases h9 : (9 : Int) < runB digit (strL s) <;> simp [hl', hd, h9, noTok]
   ·have hd' : digit c.toNat = false := by simpa using hd
    by_cases hq : (c.toNat : Int) = 34
    ·have e1 : letter 34 = false := by decide
     have e2 : digit 34 = false := by decide
     simp only [hl', hd', hq, noTok]
     by_cases h1 : quotedR (strL s) = 0
     ·simp [h1, e1, e2]
     ·by_cases h2 : (60 : Int) < quotedR (strL s) - 2 <;> simp [h1, h2, e1, e2]
    ·by_cases hp : pairI s = true <;> by_cases hi : 0 ≤ Lib.indexByte (strL singles) (c.toNat : Int).toNat.toUInt8 <;> simp only [hl', hd', hq, hp, hi] <;> simp [noTok] <;> split <;> simp
def namesE (l : List ByteArray) : Nat → List ByteArray → Int
 | _, [] => 0
 | i, s :: r => if wholeI s = false then 2 else if (l.take i).any (fun x => s.toList == x.toList) then 5 else namesE l (i + 1) r
def namesV (l : List ByteArray) : Int := if 20 < l.length then 3 else namesE l 0 l
def rngA (x : Attr) : Bool := if 0 < x.names.length then decide (x.low = 0) && decide (x.high = (x.names.length : Int) - 1) else decide (-1000000 ≤ x.low) && decide (x.low ≤ x.high) && decide (x.high ≤ 1000000)
def attrE (x : Attr) (b : List Attr) : Int := if wholeI x.name = false then 2 else if b.any (fun y => y.name.toList == x.name.toList) then 5 else if namesV x.names ≠ 0 then namesV x.names else if rngA x then 0 else 6
def attrsE (l : List Attr) : Nat → List Attr → Int
 | _, [] => 0
 | k, x :: r => if attrE x (l.take k) ≠ 0 then attrE x (l.take k) else attrsE l (k + 1) r
def attrsF (t : Types) : Nat → Int → List Attr
 | 0, _ => []
 | f + 1, a => if a < 0 then [] else match t.nodes[a.toNat]? with
  | none => []
  | some n => attrsF t f n.parent ++ n.attrs
def attrsT (t : Types) (i : Nat) : List Attr := attrsF t (i + 1) i
def nodeE (t : Types) (i : Nat) (n : NodeType) : Int :=
 if wholeI n.name = false then 2 else if (t.nodes.take i).any (fun m => m.name.toList == n.name.toList) then 5
 else if n.parent < -1 ∨ (i : Int) ≤ n.parent then 6 else if 4 < n.attrs.length then 3
 else if 8 < (attrsT t i).length then 3 else attrsE (attrsT t i) ((attrsT t i).length - n.attrs.length) n.attrs
def bndI (low high : Int) : Bool := decide (0 ≤ low) && decide (low ≤ 40) && (decide (high = -1) || (decide (low ≤ high) && decide (high ≤ 40)))
def edgeE (t : Types) (i : Nat) (e : EdgeType) : Int :=
 if wholeI e.name = false then 2 else if (t.edges.take i).any (fun m => m.name.toList == e.name.toList) then 5
 else if (inI e.src t.nodes.length && inI e.tgt t.nodes.length && bndI e.ol e.oh && bndI e.il e.ih) = false then 6 else 0
def noS : ByteArray := ⟨#[]⟩
def nodesE (t : Types) : Nat → List NodeType → ByteArray × Int
 | _, [] => (noS, 0)
 | i, n :: r => if nodeE t i n ≠ 0 then (n.name, nodeE t i n) else nodesE t (i + 1) r
def edgesE (t : Types) : Nat → List EdgeType → ByteArray × Int
 | _, [] => (noS, 0)
 | i, n :: r => if edgeE t i n ≠ 0 then (n.name, edgeE t i n) else edgesE t (i + 1) r
def typesV (t : Types) : ByteArray × Int := if t.nodes.length = 0 then (noS, 7) else if 12 < t.nodes.length ∨ 20 < t.edges.length then (noS, 3)
 else if (nodesE t 0 t.nodes).2 ≠ 0 then nodesE t 0 t.nodes else edgesE t 0 t.edges
def strOK (s : ByteArray) : Prop := (strL s).length ≤ 140737488355328
def attrOK (a : Attr) : Prop := strOK a.name ∧ a.names.length ≤ 1000 ∧ ∀ s ∈ a.names, strOK s
structure tOK (t : Types) : Prop where
 nl : t.nodes.length ≤ 1000
 el : t.edges.length ≤ 1000
 nn : ∀ n ∈ t.nodes, strOK n.name ∧ n.attrs.length ≤ 1000 ∧ ∀ a ∈ n.attrs, attrOK a
 ee : ∀ e ∈ t.edges, strOK e.name
def parOK (t : Types) (i : Nat) : Prop := ∀ j, j < i → ∀ m, t.nodes[j]? = some m → m.parent < j
theorem nodeE_par {t : Types} {i : Nat} {n : NodeType} (h : nodeE t i n = 0) : -1 ≤ n.parent ∧ n.parent < i := by
 unfold nodeE at h
 split at h
 ·cases h
 ·split at h
  ·cases h
  ·split at h
   ·cases h
   ·omega
theorem attrsF_len {t : Types} (ht : tOK t) : ∀ (f : Nat) (a : Int), (attrsF t f a).length ≤ f * 1000
 | 0, a => by simp [attrsF]
 | f + 1, a => by
  unfold attrsF
  split
  ·simp
  ·split
   ·simp
   ·rename_i n hn
    have := attrsF_len ht f n.parent
    have := (ht.nn n (List.mem_of_getElem? hn)).2.1
    simp only [List.length_append]
    omega
theorem attrsF_ok {t : Types} (ht : tOK t) : ∀ (f : Nat) (a : Int), ∀ x ∈ attrsF t f a, attrOK x
 | 0, a, x, hx => by simp [attrsF] at hx
 | f + 1, a, x, hx => by
  unfold attrsF at hx
  split at hx
  ·simp at hx
  ·split at hx
   ·simp at hx
   ·rename_i n hn
    rcases List.mem_append.1 hx with h | h
    ·exact attrsF_ok ht f _ x h
    ·exact (ht.nn n (List.mem_of_getElem? hn)).2.2 x h
theorem attrsF_fuel {t : Types} : ∀ (f g : Nat) (a : Int), parOK t (a + 1).toNat → a < f → a < g → attrsF t f a = attrsF t g a
 | 0, 0, a, _, _, _ => rfl
 | 0, g + 1, a, _, h, _ => by simp only [attrsF]; rw [if_pos (by omega)]
 | f + 1, 0, a, _, _, h => by simp only [attrsF]; rw [if_pos (by omega)]
 | f + 1, g + 1, a, hp, h1, h2 => by
  simp only [attrsF]
  split
  ·rfl
  ·split
   ·rfl
   ·rename_i h0 _ n hn
    have := hp a.toNat (by omega) n hn
    rw [attrsF_fuel f g n.parent (fun j hj => hp j (by omega)) (by omega) (by omega)]
theorem mergeH_upd1 {h h1 : Heap} {B : Nat} {x : HB} (he : OutEq h1 (Go.Abs.upd h B x)) (hB : lim ≤ B) : mergeH h h1 = Go.Abs.upd h B x := by
 funext b
 simp only [mergeH]
 split
 ·rename_i hb; rw [upd_ne _ _ _ _ (by omega)]
 ·rename_i hb; exact he b (by omega)
theorem PCall.take {α : Type} {P : Program} {f : FuncId} {c : α → List D} {l : List α} {i : Nat} {us : List AV} {r : AV} (h : PCall P f (sl ((l.take i).map c) :: us) r) : PCall P f (.d (.slice ((l.map c).take i)) :: us) r := by
 rw [List.map_take] at h; exact h
theorem PCall.take2 {α : Type} {P : Program} {f : FuncId} {c : α → List D} {l : List α} {i : Nat} {a : AV} {us : List AV} {r : AV} (h : PCall P f (a :: sl ((l.take i).map c) :: us) r) : PCall P f (a :: .d (.slice ((l.map c).take i)) :: us) r := by
 rw [List.map_take] at h; exact h
theorem p249 (m n : NodeType) : PCall Tryz.prog 249 [ag (NodeType.c m), .dptr (NodeType.c n)] (bo (m.name.toList == n.name.toList)) := by
 intro h
 refine ACall.of b249 (by simp) ?_
 unfold c249
 refine .seqk fun K1 hK1 => ?_
 refine .reg ?_
 simp
 refine hK1 _ ?_
 clear hK1 K1
 refine .keep [1, 2] ?_
 simp only [keepE, E_cons, E_nil]
 refine .see (upd _ 2 ⟨_, none⟩) [(1, _), (2, .dptr (NodeType.c m))] ⟨.refl _, T.box (k := 4) (cs := NodeType.c m) (by simp [upd]) (by simp [upd]), trivial⟩ (Dies.up (Dies.refl _) (.inr ⟨rfl, Nat.le_refl _⟩)) ?_
 try simp only [E_cons, E_nil]
 refine .seqk fun K2 hK2 => ?_
 refine .reg ?_
 simp
 refine hK2 _ ?_
 clear hK2 K2
 refine .keep [3] ?_
 simp only [keepE, E_cons, E_nil]
 refine .ret ?_
 refine ret_z (.inr rfl) rfl rfl ?_
 simp
theorem p265 (m n : Attr) : PCall Tryz.prog 265 [ag (Attr.c m), .dptr (Attr.c n)] (bo (m.name.toList == n.name.toList)) := by
 intro h
 refine ACall.of b265 (by simp) ?_
 unfold c265
 refine .seqk fun K1 hK1 => ?_
 refine .reg ?_
 simp
 refine hK1 _ ?_
 clear hK1 K1
 refine .keep [1, 2] ?_
 simp only [keepE, E_cons, E_nil]
 refine .see (upd _ 2 ⟨_, none⟩) [(1, _), (2, .dptr (Attr.c m))] ⟨.refl _, T.box (k := 4) (cs := Attr.c m) (by simp [upd]) (by simp [upd]), trivial⟩ (Dies.up (Dies.refl _) (.inr ⟨rfl, Nat.le_refl _⟩)) ?_
 try simp only [E_cons, E_nil]
 refine .seqk fun K2 hK2 => ?_
 refine .reg ?_
 simp
 refine hK2 _ ?_
 clear hK2 K2
 refine .keep [3] ?_
 simp only [keepE, E_cons, E_nil]
 refine .ret ?_
 refine ret_z (.inr rfl) rfl rfl ?_
 simp
theorem p254 (m n : EdgeType) : PCall Tryz.prog 254 [ag (EdgeType.c m), .dptr (EdgeType.c n)] (bo (m.name.toList == n.name.toList)) := by
 intro h
 refine ACall.of b254 (by simp) ?_
 unfold c254
 refine .seqk fun K1 hK1 => ?_
 refine .reg ?_
 simp
 refine hK1 _ ?_
 clear hK1 K1
 refine .keep [1, 2] ?_
 simp only [keepE, E_cons, E_nil]
 refine .see (upd _ 2 ⟨_, none⟩) [(1, _), (2, .dptr (EdgeType.c m))] ⟨.refl _, T.box (k := 7) (cs := EdgeType.c m) (by simp [upd]) (by simp [upd]), trivial⟩ (Dies.up (Dies.refl _) (.inr ⟨rfl, Nat.le_refl _⟩)) ?_
 try simp only [E_cons, E_nil]
 refine .seqk fun K2 hK2 => ?_
 refine .reg ?_
 simp
 refine hK2 _ ?_
 clear hK2 K2
 refine .keep [3] ?_
 simp only [keepE, E_cons, E_nil]
 refine .ret ?_
 refine ret_z (.inr rfl) rfl rfl ?_
 simp
theorem p252 (n : Int) (t : Types) : PCall Tryz.prog 252 [int n, .dptr (Types.c t)] (bo (inI n t.nodes.length)) := by
 intro h
 refine ACall.of b252 (by simp) ?_
 unfold c252
 refine .seqk fun K1 hK1 => ?_
 refine .reg ?_
 simp
 refine hK1 _ ?_
 clear hK1 K1
 refine .seqreg (fun hh => hh) (fun ee => [(3, bo (inI n t.nodes.length))]) ?_ ?_
 ·by_cases h0 : 0 ≤ n <;> by_cases h1 : n < (t.nodes.length : Int) <;> simp [h0, h1, inI]
 try simp only [E_cons, E_nil]
 refine .ret ?_
 refine ret_z (.inr rfl) rfl rfl ?_
 simp
theorem p255 (a b : Int) : PCall Tryz.prog 255 [int a, int b] (bo (bndI a b)) := by
 intro h
 refine ACall.of b255 (by simp) ?_
 unfold c255
 refine .seqk fun K1 hK1 => ?_
 refine .reg ?_
 simp
 refine hK1 _ ?_
 clear hK1 K1
 refine .seqreg (fun hh => hh) (fun ee => [(4, bo (bndI a b))]) ?_ ?_
 ·by_cases h0 : 0 ≤ a <;> by_cases h1 : a ≤ 40 <;> by_cases h2 : b = -1 <;> by_cases h3 : a ≤ b <;> by_cases h4 : b ≤ 40 <;> simp [h0, h1, h2, h3, h4, bndI]
 try simp only [E_cons, E_nil]
 refine .ret ?_
 refine ret_z (.inr rfl) rfl rfl ?_
 simp
theorem p266 (l : List ByteArray) (hn : l.length ≤ 1000) (hl : ∀ s ∈ l, strOK s) : PCall Tryz.prog 266 [sl (l.map S.c)] (int (namesV l)) := by
 intro h
 refine ACall.of b266 (by simp) ?_
 unfold c266
 refine .seqk fun K1 hK1 => ?_
 refine .reg ?_
 simp
 refine hK1 _ ?_
 clear hK1 K1
 refine .seqk fun K2 hK2 => ?_
 refine .seqk fun K3 hK3 => ?_
 refine .reg ?_
 simp
 refine hK3 _ ?_
 clear hK3 K3
 refine .keep [0, 7] ?_
 simp only [keepE, E_cons, E_nil]
 refine .condk _ rfl (fun hc1 => ?_) (fun hc1 => ?_)
 ·simp at hc1
  refine .seqk fun K4 hK4 => ?_
  refine .reg ?_
  simp
  refine hK4 _ ?_
  clear hK4 K4
  refine .ret ?_
  refine ret_z (.inr rfl) rfl rfl ?_
  have e : namesV l = 3 := by rw [namesV, if_pos (by omega)]
  simp [e]
 ·simp at hc1
  refine .skip ?_
  refine hK2 _ ?_
  clear hK2 K2
  refine .seqk fun K5 hK5 => ?_
  refine .seqk fun K6 hK6 => ?_
  refine .reg ?_
  simp
  refine hK6 _ ?_
  clear hK6 K6
  refine .keep [0, 8, 9, 10] ?_
  simp only [keepE, E_cons, E_nil]
  refine .block ?_
  refine .count (l).length (fun i st => (namesE l i (l.drop i) = namesE l 0 l) ∧ ∃ hh1, OutEq hh1 h ∧ st = ⟨E [(0, sl (l.map S.c)), (8, sl (l.map S.c)), (9, int (l.length : Int)), (10, int i)], hh1⟩) 0 (Nat.zero_le _) _ (.cov (by first | (simp; done) | (simp; rfl) | (simp; exact ⟨rfl, rfl⟩)) (.refl _)) ⟨by simp, _, by first | (simp; done) | (simp; assumption) | (simp [*]; done), rfl⟩ ?_
  rintro i s hi1 ⟨hp1, hh1, hho1, rfl⟩ K7 hK7
  refine .seqk fun K8 hK8 => ?_
  refine .reg ?_
  simp
  refine hK8 _ ?_
  clear hK8 K8
  refine .seqk fun K9 hK9 => ?_
  refine .condk _ rfl (fun hc2 => ?_) (fun hc2 => ?_)
  ·simp at hc2
   obtain ⟨x, hx1⟩ := get_some hc2
   refine .skip ?_
   refine hK9 _ ?_
   clear hK9 K9
   refine .seqk fun K10 hK10 => ?_
   refine .block ?_
   refine .seqk fun K11 hK11 => ?_
   refine .reg ?_
   simp [hx1]
   refine hK11 _ ?_
   clear hK11 K11
   refine .keep [0, 3, 4, 8, 9, 10] ?_
   simp only [keepE, E_cons, E_nil]
   refine .block ?_
   refine .seqk fun K12 hK12 => ?_
   refine .reg ?_
   refine Sq.cutk 2 fun K13 hK13 => ?_
   simp only [zt]
   simp
   refine PCall.sq (p247 x (hl x (List.mem_of_getElem? hx1))) fun h1 he1 => ?_
   simp only [mergeH_eq he1]
   clear he1 h1
   refine hK13 _ ?_
   clear hK13 K13
   simp
   refine hK12 _ ?_
   clear hK12 K12
   refine .keep [0, 3, 4, 8, 9, 10, 15] ?_
   simp only [keepE, E_cons, E_nil]
   refine .condk _ rfl (fun hc3 => ?_) (fun hc3 => ?_)
   ·simp at hc3
    refine .seqk fun K14 hK14 => ?_
    refine .reg ?_
    simp
    refine hK14 _ ?_
    clear hK14 K14
    refine .ret ?_
    refine ret_z (.inr rfl) rfl rfl ?_
    rw [namesV, if_neg (by omega), ← hp1, drop_cons hx1]; simp [namesE, hc1, hc3]
   ·simp at hc3
    refine .seqk fun K15 hK15 => ?_
    refine .reg ?_
    refine Sq.cutk 5 fun K16 hK16 => ?_
    simp only [zt]
    simp [hi1]
    refine PCall.sq (.take (p276 (l.take i) x)) fun h1 he1 => ?_
    simp only [mergeH_eq he1]
    clear he1 h1
    refine hK16 _ ?_
    clear hK16 K16
    simp [hi1]
    refine hK15 _ ?_
    clear hK15 K15
    refine .keep [0, 8, 9, 10, 19] ?_
    simp only [keepE, E_cons, E_nil]
    refine .condk _ rfl (fun hc4 => ?_) (fun hc4 => ?_)
    ·skip
     refine .seqk fun K17 hK17 => ?_
     refine .reg ?_
     simp
     refine hK17 _ ?_
     clear hK17 K17
     refine .ret ?_
     refine ret_z (.inr rfl) rfl rfl ?_
     rw [namesV, if_neg (by omega), ← hp1, drop_cons hx1]; simp [namesE, hc1, hc3, hc4]
    ·skip
     refine .skip ?_
     refine hK10 _ ?_
     clear hK10 K10
     refine .reg ?_
     simp
     refine hK7 _ _ (by omega) (Wk.cov ?_ (.refl _)) ⟨?_, _, ?_, rfl⟩
     ·simp; exact wrap64 (by omega) (by omega)
     ·rw [← hp1, drop_cons hx1]; simp [namesE, hc1, hc3, hc4]
     ·first | assumption | (simp; done) | (simp; assumption) | (simp [hho1]; done)
  ·simp at hc2
   have hi1 : i = (l).length := by omega
   subst hi1
   refine .exit ?_
   try simp only [then', inBlk, if_true, if_false, reduceIte, Nat.reduceEqDiff]
   refine hK5 _ ?_
   clear hK9 hK7 hK5 K9 K7 K5
   refine .seqk fun K18 hK18 => ?_
   refine .reg ?_
   simp
   refine hK18 _ ?_
   clear hK18 K18
   refine .ret ?_
   refine ret_z (.inr rfl) rfl rfl ?_
   have : namesE l 0 l = 0 := by rw [← hp1]; simp [namesE]
   simp [namesV, this]; omega
theorem p251 (x : Attr) (b : List Attr) (hx : attrOK x) : PCall Tryz.prog 251 [ag (Attr.c x), sl (b.map Attr.c)] (int (attrE x b)) := by
 intro h
 refine ACall.of b251 (by simp) ?_
 unfold c251
 refine .seqk fun K1 hK1 => ?_
 refine .reg ?_
 simp
 refine hK1 _ ?_
 clear hK1 K1
 refine .keep [1, 2] ?_
 simp only [keepE, E_cons, E_nil]
 refine .see (upd _ 2 ⟨_, none⟩) [(1, _), (2, .dptr (Attr.c x))] ⟨.refl _, T.box (k := 4) (cs := Attr.c x) (by simp [upd]) (by simp [upd]), trivial⟩ (Dies.up (Dies.refl _) (.inr ⟨rfl, Nat.le_refl _⟩)) ?_
 try simp only [E_cons, E_nil]
 refine .seqk fun K2 hK2 => ?_
 refine .block ?_
 refine .seqk fun K3 hK3 => ?_
 refine .reg ?_
 refine Sq.cutk 3 fun K4 hK4 => ?_
 simp only [zt]
 simp
 refine PCall.sq (p247 x.name hx.1) fun h1 he1 => ?_
 simp only [mergeH_eq he1]
 clear he1 h1
 refine hK4 _ ?_
 clear hK4 K4
 simp
 refine hK3 _ ?_
 clear hK3 K3
 refine .keep [1, 2, 7] ?_
 simp only [keepE, E_cons, E_nil]
 refine .condk _ rfl (fun hc1 => ?_) (fun hc1 => ?_)
 ·simp at hc1
  refine .seqk fun K5 hK5 => ?_
  refine .reg ?_
  simp
  refine hK5 _ ?_
  clear hK5 K5
  refine .ret ?_
  refine ret_z (.inr rfl) rfl rfl ?_
  simp [attrE, hc1]
 ·simp at hc1
  refine .seqk fun K6 hK6 => ?_
  refine .reg ?_
  refine Sq.cutk 3 fun K7 hK7 => ?_
  simp only [zt]
  simp
  refine PCall.sq (p264 b 265 [.dptr (Attr.c x)] (fun y => y.name.toList == x.name.toList) (fun y _ => p265 y x)) fun h1 he1 => ?_
  simp only [mergeH_eq he1]
  clear he1 h1
  refine hK7 _ ?_
  clear hK7 K7
  simp
  refine hK6 _ ?_
  clear hK6 K6
  refine .keep [2, 12] ?_
  simp only [keepE, E_cons, E_nil]
  refine .condk _ rfl (fun hc2 => ?_) (fun hc2 => ?_)
  ·skip
   refine .seqk fun K8 hK8 => ?_
   refine .reg ?_
   simp
   refine hK8 _ ?_
   clear hK8 K8
   refine .ret ?_
   refine ret_z (.inr rfl) rfl rfl ?_
   simp only [attrE]; simp [hc1, hc2]
  ·skip
   refine .skip ?_
   refine hK2 _ ?_
   clear hK2 K2
   refine .seqk fun K9 hK9 => ?_
   refine .seqk fun K10 hK10 => ?_
   refine .reg ?_
   refine Sq.cutk 3 fun K11 hK11 => ?_
   simp only [zt]
   simp
   refine PCall.sq (p266 x.names hx.2.1 hx.2.2) fun h1 he1 => ?_
   simp only [mergeH_eq he1]
   clear he1 h1
   refine hK11 _ ?_
   clear hK11 K11
   simp
   refine hK10 _ ?_
   clear hK10 K10
   refine .keep [2, 5] ?_
   simp only [keepE, E_cons, E_nil]
   refine .seqk fun K12 hK12 => ?_
   refine .reg ?_
   simp
   refine hK12 _ ?_
   clear hK12 K12
   refine .condk _ rfl (fun hc3 => ?_) (fun hc3 => ?_)
   ·simp at hc3
    refine .seqk fun K13 hK13 => ?_
    refine .reg ?_
    simp
    refine hK13 _ ?_
    clear hK13 K13
    refine .ret ?_
    refine ret_z (.inr rfl) rfl rfl ?_
    simp only [attrE]; simp [hc1, hc2, hc3]
   ·simp at hc3
    refine .skip ?_
    refine hK9 _ ?_
    clear hK9 K9
    refine .seqreg (fun hh => hh) (fun ee => [(2, ee 2), (6, bo (decide (-1000000 ≤ x.low) && decide (x.low ≤ x.high) && decide (x.high ≤ 1000000)))]) ?_ ?_
    ·by_cases h0 : -1000000 ≤ x.low <;> by_cases h1 : x.low ≤ x.high <;> by_cases h2 : x.high ≤ 1000000 <;> simp [h0, h1, h2, True]
    try simp only [E_cons, E_nil]
    refine .seqj (fun hh => hh) (fun ee => [(6, bo (rngA x))]) (fun K14 hK14 => ?_) ?_
    ·refine .seqk fun K15 hK15 => ?_
     refine .reg ?_
     simp
     refine hK15 _ ?_
     clear hK15 K15
     refine .keep [2, 6, 40] ?_
     simp only [keepE, E_cons, E_nil]
     refine .condk _ rfl (fun hc4 => ?_) (fun hc4 => ?_)
     ·simp at hc4
      have hw : IntKind.i64.wrap ((x.names.length : Int) - 1) = (x.names.length : Int) - 1 := by have := hx.2.1; exact wrap64 (by omega) (by omega)
      have hc4' : 0 < x.names.length := by first | omega | exact List.length_pos_iff.2 (by simpa using hc4)
      refine .regv (fun hh => hh) (fun ee => [(6, bo (rngA x))]) ?_ (fun s hs => ?_)
      ·simp only [rngA, if_pos hc4']
       by_cases h0 : x.low = 0 <;> by_cases h1 : x.high = (x.names.length : Int) - 1 <;> simp [h0, h1, hw]
      refine hK14 _ (hs.trans (Wk.cov ?_ (.refl _)))
      simp [rngA, hc4]
     ·simp at hc4
      have hc4' : ¬ 0 < x.names.length := by first | omega | simp [hc4]
      refine .skip ?_
      refine hK14 _ (Wk.cov ?_ (.refl _))
      simp [rngA, hc4]
    try simp only [E_cons, E_nil]
    refine .seqk fun K16 hK16 => ?_
    refine .seqk fun K17 hK17 => ?_
    refine .reg ?_
    simp
    refine hK17 _ ?_
    clear hK17 K17
    refine .condk _ rfl (fun hc5 => ?_) (fun hc5 => ?_)
    ·skip
     refine .seqk fun K18 hK18 => ?_
     refine .reg ?_
     simp
     refine hK18 _ ?_
     clear hK18 K18
     refine .ret ?_
     refine ret_z (.inr rfl) rfl rfl ?_
     simp at hc5
     simp only [attrE]; simp [hc1, hc2, hc3, hc5]
    ·skip
     refine .skip ?_
     refine hK16 _ ?_
     clear hK16 K16
     refine .seqk fun K19 hK19 => ?_
     refine .reg ?_
     simp
     refine hK19 _ ?_
     clear hK19 K19
     refine .ret ?_
     refine ret_z (.inr rfl) rfl rfl ?_
     simp at hc5
     simp only [attrE]; simp [hc1, hc2, hc3, hc5]
end Go.Abs
set_option linter.unusedVariables false
set_option linter.unusedSimpArgs false
namespace Go.Abs
open Go Go.Proofs
theorem bnT {b : Bool} (h : (!b) = true) : b = false := by simpa using h
theorem bnF {b : Bool} (h : (!b) = false) : b = true := by simpa using h
theorem OutEq.both {h h' : Heap} (he : OutEq h' h) (b : Nat) (v : HB) : OutEq (Go.Abs.upd h' b v) (Go.Abs.upd h b v) := fun c hc => by
 by_cases e : c = b
 ·subst e; rw [upd_same, upd_same]
 ·rw [upd_ne _ _ _ _ e, upd_ne _ _ _ _ e]; exact he c hc
theorem OutEq.bothN {h h' : Heap} (b : Nat) (v : HB) (he : ∀ c, lim ≤ c → c ≠ b → h' c = h c) : OutEq (Go.Abs.upd h' b v) (Go.Abs.upd h b v) := fun c hc => by
 by_cases e : c = b
 ·subst e; rw [upd_same, upd_same]
 ·rw [upd_ne _ _ _ _ e, upd_ne _ _ _ _ e]; exact he c hc e
theorem attrsT_eq {t : Types} {a : Nat} {n : NodeType} (hn : t.nodes[a]? = some n) (hp : parOK t (a + 1)) : attrsT t a = (if n.parent < 0 then [] else attrsT t n.parent.toNat) ++ n.attrs := by
 have hpa := hp a (by omega) n hn
 unfold attrsT
 rw [attrsF]
 rw [if_neg (by omega)]
 simp only [Int.toNat_natCast, hn]
 congr 1
 split
 ·rename_i h
  cases a with
  | zero => rfl
  | succ a => rw [attrsF, if_pos h]
 ·rename_i h
  rw [show ((n.parent.toNat : Nat) : Int) = n.parent by omega]
  exact attrsF_fuel _ _ _ (fun j hj => hp j (by omega)) (by omega) (by omega)
def QA (t : Types) (p : Nat) (h : Heap) (r : AV) (h' : Heap) : Prop := ∃ v c, r = .sl 1000001 v 0 (attrsT t p).length c ∧ OutEq h' (upd h 1000001 ⟨v, some ⟨4, dl ((attrsT t p).map Attr.c)⟩⟩)
theorem s250 (t : Types) (ht : tOK t) (a : Nat) (n : NodeType) (h : Heap) (hn : t.nodes[a]? = some n) (hp : parOK t (a + 1)) (hd : (h 1000001).live = none) (ih : ∀ p m h, p < a → t.nodes[p]? = some m → (h 1000001).live = none → ACall Tryz.prog 250 [ag (Types.c t), int p] h (QA t p h)) : ACall Tryz.prog 250 [ag (Types.c t), int a] h (QA t a h) := by
 refine ACall.of b250 (by simp) ?_
 unfold c250
 refine .seqk fun K1 hK1 => ?_
 refine .reg ?_
 simp
 refine hK1 _ ?_
 clear hK1 K1
 refine .keep [1, 2] ?_
 simp only [keepE, E_cons, E_nil]
 refine .see (upd _ 2 ⟨_, none⟩) [(1, _), (2, .dptr (Types.c t))] ⟨.refl _, T.box (k := 2) (cs := Types.c t) (by simp [upd]) (by simp [upd]), trivial⟩ (Dies.up (Dies.refl _) (.inr ⟨rfl, Nat.le_refl _⟩)) ?_
 try simp only [E_cons, E_nil]
 refine .seqk fun K2 hK2 => ?_
 refine .reg ?_
 simp
 refine hK2 _ ?_
 clear hK2 K2
 refine .keep [1, 2, 5] ?_
 simp only [keepE, E_cons, E_nil]
 refine .seqk fun K3 hK3 => ?_
 refine .seqk fun K4 hK4 => ?_
 refine .reg ?_
 simp [hn]
 refine hK4 _ ?_
 clear hK4 K4
 refine .keep [1, 2, 5, 6] ?_
 simp only [keepE, E_cons, E_nil]
 refine .seqk fun K5 hK5 => ?_
 refine .reg ?_
 simp
 refine hK5 _ ?_
 clear hK5 K5
 refine .keep [1, 2, 5, 6, 14] ?_
 simp only [keepE, E_cons, E_nil]
 refine .condk _ rfl (fun hc1 => ?_) (fun hc1 => ?_)
 ·simp at hc1
  obtain ⟨p, hpp⟩ : ∃ p : Nat, n.parent = p := ⟨n.parent.toNat, by omega⟩
  have hpa : p < a := by have := hp a (by omega) n hn; omega
  obtain ⟨m, hm⟩ : ∃ m, t.nodes[p]? = some m := ⟨t.nodes[p]'(by have := (List.getElem?_eq_some_iff.1 hn).1; omega), by simp⟩
  have hT : attrsT t a = attrsT t p ++ n.attrs := by rw [attrsT_eq hn hp, hpp, if_neg (by omega)]; simp
  refine .reg ?_
  refine Sq.cutk 3 fun K6 hK6 => ?_
  simp only [zt]
  simp [hpp]
  refine ACall.mono (ih p m _ hpa hm (by simp [upd, outer]; exact hd)) ?_
  rintro _ h1 ⟨v, c, rfl, he1⟩
  rw [mergeH_upd1 he1 (by decide)]
  clear he1 h1
  refine hK6 _ ?_
  clear hK6 K6
  simp [hpp]
  refine hK3 _ ?_
  clear hK3 K3
  refine .keep [1, 2, 5] ?_
  simp only [keepE, E_cons, E_nil]
  refine .seqregSx (α := Nat × Nat) (fun x2 => True) (fun x2 hh => upd hh 1000001 ⟨x2.1, some ⟨4, dl ((attrsT t a).map Attr.c)⟩⟩) (fun x2 ee => [(4, .sl 1000001 x2.1 0 (attrsT t a).length x2.2)]) ?_ (fun x2 hx => ?_)
  ·have hL : (attrsT t a).length ≤ (a + 1) * 1000 := attrsF_len ht (a + 1) a
   have han : a < t.nodes.length := (List.getElem?_eq_some_iff.1 hn).1
   have hnl := ht.nl
   have hlen : (attrsT t p).length + n.attrs.length = (attrsT t a).length := by rw [hT]; simp
   have z1 : ((attrsT t p).length + n.attrs.length) * 56 ≤ 17592186044416 := by omega
   have z2 : (attrsT t p).length + n.attrs.length ≤ 17592186044416 := by omega
   have tk : List.take (attrsT t p).length (List.map Attr.c (attrsT t p)) = List.map Attr.c (attrsT t p) := List.take_of_length_le (by simp)
   have nd : n = ⟨n.name, n.parent, n.abst, n.attrs⟩ := rfl
   refine SQ.of ?_
   by_cases he : n.attrs = []
   ·rw [he, List.append_nil] at hT
    rw [he] at z1 z2
    simp at z1 z2
    have tkd : List.drop (attrsT t p).length (List.map Attr.c (attrsT t p)) = [] := List.drop_eq_nil_of_le (by simp)
    by_cases hcap : (attrsT t p).length ≤ c
    ·simp [hn, hT, he, upd, getBlk, srcOf, z1, z2, tk, hcap, tkd]
    ·simp [hn, hT, he, upd, getBlk, srcOf, z1, z2, tk, hcap]
   ·have zz : ¬ ((attrsT t p).length + n.attrs.length ≤ (attrsT t p).length) := by have := List.length_pos_iff.2 he; omega
    simp [hn, hT, he, upd, getBlk, srcOf, z1, z2, tk, zz, dl_append]
  try simp only [E_cons, E_nil]
  refine .ret ?_
  try simp only [then', inBlk]
  refine ret_m (.inr rfl) (r := .sl 1000001 x2.1 0 (attrsT t a).length x2.2) (by simp) (by simp) ⟨x2.1, x2.2, rfl, OutEq.bothN _ _ fun c hc hne => by
   have h1 : ¬ c < 1000000 := Nat.not_lt.2 hc
   have h2 : c ≠ 2 := by omega
   have h25 : c ≠ 25 := by omega
   simp [upd, outer, hne, h1, h2, h25]⟩
 ·simp at hc1
  have hT : attrsT t a = n.attrs := by rw [attrsT_eq hn hp, if_pos (by omega)]; simp
  refine .skip ?_
  refine hK3 _ ?_
  clear hK3 K3
  refine .seqregSx (α := Nat × Nat) (fun x2 => True) (fun x2 hh => upd (upd hh 25 ⟨(hh 25).ver + 1, none⟩) 1000001 ⟨x2.1, some ⟨4, dl ((attrsT t a).map Attr.c)⟩⟩) (fun x2 ee => [(4, .sl 1000001 x2.1 0 (attrsT t a).length x2.2)]) ?_ (fun x2 hx => ?_)
  ·have hL : (attrsT t a).length ≤ (a + 1) * 1000 := attrsF_len ht (a + 1) a
   have han : a < t.nodes.length := (List.getElem?_eq_some_iff.1 hn).1
   have hnl := ht.nl
   have z1 : n.attrs.length * 56 ≤ 17592186044416 := by rw [hT] at hL; omega
   have z2 : n.attrs.length ≤ 17592186044416 := by omega
   refine SQ.cut 8 fun K1 hK1 => ?_
   simp only [zt]
   refine SQ.of ?_
   simp [hn, upd, getBlk, srcOf, z1, z2]
   refine hK1 _ ?_
   refine SQ.ren 25 1000001 ((h 1000001).ver + 1) (v := (outer h 25).ver + 1) (blk := ⟨4, dl (n.attrs.map Attr.c)⟩) (by decide) (by decide) (by simp [upd]) (by simp [upd, outer]; exact hd) (by simp [upd, outer]) (by simp) ?_
   refine SQ.of ?_
   simp [renE, renA, hT]
   rw [show (upd (outer h) 2 ⟨(outer h 2).ver + 1, none⟩ 25).ver = (outer h 25).ver by simp [upd]]
   exact Dies.refl _
  try simp only [E_cons, E_nil]
  refine .ret ?_
  try simp only [then', inBlk]
  refine ret_m (.inr rfl) (r := .sl 1000001 x2.1 0 (attrsT t a).length x2.2) (by simp) (by simp) ⟨x2.1, x2.2, rfl, OutEq.bothN _ _ fun c hc hne => by
   have h1 : ¬ c < 1000000 := Nat.not_lt.2 hc
   have h2 : c ≠ 2 := by omega
   have h25 : c ≠ 25 := by omega
   simp [upd, outer, hne, h1, h2, h25]⟩
theorem m250 (t : Types) (ht : tOK t) : ∀ (a : Nat) (n : NodeType) (h : Heap), t.nodes[a]? = some n → parOK t (a + 1) → (h 1000001).live = none → ACall Tryz.prog 250 [ag (Types.c t), int a] h (QA t a h) := by
 intro a
 induction a using Nat.strongRecOn with
 | _ a ih => exact fun n h hn hp hd => s250 t ht a n h hn hp hd (fun p m h hpa hm hd => ih p hpa m h hm (fun j hj => hp j (by omega)) hd)
set_option maxHeartbeats 1000000 in
theorem m225 (t : Types) (ht : tOK t) (i : Nat) (n : NodeType) (hn : t.nodes[i]? = some n) (hp : parOK t i) : ACall Tryz.prog 225 [ag (Types.c t), int i] h00 fun r _ => r = int (nodeE t i n) := by
 refine ACall.of b225 (by simp) ?_
 unfold c225
 have hil : i ≤ t.nodes.length := Nat.le_of_lt (List.getElem?_eq_some_iff.1 hn).1
 rw [outer_h00]
 obtain ⟨hnm, hnl, hna⟩ := ht.nn n (List.mem_of_getElem? hn)
 refine .seqk fun K1 hK1 => ?_
 refine .reg ?_
 simp
 refine hK1 _ ?_
 clear hK1 K1
 refine .keep [1, 2] ?_
 simp only [keepE, E_cons, E_nil]
 refine .see (upd _ 2 ⟨_, none⟩) [(1, _), (2, .dptr (Types.c t))] ⟨.refl _, T.box (k := 2) (cs := Types.c t) (by simp [upd]) (by simp [upd]), trivial⟩ (Dies.up (Dies.refl _) (.inr ⟨rfl, Nat.le_refl _⟩)) ?_
 try simp only [E_cons, E_nil]
 refine .seqk fun K2 hK2 => ?_
 refine .reg ?_
 simp [hn]
 refine hK2 _ ?_
 clear hK2 K2
 refine .keep [1, 2, 5] ?_
 simp only [keepE, E_cons, E_nil]
 refine .see (upd _ 5 ⟨_, none⟩) [(1, _), (2, _), (5, .dptr (NodeType.c n))] ⟨.refl _, .refl _, T.box (k := 4) (cs := NodeType.c n) (by simp [upd]) (by simp [upd]), trivial⟩ (Dies.up (Dies.refl _) (.inr ⟨rfl, Nat.le_refl _⟩)) ?_
 try simp only [E_cons, E_nil]
 refine .seqk fun K3 hK3 => ?_
 refine .block ?_
 refine .seqk fun K4 hK4 => ?_
 refine .reg ?_
 refine Sq.cutk 3 fun K5 hK5 => ?_
 simp only [zt]
 simp
 refine PCall.sq (p247 n.name hnm) fun h1 he1 => ?_
 simp only [mergeH_eq he1]
 clear he1 h1
 refine hK5 _ ?_
 clear hK5 K5
 simp
 refine hK4 _ ?_
 clear hK4 K4
 refine .keep [1, 2, 5, 14] ?_
 simp only [keepE, E_cons, E_nil]
 refine .condk _ rfl (fun hc1 => ?_) (fun hc1 => ?_)
 ·simp at hc1
  refine .seqk fun K6 hK6 => ?_
  refine .reg ?_
  simp
  refine hK6 _ ?_
  clear hK6 K6
  refine .keep [4] ?_
  simp only [keepE, E_cons, E_nil]
  refine .ret ?_
  try simp only [then', inBlk]
  refine ret_m (.inr rfl) (r := int 2) (by simp) (by simp) ?_
  simp [nodeE, hc1]
 ·simp at hc1
  refine .seqk fun K7 hK7 => ?_
  refine .reg ?_
  refine Sq.cutk 6 fun K8 hK8 => ?_
  simp only [zt]
  simp [hil]
  refine PCall.sq (.take (p248 (t.nodes.take i) 249 [.dptr (NodeType.c n)] (fun m => m.name.toList == n.name.toList) (fun m _ => p249 m n))) fun h1 he1 => ?_
  simp only [mergeH_eq he1]
  clear he1 h1
  refine hK8 _ ?_
  clear hK8 K8
  simp [hil]
  refine hK7 _ ?_
  clear hK7 K7
  refine .keep [1, 2, 5, 19] ?_
  simp only [keepE, E_cons, E_nil]
  refine .condk _ rfl (fun hc2 => ?_) (fun hc2 => ?_)
  ·skip
   refine .seqk fun K9 hK9 => ?_
   refine .reg ?_
   simp
   refine hK9 _ ?_
   clear hK9 K9
   refine .keep [4] ?_
   simp only [keepE, E_cons, E_nil]
   refine .ret ?_
   try simp only [then', inBlk]
   refine ret_m (.inr rfl) (r := int 5) (by simp) (by simp) ?_
   simp only [nodeE]; simp [hc1, hc2]
  ·skip
   refine .seqreg (fun hh => hh) (fun ee => [(1, ee 1), (2, ee 2), (5, ee 5), (26, bo (decide (n.parent < -1) || decide ((i : Int) ≤ n.parent)))]) ?_ ?_
   ·by_cases h0 : n.parent < -1 <;> by_cases h1 : (i : Int) ≤ n.parent <;> simp [h0, h1, True]
   try simp only [E_cons, E_nil]
   refine .condk _ rfl (fun hc3 => ?_) (fun hc3 => ?_)
   ·simp at hc3
    refine .seqk fun K10 hK10 => ?_
    refine .reg ?_
    simp
    refine hK10 _ ?_
    clear hK10 K10
    refine .keep [4] ?_
    simp only [keepE, E_cons, E_nil]
    refine .ret ?_
    try simp only [then', inBlk]
    refine ret_m (.inr rfl) (r := int 6) (by simp) (by simp) ?_
    simp only [nodeE]; simp [hc1, hc2, hc3]
   ·simp at hc3
    have hp1 : parOK t (i + 1) := fun j hj m hm => by
     by_cases hji : j = i
     ·subst hji; rw [hn] at hm; cases hm; omega
     ·exact hp j (by omega) m hm
    refine .seqk fun K11 hK11 => ?_
    refine .reg ?_
    simp
    refine hK11 _ ?_
    clear hK11 K11
    refine .keep [1, 2, 5, 36] ?_
    simp only [keepE, E_cons, E_nil]
    refine .condk _ rfl (fun hc4 => ?_) (fun hc4 => ?_)
    ·simp at hc4
     refine .seqk fun K12 hK12 => ?_
     refine .reg ?_
     simp
     refine hK12 _ ?_
     clear hK12 K12
     refine .keep [4] ?_
     simp only [keepE, E_cons, E_nil]
     refine .ret ?_
     try simp only [then', inBlk]
     refine ret_m (.inr rfl) (r := int 3) (by simp) (by simp) ?_
     simp only [nodeE]; simp [hc1, hc2, hc3, hc4]; omega
    ·simp at hc4
     refine .skip ?_
     refine hK3 _ ?_
     clear hK3 K3
     refine .seqk fun K13 hK13 => ?_
     refine .reg ?_
     refine Sq.cutk 3 fun K14 hK14 => ?_
     simp only [zt]
     simp
     refine ACall.mono (m250 t ht i n _ hn hp1 (by simp [upd, h00_at])) ?_
     rintro _ h1 ⟨v, c, rfl, he1⟩
     rw [mergeH_upd1 he1 (by decide)]
     clear he1 h1
     refine hK14 _ ?_
     clear hK14 K14
     simp
     refine hK13 _ ?_
     clear hK13 K13
     refine .keep [5, 6] ?_
     simp only [keepE, E_cons, E_nil]
     have hok : ∀ x ∈ attrsT t i, attrOK x := attrsF_ok ht _ _
     have hT := attrsT_eq hn hp1
     have hlT : n.attrs.length ≤ (attrsT t i).length := by rw [hT]; simp
     have hdT : (attrsT t i).drop ((attrsT t i).length - n.attrs.length) = n.attrs := by rw [hT]; simp
     generalize hAL : attrsT t i = al at *
     refine .see (upd _ 1000001 ⟨_, none⟩) [(5, .dptr (NodeType.c n)), (6, sl (al.map Attr.c))] ⟨.refl _, T.rowD (k := 4) (al.map Attr.c) (by simp [upd]) (by simp [upd]) (by simp), trivial⟩ (Dies.up (Dies.refl _) (.inr ⟨rfl, Nat.le_refl _⟩)) ?_
     refine .seqk fun K15 hK15 => ?_
     refine .seqk fun K16 hK16 => ?_
     refine .reg ?_
     simp
     refine hK16 _ ?_
     clear hK16 K16
     refine .keep [5, 6, 46] ?_
     simp only [keepE, E_cons, E_nil]
     refine .condk _ rfl (fun hc5 => ?_) (fun hc5 => ?_)
     ·simp at hc5
      refine .seqk fun K17 hK17 => ?_
      refine .reg ?_
      simp
      refine hK17 _ ?_
      clear hK17 K17
      refine .keep [4] ?_
      simp only [keepE, E_cons, E_nil]
      refine .ret ?_
      try simp only [then', inBlk]
      refine ret_m (.inr rfl) (r := int 3) (by simp) (by simp) ?_
      simp only [nodeE]; simp [hc1, hc2, hc3, hc4, hAL, hc5]; omega
     ·simp at hc5
      have hw : IntKind.i64.wrap ((al.length : Int) - (n.attrs.length : Int)) = ((al.length - n.attrs.length : Nat) : Int) := by rw [wrap64 (by omega) (by omega)]; omega
      refine .skip ?_
      refine hK15 _ ?_
      clear hK15 K15
      refine .seqk fun K18 hK18 => ?_
      refine .seqk fun K19 hK19 => ?_
      refine .reg ?_
      simp [hw]
      refine hK19 _ ?_
      clear hK19 K19
      refine .keep [6, 7] ?_
      simp only [keepE, E_cons, E_nil]
      refine .block ?_
      refine .count (al).length (fun i2 st => (attrsE al i2 (al.drop i2) = attrsE al (al.length - n.attrs.length) n.attrs) ∧ ∃ hh1, True ∧ st = ⟨E [(6, sl (al.map Attr.c)), (7, int i2)], hh1⟩) (al.length - n.attrs.length) (by omega) _ (.cov (by first | (simp; done) | (simp; rfl) | (simp; exact ⟨rfl, rfl⟩)) (.refl _)) ⟨by rw [hdT], _, trivial, rfl⟩ ?_
      rintro i2 s hi1 ⟨hp1L, hh1, hho1, rfl⟩ K20 hK20
      refine .seqk fun K21 hK21 => ?_
      refine .seqk fun K22 hK22 => ?_
      refine .reg ?_
      simp
      refine hK22 _ ?_
      clear hK22 K22
      refine .keep [6, 7, 56] ?_
      simp only [keepE, E_cons, E_nil]
      refine .condk _ rfl (fun hc6 => ?_) (fun hc6 => ?_)
      ·simp at hc6
       obtain ⟨x, hx1⟩ := get_some hc6
       refine .skip ?_
       refine hK21 _ ?_
       clear hK21 K21
       refine .seqk fun K23 hK23 => ?_
       refine .block ?_
       refine .seqk fun K24 hK24 => ?_
       refine .dreg mixed ?_
       refine Dr.cutk 8 fun K25 hK25 => ?_
       simp only [zt]
       simp [-Bool.exists_bool, hx1, hi1]
       refine Dr.pcall (.take2 (p251 x (al.take i2) (hok x (List.mem_of_getElem? hx1)))) ?_
       refine hK25 _ _ ?_
       clear hK25 K25
       try simp [-Bool.exists_bool, hx1, hi1]
       refine hK24 _ ?_
       clear hK24 K24
       refine .keep [6, 7, 8] ?_
       simp only [keepE, E_cons, E_nil]
       refine .seqk fun K26 hK26 => ?_
       refine .reg ?_
       simp
       refine hK26 _ ?_
       clear hK26 K26
       refine .keep [6, 7, 8, 68] ?_
       simp only [keepE, E_cons, E_nil]
       refine .condk _ rfl (fun hc7 => ?_) (fun hc7 => ?_)
       ·simp at hc7
        refine .seqk fun K27 hK27 => ?_
        refine .reg ?_
        simp
        refine hK27 _ ?_
        clear hK27 K27
        refine .keep [4] ?_
        simp only [keepE, E_cons, E_nil]
        refine .ret ?_
        try simp only [then', inBlk]
        refine ret_m (.inr rfl) (r := int (attrE x (al.take i2))) (by simp) (by simp) ?_
        have : nodeE t i n = attrsE al (al.length - n.attrs.length) n.attrs := by simp only [nodeE]; simp [hc1, hc2, hAL]; omega
        rw [this, ← hp1L, drop_cons hx1]; simp [attrsE, hc7]
       ·simp at hc7
        refine .skip ?_
        refine hK23 _ ?_
        clear hK23 K23
        refine .reg ?_
        simp
        refine hK20 _ _ (by omega) (Wk.cov ?_ (.refl _)) ⟨?_, _, ?_, rfl⟩
        ·simp; exact wrap64 (by omega) (by omega)
        ·rw [← hp1L, drop_cons hx1]; simp [attrsE, hc1, hc2, hc3, hc4, hc5, hc7]
        ·trivial
      ·simp at hc6
       have hi1 : i2 = (al).length := by omega
       subst hi1
       refine .exit ?_
       try simp only [then', inBlk, if_true, if_false, reduceIte, Nat.reduceEqDiff]
       refine hK18 _ ?_
       clear hK21 hK20 hK18 K21 K20 K18
       refine .seqk fun K28 hK28 => ?_
       refine .reg ?_
       simp
       refine hK28 _ ?_
       clear hK28 K28
       refine .keep [4] ?_
       simp only [keepE, E_cons, E_nil]
       refine .ret ?_
       try simp only [then', inBlk]
       refine ret_m (.inr rfl) (r := int 0) (by simp) (by simp) ?_
       have : nodeE t i n = attrsE al (al.length - n.attrs.length) n.attrs := by simp only [nodeE]; simp [hc1, hc2, hAL]; omega
       rw [this, ← hp1L]; simp [attrsE]
theorem p225 (t : Types) (ht : tOK t) (i : Nat) (n : NodeType) (hn : t.nodes[i]? = some n) (hp : parOK t i) : PCall Tryz.prog 225 [ag (Types.c t), int i] (int (nodeE t i n)) := PCall.frame rfl rfl (m225 t ht i n hn hp)
theorem p226 (t : Types) (ht : tOK t) (i : Nat) (n : EdgeType) (hn : t.edges[i]? = some n) : PCall Tryz.prog 226 [ag (Types.c t), int i] (int (edgeE t i n)) := by
 intro h
 refine ACall.of b226 (by simp) ?_
 unfold c226
 have hil : i ≤ t.edges.length := Nat.le_of_lt (List.getElem?_eq_some_iff.1 hn).1
 refine .seqk fun K1 hK1 => ?_
 refine .reg ?_
 simp
 refine hK1 _ ?_
 clear hK1 K1
 refine .keep [1, 2] ?_
 simp only [keepE, E_cons, E_nil]
 refine .see (upd _ 2 ⟨_, none⟩) [(1, _), (2, .dptr (Types.c t))] ⟨.refl _, T.box (k := 2) (cs := Types.c t) (by simp [upd]) (by simp [upd]), trivial⟩ (Dies.up (Dies.refl _) (.inr ⟨rfl, Nat.le_refl _⟩)) ?_
 try simp only [E_cons, E_nil]
 refine .seqk fun K2 hK2 => ?_
 refine .reg ?_
 simp [hn]
 refine hK2 _ ?_
 clear hK2 K2
 refine .keep [1, 2, 5] ?_
 simp only [keepE, E_cons, E_nil]
 refine .see (upd _ 5 ⟨_, none⟩) [(1, _), (2, _), (5, .dptr (EdgeType.c n))] ⟨.refl _, .refl _, T.box (k := 7) (cs := EdgeType.c n) (by simp [upd]) (by simp [upd]), trivial⟩ (Dies.up (Dies.refl _) (.inr ⟨rfl, Nat.le_refl _⟩)) ?_
 try simp only [E_cons, E_nil]
 refine .seqk fun K3 hK3 => ?_
 refine .reg ?_
 simp
 refine hK3 _ ?_
 clear hK3 K3
 refine .keep [1, 2, 5, 6] ?_
 simp only [keepE, E_cons, E_nil]
 refine .seqk fun K4 hK4 => ?_
 refine .block ?_
 refine .seqk fun K5 hK5 => ?_
 refine .reg ?_
 refine Sq.cutk 3 fun K6 hK6 => ?_
 simp only [zt]
 simp
 refine PCall.sq (p247 n.name (ht.ee n (List.mem_of_getElem? hn))) fun h1 he1 => ?_
 simp only [mergeH_eq he1]
 clear he1 h1
 refine hK6 _ ?_
 clear hK6 K6
 simp
 refine hK5 _ ?_
 clear hK5 K5
 refine .keep [1, 2, 5, 6, 13] ?_
 simp only [keepE, E_cons, E_nil]
 refine .condk _ rfl (fun hc1 => ?_) (fun hc1 => ?_)
 ·simp at hc1
  refine .seqk fun K7 hK7 => ?_
  refine .reg ?_
  simp
  refine hK7 _ ?_
  clear hK7 K7
  refine .keep [4] ?_
  simp only [keepE, E_cons, E_nil]
  refine .ret ?_
  refine ret_z (.inr rfl) rfl rfl ?_
  simp [edgeE, hc1]
 ·simp at hc1
  refine .seqk fun K8 hK8 => ?_
  refine .reg ?_
  refine Sq.cutk 6 fun K9 hK9 => ?_
  simp only [zt]
  simp [hil]
  refine PCall.sq (.take (p253 (t.edges.take i) 254 [.dptr (EdgeType.c n)] (fun m => m.name.toList == n.name.toList) (fun m _ => p254 m n))) fun h1 he1 => ?_
  simp only [mergeH_eq he1]
  clear he1 h1
  refine hK9 _ ?_
  clear hK9 K9
  simp [hil]
  refine hK8 _ ?_
  clear hK8 K8
  refine .keep [5, 6, 18] ?_
  simp only [keepE, E_cons, E_nil]
  refine .condk _ rfl (fun hc2 => ?_) (fun hc2 => ?_)
  ·skip
   refine .seqk fun K10 hK10 => ?_
   refine .reg ?_
   simp
   refine hK10 _ ?_
   clear hK10 K10
   refine .keep [4] ?_
   simp only [keepE, E_cons, E_nil]
   refine .ret ?_
   refine ret_z (.inr rfl) rfl rfl ?_
   simp only [edgeE]; simp [hc1, hc2]
  ·skip
   refine .seqj (fun hh => hh) (fun ee => [(25, bo (!(inI n.src t.nodes.length && inI n.tgt t.nodes.length && bndI n.ol n.oh && bndI n.il n.ih)))]) (fun K11 hK11 => ?_) ?_
   ·refine .seqreg (fun hh => hh) (fun ee => [(5, ee 5), (25, bo (!(inI n.src t.nodes.length && inI n.tgt t.nodes.length)))]) ?_ ?_
    ·refine Sq.cutk 4 fun K1 hK1 => ?_
     simp only [zt]
     simp
     refine PCall.sq (p252 n.src t) fun _ he => ?_
     simp only [mergeH_eq he]
     refine hK1 _ ?_
     cases h1 : inI n.src t.nodes.length
     ·simp
     ·refine Sq.cutk 6 fun K2 hK2 => ?_
      simp only [zt]
      simp
      refine PCall.sq (p252 n.tgt t) fun _ he => ?_
      simp only [mergeH_eq he]
      refine hK2 _ ?_
      simp
    try simp only [E_cons, E_nil]
    refine .condk _ rfl (fun hc3 => ?_) (fun hc3 => ?_)
    ·simp at hc3
     refine .skip ?_
     refine hK11 _ (Wk.cov ?_ (.refl _))
     first | (rcases hc3 with h | h <;> simp [h]; done) | (simp; done)
    ·simp at hc3
     refine .regv (fun hh => hh) (fun ee => [(25, bo (!(inI n.src t.nodes.length && inI n.tgt t.nodes.length && bndI n.ol n.oh && bndI n.il n.ih)))]) ?_ (fun s hs => ?_)
     ·refine Sq.cutk 5 fun K1 hK1 => ?_
      simp only [zt]
      simp
      refine PCall.sq (p255 n.ol n.oh) fun _ he => ?_
      simp only [mergeH_eq he]
      refine hK1 _ ?_
      cases h1 : bndI n.ol n.oh
      ·simp
      ·refine Sq.cutk 7 fun K2 hK2 => ?_
       simp only [zt]
       simp
       refine PCall.sq (p255 n.il n.ih) fun _ he => ?_
       simp only [mergeH_eq he]
       refine hK2 _ ?_
       simp [hc3]
     refine hK11 _ (hs.trans (Wk.cov ?_ (.refl _)))
     first | (rcases hc3 with h | h <;> simp [h]; done) | (simp; done)
   try simp only [E_cons, E_nil]
   refine .condk _ rfl (fun hc4 => ?_) (fun hc4 => ?_)
   ·skip
    refine .seqk fun K12 hK12 => ?_
    refine .reg ?_
    simp
    refine hK12 _ ?_
    clear hK12 K12
    refine .keep [4] ?_
    simp only [keepE, E_cons, E_nil]
    refine .ret ?_
    refine ret_z (.inr rfl) rfl rfl ?_
    have e : edgeE t i n = 6 := by
     simp only [edgeE]
     rw [if_neg (by simp [hc1]), if_neg (by simp [hc2]), if_pos (bnT hc4)]
    simp [e]
   ·skip
    refine .skip ?_
    refine hK4 _ ?_
    clear hK4 K4
    refine .seqk fun K13 hK13 => ?_
    refine .reg ?_
    simp
    refine hK13 _ ?_
    clear hK13 K13
    refine .keep [4] ?_
    simp only [keepE, E_cons, E_nil]
    refine .ret ?_
    refine ret_z (.inr rfl) rfl rfl ?_
    have e : edgeE t i n = 0 := by
     simp only [edgeE]
     rw [if_neg (by simp [hc1]), if_neg (by simp [hc2]), if_neg (by rw [bnF hc4]; decide)]
    simp [e]
set_option maxHeartbeats 1000000 in
theorem p182 (t : Types) (ht : tOK t) : PCall Tryz.prog 182 [ag (Types.c t)] (.tup [stri (typesV t).1, int (typesV t).2]) := by
 intro h
 refine ACall.of b182 (by simp) ?_
 unfold c182
 have hnl := ht.nl
 have hel := ht.el
 refine .seqk fun K1 hK1 => ?_
 refine .reg ?_
 simp
 refine hK1 _ ?_
 clear hK1 K1
 refine .keep [1] ?_
 simp only [keepE, E_cons, E_nil, reduceIte, Nat.reduceEqDiff]
 refine .see (upd _ 1 ⟨_, none⟩) [(1, .dptr (Types.c t))] ⟨T.box (k := 2) (cs := Types.c t) (by simp [upd]) (by simp [upd]), trivial⟩ (Dies.up (Dies.refl _) (.inr ⟨rfl, Nat.le_refl _⟩)) ?_
 try simp only [E_cons, E_nil, reduceIte, Nat.reduceEqDiff]
 refine .seqk fun K2 hK2 => ?_
 refine .block ?_
 refine .seqk fun K3 hK3 => ?_
 refine .reg ?_
 simp
 refine hK3 _ ?_
 clear hK3 K3
 refine .keep [1, 10] ?_
 simp only [keepE, E_cons, E_nil, reduceIte, Nat.reduceEqDiff]
 refine .condk _ rfl (fun hc1 => ?_) (fun hc1 => ?_)
 ·simp at hc1
  refine .seqk fun K4 hK4 => ?_
  refine .reg ?_
  simp
  refine hK4 _ ?_
  clear hK4 K4
  refine .keep [2, 3] ?_
  simp only [keepE, E_cons, E_nil, reduceIte, Nat.reduceEqDiff]
  refine .ret ?_
  refine ret_z (.inr rfl) rfl rfl ?_
  simp [typesV, hc1, noS]
 ·simp at hc1
  refine .seqreg (fun hh => hh) (fun ee => [(1, ee 1), (15, bo (decide ((12 : Int) < t.nodes.length) || decide ((20 : Int) < t.edges.length)))]) ?_ ?_
  ·by_cases h0 : (12 : Int) < t.nodes.length <;> by_cases h1 : (20 : Int) < t.edges.length <;> simp [h0, h1, True]
  try simp only [E_cons, E_nil, reduceIte, Nat.reduceEqDiff]
  refine .condk _ rfl (fun hc2 => ?_) (fun hc2 => ?_)
  ·simp at hc2
   have hc2' : 12 < t.nodes.length ∨ 20 < t.edges.length := by omega
   refine .seqk fun K5 hK5 => ?_
   refine .reg ?_
   simp
   refine hK5 _ ?_
   clear hK5 K5
   refine .keep [2, 3] ?_
   simp only [keepE, E_cons, E_nil, reduceIte, Nat.reduceEqDiff]
   refine .ret ?_
   refine ret_z (.inr rfl) rfl rfl ?_
   simp only [typesV]; rw [if_neg (by simpa using hc1), if_pos hc2']; rfl
  ·simp at hc2
   have hc2' : ¬ (12 < t.nodes.length ∨ 20 < t.edges.length) := by omega
   have hV : typesV t = if (nodesE t 0 t.nodes).2 ≠ 0 then nodesE t 0 t.nodes else edgesE t 0 t.edges := by simp only [typesV]; rw [if_neg (by simpa using hc1), if_neg hc2']
   refine .skip ?_
   refine hK2 _ ?_
   clear hK2 K2
   refine .seqk fun K6 hK6 => ?_
   refine .seqk fun K7 hK7 => ?_
   refine .reg ?_
   simp
   refine hK7 _ ?_
   clear hK7 K7
   refine .keep [1, 27, 28, 29] ?_
   simp only [keepE, E_cons, E_nil, reduceIte, Nat.reduceEqDiff]
   refine .block ?_
   refine .count (t.nodes).length (fun i st => (nodesE t i (t.nodes.drop i) = nodesE t 0 t.nodes ∧ ∀ j, j < i → ∀ m, t.nodes[j]? = some m → nodeE t j m = 0) ∧ ∃ hh1, OutEq hh1 h ∧ st = ⟨E [(1, .dptr (Types.c t)), (27, sl (t.nodes.map NodeType.c)), (28, int (t.nodes.length : Int)), (29, int i)], hh1⟩) 0 (Nat.zero_le _) _ (.cov (by first | (simp; done) | (simp; rfl) | (simp; exact ⟨rfl, rfl⟩)) (.refl _)) ⟨⟨by simp, fun j hj => absurd hj (by omega)⟩, _, by first | (simp; done) | (simp; assumption) | (simp [*]; done), rfl⟩ ?_
   rintro i s hi1 ⟨⟨hp1, hq1⟩, hh1, hho1, rfl⟩ K8 hK8
   refine .seqk fun K9 hK9 => ?_
   refine .reg ?_
   simp
   refine hK9 _ ?_
   clear hK9 K9
   refine .keep [1, 27, 28, 29, 30] ?_
   simp only [keepE, E_cons, E_nil, reduceIte, Nat.reduceEqDiff]
   refine .seqk fun K10 hK10 => ?_
   refine .condk _ rfl (fun hc3 => ?_) (fun hc3 => ?_)
   ·simp at hc3
    obtain ⟨x, hx1⟩ := get_some hc3
    refine .skip ?_
    refine hK10 _ ?_
    clear hK10 K10
    refine .seqk fun K11 hK11 => ?_
    refine .block ?_
    refine .seqk fun K12 hK12 => ?_
    refine .reg ?_
    simp [hx1]
    refine hK12 _ ?_
    clear hK12 K12
    refine .keep [1, 4, 5, 27, 28, 29] ?_
    simp only [keepE, E_cons, E_nil, reduceIte, Nat.reduceEqDiff]
    refine .see (upd _ 5 ⟨_, none⟩) [(1, _), (4, _), (5, .dptr (NodeType.c x)), (27, _), (28, _), (29, _)] ⟨.refl _, .refl _, T.box (k := 4) (cs := NodeType.c x) (by simp [upd]) (by simp [upd]), .refl _, .refl _, .refl _, trivial⟩ (Dies.up (Dies.refl _) (.inr ⟨rfl, Nat.le_refl _⟩)) ?_
    try simp only [E_cons, E_nil, reduceIte, Nat.reduceEqDiff]
    refine .seqk fun K13 hK13 => ?_
    refine .reg ?_
    refine Sq.cutk 3 fun K14 hK14 => ?_
    simp only [zt]
    simp
    refine PCall.sq (p225 t ht i x hx1 (fun j hj m hm => (nodeE_par (hq1 j hj m hm)).2)) fun h1 he1 => ?_
    simp only [mergeH_eq he1]
    clear he1 h1
    refine hK14 _ ?_
    clear hK14 K14
    simp
    refine hK13 _ ?_
    clear hK13 K13
    refine .keep [1, 5, 6, 27, 28, 29] ?_
    simp only [keepE, E_cons, E_nil, reduceIte, Nat.reduceEqDiff]
    refine .seqk fun K15 hK15 => ?_
    refine .reg ?_
    simp
    refine hK15 _ ?_
    clear hK15 K15
    refine .keep [1, 5, 6, 27, 28, 29, 38] ?_
    simp only [keepE, E_cons, E_nil, reduceIte, Nat.reduceEqDiff]
    refine .condk _ rfl (fun hc4 => ?_) (fun hc4 => ?_)
    ·simp at hc4
     refine .seqk fun K16 hK16 => ?_
     refine .reg ?_
     simp
     refine hK16 _ ?_
     clear hK16 K16
     refine .keep [2, 3] ?_
     simp only [keepE, E_cons, E_nil, reduceIte, Nat.reduceEqDiff]
     refine .ret ?_
     refine ret_z (.inr rfl) rfl rfl ?_
     have e : nodesE t 0 t.nodes = (x.name, nodeE t i x) := by rw [← hp1, drop_cons hx1]; simp [nodesE, hc4]
     simp [hV, e, hc4]
    ·simp at hc4
     refine .skip ?_
     refine hK11 _ ?_
     clear hK11 K11
     refine .reg ?_
     simp
     refine hK8 _ _ (by omega) (Wk.cov ?_ (.refl _)) ⟨?_, _, ?_, rfl⟩
     ·simp; exact wrap64 (by omega) (by omega)
     ·refine ⟨by rw [← hp1, drop_cons hx1]; simp [nodesE, hc1, hc2, hc4], fun j hj m hm => ?_⟩
      by_cases hji : j = i
      ·subst hji; rw [hx1] at hm; cases hm; exact hc4
      ·exact hq1 j (by omega) m hm
     ·first | assumption | (simp; done) | (simp; assumption) | (simp [hho1]; done)
   ·simp at hc3
    have hi1 : i = (t.nodes).length := by omega
    subst hi1
    refine .exit ?_
    try simp only [then', inBlk, if_true, if_false, reduceIte, Nat.reduceEqDiff]
    refine hK6 _ ?_
    clear hK10 hK8 hK6 K10 K8 K6
    refine .seqk fun K17 hK17 => ?_
    refine .seqk fun K18 hK18 => ?_
    refine .reg ?_
    simp
    refine hK18 _ ?_
    clear hK18 K18
    refine .keep [1, 44, 45, 46] ?_
    simp only [keepE, E_cons, E_nil, reduceIte, Nat.reduceEqDiff]
    have hn0 : nodesE t 0 t.nodes = (noS, 0) := by rw [← hp1]; simp [nodesE]
    refine .block ?_
    refine .count (t.edges).length (fun i st => (edgesE t i (t.edges.drop i) = edgesE t 0 t.edges) ∧ ∃ hh2, OutEq hh2 h ∧ st = ⟨E [(1, .dptr (Types.c t)), (44, sl (t.edges.map EdgeType.c)), (45, int (t.edges.length : Int)), (46, int i)], hh2⟩) 0 (Nat.zero_le _) _ (.cov (by first | (simp; done) | (simp; rfl) | (simp; exact ⟨rfl, rfl⟩)) (.refl _)) ⟨by simp, _, by first | (simp; done) | (simp; assumption) | (simp [*]; done), rfl⟩ ?_
    rintro i s hi2 ⟨hp2, hh2, hho2, rfl⟩ K19 hK19
    refine .seqk fun K20 hK20 => ?_
    refine .reg ?_
    simp
    refine hK20 _ ?_
    clear hK20 K20
    refine .keep [1, 44, 45, 46, 47] ?_
    simp only [keepE, E_cons, E_nil, reduceIte, Nat.reduceEqDiff]
    refine .seqk fun K21 hK21 => ?_
    refine .condk _ rfl (fun hc5 => ?_) (fun hc5 => ?_)
    ·simp at hc5
     obtain ⟨x, hx2⟩ := get_some hc5
     refine .skip ?_
     refine hK21 _ ?_
     clear hK21 K21
     refine .seqk fun K22 hK22 => ?_
     refine .block ?_
     refine .seqk fun K23 hK23 => ?_
     refine .reg ?_
     simp [hx2]
     refine hK23 _ ?_
     clear hK23 K23
     refine .keep [1, 7, 8, 44, 45, 46] ?_
     simp only [keepE, E_cons, E_nil, reduceIte, Nat.reduceEqDiff]
     refine .see (upd _ 8 ⟨_, none⟩) [(1, _), (7, _), (8, .dptr (EdgeType.c x)), (44, _), (45, _), (46, _)] ⟨.refl _, .refl _, T.box (k := 7) (cs := EdgeType.c x) (by simp [upd]) (by simp [upd]), .refl _, .refl _, .refl _, trivial⟩ (Dies.up (Dies.refl _) (.inr ⟨rfl, Nat.le_refl _⟩)) ?_
     try simp only [E_cons, E_nil, reduceIte, Nat.reduceEqDiff]
     refine .seqk fun K24 hK24 => ?_
     refine .reg ?_
     refine Sq.cutk 3 fun K25 hK25 => ?_
     simp only [zt]
     simp
     refine PCall.sq (p226 t ht i x hx2) fun h1 he1 => ?_
     simp only [mergeH_eq he1]
     clear he1 h1
     refine hK25 _ ?_
     clear hK25 K25
     simp
     refine hK24 _ ?_
     clear hK24 K24
     refine .keep [1, 8, 9, 44, 45, 46] ?_
     simp only [keepE, E_cons, E_nil, reduceIte, Nat.reduceEqDiff]
     refine .seqk fun K26 hK26 => ?_
     refine .reg ?_
     simp
     refine hK26 _ ?_
     clear hK26 K26
     refine .keep [1, 8, 9, 44, 45, 46, 55] ?_
     simp only [keepE, E_cons, E_nil, reduceIte, Nat.reduceEqDiff]
     refine .condk _ rfl (fun hc6 => ?_) (fun hc6 => ?_)
     ·simp at hc6
      refine .seqk fun K27 hK27 => ?_
      refine .reg ?_
      simp
      refine hK27 _ ?_
      clear hK27 K27
      refine .keep [2, 3] ?_
      simp only [keepE, E_cons, E_nil, reduceIte, Nat.reduceEqDiff]
      refine .ret ?_
      refine ret_z (.inr rfl) rfl rfl ?_
      have e : edgesE t 0 t.edges = (x.name, edgeE t i x) := by rw [← hp2, drop_cons hx2]; simp [edgesE, hc6]
      simp [hV, e, hn0]
     ·simp at hc6
      refine .skip ?_
      refine hK22 _ ?_
      clear hK22 K22
      refine .reg ?_
      simp
      refine hK19 _ _ (by omega) (Wk.cov ?_ (.refl _)) ⟨?_, _, ?_, rfl⟩
      ·simp; exact wrap64 (by omega) (by omega)
      ·rw [← hp2, drop_cons hx2]; simp [edgesE, hc1, hc2, hc6]
      ·first | assumption | (simp; done) | (simp; assumption) | (simp [hho2]; done)
    ·simp at hc5
     have hi2 : i = (t.edges).length := by omega
     subst hi2
     refine .exit ?_
     try simp only [then', inBlk, if_true, if_false, reduceIte, Nat.reduceEqDiff]
     refine hK17 _ ?_
     clear hK21 hK19 hK17 K21 K19 K17
     refine .seqk fun K28 hK28 => ?_
     refine .reg ?_
     simp
     refine hK28 _ ?_
     clear hK28 K28
     refine .keep [2, 3] ?_
     simp only [keepE, E_cons, E_nil, reduceIte, Nat.reduceEqDiff]
     refine .ret ?_
     refine ret_z (.inr rfl) rfl rfl ?_
     have e : edgesE t 0 t.edges = (noS, 0) := by rw [← hp2]; simp [edgesE]
     simp [hV, e, hn0]; rfl
end Go.Abs
set_option linter.unusedVariables false
set_option linter.unusedSimpArgs false
namespace Go.Abs
open Go Go.Proofs
theorem nodesE_ok (t : Types) : ∀ (l : List NodeType) (i : Nat), (nodesE t i l).2 = 0 → ∀ j n, l[j]? = some n → nodeE t (i + j) n = 0
 | [], i, _, j, n, h => by simp at h
 | x :: l, i, h, j, n, hn => by
  simp only [nodesE] at h
  split at h
  ·rename_i h1; exact absurd h h1
  ·rename_i h1
   cases j with
   | zero => simp at hn; subst hn; simpa using h1
   | succ j =>
    have := nodesE_ok t l (i + 1) h j n (by simpa using hn)
    rwa [show i + (j + 1) = i + 1 + j by omega]
theorem edgesE_ok (t : Types) : ∀ (l : List EdgeType) (i : Nat), (edgesE t i l).2 = 0 → ∀ j n, l[j]? = some n → edgeE t (i + j) n = 0
 | [], i, _, j, n, h => by simp at h
 | x :: l, i, h, j, n, hn => by
  simp only [edgesE] at h
  split at h
  ·rename_i h1; exact absurd h h1
  ·rename_i h1
   cases j with
   | zero => simp at hn; subst hn; simpa using h1
   | succ j =>
    have := edgesE_ok t l (i + 1) h j n (by simpa using hn)
    rwa [show i + (j + 1) = i + 1 + j by omega]
structure tV (t : Types) : Prop where
 n1 : 1 ≤ t.nodes.length
 n2 : t.nodes.length ≤ 12
 e2 : t.edges.length ≤ 20
 nd : ∀ (i : Nat) n, t.nodes[i]? = some n → nodeE t i n = 0
 ed : ∀ (i : Nat) e, t.edges[i]? = some e → edgeE t i e = 0
theorem typesV_ok {t : Types} (h : (typesV t).2 = 0) : tV t := by
 unfold typesV at h
 split at h
 ·cases h
 ·split at h
  ·cases h
  ·split at h
   ·rename_i h3; exact absurd h h3
   ·rename_i h1 h2 h3
    have h3' : (nodesE t 0 t.nodes).2 = 0 := by simpa using h3
    exact ⟨by omega, by omega, by omega, fun i n hn => by simpa using nodesE_ok t t.nodes 0 h3' i n hn, fun i n hn => by simpa using edgesE_ok t t.edges 0 h i n hn⟩
theorem tV.par {t : Types} (h : tV t) (i : Nat) : parOK t i := fun j _ m hm => (nodeE_par (h.nd j m hm)).2
theorem tV.par1 {t : Types} (h : tV t) {i : Nat} {n : NodeType} (hn : t.nodes[i]? = some n) : -1 ≤ n.parent ∧ n.parent < i := nodeE_par (h.nd i n hn)
theorem inI_iff {n m : Int} : inI n m = true ↔ 0 ≤ n ∧ n < m := by simp [inI]
theorem inI_not (n m : Int) : inI n m = !(decide (n < 0) || decide (m ≤ n)) := by
 simp only [inI]
 by_cases h0 : n < 0 <;> by_cases h1 : m ≤ n <;> simp [h0, h1] <;> omega
theorem OutEq.eta (h : Heap) (b : Nat) : OutEq (Go.Abs.outer h) (Go.Abs.upd h b (h b)) := fun c hc => by
 have hc2 : ¬ c < 1000000 := Nat.not_lt.2 hc
 by_cases e : c = b
 ·subst e; simp [Go.Abs.upd, Go.Abs.outer, hc2]
 ·simp [Go.Abs.upd, Go.Abs.outer, hc2, e]
theorem dl_set1 (L : List (List D)) (i : Nat) (d : D) : (dl L).set i [.d d] = dl (L.set i [d]) := by
 simp [dl, List.map_set]
theorem edgeE_in {t : Types} {i : Nat} {e : EdgeType} (h : edgeE t i e = 0) : inI e.src t.nodes.length = true ∧ inI e.tgt t.nodes.length = true := by
 unfold edgeE at h
 split at h
 ·cases h
 ·split at h
  ·cases h
  ·split at h
   ·cases h
   ·rename_i h3
    simp only [Bool.not_eq_false, Bool.and_eq_true] at h3
    exact ⟨h3.1.1.1, h3.1.1.2⟩
def chainF (t : Types) : Nat → Int → List Int
 | 0, _ => []
 | f + 1, a => if a < 0 then [] else a :: match t.nodes[a.toNat]? with
  | none => []
  | some n => chainF t f n.parent
/-- A type with its supertypes. -/
def chainT (t : Types) (a : Int) : List Int := chainF t (t.nodes.length + 1) a
theorem chainF_fuel {t : Types} (h : tV t) : ∀ (f g : Nat) (a : Int), a < f → a < g → chainF t f a = chainF t g a
 | 0, 0, a, _, _ => rfl
 | 0, g + 1, a, h, _ => by simp only [chainF]; rw [if_pos (by omega)]
 | f + 1, 0, a, _, h => by simp only [chainF]; rw [if_pos (by omega)]
 | f + 1, g + 1, a, h1, h2 => by
  simp only [chainF]
  split
  ·rfl
  ·rename_i h0
   congr 1
   split
   ·rfl
   ·rename_i n hn
    have := (h.par1 hn).2
    exact chainF_fuel h f g n.parent (by omega) (by omega)
theorem chainF_len (t : Types) : ∀ (f : Nat) (a : Int), (chainF t f a).length ≤ f
 | 0, a => by simp [chainF]
 | f + 1, a => by
  simp only [chainF]
  split
  ·simp
  ·simp only [List.length_cons]
   split
   ·simp
   ·rename_i n _
    have := chainF_len t f n.parent
    omega
theorem chainT_neg {t : Types} {a : Int} (h : a < 0) : chainT t a = [] := by simp [chainT, chainF, h]
theorem chainT_pos {t : Types} (h : tV t) {a : Int} {n : NodeType} (h0 : 0 ≤ a) (hn : t.nodes[a.toNat]? = some n) : chainT t a = a :: chainT t n.parent := by
 have hlt : a.toNat < t.nodes.length := (List.getElem?_eq_some_iff.1 hn).1
 have := (h.par1 hn).2
 unfold chainT
 rw [chainF, if_neg (by omega), hn]
 simp only
 rw [chainF_fuel h t.nodes.length (t.nodes.length + 1) n.parent (by omega) (by omega)]
def below (t : Types) (a b : Int) : Bool := (chainT t a).any (fun x => b == x)
def givenV (t : Types) (l : List Int) : Int := if (typesV t).2 ≠ 0 then (typesV t).2 else if l.any (fun a => !inI a t.nodes.length) then 6 else 0
theorem givenV_ok {t : Types} {l : List Int} (h : givenV t l = 0) : (typesV t).2 = 0 ∧ ∀ a ∈ l, inI a t.nodes.length = true := by
 unfold givenV at h
 split at h
 ·rename_i h1; exact absurd h h1
 ·split at h
  ·cases h
  ·rename_i h1 h2
   refine ⟨by simpa using h1, fun a ha => ?_⟩
   cases hb : inI a t.nodes.length with
   | true => rfl
   | false => exact absurd (List.any_eq_true.2 ⟨a, ha, by simp [hb]⟩) h2
def fitsT (t : Types) (e a b : Int) : Bool := decide (givenV t [a, b] = 0) && inI e t.edges.length && (match t.edges[e.toNat]? with
 | none => false
 | some x => below t a x.src && below t b x.tgt)
def isT (t : Types) (a b : Int) : Bool := decide (givenV t [a, b] = 0) && below t a b
theorem p256 (n : Int) (t : Types) : PCall Tryz.prog 256 [int n, .dptr (Types.c t)] (bo (!inI n t.nodes.length)) := by
 intro h
 refine ACall.of b256 (by simp) ?_
 unfold c256
 refine .seqk fun K1 hK1 => ?_
 refine .reg ?_
 simp
 refine hK1 _ ?_
 clear hK1 K1
 refine .seqreg (fun hh => hh) (fun ee => [(3, bo (!inI n t.nodes.length))]) ?_ ?_
 ·by_cases h0 : n < 0 <;> by_cases h1 : (t.nodes.length : Int) ≤ n <;> simp [h0, h1, inI_not]
 try simp only [E_cons, E_nil]
 refine .ret ?_
 refine ret_z (.inr rfl) rfl rfl ?_
 simp
theorem p227 (t : Types) (ht : tOK t) (l : List Int) : PCall Tryz.prog 227 [ag (Types.c t), sl (l.map I.c)] (int (givenV t l)) := by
 intro h
 refine ACall.of b227 (by simp) ?_
 unfold c227
 refine .seqk fun K1 hK1 => ?_
 refine .reg ?_
 simp
 refine hK1 _ ?_
 clear hK1 K1
 refine .keep [1, 2] ?_
 simp only [keepE, E_cons, E_nil]
 refine .see (upd _ 2 ⟨_, none⟩) [(1, _), (2, .dptr (Types.c t))] ⟨.refl _, T.box (k := 2) (cs := Types.c t) (by simp [upd]) (by simp [upd]), trivial⟩ (Dies.up (Dies.refl _) (.inr ⟨rfl, Nat.le_refl _⟩)) ?_
 try simp only [E_cons, E_nil]
 refine .seqk fun K2 hK2 => ?_
 refine .seqk fun K3 hK3 => ?_
 refine .reg ?_
 refine Sq.cutk 2 fun K4 hK4 => ?_
 simp only [zt]
 simp
 refine PCall.sq (p182 t ht) fun h1 he1 => ?_
 simp only [mergeH_eq he1]
 clear he1 h1
 refine hK4 _ ?_
 clear hK4 K4
 simp
 refine hK3 _ ?_
 clear hK3 K3
 refine .keep [1, 2, 6] ?_
 simp only [keepE, E_cons, E_nil]
 refine .seqk fun K5 hK5 => ?_
 refine .reg ?_
 simp
 refine hK5 _ ?_
 clear hK5 K5
 refine .keep [1, 2, 6, 13] ?_
 simp only [keepE, E_cons, E_nil]
 refine .condk _ rfl (fun hc1 => ?_) (fun hc1 => ?_)
 ·simp at hc1
  refine .seqk fun K6 hK6 => ?_
  refine .reg ?_
  simp
  refine hK6 _ ?_
  clear hK6 K6
  refine .keep [4] ?_
  simp only [keepE, E_cons, E_nil]
  refine .ret ?_
  refine ret_z (.inr rfl) rfl rfl ?_
  simp [givenV, hc1]
 ·simp at hc1
  refine .skip ?_
  refine hK2 _ ?_
  clear hK2 K2
  refine .seqk fun K7 hK7 => ?_
  refine .seqk fun K8 hK8 => ?_
  refine .reg ?_
  simp
  refine PCall.sq (p149 l 256 [.dptr (Types.c t)] (fun a => !inI a t.nodes.length) (fun x _ => p256 x t)) fun h1 he1 => ?_
  simp only [mergeH_eq he1]
  clear he1 h1
  try simp
  refine hK8 _ ?_
  clear hK8 K8
  refine .keep [17] ?_
  simp only [keepE, E_cons, E_nil]
  refine .condk _ rfl (fun hc2 => ?_) (fun hc2 => ?_)
  ·skip
   refine .seqk fun K9 hK9 => ?_
   refine .reg ?_
   simp
   refine hK9 _ ?_
   clear hK9 K9
   refine .keep [4] ?_
   simp only [keepE, E_cons, E_nil]
   refine .ret ?_
   refine ret_z (.inr rfl) rfl rfl ?_
   simp only [givenV]; simp [hc1, hc2]
  ·skip
   refine .skip ?_
   refine hK7 _ ?_
   clear hK7 K7
   refine .seqk fun K10 hK10 => ?_
   refine .reg ?_
   simp
   refine hK10 _ ?_
   clear hK10 K10
   refine .keep [4] ?_
   simp only [keepE, E_cons, E_nil]
   refine .ret ?_
   refine ret_z (.inr rfl) rfl rfl ?_
   simp only [givenV]; simp [hc1, hc2]
theorem m268 (l : List Int) (h : Heap) (v c : Nat) (hl : l.length ≤ 1000000000) (e1 : h 1000001 = ⟨v, some ⟨1, dl (l.map I.c)⟩⟩) : ACall Tryz.prog 268 [.sl 1000001 v 0 l.length c] h fun r h' => OutEq h' (upd h 1000001 ⟨v, some ⟨1, dl (l.reverse.map I.c)⟩⟩) := by
 refine ACall.of b268 (by simp) ?_
 unfold c268
 have e2 : outer h 1000001 = ⟨v, some ⟨1, dl (l.map I.c)⟩⟩ := by simp [outer, e1]
 have hw : IntKind.i64.wrap ((l.length : Int) - 1) = (l.length : Int) - 1 := wrap64 (by omega) (by omega)
 refine .seqk fun K1 hK1 => ?_
 refine .reg ?_
 simp [getBlk, e2, hw]
 refine hK1 _ ?_
 clear hK1 K1
 refine .keep [0, 2, 3] ?_
 simp only [keepE, E_cons, E_nil]
 refine .block ?_
 refine .count (l.length / 2) (fun i st => ∃ m : List Int, (m.length = l.length ∧ ∀ k, k < l.length → m[k]? = if k < i ∨ l.length ≤ k + i then l[l.length - 1 - k]? else l[k]?) ∧ ∃ hh1, OutEq hh1 (upd h 1000001 ⟨v, some ⟨1, dl (m.map I.c)⟩⟩) ∧ st = ⟨E [(0, .sl 1000001 v 0 l.length c), (2, int i), (3, int ((l.length : Int) - 1 - i))], hh1⟩) 0 (Nat.zero_le _) _ (.cov (by first | (simp; done) | (simp; rfl) | (simp; exact ⟨rfl, rfl⟩)) (.refl _)) ⟨l, ⟨rfl, fun k hk => by simp; omega⟩, _, by rw [← e1]; exact OutEq.eta h _, rfl⟩ ?_
 rintro i s hi1 ⟨m, ⟨hml, hmk⟩, hh1, hho1, rfl⟩ K2 hK2
 refine .seqk fun K3 hK3 => ?_
 refine .seqk fun K4 hK4 => ?_
 refine .reg ?_
 simp
 refine hK4 _ ?_
 clear hK4 K4
 refine .keep [0, 2, 3, 9] ?_
 simp only [keepE, E_cons, E_nil]
 refine .condk _ rfl (fun hc1 => ?_) (fun hc1 => ?_)
 ·simp at hc1
  have hi2 : 2 * i + 1 < l.length := by omega
  have e3 : hh1 1000001 = ⟨v, some ⟨1, dl (m.map I.c)⟩⟩ := by rw [hho1 _ (by decide)]; simp [upd]
  obtain ⟨x, hx⟩ := get_some (l := m) (i := i) (by omega)
  obtain ⟨y, hy⟩ := get_some (l := m) (i := l.length - 1 - i) (by omega)
  have hil : i < l.length := by omega
  have hji1 : (i : Int) ≤ (l.length : Int) - 1 := by omega
  have hji2 : (l.length : Int) - 1 - i < l.length := by omega
  have hne : ¬ i = l.length - 1 - i := by omega
  have hj : ((l.length : Int) - 1 - i).toNat = l.length - 1 - i := by omega
  refine .skip ?_
  refine hK3 _ ?_
  clear hK3 K3
  refine .seqk fun K5 hK5 => ?_
  refine .block ?_
  refine .dreg mixed ?_
  simp [getBlk, e3, hx, hy, hj, dl_getE, upd, hil, hji1, hji2, dl_set1, hne, List.getElem?_set]
  refine hK5 _ ?_
  clear hK5 K5
  refine .keep [0, 2, 3] ?_
  simp only [keepE, E_cons, E_nil]
  refine .reg ?_
  simp
  refine hK2 _ _ (by omega) (Wk.cov ?_ (.refl _)) ⟨(m.set i y).set (l.length - 1 - i) x, ?_, _, ?_, rfl⟩
  ·simp; exact ⟨wrap64 (by omega) (by omega), by rw [wrap64 (by omega) (by omega)]; omega⟩
  ·have hxi := hmk i hil
   rw [hx, if_neg (by omega)] at hxi
   have hyi := hmk (l.length - 1 - i) (by omega)
   rw [hy, if_neg (by omega)] at hyi
   refine ⟨by simp [hml], fun k hk => ?_⟩
   rw [List.getElem?_set, List.getElem?_set]
   simp only [List.length_set, hml]
   by_cases h1 : l.length - 1 - i = k
   ·subst h1
    rw [if_pos rfl, if_pos (by omega), if_pos (by omega), hxi]
    congr 1
    omega
   ·rw [if_neg h1]
    by_cases h2 : i = k
    ·subst h2; rw [if_pos rfl, if_pos (by omega), if_pos (by omega), hyi]
    ·rw [if_neg h2, hmk k hk]
     by_cases h3 : k < i ∨ l.length ≤ k + i
     ·rw [if_pos h3, if_pos (by omega)]
     ·rw [if_neg h3, if_neg (by omega)]
  ·simp only [List.map_set, I.c]
   exact OutEq.bothN _ _ fun c hc hne => by rw [hho1 c hc, upd_ne _ _ _ _ hne]
 ·simp at hc1
  have hi1 : i = l.length / 2 := by omega
  subst hi1
  have e3 : m = l.reverse := by
   refine List.ext_getElem? fun k => ?_
   by_cases hk : k < l.length
   ·rw [hmk k hk, List.getElem?_reverse hk]
    split
    ·rfl
    ·rw [show l.length - 1 - k = k by omega]
   ·rw [List.getElem?_eq_none (by omega), List.getElem?_eq_none (by simp; omega)]
  refine .exit ?_
  try simp only [then', inBlk, if_true, if_false, reduceIte, Nat.reduceEqDiff]
  try simp only [then', inBlk]
  refine ret_m (.inl rfl) (r := .tup []) (by simp) (by simp) (by subst e3; exact hho1)
end Go.Abs
set_option linter.unusedVariables false
set_option linter.unusedSimpArgs false
namespace Go.Abs
open Go Go.Proofs
def inB (n a b : Int) : Bool := decide (a ≤ n) && decide (n ≤ b)
theorem inB_inI (n m : Int) : inB n 0 (m - 1) = inI n m := by
 rw [← inR_eq]; rfl
theorem inB_iff {n a b : Int} : inB n a b = true ↔ a ≤ n ∧ n ≤ b := by simp [inB]
theorem nm_comm (a b : ByteArray) : (a.toList == b.toList) = (b.toList == a.toList) := by
 rw [Bool.eq_iff_iff]
 simp only [beq_iff_eq]
 exact eq_comm
theorem any_take_t {α : Type} {l : List α} {p : α → Bool} {k i : Nat} {y : α} (hy : l[k]? = some y) (hk : k < i) (hp : p y = true) : (l.take i).any p = true :=
 List.any_eq_true.2 ⟨y, List.mem_of_getElem? (i := k) (by rw [List.getElem?_take_of_lt hk]; exact hy), hp⟩
theorem any_take_f {α : Type} {l : List α} {p : α → Bool} {i : Nat} (h : ∀ j y, j < i → l[j]? = some y → p y = false) : (l.take i).any p = false := by
 rw [Bool.eq_false_iff]
 intro hc
 obtain ⟨y, hy, hp⟩ := List.any_eq_true.1 hc
 obtain ⟨j, hj⟩ := List.getElem?_of_mem hy
 have hlt : j < i := by
  have := (List.getElem?_eq_some_iff.1 hj).1
  simp at this
  omega
 rw [List.getElem?_take_of_lt hlt] at hj
 rw [h j y hlt hj] at hp
 cases hp
def attrsG (t : Types) (a : Int) : List Attr := if a < 0 then [] else attrsT t a.toNat
theorem attrsG_eq {t : Types} {a : Nat} {n : NodeType} (hn : t.nodes[a]? = some n) (hp : parOK t (a + 1)) : attrsT t a = attrsG t n.parent ++ n.attrs := attrsT_eq hn hp
theorem attrsG_len {t : Types} (ht : tOK t) (a : Int) (h : a ≤ 1000) : (attrsG t a).length ≤ 1001000 := by
 unfold attrsG
 split
 ·simp
 ·have := attrsF_len ht (a.toNat + 1) a.toNat
  have h2 : (attrsT t a.toNat).length ≤ (a.toNat + 1) * 1000 := this
  omega
def attrV (x : Attr) : Int := if namesV x.names ≠ 0 then namesV x.names else if rngA x then 0 else 6
theorem attrE_eq (x : Attr) (b : List Attr) : attrE x b = if wholeI x.name = false then 2 else if b.any (fun y => y.name.toList == x.name.toList) then 5 else attrV x := rfl
theorem namesV_nil : namesV [] = 0 := by simp [namesV, namesE]
theorem p127 (n a b : Int) : PCall Tryz.prog 127 [int n, int a, int b] (bo (inB n a b)) := by
 intro h
 refine ACall.of b127 (by simp) ?_
 unfold c127
 refine .seqk fun K1 hK1 => ?_
 refine .reg ?_
 simp
 refine hK1 _ ?_
 clear hK1 K1
 refine .seqreg (fun hh => hh) (fun ee => [(6, bo (inB n a b))]) ?_ ?_
 ·by_cases h0 : a ≤ n <;> by_cases h1 : n ≤ b <;> simp [h0, h1, inB]
 try simp only [E_cons, E_nil]
 refine .ret ?_
 refine ret_z (.inr rfl) rfl rfl ?_
 simp
theorem n210 (t : Types) (b : Int) (hb : b < 0) : PCall Tryz.prog 210 [ag (Types.c t), int b] (sl ((attrsG t b).map Attr.c)) := by
 intro h
 refine ACall.of b210 (by simp) ?_
 unfold c210
 refine .seqk fun K1 hK1 => ?_
 refine .reg ?_
 simp
 refine hK1 _ ?_
 clear hK1 K1
 refine .keep [1, 2] ?_
 simp only [keepE, E_cons, E_nil]
 refine .see (upd _ 2 ⟨_, none⟩) [(1, _), (2, .dptr (Types.c t))] ⟨.refl _, T.box (k := 2) (cs := Types.c t) (by simp [upd]) (by simp [upd]), trivial⟩ (Dies.up (Dies.refl _) (.inr ⟨rfl, Nat.le_refl _⟩)) ?_
 try simp only [E_cons, E_nil]
 refine .seqk fun K2 hK2 => ?_
 refine .seqk fun K3 hK3 => ?_
 refine .reg ?_
 simp
 refine hK3 _ ?_
 clear hK3 K3
 refine .keep [1, 2, 6] ?_
 simp only [keepE, E_cons, E_nil]
 refine .condk _ rfl (fun hc1 => ?_) (fun hc1 => ?_)
 ·simp at hc1
  refine .seqk fun K4 hK4 => ?_
  refine .reg ?_
  simp
  refine hK4 _ ?_
  clear hK4 K4
  refine .keep [4] ?_
  simp only [keepE, E_cons, E_nil]
  refine .ret ?_
  refine ret_y (.inr rfl) rfl (.d _ _ .nil) rfl ?_
  simp [attrsG, hb]
 ·simp [hb] at hc1
theorem s210 (t : Types) (ht : tOK t) (b : Int) (hb : b < t.nodes.length) (hp : parOK t (b + 1).toNat) (ih : ∀ p : Int, p < b → PCall Tryz.prog 210 [ag (Types.c t), int p] (sl ((attrsG t p).map Attr.c))) : PCall Tryz.prog 210 [ag (Types.c t), int b] (sl ((attrsG t b).map Attr.c)) := by
 intro h
 refine ACall.of b210 (by simp) ?_
 unfold c210
 refine .seqk fun K1 hK1 => ?_
 refine .reg ?_
 simp
 refine hK1 _ ?_
 clear hK1 K1
 refine .keep [1, 2] ?_
 simp only [keepE, E_cons, E_nil]
 refine .see (upd _ 2 ⟨_, none⟩) [(1, _), (2, .dptr (Types.c t))] ⟨.refl _, T.box (k := 2) (cs := Types.c t) (by simp [upd]) (by simp [upd]), trivial⟩ (Dies.up (Dies.refl _) (.inr ⟨rfl, Nat.le_refl _⟩)) ?_
 try simp only [E_cons, E_nil]
 refine .seqk fun K2 hK2 => ?_
 refine .seqk fun K3 hK3 => ?_
 refine .reg ?_
 simp
 refine hK3 _ ?_
 clear hK3 K3
 refine .keep [1, 2, 6] ?_
 simp only [keepE, E_cons, E_nil]
 refine .condk _ rfl (fun hc1 => ?_) (fun hc1 => ?_)
 ·simp at hc1
  refine .seqk fun K4 hK4 => ?_
  refine .reg ?_
  simp
  refine hK4 _ ?_
  clear hK4 K4
  refine .keep [4] ?_
  simp only [keepE, E_cons, E_nil]
  refine .ret ?_
  refine ret_y (.inr rfl) rfl (.d _ _ .nil) rfl ?_
  simp [attrsG, hc1]
 ·simp at hc1
  obtain ⟨a, rfl⟩ : ∃ a : Nat, b = a := ⟨b.toNat, by omega⟩
  have hlt : a < t.nodes.length := by omega
  obtain ⟨n, hn⟩ : ∃ n, t.nodes[a]? = some n := ⟨t.nodes[a], by simp [hlt]⟩
  have hp1 : parOK t (a + 1) := fun j hj => hp j (by omega)
  have hpa := hp1 a (by omega) n hn
  have hT : attrsT t a = attrsG t n.parent ++ n.attrs := attrsG_eq hn hp1
  have hnl := ht.nl
  refine .skip ?_
  refine hK2 _ ?_
  clear hK2 K2
  refine .seqdregx mixed (α := Nat × Nat) (fun x2 => True) (fun x2 hh => upd hh 7 ⟨x2.1, some ⟨4, dl ((attrsT t a).map Attr.c)⟩⟩) (fun x2 ee => [(4, .sl 7 x2.1 0 (attrsT t a).length x2.2)]) ?_ (fun x2 hx => ?_)
  ·have hgl := attrsG_len ht n.parent (by omega)
   have hal := (ht.nn n (List.mem_of_getElem? hn)).2.1
   rw [hT]
   refine Dr.cutk 9 fun K1 hK1 => ?_
   simp only [zt]
   simp [-Bool.exists_bool, hn]
   refine Dr.pcall (ih n.parent (by omega)) ?_
   refine hK1 _ _ ?_
   generalize attrsG t n.parent = P at *
   have z1 : P.length * 56 ≤ 17592186044416 := by omega
   have z2 : P.length ≤ 17592186044416 := by omega
   have z3 : (P.length + n.attrs.length) * 56 ≤ 17592186044416 := by omega
   have z4 : P.length + n.attrs.length ≤ 17592186044416 := by omega
   have z5 : n.attrs.length * 56 ≤ 17592186044416 := by omega
   have z6 : n.attrs.length ≤ 17592186044416 := by omega
   have tk : List.take P.length (List.map Attr.c P) = List.map Attr.c P := List.take_of_length_le (by simp)
   have tkd : List.drop P.length (List.map Attr.c P) = [] := List.drop_eq_nil_of_le (by simp)
   by_cases hP : P = []
   ·subst hP
    by_cases hA : n.attrs = []
    ·simp [-Bool.exists_bool, hn, hA, upd, getBlk, srcOf]
     try exact Dies.refl _
    ·have zz : ¬ (n.attrs.length ≤ 0) := by have := List.length_pos_iff.2 hA; omega
     simp [-Bool.exists_bool, hn, hA, upd, getBlk, srcOf, z5, z6, zz]
     try exact Dies.refl _
   ·have zP : ¬ (P.length ≤ 0) := by have := List.length_pos_iff.2 hP; omega
    by_cases hA : n.attrs = []
    ·simp [-Bool.exists_bool, hn, hA, hP, upd, getBlk, srcOf, z1, z2, zP, tk, tkd]
     try exact Dies.refl _
    ·have zz : ¬ (P.length + n.attrs.length ≤ P.length) := by have := List.length_pos_iff.2 hA; omega
     simp [-Bool.exists_bool, hn, hA, hP, upd, getBlk, srcOf, z1, z2, z3, z4, zP, zz, tk, dl_append]
     try exact Dies.refl _
  try simp only [E_cons, E_nil]
  refine .ret ?_
  refine ret_d (.inr rfl) rfl (T.row (xs := (attrsT t a).map Attr.c) (k := 4) (by decide) (by simp [upd]) (by simp)) rfl (by simp) ?_
  have e : ¬ (a : Int) < 0 := by omega
  simp [attrsG, e]
theorem p210 (t : Types) (ht : tOK t) (b : Int) (hb : b < t.nodes.length) (hp : parOK t (b + 1).toNat) : PCall Tryz.prog 210 [ag (Types.c t), int b] (sl ((attrsG t b).map Attr.c)) := by
 have key : ∀ (k : Nat) (b : Int), b < k → b < t.nodes.length → parOK t (b + 1).toNat → PCall Tryz.prog 210 [ag (Types.c t), int b] (sl ((attrsG t b).map Attr.c)) := by
  intro k
  induction k with
  | zero =>
   intro b hk hb hp
   have base : ∀ b : Int, b < 0 → PCall Tryz.prog 210 [ag (Types.c t), int b] (sl ((attrsG t b).map Attr.c)) := by
    intro b hb0
    exact n210 t b hb0
   exact base b (by omega)
  | succ k ih =>
   intro b hk hb hp
   exact s210 t ht b hb hp fun p hpb => ih p (by omega) (by omega) (fun j hj => hp j (by omega))
 exact key (b + 1).toNat b (by omega) hb hp
theorem p244 (l : List ByteArray) (hn : l.length ≤ 1000) (hl : ∀ s ∈ l, strOK s) : PCall Tryz.prog 244 [sl (l.map S.c)] (int (namesV l)) := by
 intro h
 refine ACall.of b244 (by simp) ?_
 unfold c244
 refine .seqk fun K1 hK1 => ?_
 refine .reg ?_
 simp
 refine hK1 _ ?_
 clear hK1 K1
 refine .seqk fun K2 hK2 => ?_
 refine .seqk fun K3 hK3 => ?_
 refine .reg ?_
 simp
 refine hK3 _ ?_
 clear hK3 K3
 refine .keep [0, 7] ?_
 simp only [keepE, E_cons, E_nil]
 refine .condk _ rfl (fun hc1 => ?_) (fun hc1 => ?_)
 ·simp at hc1
  refine .seqk fun K4 hK4 => ?_
  refine .reg ?_
  simp
  refine hK4 _ ?_
  clear hK4 K4
  refine .ret ?_
  refine ret_z (.inr rfl) rfl rfl ?_
  have e : namesV l = 3 := by rw [namesV, if_pos (by omega)]
  simp [e]
 ·simp at hc1
  refine .skip ?_
  refine hK2 _ ?_
  clear hK2 K2
  refine .seqk fun K5 hK5 => ?_
  refine .seqk fun K6 hK6 => ?_
  refine .reg ?_
  simp
  refine hK6 _ ?_
  clear hK6 K6
  refine .block ?_
  refine .count (l).length (fun i st => (namesE l i (l.drop i) = namesE l 0 l) ∧ ∃ hh1, OutEq hh1 h ∧ st = ⟨E [(0, sl (l.map S.c)), (3, int i)], hh1⟩) 0 (Nat.zero_le _) _ (.cov (by first | (simp; done) | (simp; rfl) | (simp; exact ⟨rfl, rfl⟩)) (.refl _)) ⟨by simp, _, by first | (simp; done) | (simp; assumption) | (simp [*]; done), rfl⟩ ?_
  rintro i s hi1 ⟨hp1, hh1, hho1, rfl⟩ K7 hK7
  refine .seqk fun K8 hK8 => ?_
  refine .seqk fun K9 hK9 => ?_
  refine .reg ?_
  simp
  refine hK9 _ ?_
  clear hK9 K9
  refine .keep [0, 3, 11] ?_
  simp only [keepE, E_cons, E_nil]
  refine .condk _ rfl (fun hc2 => ?_) (fun hc2 => ?_)
  ·simp at hc2
   obtain ⟨x, hx1⟩ := get_some hc2
   refine .skip ?_
   refine hK8 _ ?_
   clear hK8 K8
   refine .seqk fun K10 hK10 => ?_
   refine .block ?_
   refine .seqk fun K11 hK11 => ?_
   refine .seqk fun K12 hK12 => ?_
   refine .reg ?_
   refine Sq.cutk 5 fun K13 hK13 => ?_
   simp only [zt]
   simp [hx1]
   refine PCall.sq (p209 x (hl x (List.mem_of_getElem? hx1))) fun h1 he1 => ?_
   simp only [mergeH_eq he1]
   clear he1 h1
   refine hK13 _ ?_
   clear hK13 K13
   simp [hx1]
   refine hK12 _ ?_
   clear hK12 K12
   refine .keep [0, 3, 19] ?_
   simp only [keepE, E_cons, E_nil]
   refine .condk _ rfl (fun hc3 => ?_) (fun hc3 => ?_)
   ·simp [← wholeI_eq] at hc3
    refine .seqk fun K14 hK14 => ?_
    refine .reg ?_
    simp
    refine hK14 _ ?_
    clear hK14 K14
    refine .ret ?_
    refine ret_z (.inr rfl) rfl rfl ?_
    rw [namesV, if_neg (by omega), ← hp1, drop_cons hx1]; simp [namesE, hc3]
   ·simp [← wholeI_eq] at hc3
    refine .skip ?_
    refine hK11 _ ?_
    clear hK11 K11
    refine .seqk fun K15 hK15 => ?_
    refine .reg ?_
    simp
    refine hK15 _ ?_
    clear hK15 K15
    refine .block ?_
    refine .count i (fun k st => (∀ j y, j < k → l[j]? = some y → (y.toList == x.toList) = false) ∧ ∃ hh2, OutEq hh2 h ∧ st = ⟨E [(0, sl (l.map S.c)), (3, int i), (4, int k)], hh2⟩) 0 (Nat.zero_le _) _ (.cov (by first | (simp; done) | (simp; rfl) | (simp; exact ⟨rfl, rfl⟩)) (.refl _)) ⟨fun j y hj => absurd hj (by omega), _, by first | (simp; done) | (simp; assumption) | (simp [*]; done), rfl⟩ ?_
    rintro k s hi2 ⟨hp2, hh2, hho2, rfl⟩ K16 hK16
    refine .seqk fun K17 hK17 => ?_
    refine .seqk fun K18 hK18 => ?_
    refine .reg ?_
    simp
    refine hK18 _ ?_
    clear hK18 K18
    refine .keep [0, 3, 4, 22] ?_
    simp only [keepE, E_cons, E_nil]
    refine .condk _ rfl (fun hc4 => ?_) (fun hc4 => ?_)
    ·simp at hc4
     obtain ⟨y, hy⟩ := get_some (l := l) (i := k) (by omega)
     refine .skip ?_
     refine hK17 _ ?_
     clear hK17 K17
     refine .seqk fun K19 hK19 => ?_
     refine .block ?_
     refine .seqk fun K20 hK20 => ?_
     refine .dreg mixed ?_
     simp [hx1, hy]
     refine hK20 _ ?_
     clear hK20 K20
     refine .keep [0, 3, 4, 33] ?_
     simp only [keepE, E_cons, E_nil]
     refine .condk _ rfl (fun hc5 => ?_) (fun hc5 => ?_)
     ·skip
      refine .seqk fun K21 hK21 => ?_
      refine .reg ?_
      simp
      refine hK21 _ ?_
      clear hK21 K21
      refine .ret ?_
      refine ret_z (.inr rfl) rfl rfl ?_
      rw [namesV, if_neg (by omega), ← hp1, drop_cons hx1]
      have ha : (l.take i).any (fun y => x.toList == y.toList) = true := any_take_t hy (by omega) (by rw [nm_comm]; simpa using hc5)
      simp [namesE, hc3, ha]
     ·skip
      refine .skip ?_
      refine hK19 _ ?_
      clear hK19 K19
      refine .reg ?_
      simp
      refine hK16 _ _ (by omega) (Wk.cov ?_ (.refl _)) ⟨?_, _, ?_, rfl⟩
      ·simp; exact wrap64 (by omega) (by omega)
      ·intro j y2 hj hy2
       by_cases hjk : j = k
       ·subst hjk; rw [hy] at hy2; cases hy2; simpa using hc5
       ·exact hp2 j y2 (by omega) hy2
      ·first | assumption | (simp; done) | (simp; assumption) | (simp [hho2]; done)
    ·simp at hc4
     have hi2 : k = i := by omega
     refine .exit ?_
     try simp only [then', inBlk, if_true, if_false, reduceIte, Nat.reduceEqDiff]
     refine hK10 _ ?_
     clear hK17 hK16 hK10 K17 K16 K10
     refine .reg ?_
     simp
     refine hK7 _ _ (by omega) (Wk.cov ?_ (.refl _)) ⟨?_, _, ?_, rfl⟩
     ·simp; exact wrap64 (by omega) (by omega)
     ·have ha : (l.take i).any (fun y => x.toList == y.toList) = false := any_take_f (fun j y hj hy => by rw [nm_comm]; exact hp2 j y (by omega) hy)
      rw [← hp1, drop_cons hx1]; simp [namesE, hc3, ha]
     ·first | assumption | (simp; done) | (simp; assumption) | (simp [hho1]; done)
  ·simp at hc2
   have hi1 : i = (l).length := by omega
   subst hi1
   refine .exit ?_
   try simp only [then', inBlk, if_true, if_false, reduceIte, Nat.reduceEqDiff]
   refine hK5 _ ?_
   clear hK8 hK7 hK5 K8 K7 K5
   refine .seqk fun K22 hK22 => ?_
   refine .reg ?_
   simp
   refine hK22 _ ?_
   clear hK22 K22
   refine .ret ?_
   refine ret_z (.inr rfl) rfl rfl ?_
   have : namesE l 0 l = 0 := by rw [← hp1]; simp [namesE]
   simp [namesV, this]; omega
theorem p211 (x : Attr) (hx : attrOK x) : PCall Tryz.prog 211 [ag (Attr.c x)] (int (attrV x)) := by
 intro h
 refine ACall.of b211 (by simp) ?_
 unfold c211
 refine .seqk fun K1 hK1 => ?_
 refine .reg ?_
 simp
 refine hK1 _ ?_
 clear hK1 K1
 refine .keep [1] ?_
 simp only [keepE, E_cons, E_nil]
 refine .see (upd _ 1 ⟨_, none⟩) [(1, .dptr (Attr.c x))] ⟨T.box (k := 4) (cs := Attr.c x) (by simp [upd]) (by simp [upd]), trivial⟩ (Dies.up (Dies.refl _) (.inr ⟨rfl, Nat.le_refl _⟩)) ?_
 try simp only [E_cons, E_nil]
 refine .seqk fun K2 hK2 => ?_
 refine .seqk fun K3 hK3 => ?_
 refine .reg ?_
 simp
 refine hK3 _ ?_
 clear hK3 K3
 refine .keep [1, 7] ?_
 simp only [keepE, E_cons, E_nil]
 refine .condk _ rfl (fun hc1 => ?_) (fun hc1 => ?_)
 ·simp at hc1
  refine .seqk fun K4 hK4 => ?_
  refine .seqreg (fun hh => hh) (fun ee => [(19, bo (!rngA x))]) ?_ ?_
  ·have hr : rngA x = (inB x.low (-1000000) 1000000 && inB x.high x.low 1000000) := by
    simp only [rngA, hc1, inB, List.length_nil]
    by_cases h1 : -1000000 ≤ x.low <;> by_cases h2 : x.low ≤ x.high <;> by_cases h3 : x.high ≤ 1000000 <;> simp [h1, h2, h3] <;> omega
   refine Sq.cutk 3 fun KC1 hKC1 => ?_
   simp only [zt]
   simp [hr, true_and]
   refine PCall.sq (p127 x.low (-1000000) 1000000) fun _ he1 => ?_
   simp only [mergeH_eq he1]
   refine hKC1 _ ?_
   by_cases h1 : inB x.low (-1000000) 1000000 = true
   rotate_left
   ·simp [hr, h1, true_and]
   refine Sq.cutk 7 fun KC2 hKC2 => ?_
   simp only [zt]
   simp [hr, h1, true_and]
   refine PCall.sq (p127 x.high x.low 1000000) fun _ he2 => ?_
   simp only [mergeH_eq he2]
   refine hKC2 _ ?_
   simp [hr, h1, true_and]
  try simp only [E_cons, E_nil]
  refine .condk _ rfl (fun hc2 => ?_) (fun hc2 => ?_)
  ·simp at hc2
   refine .seqk fun K5 hK5 => ?_
   refine .reg ?_
   simp
   refine hK5 _ ?_
   clear hK5 K5
   refine .ret ?_
   refine ret_z (.inr rfl) rfl rfl ?_
   simp [attrV, hc1, namesV_nil, hc2]
  ·simp at hc2
   refine .skip ?_
   refine hK4 _ ?_
   clear hK4 K4
   refine .seqk fun K6 hK6 => ?_
   refine .reg ?_
   simp
   refine hK6 _ ?_
   clear hK6 K6
   refine .ret ?_
   refine ret_z (.inr rfl) rfl rfl ?_
   simp [attrV, hc1, namesV_nil, hc2]
 ·simp at hc1
  have hpos : 0 < x.names.length := List.length_pos_iff.2 (by simpa using hc1)
  have hw : IntKind.i64.wrap ((x.names.length : Int) - 1) = (x.names.length : Int) - 1 := by have := hx.2.1; exact wrap64 (by omega) (by omega)
  refine .skip ?_
  refine hK2 _ ?_
  clear hK2 K2
  refine .seqk fun K7 hK7 => ?_
  refine .seqk fun K8 hK8 => ?_
  refine .reg ?_
  refine Sq.cutk 3 fun K9 hK9 => ?_
  simp only [zt]
  simp
  refine PCall.sq (p244 x.names hx.2.1 hx.2.2) fun h1 he1 => ?_
  simp only [mergeH_eq he1]
  clear he1 h1
  refine hK9 _ ?_
  clear hK9 K9
  simp
  refine hK8 _ ?_
  clear hK8 K8
  refine .keep [1, 3] ?_
  simp only [keepE, E_cons, E_nil]
  refine .seqk fun K10 hK10 => ?_
  refine .reg ?_
  simp
  refine hK10 _ ?_
  clear hK10 K10
  refine .condk _ rfl (fun hc3 => ?_) (fun hc3 => ?_)
  ·simp at hc3
   refine .seqk fun K11 hK11 => ?_
   refine .reg ?_
   simp
   refine hK11 _ ?_
   clear hK11 K11
   refine .ret ?_
   refine ret_z (.inr rfl) rfl rfl ?_
   simp [attrV, hc3]
  ·simp at hc3
   refine .skip ?_
   refine hK7 _ ?_
   clear hK7 K7
   refine .seqk fun K12 hK12 => ?_
   refine .seqreg (fun hh => hh) (fun ee => [(37, bo (!rngA x))]) ?_ ?_
   ·have hr : rngA x = (decide (x.low = 0) && decide (x.high = (x.names.length : Int) - 1)) := by simp [rngA, hpos]
    by_cases h0 : x.low = 0 <;> by_cases h1 : x.high = (x.names.length : Int) - 1 <;> simp [h0, h1, hw, hr]
   try simp only [E_cons, E_nil]
   refine .condk _ rfl (fun hc4 => ?_) (fun hc4 => ?_)
   ·simp at hc4
    refine .seqk fun K13 hK13 => ?_
    refine .reg ?_
    simp
    refine hK13 _ ?_
    clear hK13 K13
    refine .ret ?_
    refine ret_z (.inr rfl) rfl rfl ?_
    simp [attrV, hc3, hc4]
   ·simp at hc4
    refine .skip ?_
    refine hK12 _ ?_
    clear hK12 K12
    refine .seqk fun K14 hK14 => ?_
    refine .reg ?_
    simp
    refine hK14 _ ?_
    clear hK14 K14
    refine .ret ?_
    refine ret_z (.inr rfl) rfl rfl ?_
    simp [attrV, hc3, hc4]
end Go.Abs
set_option linter.unusedVariables false
set_option linter.unusedSimpArgs false
namespace Go.Abs
open Go Go.Proofs
theorem attrsG_nat (t : Types) (i : Nat) : attrsG t i = attrsT t i := by
 have : ¬ (i : Int) < 0 := by omega
 simp [attrsG, this]
set_option maxHeartbeats 2000000 in
theorem p158 (t : Types) (ht : tOK t) (i : Nat) (n : NodeType) (hn : t.nodes[i]? = some n) (hp : parOK t i) : PCall Tryz.prog 158 [ag (Types.c t), int i] (int (nodeE t i n)) := by
 intro h
 refine ACall.of b158 (by simp) ?_
 unfold c158
 obtain ⟨hnm, hnl, hna⟩ := ht.nn n (List.mem_of_getElem? hn)
 have hin : i < t.nodes.length := (List.getElem?_eq_some_iff.1 hn).1
 have htl := ht.nl
 have hw1 : IntKind.i64.wrap ((i : Int) - 1) = (i : Int) - 1 := wrap64 (by omega) (by omega)
 refine .seqk fun K1 hK1 => ?_
 refine .reg ?_
 simp
 refine hK1 _ ?_
 clear hK1 K1
 refine .keep [1, 2] ?_
 simp only [keepE, E_cons, E_nil]
 refine .see (upd _ 2 ⟨_, none⟩) [(1, _), (2, .dptr (Types.c t))] ⟨.refl _, T.box (k := 2) (cs := Types.c t) (by simp [upd]) (by simp [upd]), trivial⟩ (Dies.up (Dies.refl _) (.inr ⟨rfl, Nat.le_refl _⟩)) ?_
 try simp only [E_cons, E_nil]
 refine .seqk fun K2 hK2 => ?_
 refine .reg ?_
 simp [hn]
 refine hK2 _ ?_
 clear hK2 K2
 refine .keep [1, 2, 5] ?_
 simp only [keepE, E_cons, E_nil]
 refine .see (upd _ 5 ⟨_, none⟩) [(1, _), (2, _), (5, .dptr (NodeType.c n))] ⟨.refl _, .refl _, T.box (k := 4) (cs := NodeType.c n) (by simp [upd]) (by simp [upd]), trivial⟩ (Dies.up (Dies.refl _) (.inr ⟨rfl, Nat.le_refl _⟩)) ?_
 try simp only [E_cons, E_nil]
 refine .seqk fun K3 hK3 => ?_
 refine .seqk fun K4 hK4 => ?_
 refine .reg ?_
 refine Sq.cutk 3 fun K5 hK5 => ?_
 simp only [zt]
 simp
 refine PCall.sq (p209 n.name hnm) fun h1 he1 => ?_
 simp only [mergeH_eq he1]
 clear he1 h1
 refine hK5 _ ?_
 clear hK5 K5
 simp
 refine hK4 _ ?_
 clear hK4 K4
 refine .keep [1, 2, 5, 19] ?_
 simp only [keepE, E_cons, E_nil]
 refine .condk _ rfl (fun hc1 => ?_) (fun hc1 => ?_)
 ·simp [← wholeI_eq] at hc1
  refine .seqk fun K6 hK6 => ?_
  refine .reg ?_
  simp
  refine hK6 _ ?_
  clear hK6 K6
  refine .keep [4] ?_
  simp only [keepE, E_cons, E_nil]
  refine .ret ?_
  refine ret_z (.inr rfl) rfl rfl ?_
  simp [nodeE, hc1]
 ·simp [← wholeI_eq] at hc1
  refine .skip ?_
  refine hK3 _ ?_
  clear hK3 K3
  refine .seqk fun K7 hK7 => ?_
  refine .seqk fun K8 hK8 => ?_
  refine .reg ?_
  simp
  refine hK8 _ ?_
  clear hK8 K8
  refine .keep [1, 2, 5, 6] ?_
  simp only [keepE, E_cons, E_nil]
  refine .block ?_
  refine .count i (fun k st => (∀ j y, j < k → t.nodes[j]? = some y → (y.name.toList == n.name.toList) = false) ∧ ∃ hh1, OutEq hh1 h ∧ st = ⟨E [(1, int i), (2, .dptr (Types.c t)), (5, .dptr (NodeType.c n)), (6, int k)], hh1⟩) 0 (Nat.zero_le _) _ (.cov (by first | (simp; done) | (simp; rfl) | (simp; exact ⟨rfl, rfl⟩)) (.refl _)) ⟨fun j y hj => absurd hj (by omega), _, by first | (simp; done) | (simp; assumption) | (simp [*]; done), rfl⟩ ?_
  rintro k s hi1 ⟨hp1, hh1, hho1, rfl⟩ K9 hK9
  refine .seqk fun K10 hK10 => ?_
  refine .seqk fun K11 hK11 => ?_
  refine .reg ?_
  simp
  refine hK11 _ ?_
  clear hK11 K11
  refine .keep [1, 2, 5, 6, 22] ?_
  simp only [keepE, E_cons, E_nil]
  refine .condk _ rfl (fun hc2 => ?_) (fun hc2 => ?_)
  ·simp at hc2
   obtain ⟨y, hy⟩ := get_some (l := t.nodes) (i := k) (by omega)
   refine .skip ?_
   refine hK10 _ ?_
   clear hK10 K10
   refine .seqk fun K12 hK12 => ?_
   refine .block ?_
   refine .seqk fun K13 hK13 => ?_
   refine .dreg mixed ?_
   simp [hy]
   refine hK13 _ ?_
   clear hK13 K13
   refine .keep [1, 2, 5, 6, 33] ?_
   simp only [keepE, E_cons, E_nil]
   refine .condk _ rfl (fun hc3 => ?_) (fun hc3 => ?_)
   ·skip
    refine .seqk fun K14 hK14 => ?_
    refine .reg ?_
    simp
    refine hK14 _ ?_
    clear hK14 K14
    refine .keep [4] ?_
    simp only [keepE, E_cons, E_nil]
    refine .ret ?_
    refine ret_z (.inr rfl) rfl rfl ?_
    have ha : (t.nodes.take i).any (fun m => m.name.toList == n.name.toList) = true := any_take_t hy (by omega) (by simpa using hc3)
    simp only [nodeE]; simp [hc1, ha]
   ·skip
    refine .skip ?_
    refine hK12 _ ?_
    clear hK12 K12
    refine .reg ?_
    simp
    refine hK9 _ _ (by omega) (Wk.cov ?_ (.refl _)) ⟨?_, _, ?_, rfl⟩
    ·simp; exact wrap64 (by omega) (by omega)
    ·intro j y2 hj hy2
     by_cases hjk : j = k
     ·subst hjk; rw [hy] at hy2; cases hy2; simpa using hc3
     ·exact hp1 j y2 (by omega) hy2
    ·first | assumption | (simp; done) | (simp; assumption) | (simp [hho1]; done)
  ·simp at hc2
   have hi1 : k = i := by omega
   have ha : (t.nodes.take i).any (fun m => m.name.toList == n.name.toList) = false := any_take_f (fun j y hj hy => hp1 j y (by omega) hy)
   refine .exit ?_
   try simp only [then', inBlk, if_true, if_false, reduceIte, Nat.reduceEqDiff]
   refine hK7 _ ?_
   clear hK10 hK9 hK7 K10 K9 K7
   refine .seqk fun K15 hK15 => ?_
   refine .seqk fun K16 hK16 => ?_
   refine .reg ?_
   refine Sq.cutk 5 fun K17 hK17 => ?_
   simp only [zt]
   simp [hw1]
   refine PCall.sq (p127 n.parent (-1) ((i : Int) - 1)) fun h1 he1 => ?_
   simp only [mergeH_eq he1]
   clear he1 h1
   refine hK17 _ ?_
   clear hK17 K17
   simp [hw1]
   refine hK16 _ ?_
   clear hK16 K16
   refine .keep [1, 2, 5, 39] ?_
   simp only [keepE, E_cons, E_nil]
   refine .condk _ rfl (fun hc4 => ?_) (fun hc4 => ?_)
   ·simp at hc4
    have hpar : n.parent < -1 ∨ (i : Int) ≤ n.parent := by simp only [inB, Bool.and_eq_false_iff, decide_eq_false_iff_not] at hc4; omega
    refine .seqk fun K18 hK18 => ?_
    refine .reg ?_
    simp
    refine hK18 _ ?_
    clear hK18 K18
    refine .keep [4] ?_
    simp only [keepE, E_cons, E_nil]
    refine .ret ?_
    refine ret_z (.inr rfl) rfl rfl ?_
    simp only [nodeE]; simp only [hc1, ha]; simp [hpar]
   ·simp at hc4
    have hpar : ¬ (n.parent < -1 ∨ (i : Int) ≤ n.parent) := by have := inB_iff.1 hc4; omega
    have hq1 : parOK t (i + 1) := fun j hj m hm => by
     by_cases hji : j = i
     ·subst hji; rw [hn] at hm; cases hm; omega
     ·exact hp j (by omega) m hm
    refine .skip ?_
    refine hK15 _ ?_
    clear hK15 K15
    refine .seqk fun K19 hK19 => ?_
    refine .reg ?_
    refine Sq.cutk 3 fun K20 hK20 => ?_
    simp only [zt]
    simp
    refine PCall.sq (p210 t ht i (by omega) (fun j hj => hq1 j (by omega))) fun h1 he1 => ?_
    simp only [mergeH_eq he1]
    clear he1 h1
    refine hK20 _ ?_
    clear hK20 K20
    simp
    refine hK19 _ ?_
    clear hK19 K19
    refine .keep [5, 7] ?_
    simp only [keepE, E_cons, E_nil]
    have hok : ∀ x ∈ attrsT t i, attrOK x := attrsF_ok ht _ _
    have hT := attrsT_eq hn hq1
    have hlen : (attrsT t i).length ≤ (i + 1) * 1000 := attrsF_len ht _ _
    have hlT : n.attrs.length ≤ (attrsT t i).length := by rw [hT]; simp
    have hdT : (attrsT t i).drop ((attrsT t i).length - n.attrs.length) = n.attrs := by rw [hT]; simp
    simp only [attrsG_nat]
    generalize hTT : attrsT t i = T at *
    refine .seqk fun K21 hK21 => ?_
    refine .seqreg (fun hh => hh) (fun ee => [(5, ee 5), (7, ee 7), (51, bo (decide (4 < n.attrs.length) || decide (8 < T.length)))]) ?_ ?_
    ·by_cases h0 : (4 : Int) < n.attrs.length <;> by_cases h1 : (8 : Int) < T.length <;> simp [h0, h1, True] <;> omega
    try simp only [E_cons, E_nil]
    refine .condk _ rfl (fun hc5 => ?_) (fun hc5 => ?_)
    ·simp at hc5
     refine .seqk fun K22 hK22 => ?_
     refine .reg ?_
     simp
     refine hK22 _ ?_
     clear hK22 K22
     refine .keep [4] ?_
     simp only [keepE, E_cons, E_nil]
     refine .ret ?_
     refine ret_z (.inr rfl) rfl rfl ?_
     simp only [nodeE]; simp [hc1, ha, hpar, hTT]; omega
    ·simp at hc5
     have hw : IntKind.i64.wrap ((T.length : Int) - (n.attrs.length : Int)) = ((T.length - n.attrs.length : Nat) : Int) := by rw [wrap64 (by omega) (by omega)]; omega
     have hV : nodeE t i n = attrsE T (T.length - n.attrs.length) n.attrs := by simp only [nodeE]; simp [hc1, ha, hpar, hTT]; omega
     refine .skip ?_
     refine hK21 _ ?_
     clear hK21 K21
     refine .seqk fun K23 hK23 => ?_
     refine .seqk fun K24 hK24 => ?_
     refine .reg ?_
     simp [hw]
     refine hK24 _ ?_
     clear hK24 K24
     refine .keep [7, 8] ?_
     simp only [keepE, E_cons, E_nil]
     refine .block ?_
     refine .count (T).length (fun q st => (attrsE T q (T.drop q) = attrsE T (T.length - n.attrs.length) n.attrs) ∧ ∃ hh2, OutEq hh2 h ∧ st = ⟨E [(7, sl (T.map Attr.c)), (8, int q)], hh2⟩) (T.length - n.attrs.length) (by omega) _ (.cov (by first | (simp; done) | (simp; rfl) | (simp; exact ⟨rfl, rfl⟩)) (.refl _)) ⟨by rw [hdT], _, by first | (simp; done) | (simp; assumption) | (simp [*]; done), rfl⟩ ?_
     rintro q s hi2 ⟨hp2, hh2, hho2, rfl⟩ K25 hK25
     refine .seqk fun K26 hK26 => ?_
     refine .seqk fun K27 hK27 => ?_
     refine .reg ?_
     simp
     refine hK27 _ ?_
     clear hK27 K27
     refine .keep [7, 8, 61] ?_
     simp only [keepE, E_cons, E_nil]
     refine .condk _ rfl (fun hc6 => ?_) (fun hc6 => ?_)
     ·simp at hc6
      obtain ⟨x, hx2⟩ := get_some hc6
      refine .skip ?_
      refine hK26 _ ?_
      clear hK26 K26
      refine .seqk fun K28 hK28 => ?_
      refine .block ?_
      refine .seqk fun K29 hK29 => ?_
      refine .seqk fun K30 hK30 => ?_
      refine .reg ?_
      refine Sq.cutk 6 fun K31 hK31 => ?_
      simp only [zt]
      simp [hx2]
      refine PCall.sq (p209 x.name (hok x (List.mem_of_getElem? hx2)).1) fun h1 he1 => ?_
      simp only [mergeH_eq he1]
      clear he1 h1
      refine hK31 _ ?_
      clear hK31 K31
      simp [hx2]
      refine hK30 _ ?_
      clear hK30 K30
      refine .keep [7, 8, 70] ?_
      simp only [keepE, E_cons, E_nil]
      refine .condk _ rfl (fun hc7 => ?_) (fun hc7 => ?_)
      ·simp [← wholeI_eq] at hc7
       refine .seqk fun K32 hK32 => ?_
       refine .reg ?_
       simp
       refine hK32 _ ?_
       clear hK32 K32
       refine .keep [4] ?_
       simp only [keepE, E_cons, E_nil]
       refine .ret ?_
       refine ret_z (.inr rfl) rfl rfl ?_
       rw [hV, ← hp2, drop_cons hx2]; simp [attrsE, attrE_eq, hc7]
      ·simp [← wholeI_eq] at hc7
       refine .skip ?_
       refine hK29 _ ?_
       clear hK29 K29
       refine .seqk fun K33 hK33 => ?_
       refine .seqk fun K34 hK34 => ?_
       refine .reg ?_
       simp
       refine hK34 _ ?_
       clear hK34 K34
       refine .keep [7, 8, 9] ?_
       simp only [keepE, E_cons, E_nil]
       refine .block ?_
       refine .count q (fun k st => (∀ j y, j < k → T[j]? = some y → (y.name.toList == x.name.toList) = false) ∧ ∃ hh3, OutEq hh3 h ∧ st = ⟨E [(7, sl (T.map Attr.c)), (8, int q), (9, int k)], hh3⟩) 0 (Nat.zero_le _) _ (.cov (by first | (simp; done) | (simp; rfl) | (simp; exact ⟨rfl, rfl⟩)) (.refl _)) ⟨fun j y hj => absurd hj (by omega), _, by first | (simp; done) | (simp; assumption) | (simp [*]; done), rfl⟩ ?_
       rintro k s hi3 ⟨hp3, hh3, hho3, rfl⟩ K35 hK35
       refine .seqk fun K36 hK36 => ?_
       refine .seqk fun K37 hK37 => ?_
       refine .reg ?_
       simp
       refine hK37 _ ?_
       clear hK37 K37
       refine .keep [7, 8, 9, 73] ?_
       simp only [keepE, E_cons, E_nil]
       refine .condk _ rfl (fun hc8 => ?_) (fun hc8 => ?_)
       ·simp at hc8
        obtain ⟨y, hy⟩ := get_some (l := T) (i := k) (by omega)
        refine .skip ?_
        refine hK36 _ ?_
        clear hK36 K36
        refine .seqk fun K38 hK38 => ?_
        refine .block ?_
        refine .seqk fun K39 hK39 => ?_
        refine .dreg mixed ?_
        simp [hx2, hy]
        refine hK39 _ ?_
        clear hK39 K39
        refine .keep [7, 8, 9, 86] ?_
        simp only [keepE, E_cons, E_nil]
        refine .condk _ rfl (fun hc9 => ?_) (fun hc9 => ?_)
        ·skip
         refine .seqk fun K40 hK40 => ?_
         refine .reg ?_
         simp
         refine hK40 _ ?_
         clear hK40 K40
         refine .keep [4] ?_
         simp only [keepE, E_cons, E_nil]
         refine .ret ?_
         refine ret_z (.inr rfl) rfl rfl ?_
         have hb : (T.take q).any (fun y => y.name.toList == x.name.toList) = true := any_take_t hy (by omega) (by simpa using hc9)
         rw [hV, ← hp2, drop_cons hx2]; simp [attrsE, attrE_eq, hc7, hb]
        ·skip
         refine .skip ?_
         refine hK38 _ ?_
         clear hK38 K38
         refine .reg ?_
         simp
         refine hK35 _ _ (by omega) (Wk.cov ?_ (.refl _)) ⟨?_, _, ?_, rfl⟩
         ·simp; exact wrap64 (by omega) (by omega)
         ·intro j y2 hj hy2
          by_cases hjk : j = k
          ·subst hjk; rw [hy] at hy2; cases hy2; simpa using hc9
          ·exact hp3 j y2 (by omega) hy2
         ·first | assumption | (simp; done) | (simp; assumption) | (simp [hho3]; done)
       ·simp at hc8
        have hi3 : k = q := by omega
        refine .exit ?_
        try simp only [then', inBlk, if_true, if_false, reduceIte, Nat.reduceEqDiff]
        refine hK33 _ ?_
        clear hK36 hK35 hK33 K36 K35 K33
        refine .seqk fun K41 hK41 => ?_
        refine .reg ?_
        refine Sq.cutk 5 fun K42 hK42 => ?_
        simp only [zt]
        simp [hx2]
        refine PCall.sq (p211 x (hok x (List.mem_of_getElem? hx2))) fun h1 he1 => ?_
        simp only [mergeH_eq he1]
        clear he1 h1
        refine hK42 _ ?_
        clear hK42 K42
        simp [hx2]
        refine hK41 _ ?_
        clear hK41 K41
        refine .keep [7, 8, 10] ?_
        simp only [keepE, E_cons, E_nil]
        refine .seqk fun K43 hK43 => ?_
        refine .reg ?_
        simp
        refine hK43 _ ?_
        clear hK43 K43
        refine .keep [7, 8, 10, 93] ?_
        simp only [keepE, E_cons, E_nil]
        refine .condk _ rfl (fun hc10 => ?_) (fun hc10 => ?_)
        ·simp at hc10
         refine .seqk fun K44 hK44 => ?_
         refine .reg ?_
         simp
         refine hK44 _ ?_
         clear hK44 K44
         refine .keep [4] ?_
         simp only [keepE, E_cons, E_nil]
         refine .ret ?_
         refine ret_z (.inr rfl) rfl rfl ?_
         have hb : (T.take q).any (fun y => y.name.toList == x.name.toList) = false := any_take_f (fun j y hj hy => hp3 j y (by omega) hy)
         rw [hV, ← hp2, drop_cons hx2]; simp [attrsE, attrE_eq, hc7, hb, hc10]
        ·simp at hc10
         refine .skip ?_
         refine hK28 _ ?_
         clear hK28 K28
         refine .reg ?_
         simp
         refine hK25 _ _ (by omega) (Wk.cov ?_ (.refl _)) ⟨?_, _, ?_, rfl⟩
         ·simp; exact wrap64 (by omega) (by omega)
         ·have hb : (T.take q).any (fun y => y.name.toList == x.name.toList) = false := any_take_f (fun j y hj hy => hp3 j y (by omega) hy)
          rw [← hp2, drop_cons hx2]; simp [attrsE, attrE_eq, hc7, hb, hc10]
         ·first | assumption | (simp; done) | (simp; assumption) | (simp [hho2]; done)
     ·simp at hc6
      have hi2 : q = (T).length := by omega
      subst hi2
      refine .exit ?_
      try simp only [then', inBlk, if_true, if_false, reduceIte, Nat.reduceEqDiff]
      refine hK23 _ ?_
      clear hK26 hK25 hK23 K26 K25 K23
      refine .seqk fun K45 hK45 => ?_
      refine .reg ?_
      simp
      refine hK45 _ ?_
      clear hK45 K45
      refine .keep [4] ?_
      simp only [keepE, E_cons, E_nil]
      refine .ret ?_
      refine ret_z (.inr rfl) rfl rfl ?_
      rw [hV, ← hp2]; simp [attrsE]
theorem p212 (a b : Int) : PCall Tryz.prog 212 [int a, int b] (bo (bndI a b)) := by
 intro h
 refine ACall.of b212 (by simp) ?_
 unfold c212
 refine .seqk fun K1 hK1 => ?_
 refine .reg ?_
 simp
 refine hK1 _ ?_
 clear hK1 K1
 refine .seqreg (fun hh => hh) (fun ee => [(4, bo (bndI a b))]) ?_ ?_
 ·have e : bndI a b = (inB a 0 40 && (decide (b = -1) || inB b a 40)) := rfl
  rw [e]
  refine Sq.cutk 2 fun KC1 hKC1 => ?_
  simp only [zt]
  simp [true_and]
  refine PCall.sq (p127 a 0 40) fun _ he1 => ?_
  simp only [mergeH_eq he1]
  refine hKC1 _ ?_
  by_cases h1 : inB a 0 40 = true
  rotate_left
  ·simp [h1, true_and]
  by_cases h2 : b = -1
  ·simp [h1, h2, true_and]
  refine Sq.cutk 7 fun KC2 hKC2 => ?_
  simp only [zt]
  simp [h1, h2, true_and]
  refine PCall.sq (p127 b a 40) fun _ he2 => ?_
  simp only [mergeH_eq he2]
  refine hKC2 _ ?_
  simp [h1, h2, true_and]
 try simp only [E_cons, E_nil]
 refine .ret ?_
 refine ret_z (.inr rfl) rfl rfl ?_
 simp
theorem p159 (t : Types) (ht : tOK t) (i : Nat) (n : EdgeType) (hn : t.edges[i]? = some n) : PCall Tryz.prog 159 [ag (Types.c t), int i] (int (edgeE t i n)) := by
 intro h
 refine ACall.of b159 (by simp) ?_
 unfold c159
 have hin : i < t.edges.length := (List.getElem?_eq_some_iff.1 hn).1
 have htl := ht.nl
 have htl2 := ht.el
 have hw1 : IntKind.i64.wrap ((t.nodes.length : Int) - 1) = (t.nodes.length : Int) - 1 := wrap64 (by omega) (by omega)
 refine .seqk fun K1 hK1 => ?_
 refine .reg ?_
 simp
 refine hK1 _ ?_
 clear hK1 K1
 refine .keep [1, 2] ?_
 simp only [keepE, E_cons, E_nil]
 refine .see (upd _ 2 ⟨_, none⟩) [(1, _), (2, .dptr (Types.c t))] ⟨.refl _, T.box (k := 2) (cs := Types.c t) (by simp [upd]) (by simp [upd]), trivial⟩ (Dies.up (Dies.refl _) (.inr ⟨rfl, Nat.le_refl _⟩)) ?_
 try simp only [E_cons, E_nil]
 refine .seqk fun K2 hK2 => ?_
 refine .reg ?_
 simp [hn]
 refine hK2 _ ?_
 clear hK2 K2
 refine .keep [1, 2, 5] ?_
 simp only [keepE, E_cons, E_nil]
 refine .see (upd _ 5 ⟨_, none⟩) [(1, _), (2, _), (5, .dptr (EdgeType.c n))] ⟨.refl _, .refl _, T.box (k := 7) (cs := EdgeType.c n) (by simp [upd]) (by simp [upd]), trivial⟩ (Dies.up (Dies.refl _) (.inr ⟨rfl, Nat.le_refl _⟩)) ?_
 try simp only [E_cons, E_nil]
 refine .seqk fun K3 hK3 => ?_
 refine .seqk fun K4 hK4 => ?_
 refine .reg ?_
 refine Sq.cutk 3 fun K5 hK5 => ?_
 simp only [zt]
 simp
 refine PCall.sq (p209 n.name (ht.ee n (List.mem_of_getElem? hn))) fun h1 he1 => ?_
 simp only [mergeH_eq he1]
 clear he1 h1
 refine hK5 _ ?_
 clear hK5 K5
 simp
 refine hK4 _ ?_
 clear hK4 K4
 refine .keep [1, 2, 5, 16] ?_
 simp only [keepE, E_cons, E_nil]
 refine .condk _ rfl (fun hc1 => ?_) (fun hc1 => ?_)
 ·simp [← wholeI_eq] at hc1
  refine .seqk fun K6 hK6 => ?_
  refine .reg ?_
  simp
  refine hK6 _ ?_
  clear hK6 K6
  refine .keep [4] ?_
  simp only [keepE, E_cons, E_nil]
  refine .ret ?_
  refine ret_z (.inr rfl) rfl rfl ?_
  simp [edgeE, hc1]
 ·simp [← wholeI_eq] at hc1
  refine .skip ?_
  refine hK3 _ ?_
  clear hK3 K3
  refine .seqk fun K7 hK7 => ?_
  refine .seqk fun K8 hK8 => ?_
  refine .reg ?_
  simp
  refine hK8 _ ?_
  clear hK8 K8
  refine .keep [1, 2, 5, 6] ?_
  simp only [keepE, E_cons, E_nil]
  refine .block ?_
  refine .count i (fun k st => (∀ j y, j < k → t.edges[j]? = some y → (y.name.toList == n.name.toList) = false) ∧ ∃ hh1, OutEq hh1 h ∧ st = ⟨E [(1, int i), (2, .dptr (Types.c t)), (5, .dptr (EdgeType.c n)), (6, int k)], hh1⟩) 0 (Nat.zero_le _) _ (.cov (by first | (simp; done) | (simp; rfl) | (simp; exact ⟨rfl, rfl⟩)) (.refl _)) ⟨fun j y hj => absurd hj (by omega), _, by first | (simp; done) | (simp; assumption) | (simp [*]; done), rfl⟩ ?_
  rintro k s hi1 ⟨hp1, hh1, hho1, rfl⟩ K9 hK9
  refine .seqk fun K10 hK10 => ?_
  refine .seqk fun K11 hK11 => ?_
  refine .reg ?_
  simp
  refine hK11 _ ?_
  clear hK11 K11
  refine .keep [1, 2, 5, 6, 19] ?_
  simp only [keepE, E_cons, E_nil]
  refine .condk _ rfl (fun hc2 => ?_) (fun hc2 => ?_)
  ·simp at hc2
   obtain ⟨y, hy⟩ := get_some (l := t.edges) (i := k) (by omega)
   refine .skip ?_
   refine hK10 _ ?_
   clear hK10 K10
   refine .seqk fun K12 hK12 => ?_
   refine .block ?_
   refine .seqk fun K13 hK13 => ?_
   refine .dreg mixed ?_
   simp [hy]
   refine hK13 _ ?_
   clear hK13 K13
   refine .keep [1, 2, 5, 6, 30] ?_
   simp only [keepE, E_cons, E_nil]
   refine .condk _ rfl (fun hc3 => ?_) (fun hc3 => ?_)
   ·skip
    refine .seqk fun K14 hK14 => ?_
    refine .reg ?_
    simp
    refine hK14 _ ?_
    clear hK14 K14
    refine .keep [4] ?_
    simp only [keepE, E_cons, E_nil]
    refine .ret ?_
    refine ret_z (.inr rfl) rfl rfl ?_
    have ha : (t.edges.take i).any (fun m => m.name.toList == n.name.toList) = true := any_take_t hy (by omega) (by simpa using hc3)
    simp only [edgeE]; simp [hc1, ha]
   ·skip
    refine .skip ?_
    refine hK12 _ ?_
    clear hK12 K12
    refine .reg ?_
    simp
    refine hK9 _ _ (by omega) (Wk.cov ?_ (.refl _)) ⟨?_, _, ?_, rfl⟩
    ·simp; exact wrap64 (by omega) (by omega)
    ·intro j y2 hj hy2
     by_cases hjk : j = k
     ·subst hjk; rw [hy] at hy2; cases hy2; simpa using hc3
     ·exact hp1 j y2 (by omega) hy2
    ·first | assumption | (simp; done) | (simp; assumption) | (simp [hho1]; done)
  ·simp at hc2
   have hi1 : k = i := by omega
   have ha : (t.edges.take i).any (fun m => m.name.toList == n.name.toList) = false := any_take_f (fun j y hj hy => hp1 j y (by omega) hy)
   refine .exit ?_
   try simp only [then', inBlk, if_true, if_false, reduceIte, Nat.reduceEqDiff]
   refine hK7 _ ?_
   clear hK10 hK9 hK7 K10 K9 K7
   refine .seqk fun K15 hK15 => ?_
   refine .reg ?_
   simp [hw1]
   refine hK15 _ ?_
   clear hK15 K15
   refine .keep [5, 7] ?_
   simp only [keepE, E_cons, E_nil]
   refine .seqk fun K16 hK16 => ?_
   refine .seqreg (fun hh => hh) (fun ee => [(62, bo (!(inI n.src t.nodes.length && inI n.tgt t.nodes.length && bndI n.ol n.oh && bndI n.il n.ih)))]) ?_ ?_
   ·refine Sq.cutk 4 fun KC1 hKC1 => ?_
    simp only [zt]
    simp [inB_inI, true_and]
    refine PCall.sq (p127 n.src 0 ((t.nodes.length : Int) - 1)) fun _ he1 => ?_
    simp only [mergeH_eq he1]
    refine hKC1 _ ?_
    by_cases h1 : inI n.src t.nodes.length = true
    rotate_left
    ·simp [inB_inI, h1, true_and]
    refine Sq.cutk 6 fun KC2 hKC2 => ?_
    simp only [zt]
    simp [inB_inI, h1, true_and]
    refine PCall.sq (p127 n.tgt 0 ((t.nodes.length : Int) - 1)) fun _ he2 => ?_
    simp only [mergeH_eq he2]
    refine hKC2 _ ?_
    by_cases h2 : inI n.tgt t.nodes.length = true
    rotate_left
    ·simp [inB_inI, h1, h2, true_and]
    refine Sq.cutk 8 fun KC3 hKC3 => ?_
    simp only [zt]
    simp [inB_inI, h1, h2, true_and]
    refine PCall.sq (p212 n.ol n.oh) fun _ he3 => ?_
    simp only [mergeH_eq he3]
    refine hKC3 _ ?_
    by_cases h3 : bndI n.ol n.oh = true
    rotate_left
    ·simp [inB_inI, h1, h2, h3, true_and]
    refine Sq.cutk 8 fun KC4 hKC4 => ?_
    simp only [zt]
    simp [inB_inI, h1, h2, h3, true_and]
    refine PCall.sq (p212 n.il n.ih) fun _ he4 => ?_
    simp only [mergeH_eq he4]
    refine hKC4 _ ?_
    simp [inB_inI, h1, h2, h3, true_and]
   try simp only [E_cons, E_nil]
   refine .condk _ rfl (fun hc4 => ?_) (fun hc4 => ?_)
   ·skip
    refine .seqk fun K17 hK17 => ?_
    refine .reg ?_
    simp
    refine hK17 _ ?_
    clear hK17 K17
    refine .keep [4] ?_
    simp only [keepE, E_cons, E_nil]
    refine .ret ?_
    refine ret_z (.inr rfl) rfl rfl ?_
    have e : edgeE t i n = 6 := by
     simp only [edgeE]
     rw [if_neg (by simp [hc1]), if_neg (by simp [ha]), if_pos (bnT hc4)]
    simp [e]
   ·skip
    refine .skip ?_
    refine hK16 _ ?_
    clear hK16 K16
    refine .seqk fun K18 hK18 => ?_
    refine .reg ?_
    simp
    refine hK18 _ ?_
    clear hK18 K18
    refine .keep [4] ?_
    simp only [keepE, E_cons, E_nil]
    refine .ret ?_
    refine ret_z (.inr rfl) rfl rfl ?_
    have e : edgeE t i n = 0 := by
     simp only [edgeE]
     rw [if_neg (by simp [hc1]), if_neg (by simp [ha]), if_neg (by rw [bnF hc4]; decide)]
    simp [e]
set_option maxHeartbeats 1000000 in
theorem p101 (t : Types) (ht : tOK t) : PCall Tryz.prog 101 [ag (Types.c t)] (.tup [stri (typesV t).1, int (typesV t).2]) := by
 intro h
 refine ACall.of b101 (by simp) ?_
 unfold c101
 have hnl := ht.nl
 have hel := ht.el
 refine .seqk fun K1 hK1 => ?_
 refine .reg ?_
 simp
 refine hK1 _ ?_
 clear hK1 K1
 refine .keep [1] ?_
 simp only [keepE, E_cons, E_nil, reduceIte, Nat.reduceEqDiff]
 refine .see (upd _ 1 ⟨_, none⟩) [(1, .dptr (Types.c t))] ⟨T.box (k := 2) (cs := Types.c t) (by simp [upd]) (by simp [upd]), trivial⟩ (Dies.up (Dies.refl _) (.inr ⟨rfl, Nat.le_refl _⟩)) ?_
 try simp only [E_cons, E_nil, reduceIte, Nat.reduceEqDiff]
 refine .seqk fun K2 hK2 => ?_
 refine .seqk fun K3 hK3 => ?_
 refine .reg ?_
 simp
 refine hK3 _ ?_
 clear hK3 K3
 refine .keep [1, 11] ?_
 simp only [keepE, E_cons, E_nil, reduceIte, Nat.reduceEqDiff]
 refine .condk _ rfl (fun hc1 => ?_) (fun hc1 => ?_)
 ·simp at hc1
  refine .seqk fun K4 hK4 => ?_
  refine .reg ?_
  simp
  refine hK4 _ ?_
  clear hK4 K4
  refine .keep [2, 3] ?_
  simp only [keepE, E_cons, E_nil, reduceIte, Nat.reduceEqDiff]
  refine .ret ?_
  refine ret_z (.inr rfl) rfl rfl ?_
  simp [typesV, hc1, noS]
 ·simp at hc1
  refine .skip ?_
  refine hK2 _ ?_
  clear hK2 K2
  refine .seqk fun K5 hK5 => ?_
  refine .seqreg (fun hh => hh) (fun ee => [(1, ee 1), (21, bo (decide ((12 : Int) < t.nodes.length) || decide ((20 : Int) < t.edges.length)))]) ?_ ?_
  ·by_cases h0 : (12 : Int) < t.nodes.length <;> by_cases h1 : (20 : Int) < t.edges.length <;> simp [h0, h1, True]
  try simp only [E_cons, E_nil, reduceIte, Nat.reduceEqDiff]
  refine .condk _ rfl (fun hc2 => ?_) (fun hc2 => ?_)
  ·simp at hc2
   have hc2' : 12 < t.nodes.length ∨ 20 < t.edges.length := by omega
   refine .seqk fun K6 hK6 => ?_
   refine .reg ?_
   simp
   refine hK6 _ ?_
   clear hK6 K6
   refine .keep [2, 3] ?_
   simp only [keepE, E_cons, E_nil, reduceIte, Nat.reduceEqDiff]
   refine .ret ?_
   refine ret_z (.inr rfl) rfl rfl ?_
   simp only [typesV]; rw [if_neg (by simpa using hc1), if_pos hc2']; rfl
  ·simp at hc2
   have hc2' : ¬ (12 < t.nodes.length ∨ 20 < t.edges.length) := by omega
   have hV : typesV t = if (nodesE t 0 t.nodes).2 ≠ 0 then nodesE t 0 t.nodes else edgesE t 0 t.edges := by simp only [typesV]; rw [if_neg (by simpa using hc1), if_neg hc2']
   refine .skip ?_
   refine hK5 _ ?_
   clear hK5 K5
   refine .seqk fun K7 hK7 => ?_
   refine .seqk fun K8 hK8 => ?_
   refine .reg ?_
   simp
   refine hK8 _ ?_
   clear hK8 K8
   refine .keep [1, 4] ?_
   simp only [keepE, E_cons, E_nil, reduceIte, Nat.reduceEqDiff]
   refine .block ?_
   refine .count (t.nodes).length (fun i st => (nodesE t i (t.nodes.drop i) = nodesE t 0 t.nodes ∧ ∀ j, j < i → ∀ m, t.nodes[j]? = some m → nodeE t j m = 0) ∧ ∃ hh1, OutEq hh1 h ∧ st = ⟨E [(1, .dptr (Types.c t)), (4, int i)], hh1⟩) 0 (Nat.zero_le _) _ (.cov (by first | (simp; done) | (simp; rfl) | (simp; exact ⟨rfl, rfl⟩)) (.refl _)) ⟨⟨by simp, fun j hj => absurd hj (by omega)⟩, _, by first | (simp; done) | (simp; assumption) | (simp [*]; done), rfl⟩ ?_
   rintro i s hi1 ⟨⟨hp1, hq1⟩, hh1, hho1, rfl⟩ K9 hK9
   refine .seqk fun K10 hK10 => ?_
   refine .seqk fun K11 hK11 => ?_
   refine .reg ?_
   simp
   refine hK11 _ ?_
   clear hK11 K11
   refine .keep [1, 4, 26] ?_
   simp only [keepE, E_cons, E_nil, reduceIte, Nat.reduceEqDiff]
   refine .condk _ rfl (fun hc3 => ?_) (fun hc3 => ?_)
   ·simp at hc3
    obtain ⟨x, hx1⟩ := get_some hc3
    refine .skip ?_
    refine hK10 _ ?_
    clear hK10 K10
    refine .seqk fun K12 hK12 => ?_
    refine .block ?_
    refine .seqk fun K13 hK13 => ?_
    refine .reg ?_
    refine Sq.cutk 3 fun K14 hK14 => ?_
    simp only [zt]
    simp [hx1]
    refine PCall.sq (p158 t ht i x hx1 (fun j hj m hm => (nodeE_par (hq1 j hj m hm)).2)) fun h1 he1 => ?_
    simp only [mergeH_eq he1]
    clear he1 h1
    refine hK14 _ ?_
    clear hK14 K14
    simp [hx1]
    refine hK13 _ ?_
    clear hK13 K13
    refine .keep [1, 4, 5] ?_
    simp only [keepE, E_cons, E_nil, reduceIte, Nat.reduceEqDiff]
    refine .seqk fun K15 hK15 => ?_
    refine .reg ?_
    simp
    refine hK15 _ ?_
    clear hK15 K15
    refine .keep [1, 4, 5, 33] ?_
    simp only [keepE, E_cons, E_nil, reduceIte, Nat.reduceEqDiff]
    refine .condk _ rfl (fun hc4 => ?_) (fun hc4 => ?_)
    ·simp at hc4
     refine .seqk fun K16 hK16 => ?_
     refine .reg ?_
     simp [hx1]
     refine hK16 _ ?_
     clear hK16 K16
     refine .keep [2, 3] ?_
     simp only [keepE, E_cons, E_nil, reduceIte, Nat.reduceEqDiff]
     refine .ret ?_
     refine ret_z (.inr rfl) rfl rfl ?_
     have e : nodesE t 0 t.nodes = (x.name, nodeE t i x) := by rw [← hp1, drop_cons hx1]; simp [nodesE, hc4]
     simp [hV, e, hc4]
    ·simp at hc4
     refine .skip ?_
     refine hK12 _ ?_
     clear hK12 K12
     refine .reg ?_
     simp
     refine hK9 _ _ (by omega) (Wk.cov ?_ (.refl _)) ⟨?_, _, ?_, rfl⟩
     ·simp; exact wrap64 (by omega) (by omega)
     ·refine ⟨by rw [← hp1, drop_cons hx1]; simp [nodesE, hc1, hc2, hc4], fun j hj m hm => ?_⟩
      by_cases hji : j = i
      ·subst hji; rw [hx1] at hm; cases hm; exact hc4
      ·exact hq1 j (by omega) m hm
     ·first | assumption | (simp; done) | (simp; assumption) | (simp [hho1]; done)
   ·simp at hc3
    have hi1 : i = (t.nodes).length := by omega
    subst hi1
    have hn0 : nodesE t 0 t.nodes = (noS, 0) := by rw [← hp1]; simp [nodesE]
    refine .exit ?_
    try simp only [then', inBlk, if_true, if_false, reduceIte, Nat.reduceEqDiff]
    refine hK7 _ ?_
    clear hK10 hK9 hK7 K10 K9 K7
    refine .seqk fun K17 hK17 => ?_
    refine .seqk fun K18 hK18 => ?_
    refine .reg ?_
    simp
    refine hK18 _ ?_
    clear hK18 K18
    refine .keep [1, 6] ?_
    simp only [keepE, E_cons, E_nil, reduceIte, Nat.reduceEqDiff]
    refine .block ?_
    refine .count (t.edges).length (fun i st => (edgesE t i (t.edges.drop i) = edgesE t 0 t.edges) ∧ ∃ hh2, OutEq hh2 h ∧ st = ⟨E [(1, .dptr (Types.c t)), (6, int i)], hh2⟩) 0 (Nat.zero_le _) _ (.cov (by first | (simp; done) | (simp; rfl) | (simp; exact ⟨rfl, rfl⟩)) (.refl _)) ⟨by simp, _, by first | (simp; done) | (simp; assumption) | (simp [*]; done), rfl⟩ ?_
    rintro i s hi2 ⟨hp2, hh2, hho2, rfl⟩ K19 hK19
    refine .seqk fun K20 hK20 => ?_
    refine .seqk fun K21 hK21 => ?_
    refine .reg ?_
    simp
    refine hK21 _ ?_
    clear hK21 K21
    refine .keep [1, 6, 45] ?_
    simp only [keepE, E_cons, E_nil, reduceIte, Nat.reduceEqDiff]
    refine .condk _ rfl (fun hc5 => ?_) (fun hc5 => ?_)
    ·simp at hc5
     obtain ⟨x, hx2⟩ := get_some hc5
     refine .skip ?_
     refine hK20 _ ?_
     clear hK20 K20
     refine .seqk fun K22 hK22 => ?_
     refine .block ?_
     refine .seqk fun K23 hK23 => ?_
     refine .reg ?_
     refine Sq.cutk 3 fun K24 hK24 => ?_
     simp only [zt]
     simp
     refine PCall.sq (p159 t ht i x hx2) fun h1 he1 => ?_
     simp only [mergeH_eq he1]
     clear he1 h1
     refine hK24 _ ?_
     clear hK24 K24
     simp
     refine hK23 _ ?_
     clear hK23 K23
     refine .keep [1, 6, 7] ?_
     simp only [keepE, E_cons, E_nil, reduceIte, Nat.reduceEqDiff]
     refine .seqk fun K25 hK25 => ?_
     refine .reg ?_
     simp
     refine hK25 _ ?_
     clear hK25 K25
     refine .keep [1, 6, 7, 52] ?_
     simp only [keepE, E_cons, E_nil, reduceIte, Nat.reduceEqDiff]
     refine .condk _ rfl (fun hc6 => ?_) (fun hc6 => ?_)
     ·simp at hc6
      refine .seqk fun K26 hK26 => ?_
      refine .reg ?_
      simp [hx2]
      refine hK26 _ ?_
      clear hK26 K26
      refine .keep [2, 3] ?_
      simp only [keepE, E_cons, E_nil, reduceIte, Nat.reduceEqDiff]
      refine .ret ?_
      refine ret_z (.inr rfl) rfl rfl ?_
      have e : edgesE t 0 t.edges = (x.name, edgeE t i x) := by rw [← hp2, drop_cons hx2]; simp [edgesE, hc6]
      simp [hV, e, hn0]
     ·simp at hc6
      refine .skip ?_
      refine hK22 _ ?_
      clear hK22 K22
      refine .reg ?_
      simp
      refine hK19 _ _ (by omega) (Wk.cov ?_ (.refl _)) ⟨?_, _, ?_, rfl⟩
      ·simp; exact wrap64 (by omega) (by omega)
      ·rw [← hp2, drop_cons hx2]; simp [edgesE, hc1, hc2, hc6]
      ·first | assumption | (simp; done) | (simp; assumption) | (simp [hho2]; done)
    ·simp at hc5
     have hi2 : i = (t.edges).length := by omega
     subst hi2
     refine .exit ?_
     try simp only [then', inBlk, if_true, if_false, reduceIte, Nat.reduceEqDiff]
     refine hK17 _ ?_
     clear hK20 hK19 hK17 K20 K19 K17
     refine .seqk fun K27 hK27 => ?_
     refine .reg ?_
     simp
     refine hK27 _ ?_
     clear hK27 K27
     refine .keep [2, 3] ?_
     simp only [keepE, E_cons, E_nil, reduceIte, Nat.reduceEqDiff]
     refine .ret ?_
     refine ret_z (.inr rfl) rfl rfl ?_
     have e : edgesE t 0 t.edges = (noS, 0) := by rw [← hp2]; simp [edgesE]
     simp [hV, e, hn0]; rfl
theorem p126 (t : Types) (ht : tOK t) (a b : Int) : PCall Tryz.prog 126 [ag (Types.c t), int a, int b] (int (givenV t [a, b])) := by
 intro h
 refine ACall.of b126 (by simp) ?_
 unfold c126
 have htl := ht.nl
 have htl2 := ht.el
 have hw1 : IntKind.i64.wrap ((t.nodes.length : Int) - 1) = (t.nodes.length : Int) - 1 := wrap64 (by omega) (by omega)
 have hw2 : IntKind.i64.wrap ((t.edges.length : Int) - 1) = (t.edges.length : Int) - 1 := wrap64 (by omega) (by omega)
 refine .seqk fun K1 hK1 => ?_
 refine .reg ?_
 simp
 refine hK1 _ ?_
 clear hK1 K1
 refine .keep [1, 2, 3] ?_
 simp only [keepE, E_cons, E_nil]
 refine .see (upd _ 3 ⟨_, none⟩) [(1, _), (2, _), (3, .dptr (Types.c t))] ⟨.refl _, .refl _, T.box (k := 2) (cs := Types.c t) (by simp [upd]) (by simp [upd]), trivial⟩ (Dies.up (Dies.refl _) (.inr ⟨rfl, Nat.le_refl _⟩)) ?_
 try simp only [E_cons, E_nil]
 refine .seqk fun K2 hK2 => ?_
 refine .seqk fun K3 hK3 => ?_
 refine .reg ?_
 refine Sq.cutk 2 fun K4 hK4 => ?_
 simp only [zt]
 simp
 refine PCall.sq (p101 t ht) fun h1 he1 => ?_
 simp only [mergeH_eq he1]
 clear he1 h1
 refine hK4 _ ?_
 clear hK4 K4
 simp
 refine hK3 _ ?_
 clear hK3 K3
 refine .keep [1, 2, 3, 8] ?_
 simp only [keepE, E_cons, E_nil]
 refine .seqk fun K5 hK5 => ?_
 refine .reg ?_
 simp
 refine hK5 _ ?_
 clear hK5 K5
 refine .keep [1, 2, 3, 8, 15] ?_
 simp only [keepE, E_cons, E_nil]
 refine .condk _ rfl (fun hc1 => ?_) (fun hc1 => ?_)
 ·simp at hc1
  refine .seqk fun K6 hK6 => ?_
  refine .reg ?_
  simp
  refine hK6 _ ?_
  clear hK6 K6
  refine .keep [6] ?_
  simp only [keepE, E_cons, E_nil]
  refine .ret ?_
  refine ret_z (.inr rfl) rfl rfl ?_
  simp [givenV, hc1]
 ·simp at hc1
  refine .skip ?_
  refine hK2 _ ?_
  clear hK2 K2
  refine .seqk fun K7 hK7 => ?_
  refine .seqreg (fun hh => hh) (fun ee => [(32, bo (!(inI a t.nodes.length && inI b t.nodes.length)))]) ?_ ?_
  ·refine Sq.cutk 6 fun KC1 hKC1 => ?_
   simp only [zt]
   simp [inB_inI, hw1, true_and]
   refine PCall.sq (p127 a 0 ((t.nodes.length : Int) - 1)) fun _ he1 => ?_
   simp only [mergeH_eq he1]
   refine hKC1 _ ?_
   by_cases h1 : inI a t.nodes.length = true
   rotate_left
   ·simp [inB_inI, h1, true_and]
   refine Sq.cutk 8 fun KC2 hKC2 => ?_
   simp only [zt]
   simp [inB_inI, h1, hw1, true_and]
   refine PCall.sq (p127 b 0 ((t.nodes.length : Int) - 1)) fun _ he2 => ?_
   simp only [mergeH_eq he2]
   refine hKC2 _ ?_
   simp [inB_inI, h1, true_and]
  try simp only [E_cons, E_nil]
  refine .condk _ rfl (fun hc2 => ?_) (fun hc2 => ?_)
  ·skip
   refine .seqk fun K8 hK8 => ?_
   refine .reg ?_
   simp
   refine hK8 _ ?_
   clear hK8 K8
   refine .keep [6] ?_
   simp only [keepE, E_cons, E_nil]
   refine .ret ?_
   refine ret_z (.inr rfl) rfl rfl ?_
   have e : givenV t [a, b] = 6 := by
    have h3 := bnT hc2
    simp only [givenV]
    rw [if_neg (by simp [hc1])]
    cases h1 : inI a t.nodes.length <;> cases h2 : inI b t.nodes.length <;> simp [h1, h2] at h3 ⊢
   simp [e]
  ·skip
   refine .skip ?_
   refine hK7 _ ?_
   clear hK7 K7
   refine .seqk fun K9 hK9 => ?_
   refine .reg ?_
   simp
   refine hK9 _ ?_
   clear hK9 K9
   refine .keep [6] ?_
   simp only [keepE, E_cons, E_nil]
   refine .ret ?_
   refine ret_z (.inr rfl) rfl rfl ?_
   have e : givenV t [a, b] = 0 := by
    have h3 := bnF hc2
    simp only [givenV]
    rw [if_neg (by simp [hc1])]
    cases h1 : inI a t.nodes.length <;> cases h2 : inI b t.nodes.length <;> simp [h1, h2] at h3 ⊢
   simp [e]
theorem s128 (t : Types) (hv : tV t) (a b : Int) (hb : 0 ≤ b) (ha : a < t.nodes.length) (ih : ∀ p : Int, p < a → PCall Tryz.prog 128 [ag (Types.c t), int p, int b] (bo (below t p b))) : PCall Tryz.prog 128 [ag (Types.c t), int a, int b] (bo (below t a b)) := by
 intro h
 refine ACall.of b128 (by simp) ?_
 unfold c128
 refine .seqk fun K1 hK1 => ?_
 refine .reg ?_
 simp
 refine hK1 _ ?_
 clear hK1 K1
 refine .keep [1, 2, 3] ?_
 simp only [keepE, E_cons, E_nil]
 refine .see (upd _ 3 ⟨_, none⟩) [(1, _), (2, _), (3, .dptr (Types.c t))] ⟨.refl _, .refl _, T.box (k := 2) (cs := Types.c t) (by simp [upd]) (by simp [upd]), trivial⟩ (Dies.up (Dies.refl _) (.inr ⟨rfl, Nat.le_refl _⟩)) ?_
 try simp only [E_cons, E_nil]
 refine .seqdreg mixed (fun hh => hh) (fun ee => [(6, bo (below t a b))]) ?_ ?_
 ·by_cases h0 : 0 ≤ a
  rotate_left
  ·have hbl : below t a b = false := by simp [below, chainT_neg (show a < 0 by omega)]
   have h1 : ¬ a = b := by omega
   simp [-Bool.exists_bool, h0, h1, hbl]
  obtain ⟨n, hn⟩ : ∃ n, t.nodes[a.toNat]? = some n := ⟨t.nodes[a.toNat]'(by omega), by simp⟩
  have hbl : below t a b = (decide (a = b) || below t n.parent b) := by
   unfold below
   rw [chainT_pos hv h0 hn, List.any_cons]
   congr 1
   by_cases h : b = a
   ·subst h; simp
   ·have : ¬ a = b := fun e => h e.symm
    simp [h, this]
  have hpar := (hv.par1 hn).2
  rw [hbl]
  by_cases h1 : a = b
  ·simp [-Bool.exists_bool, h0, hn, h1, true_and]
  refine Dr.cutk 16 fun KC1 hKC1 => ?_
  simp only [zt]
  simp [-Bool.exists_bool, h0, hn, h1, true_and]
  refine Dr.pcall (ih n.parent (by omega)) ?_
  refine hKC1 _ _ ?_
  simp [-Bool.exists_bool, h0, hn, h1, true_and]
 try simp only [E_cons, E_nil]
 refine .ret ?_
 refine ret_z (.inr rfl) rfl rfl ?_
 simp
theorem n128 (t : Types) (a b : Int) (hb : 0 ≤ b) (ha : a < 0) : PCall Tryz.prog 128 [ag (Types.c t), int a, int b] (bo (below t a b)) := by
 intro h
 refine ACall.of b128 (by simp) ?_
 unfold c128
 refine .seqk fun K1 hK1 => ?_
 refine .reg ?_
 simp
 refine hK1 _ ?_
 clear hK1 K1
 refine .keep [1, 2, 3] ?_
 simp only [keepE, E_cons, E_nil]
 refine .see (upd _ 3 ⟨_, none⟩) [(1, _), (2, _), (3, .dptr (Types.c t))] ⟨.refl _, .refl _, T.box (k := 2) (cs := Types.c t) (by simp [upd]) (by simp [upd]), trivial⟩ (Dies.up (Dies.refl _) (.inr ⟨rfl, Nat.le_refl _⟩)) ?_
 try simp only [E_cons, E_nil]
 refine .seqdreg mixed (fun hh => hh) (fun ee => [(6, bo (below t a b))]) ?_ ?_
 ·have hbl : below t a b = false := by simp [below, chainT_neg ha]
  have h1 : ¬ a = b := by omega
  have h0 : ¬ 0 ≤ a := by omega
  simp [-Bool.exists_bool, h0, h1, hbl]
 try simp only [E_cons, E_nil]
 refine .ret ?_
 refine ret_z (.inr rfl) rfl rfl ?_
 simp
theorem p128 (t : Types) (hv : tV t) (b : Int) (hb : 0 ≤ b) (a : Int) (ha : a < t.nodes.length) : PCall Tryz.prog 128 [ag (Types.c t), int a, int b] (bo (below t a b)) := by
 have key : ∀ (k : Nat) (a : Int), a < k → a < t.nodes.length → PCall Tryz.prog 128 [ag (Types.c t), int a, int b] (bo (below t a b)) := by
  intro k
  induction k with
  | zero =>
   intro a hk ha
   exact n128 t a b hb (by omega)
  | succ k ih => exact fun a hk ha => s128 t hv a b hb ha fun p hpa => ih p (by omega) (by omega)
 exact key (a + 1).toNat a (by omega) ha
theorem p79 (t : Types) (ht : tOK t) (e a b : Int) : PCall Tryz.prog 79 [ag (Types.c t), int e, int a, int b] (bo (fitsT t e a b)) := by
 intro h
 refine ACall.of b79 (by simp) ?_
 unfold c79
 have htl := ht.nl
 have htl2 := ht.el
 have hw1 : IntKind.i64.wrap ((t.nodes.length : Int) - 1) = (t.nodes.length : Int) - 1 := wrap64 (by omega) (by omega)
 have hw2 : IntKind.i64.wrap ((t.edges.length : Int) - 1) = (t.edges.length : Int) - 1 := wrap64 (by omega) (by omega)
 refine .seqk fun K1 hK1 => ?_
 refine .reg ?_
 simp
 refine hK1 _ ?_
 clear hK1 K1
 refine .keep [1, 2, 3, 4] ?_
 simp only [keepE, E_cons, E_nil]
 refine .see (upd _ 4 ⟨_, none⟩) [(1, _), (2, _), (3, _), (4, .dptr (Types.c t))] ⟨.refl _, .refl _, .refl _, T.box (k := 2) (cs := Types.c t) (by simp [upd]) (by simp [upd]), trivial⟩ (Dies.up (Dies.refl _) (.inr ⟨rfl, Nat.le_refl _⟩)) ?_
 try simp only [E_cons, E_nil]
 refine .seqk fun K2 hK2 => ?_
 refine .seqreg (fun hh => hh) (fun ee => [(1, ee 1), (2, ee 2), (3, ee 3), (4, ee 4), (22, bo (!(decide (givenV t [a, b] = 0) && inI e t.edges.length)))]) ?_ ?_
 ·refine Sq.cutk 4 fun KC1 hKC1 => ?_
  simp only [zt]
  simp [inB_inI, true_and]
  refine PCall.sq (p126 t ht a b) fun _ he1 => ?_
  simp only [mergeH_eq he1]
  refine hKC1 _ ?_
  by_cases h1 : givenV t [a, b] = 0
  rotate_left
  ·simp [inB_inI, h1, true_and]
  refine Sq.cutk 8 fun KC2 hKC2 => ?_
  simp only [zt]
  simp [inB_inI, h1, hw2, true_and]
  refine PCall.sq (p127 e 0 ((t.edges.length : Int) - 1)) fun _ he2 => ?_
  simp only [mergeH_eq he2]
  refine hKC2 _ ?_
  simp [inB_inI, h1, true_and]
 try simp only [E_cons, E_nil]
 refine .condk _ rfl (fun hc1 => ?_) (fun hc1 => ?_)
 ·skip
  refine .seqk fun K3 hK3 => ?_
  refine .reg ?_
  simp
  refine hK3 _ ?_
  clear hK3 K3
  refine .keep [8] ?_
  simp only [keepE, E_cons, E_nil]
  refine .ret ?_
  refine ret_z (.inr rfl) rfl rfl ?_
  simp [fitsT]; intro h; simp [h] at hc1; simp [hc1]
 ·simp at hc1
  obtain ⟨hg1, hg2⟩ := hc1
  obtain ⟨htv, hgab⟩ := givenV_ok hg1
  have hv := typesV_ok htv
  have ha0 := inI_iff.1 (hgab a (by simp))
  have hb0 := inI_iff.1 (hgab b (by simp))
  have he0 := inI_iff.1 hg2
  obtain ⟨x, hx⟩ : ∃ x, t.edges[e.toNat]? = some x := ⟨t.edges[e.toNat]'(by omega), by simp⟩
  obtain ⟨hs1, hs2⟩ := edgeE_in (hv.ed e.toNat x hx)
  have hs1 := inI_iff.1 hs1
  have hs2 := inI_iff.1 hs2
  have hf : fitsT t e a b = (below t a x.src && below t b x.tgt) := by simp [fitsT, hg1, hg2, hx]
  refine .skip ?_
  refine hK2 _ ?_
  clear hK2 K2
  refine .seqdreg mixed (fun hh => hh) (fun ee => [(8, bo (fitsT t e a b))]) ?_ ?_
  ·rw [hf]
   refine Dr.cutk 9 fun KC1 hKC1 => ?_
   simp only [zt]
   simp [-Bool.exists_bool, hx, he0.1, true_and]
   refine Dr.pcall (p128 t hv x.src hs1.1 a ha0.2) ?_
   refine hKC1 _ _ ?_
   by_cases h1 : below t a x.src = true
   rotate_left
   ·simp [-Bool.exists_bool, hx, he0.1, h1, true_and]
   refine Dr.cutk 10 fun KC2 hKC2 => ?_
   simp only [zt]
   simp [-Bool.exists_bool, hx, he0.1, h1, true_and]
   refine Dr.pcall (p128 t hv x.tgt hs2.1 b hb0.2) ?_
   refine hKC2 _ _ ?_
   simp [-Bool.exists_bool, hx, he0.1, h1, true_and]
  try simp only [E_cons, E_nil]
  refine .ret ?_
  refine ret_z (.inr rfl) rfl rfl ?_
  simp
theorem p245 (t : Types) (ht : tOK t) (a b : Int) : PCall Tryz.prog 245 [ag (Types.c t), int a, int b] (bo (isT t a b)) := by
 intro h
 refine ACall.of b245 (by simp) ?_
 unfold c245
 refine .seqk fun K1 hK1 => ?_
 refine .reg ?_
 simp
 refine hK1 _ ?_
 clear hK1 K1
 refine .keep [1, 2, 3] ?_
 simp only [keepE, E_cons, E_nil]
 refine .see (upd _ 3 ⟨_, none⟩) [(1, _), (2, _), (3, .dptr (Types.c t))] ⟨.refl _, .refl _, T.box (k := 2) (cs := Types.c t) (by simp [upd]) (by simp [upd]), trivial⟩ (Dies.up (Dies.refl _) (.inr ⟨rfl, Nat.le_refl _⟩)) ?_
 try simp only [E_cons, E_nil]
 refine .seqreg (fun hh => hh) (fun ee => [(6, bo (isT t a b))]) ?_ ?_
 ·refine Sq.cutk 4 fun KC1 hKC1 => ?_
  simp only [zt]
  simp [isT, true_and]
  refine PCall.sq (p126 t ht a b) fun _ he1 => ?_
  simp only [mergeH_eq he1]
  refine hKC1 _ ?_
  by_cases h1 : givenV t [a, b] = 0
  rotate_left
  ·simp [isT, h1, true_and]
  obtain ⟨htv, hgab⟩ := givenV_ok h1
  have hv := typesV_ok htv
  have ha0 := inI_iff.1 (hgab a (by simp))
  have hb0 := inI_iff.1 (hgab b (by simp))
  refine Sq.cutk 6 fun KC2 hKC2 => ?_
  simp only [zt]
  simp [isT, h1, true_and]
  refine PCall.sq (p128 t hv b hb0.1 a ha0.2) fun _ he2 => ?_
  simp only [mergeH_eq he2]
  refine hKC2 _ ?_
  simp [isT, h1, true_and]
 try simp only [E_cons, E_nil]
 refine .ret ?_
 refine ret_z (.inr rfl) rfl rfl ?_
 simp
end Go.Abs
set_option linter.unusedVariables false
set_option linter.unusedSimpArgs false
namespace Go.Abs
open Go Go.Proofs
theorem dl_cons (x : List D) (l : List (List D)) : dl (x :: l) = x.map .d :: dl l := rfl
theorem m257 (t : Types) (hv : tV t) (a : Int) (ha : a < t.nodes.length) : ACall Tryz.prog 257 [ag (Types.c t), int a] h00 fun r _ => r = sl ((chainT t a).reverse.map I.c) := by
 refine ACall.of b257 (by simp) ?_
 unfold c257
 rw [outer_h00]
 have hn2 := hv.n2
 have hlen : (chainT t a).length ≤ t.nodes.length + 1 := chainF_len t _ a
 refine .seqk fun K1 hK1 => ?_
 refine .reg ?_
 simp
 refine hK1 _ ?_
 clear hK1 K1
 refine .keep [1, 2] ?_
 simp only [keepE, E_cons, E_nil]
 refine .see (upd _ 2 ⟨_, none⟩) [(1, _), (2, .dptr (Types.c t))] ⟨.refl _, T.box (k := 2) (cs := Types.c t) (by simp [upd]) (by simp [upd]), trivial⟩ (Dies.up (Dies.refl _) (.inr ⟨rfl, Nat.le_refl _⟩)) ?_
 try simp only [E_cons, E_nil]
 refine .seqk fun K2 hK2 => ?_
 refine .reg ?_
 simp
 refine hK2 _ ?_
 clear hK2 K2
 refine .keep [1, 2, 5] ?_
 simp only [keepE, E_cons, E_nil]
 refine .nil1 (l' := [(1, int a), (2, .dptr (Types.c t)), (5, .sl 17 1 0 0 0)]) 17 1 (by simp [upd, h00_at]) (by decide) (by decide) (fun u => by
  by_cases hu : u = 5
  ·right; subst hu; exact ⟨rfl, by simp [upd, h00_at]⟩
  ·left; simp [hu]) ?_
 refine .ren 17 1000001 1 (v := 1) (blk := ⟨1, []⟩) (by decide) (by decide) (by simp [upd, h00_at]) (by simp [upd, h00_at]) (by simp [upd, h00_at]) rfl ?_
 simp [renE, renA]
 refine .seqk fun K3 hK3 => ?_
 refine .block ?_
 refine .count ((chainT t a).length) (fun i st => ∃ cur : Int, ∃ v : Nat, ∃ c : Nat, (cur < t.nodes.length ∧ chainT t cur = (chainT t a).drop i) ∧ ∃ hh1, hh1 1000001 = ⟨v, some ⟨1, dl (((chainT t a).take i).map I.c)⟩⟩ ∧ st = ⟨E [(1, int cur), (2, .dptr (Types.c t)), (5, .sl 1000001 v 0 i c)], hh1⟩) 0 (Nat.zero_le _) _ (.cov (by first | (simp; done) | (simp; rfl) | (simp; exact ⟨rfl, rfl⟩)) (.refl _)) ⟨a, 1, 0, ⟨ha, by simp⟩, _, by simp [upd], rfl⟩ ?_
 rintro i s hi1 ⟨cur, v, c, ⟨hcl, hch⟩, hh1, hho1, rfl⟩ K4 hK4
 refine .seqk fun K5 hK5 => ?_
 refine .seqk fun K6 hK6 => ?_
 refine .reg ?_
 simp
 refine hK6 _ ?_
 clear hK6 K6
 refine .keep [1, 2, 5, 7] ?_
 simp only [keepE, E_cons, E_nil]
 refine .condk _ rfl (fun hc1 => ?_) (fun hc1 => ?_)
 ·simp at hc1
  obtain ⟨n, hn⟩ : ∃ n, t.nodes[cur.toNat]? = some n := ⟨t.nodes[cur.toNat]'(by omega), by simp⟩
  have hpar := hv.par1 hn
  have hcp := chainT_pos hv hc1 hn
  have hil : i < (chainT t a).length := by
   by_cases h : i < (chainT t a).length
   ·exact h
   ·rw [hcp, List.drop_eq_nil_of_le (by omega)] at hch; cases hch
  have hgi : (chainT t a)[i]? = some cur := by
   have := congrArg List.head? hch
   rw [hcp] at this
   simpa using this.symm
  have hdr : chainT t n.parent = (chainT t a).drop (i + 1) := by
   have := congrArg List.tail hch
   rw [hcp] at this
   simpa using this
  have htk : List.take (i + 1) (List.map I.c (chainT t a)) = List.take i (List.map I.c (chainT t a)) ++ [[.int .i64 cur]] := by
   rw [List.take_add_one]
   simp [hgi]
  have hnc : ¬ (i + 1 ≤ c ∧ i + 1 ≤ i) := by omega
  have z1 : (i + 1) * 8 ≤ 17592186044416 := by omega
  have z2 : i + 1 ≤ 17592186044416 := by omega
  have zz : ¬ (i + 1 ≤ min i (chainT t a).length) := by omega
  have zi : min i (chainT t a).length = i := by omega
  refine .skip ?_
  refine hK5 _ ?_
  clear hK5 K5
  refine .seqk fun K7 hK7 => ?_
  refine .block ?_
  refine .reg ?_
  simp [hho1, getBlk, upd, z1, z2, zz, zi, srcOf, hnc]
  refine hK7 _ ?_
  clear hK7 K7
  refine .keep [1, 2, 5] ?_
  simp only [keepE, E_cons, E_nil]
  refine .reg ?_
  simp [hn, hc1]
  refine hK4 _ _ (by omega) (Wk.cov ?_ (.refl _)) ⟨n.parent, v + 1, i + 1, ?_, _, ?_, rfl⟩
  ·simp
  ·exact ⟨by omega, hdr⟩
  ·simp [upd, htk, dl_append, dl_cons, List.take_take]
 ·simp at hc1
  have hil : (chainT t a).length ≤ i := by
   have h := hch
   rw [chainT_neg hc1] at h
   have := congrArg List.length h
   simp at this
   omega
  have hie : i = (chainT t a).length := by omega
  subst hie
  simp at hho1
  refine .exit ?_
  try simp only [then', inBlk, if_true, if_false, reduceIte, Nat.reduceEqDiff]
  refine hK3 _ ?_
  clear hK5 hK4 hK3 K5 K4 K3
  refine .seqk fun K8 hK8 => ?_
  refine .reg ?_
  simp
  refine ACall.mono (m268 (chainT t a) _ v c (by omega) (by simpa using hho1)) ?_
  rintro _ h1 he1
  rw [mergeH_upd1 he1 (by decide)]
  clear he1 h1
  try simp
  refine hK8 _ ?_
  clear hK8 K8
  refine .keep [5] ?_
  simp only [keepE, E_cons, E_nil]
  refine .see (upd _ 1000001 ⟨_, none⟩) [(5, sl ((chainT t a).reverse.map I.c))] ⟨T.rowD (k := 1) ((chainT t a).reverse.map I.c) (by simp [upd]) (by simp [upd]) (by simp), trivial⟩ (Dies.up (Dies.refl _) (.inr ⟨rfl, Nat.le_refl _⟩)) ?_
  refine .seqk fun K9 hK9 => ?_
  refine .reg ?_
  simp
  refine hK9 _ ?_
  clear hK9 K9
  refine .keep [4] ?_
  simp only [keepE, E_cons, E_nil]
  refine .ret ?_
  refine ret_m (.inr rfl) (r := sl ((chainT t a).reverse.map I.c)) (by simp) (by simp) (by simp)
theorem p257 (t : Types) (hv : tV t) (a : Int) (ha : a < t.nodes.length) : PCall Tryz.prog 257 [ag (Types.c t), int a] (sl ((chainT t a).reverse.map I.c)) := PCall.frame rfl rfl (m257 t hv a ha)
theorem p144r (l : List Int) (v : Int) : PCall Tryz.prog 144 [.d (.slice (l.map I.c).reverse), int v] (bo (l.reverse.any (fun x => v == x))) := by
 rw [← List.map_reverse]; exact p144 l.reverse v
theorem p228 (t : Types) (hv : tV t) (b a : Int) (ha : a < t.nodes.length) : PCall Tryz.prog 228 [ag (Types.c t), int a, int b] (bo (below t a b)) := by
 intro h
 refine ACall.of b228 (by simp) ?_
 unfold c228
 refine .seqk fun K1 hK1 => ?_
 refine .reg ?_
 simp
 refine hK1 _ ?_
 clear hK1 K1
 refine .keep [1, 2, 3] ?_
 simp only [keepE, E_cons, E_nil]
 refine .see (upd _ 3 ⟨_, none⟩) [(1, _), (2, _), (3, .dptr (Types.c t))] ⟨.refl _, .refl _, T.box (k := 2) (cs := Types.c t) (by simp [upd]) (by simp [upd]), trivial⟩ (Dies.up (Dies.refl _) (.inr ⟨rfl, Nat.le_refl _⟩)) ?_
 try simp only [E_cons, E_nil]
 refine .seqk fun K2 hK2 => ?_
 refine .reg ?_
 refine Sq.cutk 3 fun K3 hK3 => ?_
 simp only [zt]
 simp
 refine PCall.sq (p257 t hv a ha) fun h1 he1 => ?_
 simp only [mergeH_eq he1]
 clear he1 h1
 refine hK3 _ ?_
 clear hK3 K3
 refine Sq.cutk 2 fun K4 hK4 => ?_
 simp only [zt]
 simp
 refine PCall.sq (p144r (chainT t a) b) fun h1 he1 => ?_
 simp only [mergeH_eq he1]
 clear he1 h1
 refine hK4 _ ?_
 clear hK4 K4
 simp
 refine hK2 _ ?_
 clear hK2 K2
 refine .keep [6] ?_
 simp only [keepE, E_cons, E_nil]
 refine .ret ?_
 refine ret_z (.inr rfl) rfl rfl ?_
 simp [below]
theorem p186 (t : Types) (ht : tOK t) (e a b : Int) : PCall Tryz.prog 186 [ag (Types.c t), int e, int a, int b] (bo (fitsT t e a b)) := by
 intro h
 refine ACall.of b186 (by simp) ?_
 unfold c186
 have htl := ht.nl
 have htl2 := ht.el
 have hw1 : IntKind.i64.wrap ((t.nodes.length : Int) - 1) = (t.nodes.length : Int) - 1 := wrap64 (by omega) (by omega)
 have hw2 : IntKind.i64.wrap ((t.edges.length : Int) - 1) = (t.edges.length : Int) - 1 := wrap64 (by omega) (by omega)
 refine .seqk fun K1 hK1 => ?_
 refine .reg ?_
 simp
 refine hK1 _ ?_
 clear hK1 K1
 refine .keep [1, 2, 3, 4] ?_
 simp only [keepE, E_cons, E_nil]
 refine .see (upd _ 4 ⟨_, none⟩) [(1, _), (2, _), (3, _), (4, .dptr (Types.c t))] ⟨.refl _, .refl _, .refl _, T.box (k := 2) (cs := Types.c t) (by simp [upd]) (by simp [upd]), trivial⟩ (Dies.up (Dies.refl _) (.inr ⟨rfl, Nat.le_refl _⟩)) ?_
 try simp only [E_cons, E_nil]
 refine .seqk fun K2 hK2 => ?_
 refine .seqregS (fun hh => upd hh 12 ⟨(hh 12).ver + 1, none⟩) (fun ee => [(1, ee 1), (2, ee 2), (3, ee 3), (4, ee 4), (25, bo (!(decide (givenV t [a, b] = 0) && inI e t.edges.length)))]) ?_ ?_
 ·refine SQ.cut 4 fun KL hKL => ?_
  simp only [zt]
  refine SQ.of ?_
  simp
  refine hKL _ ?_
  refine SQ.see (upd _ 12 ⟨_, none⟩) [(9, ag (Types.c t)), (12, sl ([a, b].map I.c)), (4, .dptr (Types.c t)), (1, int e), (2, int a), (3, int b)] ⟨.refl _, T.rowD (k := 1) ([a, b].map I.c) (by simp [upd, dl_cons]) (by simp [upd]) rfl, .refl _, .refl _, .refl _, .refl _, trivial⟩ (Dies.up (Dies.refl _) (.inr ⟨rfl, Nat.le_refl _⟩)) ?_
  refine SQ.of ?_
  refine Sq.cutk 1 fun KC1 hKC1 => ?_
  simp only [zt]
  simp
  refine PCall.sq (p227 t ht [a, b]) fun _ he => ?_
  simp only [mergeH_eq he]
  refine hKC1 _ ?_
  by_cases h1 : givenV t [a, b] = 0 <;> by_cases h2 : e < 0 <;> by_cases h3 : (t.edges.length : Int) ≤ e <;> simp [h1, h2, h3, inI_not]
 try simp only [E_cons, E_nil]
 refine .condk _ rfl (fun hc1 => ?_) (fun hc1 => ?_)
 ·skip
  refine .seqk fun K3 hK3 => ?_
  refine .reg ?_
  simp
  refine hK3 _ ?_
  clear hK3 K3
  refine .keep [8] ?_
  simp only [keepE, E_cons, E_nil]
  refine .ret ?_
  refine ret_z (.inr rfl) rfl rfl ?_
  simp [fitsT]; intro h; simp [h] at hc1; simp [hc1]
 ·simp at hc1
  obtain ⟨hg1, hg2⟩ := hc1
  obtain ⟨htv, hgab⟩ := givenV_ok hg1
  have hv := typesV_ok htv
  have ha0 := inI_iff.1 (hgab a (by simp))
  have hb0 := inI_iff.1 (hgab b (by simp))
  have he0 := inI_iff.1 hg2
  obtain ⟨x, hx⟩ : ∃ x, t.edges[e.toNat]? = some x := ⟨t.edges[e.toNat]'(by omega), by simp⟩
  obtain ⟨hs1, hs2⟩ := edgeE_in (hv.ed e.toNat x hx)
  have hs1 := inI_iff.1 hs1
  have hs2 := inI_iff.1 hs2
  have hf : fitsT t e a b = (below t a x.src && below t b x.tgt) := by simp [fitsT, hg1, hg2, hx]
  refine .skip ?_
  refine hK2 _ ?_
  clear hK2 K2
  refine .seqdreg mixed (fun hh => hh) (fun ee => [(8, bo (fitsT t e a b))]) ?_ ?_
  ·rw [hf]
   refine Dr.cutk 9 fun KC1 hKC1 => ?_
   simp only [zt]
   simp [-Bool.exists_bool, hx, he0.1, true_and]
   refine Dr.pcall (p228 t hv x.src a ha0.2) ?_
   refine hKC1 _ _ ?_
   by_cases h1 : below t a x.src = true
   rotate_left
   ·simp [-Bool.exists_bool, hx, he0.1, h1, true_and]
   refine Dr.cutk 10 fun KC2 hKC2 => ?_
   simp only [zt]
   simp [-Bool.exists_bool, hx, he0.1, h1, true_and]
   refine Dr.pcall (p228 t hv x.tgt b hb0.2) ?_
   refine hKC2 _ _ ?_
   simp [-Bool.exists_bool, hx, he0.1, h1, true_and]
  try simp only [E_cons, E_nil]
  refine .ret ?_
  refine ret_z (.inr rfl) rfl rfl ?_
  simp
theorem p189 (t : Types) (ht : tOK t) (a b : Int) : PCall Tryz.prog 189 [ag (Types.c t), int a, int b] (bo (isT t a b)) := by
 intro h
 refine ACall.of b189 (by simp) ?_
 unfold c189
 refine .seqk fun K1 hK1 => ?_
 refine .reg ?_
 simp
 refine hK1 _ ?_
 clear hK1 K1
 refine .keep [1, 2, 3] ?_
 simp only [keepE, E_cons, E_nil]
 refine .see (upd _ 3 ⟨_, none⟩) [(1, _), (2, _), (3, .dptr (Types.c t))] ⟨.refl _, .refl _, T.box (k := 2) (cs := Types.c t) (by simp [upd]) (by simp [upd]), trivial⟩ (Dies.up (Dies.refl _) (.inr ⟨rfl, Nat.le_refl _⟩)) ?_
 try simp only [E_cons, E_nil]
 refine .seqregS (fun hh => upd hh 10 ⟨(hh 10).ver + 1, none⟩) (fun ee => [(6, bo (isT t a b))]) ?_ ?_
 ·refine SQ.cut 4 fun KL hKL => ?_
  simp only [zt]
  refine SQ.of ?_
  simp
  refine hKL _ ?_
  refine SQ.see (upd _ 10 ⟨_, none⟩) [(7, ag (Types.c t)), (10, sl ([a, b].map I.c)), (3, .dptr (Types.c t)), (1, int a), (2, int b)] ⟨.refl _, T.rowD (k := 1) ([a, b].map I.c) (by simp [upd, dl_cons]) (by simp [upd]) rfl, .refl _, .refl _, .refl _, trivial⟩ (Dies.up (Dies.refl _) (.inr ⟨rfl, Nat.le_refl _⟩)) ?_
  refine SQ.of ?_
  refine Sq.cutk 1 fun KC1 hKC1 => ?_
  simp only [zt]
  simp
  refine PCall.sq (p227 t ht [a, b]) fun _ he => ?_
  simp only [mergeH_eq he]
  refine hKC1 _ ?_
  by_cases h1 : givenV t [a, b] = 0
  rotate_left
  ·simp [h1, isT]
  obtain ⟨htv, hgab⟩ := givenV_ok h1
  have hv := typesV_ok htv
  have ha0 := inI_iff.1 (hgab a (by simp))
  refine Sq.cutk 6 fun KC2 hKC2 => ?_
  simp only [zt]
  simp [h1]
  refine PCall.sq (p228 t hv b a ha0.2) fun _ he => ?_
  simp only [mergeH_eq he]
  refine hKC2 _ ?_
  simp [h1, isT]
 try simp only [E_cons, E_nil]
 refine .ret ?_
 refine ret_z (.inr rfl) rfl rfl ?_
 simp
end Go.Abs
