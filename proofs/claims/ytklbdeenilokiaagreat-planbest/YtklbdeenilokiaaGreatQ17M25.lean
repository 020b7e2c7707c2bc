/- Contracts of functions of the program, and what they lean on: a part of the proof that planBest_proved stands; no condition. -/
import Derived.Test.YtklbdeenilokiaaGreatProg
import Derived.Test.YtklbdeenilokiaaGreatQ17M18
import Derived.Test.YtklbdeenilokiaaGreatQ17A3
import Derived.Test.YtklbdeenilokiaaGreatQ17M10
set_option linter.unusedVariables false
set_option linter.unusedSimpArgs false
namespace Go.Abs
open Go Go.Proofs
structure DEdge where
 ty : Int
 src : Int
 tgt : Int
structure Draft where
 nodes : List Int
 edges : List DEdge
def U8.c (n : Int) : List D := [.int .u8 n]
attribute [simp] U8.c
def DEdge.c (e : DEdge) : List D := [.int .u8 e.ty, .int .u8 e.src, .int .u8 e.tgt]
attribute [simp] DEdge.c
def Draft.c (d : Draft) : List D := [.slice (d.nodes.map U8.c), .slice (d.edges.map DEdge.c)]
attribute [simp] Draft.c
def byteI (n : Int) : Prop := 0 ≤ n ∧ n ≤ 255
def Draft.ok (d : Draft) : Prop := (∀ n ∈ d.nodes, byteI n) ∧ ∀ e ∈ d.edges, byteI e.ty ∧ byteI e.src ∧ byteI e.tgt
theorem AW.dregvx {α : Type} {P : Program} {N : Nat} {Q : AX → St → Prop} {e : Env} {h : Heap} {ops : List GOp} {un : List (Nat × Nat)} (hm : P.follows .mixedOrders = true) (pre : α → Prop) (h' : α → Heap → Heap) (l : α → Env → List (Nat × AV))
  (ho : Dr P ops ⟨e, h⟩ fun s fs => conf un fs = true ∧ ∃ x, pre x ∧ Cov (l x e) s.env ∧ Dies s.h (h' x h)) (hw : ∀ x, pre x → ∀ s, Wk s ⟨E (l x e), h' x h⟩ → Q .normal s) : AW P N (.dreg ops un) Q ⟨e, h⟩ :=
 .dreg hm (ho.mono fun s fs ⟨h0, x, h1, h2, h3⟩ => ⟨h0, hw x h1 s (Wk.cov (env := s.env) (h := s.h) h2 h3)⟩)
theorem AW.regvx {α : Type} {P : Program} {N : Nat} {Q : AX → St → Prop} {e : Env} {h : Heap} {ops : List GOp} (pre : α → Prop) (h' : α → Heap → Heap) (l : α → Env → List (Nat × AV))
  (ho : Sq P ops ⟨e, h⟩ fun s => ∃ x, pre x ∧ Cov (l x e) s.env ∧ Dies s.h (h' x h)) (hw : ∀ x, pre x → ∀ s, Wk s ⟨E (l x e), h' x h⟩ → Q .normal s) : AW P N (.reg ops) Q ⟨e, h⟩ :=
 .reg ((Sq.mono ho) fun s ⟨x, h1, h2, h3⟩ => hw x h1 s (Wk.cov (env := s.env) (h := s.h) h2 h3))
/-- A row that is nil or lies in block b. -/
def rowOK (b k : Nat) (hh : Heap) (x : AV) (xs : List (List D)) : Prop := (x = .d .nil ∧ xs = []) ∨ ∃ v c, x = .sl b v 0 xs.length c ∧ hh b = ⟨v, some ⟨k, dl xs⟩⟩
theorem rowOK.T {b k : Nat} {hh : Heap} {x : AV} {xs : List (List D)} (hr : rowOK b k hh x xs) (hb : b < lim) : T hh (outer hh) some x (.d (.slice xs)) := by
 rcases hr with ⟨rfl, rfl⟩ | ⟨v, c, rfl, hl⟩
 ·exact .d _ _ .nil
 ·exact T.row hb hl rfl
end Go.Abs
set_option linter.unusedVariables false
set_option linter.unusedSimpArgs false
namespace Go.Abs
open Go Go.Proofs
def validL (g : Graph) : Kn → List Oprn → Prop
 | _, [] => True
 | k, o :: l => stepE g k o = 0 ∧ validL g (afterK g k o) l
def afterL (g : Graph) (k : Kn) (l : List Oprn) : Kn := l.foldl (afterK g) k
def possI (g : Graph) (k : Kn) (kd : Int) (i : Nat) : List Oprn := ((List.range i).map fun (j : Nat) => (⟨kd, (j : Int)⟩ : Oprn)).filter fun o => decide (stepE g k o = 0)
def maxN (g : Graph) : Nat := max g.nodes.length g.edges.length
def possK (g : Graph) (k : Kn) : Nat → List Oprn
 | 0 => []
 | q + 1 => possK g k q ++ possI g k ((q : Int) + 1) (maxN g)
def poss (g : Graph) (k : Kn) : List Oprn := possK g k 3
theorem possI_len (g : Graph) (k : Kn) (kd : Int) (i : Nat) : (possI g k kd i).length ≤ i := by
 refine Nat.le_trans (List.length_filter_le _ _) ?_
 simp
theorem possK_len (g : Graph) (k : Kn) : ∀ q, (possK g k q).length ≤ q * maxN g
 | 0 => by simp [possK]
 | q + 1 => by
  have h1 := possK_len g k q
  have h2 := possI_len g k ((q : Int) + 1) (maxN g)
  simp only [possK, List.length_append, Nat.succ_mul]
  omega
theorem possI_s (g : Graph) (k : Kn) (kd : Int) (i : Nat) : possI g k kd (i + 1) = possI g k kd i ++ (if stepE g k ⟨kd, (i : Int)⟩ = 0 then [⟨kd, (i : Int)⟩] else []) := by
 simp only [possI, List.range_succ, List.map_append, List.filter_append, List.map_cons, List.map_nil]
 by_cases h : stepE g k ⟨kd, (i : Int)⟩ = 0 <;> simp [h]
theorem maxN_lt (g : Graph) (i : Nat) : decide (i < maxN g) = (decide (i < g.nodes.length) || decide (i < g.edges.length)) := by
 have h : i < maxN g ↔ i < g.nodes.length ∨ i < g.edges.length := by unfold maxN; omega
 by_cases h1 : i < g.nodes.length <;> by_cases h2 : i < g.edges.length <;> simp [h, h1, h2]
theorem maxN_le {g : Graph} (h : gErr g = 0) : maxN g ≤ 80 := by
 have := gErr_len h
 simp only [maxN]
 omega
theorem p83 (g : Graph) (l : List Oprn) (hv : gErr g = 0) (hm : l.length ≤ 1000000) (hvl : validL g (freshK g) l) : PCall Tryz.prog 83 [ag (Graph.c g), sl (l.map Oprn.c)] (sl ((poss g (afterL g (freshK g) l)).map Oprn.c)) := by
 intro h
 refine ACall.of b83 (by simp) ?_
 unfold c83
 have hgl := gErr_len hv
 refine .seqk fun K1 hK1 => ?_
 refine .reg ?_
 simp
 refine hK1 _ ?_
 clear hK1 K1
 refine .keep [1, 2] ?_
 simp only [keepE, E_cons, E_nil]
 refine .see (upd _ 2 ⟨_, none⟩) [(1, sl (l.map Oprn.c)), (2, .dptr (Graph.c g))] ⟨.refl _, T.box (k := 2) (cs := Graph.c g) (by simp [upd]) (by simp [upd]), trivial⟩ (Dies.up (Dies.refl _) (.inr ⟨rfl, Nat.le_refl _⟩)) ?_
 refine .seqk fun K2 hK2 => ?_
 refine .reg ?_
 refine Sq.cutk 2 fun K3 hK3 => ?_
 simp only [zt]
 simp
 refine PCall.sq (p130 g (by omega) (by omega)) fun h1 he1 => ?_
 simp only [mergeH_eq he1]
 clear he1 h1
 refine hK3 _ ?_
 clear hK3 K3
 simp
 refine hK2 _ ?_
 clear hK2 K2
 refine .keep [1, 2, 5] ?_
 simp only [keepE, E_cons, E_nil]
 refine .seqk fun K4 hK4 => ?_
 refine .seqk fun K5 hK5 => ?_
 refine .reg ?_
 simp
 refine hK5 _ ?_
 clear hK5 K5
 refine .block ?_
 refine .count l.length (fun i st => ∃ k v hh, k.fits g ∧ validL g k (l.drop i) ∧ afterL g k (l.drop i) = afterL g (freshK g) l ∧ OutEq hh h ∧ hh 5 = ⟨v, some ⟨2, [(Kn.c k).map .d]⟩⟩ ∧ st = ⟨E [(6, int i), (1, sl (l.map Oprn.c)), (2, .dptr (Graph.c g)), (5, .ptr 5 v 0 0)], hh⟩) 0 (Nat.zero_le _) _ (.cov (by simp; rfl) (.refl _)) ⟨freshK g, _, _, freshK_fits g, by simpa using hvl, by simp, by simp, by simp [upd], rfl⟩ ?_
 rintro i s hi1 ⟨k, v, hh, hf, hvk, hak, hho, h5, rfl⟩ K6 hK6
 refine .seqk fun K7 hK7 => ?_
 refine .seqk fun K8 hK8 => ?_
 refine .reg ?_
 simp
 refine hK8 _ ?_
 clear hK8 K8
 refine .keep [1, 2, 5, 6, 16] ?_
 simp only [keepE, E_cons, E_nil]
 refine .condk _ rfl (fun hc1 => ?_) (fun hc1 => ?_)
 ·simp at hc1
  obtain ⟨x, hx⟩ := get_some hc1
  rw [drop_cons hx] at hvk hak
  refine .skip ?_
  refine hK7 _ ?_
  clear hK7 K7
  refine .seqk fun K9 hK9 => ?_
  refine .block ?_
  refine .dreg mixed ?_
  refine Dr.cutk 7 fun K10 hK10 => ?_
  simp only [zt]
  simp [-Bool.exists_bool, hx, getBlk, h5, upd]
  refine Dr.pcall (p131 g k x hf hv hvk.1) ?_
  refine hK10 _ _ ?_
  clear hK10 K10
  try simp [-Bool.exists_bool, hx, getBlk, h5, upd]
  refine hK9 _ ?_
  clear hK9 K9
  refine .keep [1, 2, 5, 6] ?_
  simp only [keepE, E_cons, E_nil]
  refine .reg ?_
  simp
  refine hK6 _ _ (by omega) (Wk.cov ?_ (.refl _)) ⟨afterK g k x, v, upd hh 5 ⟨v, some ⟨2, [(Kn.c (afterK g k x)).map .d]⟩⟩, afterK_fits hf x, hvk.2, hak, by simp [hho], by simp [upd], rfl⟩
  ·simp; exact wrap64 (by omega) (by omega)
 ·simp at hc1
  obtain rfl : i = l.length := by omega
  obtain rfl : k = afterL g (freshK g) l := by simpa [afterL] using hak
  refine .exit ?_
  try simp only [then', inBlk, if_true, if_false, reduceIte, Nat.reduceEqDiff]
  refine hK4 _ ?_
  clear hK7 hK6 hK4 K7 K6 K4
  refine .seqk fun K11 hK11 => ?_
  refine .reg ?_
  simp
  refine hK11 _ ?_
  clear hK11 K11
  refine .keep [2, 5, 7] ?_
  simp only [keepE, E_cons, E_nil]
  generalize afterL g (freshK g) l = k at *
  refine .see (upd _ 5 ⟨v, none⟩) [(2, .dptr (Graph.c g)), (5, .dptr (Kn.c k)), (7, .d .nil)] ⟨.refl _, T.box (k := 2) (cs := Kn.c k) h5 (by simp [upd]), .refl _, trivial⟩ (Dies.bump _ _ _ (by simp [h5])) ?_
  refine .seqk fun K12 hK12 => ?_
  refine .seqk fun K13 hK13 => ?_
  refine .reg ?_
  simp
  refine hK13 _ ?_
  clear hK13 K13
  refine .block ?_
  refine .count 3 (fun q st => ∃ x hh, OutEq hh h ∧ rowOK 55 2 hh x ((possK g k q).map Oprn.c) ∧ st = ⟨E [(8, int ((q : Int) + 1)), (7, x), (2, .dptr (Graph.c g)), (5, .dptr (Kn.c k))], hh⟩) 0 (Nat.zero_le _) _ (.cov (by simp) (.refl _)) ⟨.d .nil, _, by simp [hho], .inl ⟨rfl, rfl⟩, rfl⟩ ?_
  rintro q s hi2 ⟨x, hh, hho, hr, rfl⟩ K14 hK14
  refine .seqk fun K15 hK15 => ?_
  refine .seqk fun K16 hK16 => ?_
  refine .reg ?_
  simp
  refine hK16 _ ?_
  clear hK16 K16
  refine .condk _ rfl (fun hc2 => ?_) (fun hc2 => ?_)
  ·simp at hc2
   refine .skip ?_
   refine hK15 _ ?_
   clear hK15 K15
   refine .seqk fun K17 hK17 => ?_
   refine .block ?_
   refine .seqk fun K18 hK18 => ?_
   refine .reg ?_
   simp
   refine hK18 _ ?_
   clear hK18 K18
   refine .block ?_
   refine .count (maxN g) (fun i st => ∃ x hh, OutEq hh h ∧ rowOK 55 2 hh x ((possK g k q ++ possI g k ((q : Int) + 1) i).map Oprn.c) ∧ st = ⟨E [(9, int i), (8, int ((q : Int) + 1)), (7, x), (2, .dptr (Graph.c g)), (5, .dptr (Kn.c k))], hh⟩) 0 (Nat.zero_le _) _ (.cov (by simp) (.refl _)) ⟨x, hh, hho, by simpa [possI] using hr, rfl⟩ ?_
   rintro i s hi3 ⟨x, hh, hho, hr, rfl⟩ K19 hK19
   refine .seqk fun K20 hK20 => ?_
   refine .seqreg (fun hh => hh) (fun ee => [(2, ee 2), (5, ee 5), (7, ee 7), (8, ee 8), (9, ee 9), (41, bo (decide (i < maxN g)))]) ?_ ?_
   ·rw [maxN_lt]
    by_cases h1 : i < g.nodes.length <;> by_cases h2 : i < g.edges.length <;> simp [h1, h2]
   try simp only [E_cons, E_nil]
   refine .condk _ rfl (fun hc3 => ?_) (fun hc3 => ?_)
   ·simp at hc3
    have hmx := maxN_le hv
    have hb1 := possK_len g k q
    have hb2 := possI_len g k ((q : Int) + 1) i
    have hq3 : q * maxN g ≤ 3 * maxN g := Nat.mul_le_mul_right _ (by omega)
    refine .skip ?_
    refine hK20 _ ?_
    clear hK20 K20
    refine .seqk fun K21 hK21 => ?_
    refine .block ?_
    refine .seqk fun K22 hK22 => ?_
    refine .reg ?_
    simp
    refine hK22 _ ?_
    clear hK22 K22
    refine .keep [2, 5, 7, 8, 9, 10] ?_
    simp only [keepE, E_cons, E_nil]
    refine .see (upd _ 10 ⟨_, none⟩) [(2, .dptr (Graph.c g)), (5, .dptr (Kn.c k)), (7, x), (8, int ((q : Int) + 1)), (9, int i), (10, .dptr (Oprn.c ⟨(q : Int) + 1, i⟩))] ⟨.refl _, .refl _, .refl _, .refl _, .refl _, T.box (k := 2) (cs := Oprn.c ⟨(q : Int) + 1, i⟩) (by simp [upd]) (by simp [upd]), trivial⟩ (Dies.kill _ _ _ _) ?_
    refine .seqk fun K23 hK23 => ?_
    refine .reg ?_
    refine Sq.cutk 4 fun K24 hK24 => ?_
    simp only [zt]
    simp
    refine PCall.sq (p132 g k ⟨(q : Int) + 1, i⟩ hf hv) fun h1 he1 => ?_
    simp only [mergeH_eq he1]
    clear he1 h1
    refine hK24 _ ?_
    clear hK24 K24
    simp
    refine hK23 _ ?_
    clear hK23 K23
    refine .keep [2, 5, 7, 8, 9, 10, 51] ?_
    simp only [keepE, E_cons, E_nil]
    refine .condk _ rfl (fun hc4 => ?_) (fun hc4 => ?_)
    ·simp at hc4
     refine .regvx (α := Nat × Nat) (fun x2 => True) (fun x2 hh => upd (upd hh 54 ⟨(hh 54).ver + 1, none⟩) 55 ⟨x2.1, some ⟨2, dl ((possK g k q ++ possI g k ((q : Int) + 1) (i + 1)).map Oprn.c)⟩⟩) (fun x2 ee => [(2, ee 2), (5, ee 5), (7, .sl 55 x2.1 0 ((possK g k q ++ possI g k ((q : Int) + 1) i).length + 1) x2.2), (8, ee 8), (9, ee 9)]) ?_ (fun x2 hx s hs => ?_)
     ·have key : dl ((possK g k q ++ possI g k ((q : Int) + 1) (i + 1)).map Oprn.c) = dl ((possK g k q ++ possI g k ((q : Int) + 1) i).map Oprn.c) ++ [[.d (.int .i64 ((q : Int) + 1)), .d (.int .i64 i)]] := by
       rw [possI_s, if_pos hc4, ← List.append_assoc, List.map_append]
       simp only [List.map_cons, List.map_nil, dl_snoc]
       rfl
      have hlen : (possK g k q ++ possI g k ((q : Int) + 1) i).length ≤ 100000 := by rw [List.length_append]; have := Nat.mul_le_mul_left 3 hmx; omega
      rw [key]
      generalize possK g k q ++ possI g k ((q : Int) + 1) i = L at *
      rcases hr with ⟨rfl, hx0⟩ | ⟨v, c, rfl, h55⟩
      ·have hL : L = [] := by simpa using hx0
       subst hL
       simp [upd, getBlk, srcOf]
       exact Dies.up (Dies.up (Dies.refl _) (.inr ⟨rfl, Nat.le_refl _⟩)) (.inl rfl)
      ·have z1 : (L.length + 1) * 16 ≤ 17592186044416 := by omega
       have z2 : L.length ≤ 17592186044415 := by omega
       have zz : ¬ (L.length + 1 ≤ L.length) := by omega
       have tk : List.take L.length (List.map Oprn.c L) = List.map Oprn.c L := List.take_of_length_le (by simp)
       simp [upd, getBlk, srcOf, h55, z1, z2, zz, tk]
       exact Dies.up (Dies.up (Dies.refl _) (.inr ⟨rfl, Nat.le_refl _⟩)) (.inl rfl)
     refine hK21 _ (.weak hs ?_)
     clear hK21 K21 hs s
     try simp only [E_cons, E_nil]
     refine .reg ?_
     simp
     refine hK19 _ _ (by omega) (Wk.cov ?_ (.refl _)) ⟨.sl 55 x2.1 0 ((possK g k q ++ possI g k ((q : Int) + 1) (i + 1)).map Oprn.c).length x2.2, _, ?_, .inr ⟨x2.1, x2.2, rfl, by simp [upd]⟩, rfl⟩
     ·simp [possI_s, hc4]; exact ⟨wrap64 (by omega) (by omega), by omega⟩
     ·simp [hho]
    ·simp at hc4
     refine .skip ?_
     refine hK21 _ ?_
     clear hK21 K21
     refine .reg ?_
     simp
     refine hK19 _ _ (by omega) (Wk.cov ?_ (.refl _)) ⟨x, _, ?_, ?_, rfl⟩
     ·simp; exact wrap64 (by omega) (by omega)
     ·simp [hho]
     ·rw [possI_s, if_neg hc4, List.append_nil]; simpa [rowOK, upd] using hr
   ·simp at hc3
    obtain rfl : i = maxN g := by omega
    refine .exit ?_
    try simp only [then', inBlk, if_true, if_false, reduceIte, Nat.reduceEqDiff]
    refine hK17 _ ?_
    clear hK20 hK19 hK17 K20 K19 K17
    refine .reg ?_
    simp
    refine hK14 _ _ (by omega) (Wk.cov ?_ (.refl _)) ⟨x, hh, hho, ?_, rfl⟩
    ·simp; exact wrap64 (by omega) (by omega)
    ·exact hr
  ·simp at hc2
   obtain rfl : q = 3 := by omega
   refine .exit ?_
   try simp only [then', inBlk, if_true, if_false, reduceIte, Nat.reduceEqDiff]
   refine hK12 _ ?_
   clear hK15 hK14 hK12 K15 K14 K12
   refine .seqk fun K25 hK25 => ?_
   refine .reg ?_
   simp
   refine hK25 _ ?_
   clear hK25 K25
   refine .ret ?_
   refine ret_y (.inr rfl) rfl (rowOK.T hr (by decide)) rfl ?_
   rfl
end Go.Abs
set_option linter.unusedVariables false
set_option linter.unusedSimpArgs false
namespace Go.Abs
open Go Go.Proofs
theorem m83 (g : Graph) (l : List Oprn) (h : Heap) (v1 c1 : Nat) (hv : gErr g = 0) (hm : l.length ≤ 1000000) (hvl : validL g (freshK g) l) (r1 : h 1000001 = ⟨v1, some ⟨2, dl (l.map Oprn.c)⟩⟩) : ACall Tryz.prog 83 [ag (Graph.c g), .sl 1000001 v1 0 l.length c1] h fun r' h' => r' = sl ((poss g (afterL g (freshK g) l)).map Oprn.c) ∧ OutEq h' h := by
 refine ACall.of b83 (by simp) ?_
 unfold c83
 have hgl := gErr_len hv
 refine .seqk fun K1 hK1 => ?_
 refine .reg ?_
 simp
 refine hK1 _ ?_
 clear hK1 K1
 refine .keep [1, 2] ?_
 simp only [keepE, E_cons, E_nil]
 refine .see (upd _ 2 ⟨_, none⟩) [(1, .sl 1000001 v1 0 l.length c1), (2, .dptr (Graph.c g))] ⟨.refl _, T.box (k := 2) (cs := Graph.c g) (by simp [upd]) (by simp [upd]), trivial⟩ (Dies.up (Dies.refl _) (.inr ⟨rfl, Nat.le_refl _⟩)) ?_
 refine .seqk fun K2 hK2 => ?_
 refine .reg ?_
 refine Sq.cutk 2 fun K3 hK3 => ?_
 simp only [zt]
 simp
 refine PCall.sq (p130 g (by omega) (by omega)) fun h1 he1 => ?_
 simp only [mergeH_eq he1]
 clear he1 h1
 refine hK3 _ ?_
 clear hK3 K3
 simp
 refine hK2 _ ?_
 clear hK2 K2
 refine .keep [1, 2, 5] ?_
 simp only [keepE, E_cons, E_nil]
 refine .seqk fun K4 hK4 => ?_
 refine .seqk fun K5 hK5 => ?_
 refine .reg ?_
 simp
 refine hK5 _ ?_
 clear hK5 K5
 refine .block ?_
 refine .count l.length (fun i st => ∃ k v hh, k.fits g ∧ validL g k (l.drop i) ∧ afterL g k (l.drop i) = afterL g (freshK g) l ∧ OutEq hh h ∧ hh 5 = ⟨v, some ⟨2, [(Kn.c k).map .d]⟩⟩ ∧ st = ⟨E [(6, int i), (1, .sl 1000001 v1 0 l.length c1), (2, .dptr (Graph.c g)), (5, .ptr 5 v 0 0)], hh⟩) 0 (Nat.zero_le _) _ (.cov (by simp; rfl) (.refl _)) ⟨freshK g, _, _, freshK_fits g, by simpa using hvl, by simp, by simp, by simp [upd], rfl⟩ ?_
 rintro i s hi1 ⟨k, v, hh, hf, hvk, hak, hho, h5, rfl⟩ K6 hK6
 refine .seqk fun K7 hK7 => ?_
 refine .seqk fun K8 hK8 => ?_
 have r2 : hh 1000001 = ⟨v1, some ⟨2, dl (l.map Oprn.c)⟩⟩ := by rw [hho _ (by decide)]; exact r1
 refine .reg ?_
 simp [getBlk, r2]
 refine hK8 _ ?_
 clear hK8 K8
 refine .keep [1, 2, 5, 6, 16] ?_
 simp only [keepE, E_cons, E_nil]
 refine .condk _ rfl (fun hc1 => ?_) (fun hc1 => ?_)
 ·simp at hc1
  obtain ⟨x, hx⟩ := get_some hc1
  obtain ⟨hxl, hxe⟩ := List.getElem?_eq_some_iff.1 hx
  rw [drop_cons hx] at hvk hak
  refine .skip ?_
  refine hK7 _ ?_
  clear hK7 K7
  refine .seqk fun K9 hK9 => ?_
  refine .block ?_
  refine .dreg mixed ?_
  refine Dr.cutk 7 fun K10 hK10 => ?_
  simp only [zt]
  simp [-Bool.exists_bool, hx, hxe, hc1, getBlk, h5, upd, r2, dl_getE]
  refine Dr.pcall (p131 g k x hf hv hvk.1) ?_
  refine hK10 _ _ ?_
  clear hK10 K10
  try simp [-Bool.exists_bool, hx, hxe, hc1, getBlk, h5, upd, r2, dl_getE]
  refine hK9 _ ?_
  clear hK9 K9
  refine .keep [1, 2, 5, 6] ?_
  simp only [keepE, E_cons, E_nil]
  refine .reg ?_
  simp
  refine hK6 _ _ (by omega) (Wk.cov ?_ (.refl _)) ⟨afterK g k x, v, upd hh 5 ⟨v, some ⟨2, [(Kn.c (afterK g k x)).map .d]⟩⟩, afterK_fits hf x, hvk.2, hak, by simp [hho], by simp [upd], rfl⟩
  ·simp; exact wrap64 (by omega) (by omega)
 ·simp at hc1
  obtain rfl : i = l.length := by omega
  obtain rfl : k = afterL g (freshK g) l := by simpa [afterL] using hak
  refine .exit ?_
  try simp only [then', inBlk, if_true, if_false, reduceIte, Nat.reduceEqDiff]
  refine hK4 _ ?_
  clear hK7 hK6 hK4 K7 K6 K4
  refine .seqk fun K11 hK11 => ?_
  refine .reg ?_
  simp
  refine hK11 _ ?_
  clear hK11 K11
  refine .keep [2, 5, 7] ?_
  simp only [keepE, E_cons, E_nil]
  generalize afterL g (freshK g) l = k at *
  refine .see (upd _ 5 ⟨v, none⟩) [(2, .dptr (Graph.c g)), (5, .dptr (Kn.c k)), (7, .d .nil)] ⟨.refl _, T.box (k := 2) (cs := Kn.c k) h5 (by simp [upd]), .refl _, trivial⟩ (Dies.bump _ _ _ (by simp [h5])) ?_
  refine .seqk fun K12 hK12 => ?_
  refine .seqk fun K13 hK13 => ?_
  refine .reg ?_
  simp
  refine hK13 _ ?_
  clear hK13 K13
  refine .block ?_
  refine .count 3 (fun q st => ∃ x hh, OutEq hh h ∧ rowOK 55 2 hh x ((possK g k q).map Oprn.c) ∧ st = ⟨E [(8, int ((q : Int) + 1)), (7, x), (2, .dptr (Graph.c g)), (5, .dptr (Kn.c k))], hh⟩) 0 (Nat.zero_le _) _ (.cov (by simp) (.refl _)) ⟨.d .nil, _, by simp [hho], .inl ⟨rfl, rfl⟩, rfl⟩ ?_
  rintro q s hi2 ⟨x, hh, hho, hr, rfl⟩ K14 hK14
  refine .seqk fun K15 hK15 => ?_
  refine .seqk fun K16 hK16 => ?_
  refine .reg ?_
  simp
  refine hK16 _ ?_
  clear hK16 K16
  refine .condk _ rfl (fun hc2 => ?_) (fun hc2 => ?_)
  ·simp at hc2
   refine .skip ?_
   refine hK15 _ ?_
   clear hK15 K15
   refine .seqk fun K17 hK17 => ?_
   refine .block ?_
   refine .seqk fun K18 hK18 => ?_
   refine .reg ?_
   simp
   refine hK18 _ ?_
   clear hK18 K18
   refine .block ?_
   refine .count (maxN g) (fun i st => ∃ x hh, OutEq hh h ∧ rowOK 55 2 hh x ((possK g k q ++ possI g k ((q : Int) + 1) i).map Oprn.c) ∧ st = ⟨E [(9, int i), (8, int ((q : Int) + 1)), (7, x), (2, .dptr (Graph.c g)), (5, .dptr (Kn.c k))], hh⟩) 0 (Nat.zero_le _) _ (.cov (by simp) (.refl _)) ⟨x, hh, hho, by simpa [possI] using hr, rfl⟩ ?_
   rintro i s hi3 ⟨x, hh, hho, hr, rfl⟩ K19 hK19
   refine .seqk fun K20 hK20 => ?_
   refine .seqreg (fun hh => hh) (fun ee => [(2, ee 2), (5, ee 5), (7, ee 7), (8, ee 8), (9, ee 9), (41, bo (decide (i < maxN g)))]) ?_ ?_
   ·rw [maxN_lt]
    by_cases h1 : i < g.nodes.length <;> by_cases h2 : i < g.edges.length <;> simp [h1, h2]
   try simp only [E_cons, E_nil]
   refine .condk _ rfl (fun hc3 => ?_) (fun hc3 => ?_)
   ·simp at hc3
    have hmx := maxN_le hv
    have hb1 := possK_len g k q
    have hb2 := possI_len g k ((q : Int) + 1) i
    have hq3 : q * maxN g ≤ 3 * maxN g := Nat.mul_le_mul_right _ (by omega)
    refine .skip ?_
    refine hK20 _ ?_
    clear hK20 K20
    refine .seqk fun K21 hK21 => ?_
    refine .block ?_
    refine .seqk fun K22 hK22 => ?_
    refine .reg ?_
    simp
    refine hK22 _ ?_
    clear hK22 K22
    refine .keep [2, 5, 7, 8, 9, 10] ?_
    simp only [keepE, E_cons, E_nil]
    refine .see (upd _ 10 ⟨_, none⟩) [(2, .dptr (Graph.c g)), (5, .dptr (Kn.c k)), (7, x), (8, int ((q : Int) + 1)), (9, int i), (10, .dptr (Oprn.c ⟨(q : Int) + 1, i⟩))] ⟨.refl _, .refl _, .refl _, .refl _, .refl _, T.box (k := 2) (cs := Oprn.c ⟨(q : Int) + 1, i⟩) (by simp [upd]) (by simp [upd]), trivial⟩ (Dies.kill _ _ _ _) ?_
    refine .seqk fun K23 hK23 => ?_
    refine .reg ?_
    refine Sq.cutk 4 fun K24 hK24 => ?_
    simp only [zt]
    simp
    refine PCall.sq (p132 g k ⟨(q : Int) + 1, i⟩ hf hv) fun h1 he1 => ?_
    simp only [mergeH_eq he1]
    clear he1 h1
    refine hK24 _ ?_
    clear hK24 K24
    simp
    refine hK23 _ ?_
    clear hK23 K23
    refine .keep [2, 5, 7, 8, 9, 10, 51] ?_
    simp only [keepE, E_cons, E_nil]
    refine .condk _ rfl (fun hc4 => ?_) (fun hc4 => ?_)
    ·simp at hc4
     refine .regvx (α := Nat × Nat) (fun x2 => True) (fun x2 hh => upd (upd hh 54 ⟨(hh 54).ver + 1, none⟩) 55 ⟨x2.1, some ⟨2, dl ((possK g k q ++ possI g k ((q : Int) + 1) (i + 1)).map Oprn.c)⟩⟩) (fun x2 ee => [(2, ee 2), (5, ee 5), (7, .sl 55 x2.1 0 ((possK g k q ++ possI g k ((q : Int) + 1) i).length + 1) x2.2), (8, ee 8), (9, ee 9)]) ?_ (fun x2 hx s hs => ?_)
     ·have key : dl ((possK g k q ++ possI g k ((q : Int) + 1) (i + 1)).map Oprn.c) = dl ((possK g k q ++ possI g k ((q : Int) + 1) i).map Oprn.c) ++ [[.d (.int .i64 ((q : Int) + 1)), .d (.int .i64 i)]] := by
       rw [possI_s, if_pos hc4, ← List.append_assoc, List.map_append]
       simp only [List.map_cons, List.map_nil, dl_snoc]
       rfl
      have hlen : (possK g k q ++ possI g k ((q : Int) + 1) i).length ≤ 100000 := by rw [List.length_append]; have := Nat.mul_le_mul_left 3 hmx; omega
      rw [key]
      generalize possK g k q ++ possI g k ((q : Int) + 1) i = L at *
      rcases hr with ⟨rfl, hx0⟩ | ⟨v, c, rfl, h55⟩
      ·have hL : L = [] := by simpa using hx0
       subst hL
       simp [upd, getBlk, srcOf]
       exact Dies.up (Dies.up (Dies.refl _) (.inr ⟨rfl, Nat.le_refl _⟩)) (.inl rfl)
      ·have z1 : (L.length + 1) * 16 ≤ 17592186044416 := by omega
       have z2 : L.length ≤ 17592186044415 := by omega
       have zz : ¬ (L.length + 1 ≤ L.length) := by omega
       have tk : List.take L.length (List.map Oprn.c L) = List.map Oprn.c L := List.take_of_length_le (by simp)
       simp [upd, getBlk, srcOf, h55, z1, z2, zz, tk]
       exact Dies.up (Dies.up (Dies.refl _) (.inr ⟨rfl, Nat.le_refl _⟩)) (.inl rfl)
     refine hK21 _ (.weak hs ?_)
     clear hK21 K21 hs s
     try simp only [E_cons, E_nil]
     refine .reg ?_
     simp
     refine hK19 _ _ (by omega) (Wk.cov ?_ (.refl _)) ⟨.sl 55 x2.1 0 ((possK g k q ++ possI g k ((q : Int) + 1) (i + 1)).map Oprn.c).length x2.2, _, ?_, .inr ⟨x2.1, x2.2, rfl, by simp [upd]⟩, rfl⟩
     ·simp [possI_s, hc4]; exact ⟨wrap64 (by omega) (by omega), by omega⟩
     ·simp [hho]
    ·simp at hc4
     refine .skip ?_
     refine hK21 _ ?_
     clear hK21 K21
     refine .reg ?_
     simp
     refine hK19 _ _ (by omega) (Wk.cov ?_ (.refl _)) ⟨x, _, ?_, ?_, rfl⟩
     ·simp; exact wrap64 (by omega) (by omega)
     ·simp [hho]
     ·rw [possI_s, if_neg hc4, List.append_nil]; simpa [rowOK, upd] using hr
   ·simp at hc3
    obtain rfl : i = maxN g := by omega
    refine .exit ?_
    try simp only [then', inBlk, if_true, if_false, reduceIte, Nat.reduceEqDiff]
    refine hK17 _ ?_
    clear hK20 hK19 hK17 K20 K19 K17
    refine .reg ?_
    simp
    refine hK14 _ _ (by omega) (Wk.cov ?_ (.refl _)) ⟨x, hh, hho, ?_, rfl⟩
    ·simp; exact wrap64 (by omega) (by omega)
    ·exact hr
  ·simp at hc2
   obtain rfl : q = 3 := by omega
   refine .exit ?_
   try simp only [then', inBlk, if_true, if_false, reduceIte, Nat.reduceEqDiff]
   refine hK12 _ ?_
   clear hK15 hK14 hK12 K15 K14 K12
   refine .seqk fun K25 hK25 => ?_
   refine .reg ?_
   simp
   refine hK25 _ ?_
   clear hK25 K25
   refine .ret ?_
   refine ret_y (.inr rfl) rfl (rowOK.T hr (by decide)) rfl ?_
   rfl
end Go.Abs
set_option linter.unusedVariables false
set_option linter.unusedSimpArgs false
namespace Go.Abs
open Go Go.Proofs
def pickI (s : List Int) (t n : Nat) : Nat := match s[t % s.length]? with
 | some b => b.toNat % n
 | none => 0
def pickO (s : List Int) (t : Nat) (l : List Oprn) : Oprn := (l[pickI s t l.length]?).getD ⟨1, 0⟩
def madeL (g : Graph) (s : List Int) : Nat → Nat → List Oprn → List Oprn
 | 0, _, p => p
 | f + 1, t, p => if poss g (afterL g (freshK g) p) = [] then p else madeL g s f (t + 1) (p ++ [pickO s t (poss g (afterL g (freshK g) p))])
theorem pickI_lt {s : List Int} {t n : Nat} (h : 0 < n) : pickI s t n < n := by
 unfold pickI
 split
 ·exact Nat.mod_lt _ h
 ·exact h
theorem pickO_mem {s : List Int} {t : Nat} {l : List Oprn} (h : l ≠ []) : l[pickI s t l.length]? = some (pickO s t l) := by
 have hl : pickI s t l.length < l.length := pickI_lt (List.length_pos_iff.2 h)
 simp [pickO, hl]
theorem poss_mem {g : Graph} {k : Kn} {o : Oprn} (h : o ∈ poss g k) : stepE g k o = 0 := by
 simp only [poss, possK, possI, List.mem_append, List.mem_filter, decide_eq_true_eq, List.not_mem_nil, false_or] at h
 rcases h with (⟨_, h⟩ | ⟨_, h⟩) | ⟨_, h⟩ <;> exact h
theorem validL_snoc {g : Graph} {o : Oprn} : ∀ {l : List Oprn} {k : Kn}, validL g k l → stepE g (afterL g k l) o = 0 → validL g k (l ++ [o])
 | [], k, _, h => ⟨h, trivial⟩
 | x :: l, k, ⟨h1, h2⟩, h => ⟨h1, validL_snoc h2 h⟩
theorem poss_len {g : Graph} (h : gErr g = 0) (k : Kn) : (poss g k).length ≤ 1000 := by
 have h1 := possK_len g k 3
 have h2 := maxN_le h
 simp only [poss]
 omega
theorem m36 (g : Graph) (s : List Int) (hv : gErr g = 0) (hm : s.length ≤ 1000000) (hs : ∀ n ∈ s, byteI n) : ACall Tryz.prog 36 [ag (Graph.c g), sl (s.map U8.c)] h00 fun r h' => ∃ v c, r = .sl 1000001 v 0 (madeL g s 200 0 []).length c ∧ h' 1000001 = ⟨v, some ⟨2, dl ((madeL g s 200 0 []).map Oprn.c)⟩⟩ := by
 refine ACall.of b36 (by simp) ?_
 unfold c36
 rw [outer_h00]
 refine .seqk fun K1 hK1 => ?_
 refine .reg ?_
 simp
 refine hK1 _ ?_
 clear hK1 K1
 refine .keep [1, 2] ?_
 simp only [keepE, E_cons, E_nil]
 refine .see (upd _ 2 ⟨_, none⟩) [(1, sl (s.map U8.c)), (2, .dptr (Graph.c g))] ⟨.refl _, T.box (k := 2) (cs := Graph.c g) (by simp [upd]) (by simp [upd]), trivial⟩ (Dies.up (Dies.refl _) (.inr ⟨rfl, Nat.le_refl _⟩)) ?_
 refine .seqk fun K2 hK2 => ?_
 refine .reg ?_
 simp
 refine hK2 _ ?_
 clear hK2 K2
 refine .keep [1, 2, 5] ?_
 simp only [keepE, E_cons, E_nil]
 refine .seqk fun K3 hK3 => ?_
 refine .seqk fun K4 hK4 => ?_
 refine .reg ?_
 simp
 refine hK4 _ ?_
 clear hK4 K4
 refine .keep [1, 2, 5, 6] ?_
 simp only [keepE, E_cons, E_nil]
 refine .nil1 (l' := [(1, sl (s.map U8.c)), (2, .dptr (Graph.c g)), (5, .sl 39 1 0 0 0), (6, int 0)]) 39 2 (by simp [upd, h00_at]) (by decide) (by decide) (fun t => by
  by_cases ht : t = 5
  ·right; subst ht; exact ⟨rfl, by simp [upd, h00_at]⟩
  ·left; simp [ht]) ?_
 refine .ren 39 1000001 1 (v := 1) (blk := ⟨2, []⟩) (by decide) (by decide) (by simp [upd, h00_at]) (by simp [upd, h00_at]) (by simp [upd, h00_at]) rfl ?_
 simp [renE, renA]
 refine .block ?_
 refine .count 200 (fun i st => ∃ p v c hh, validL g (freshK g) p ∧ p.length = i ∧ madeL g s (200 - i) i p = madeL g s 200 0 [] ∧ hh 1000001 = ⟨v, some ⟨2, dl (p.map Oprn.c)⟩⟩ ∧ st = ⟨E [(6, int i), (5, .sl 1000001 v 0 p.length c), (1, sl (s.map U8.c)), (2, .dptr (Graph.c g))], hh⟩) 0 (Nat.zero_le _) _ (.cov (by simp) (.refl _)) ⟨[], 1, 0, _, trivial, rfl, rfl, by simp [upd], rfl⟩ ?_
 rintro i s hi1 ⟨p, v, c, hh, hvp, hpl, hmd, h5, rfl⟩ K5 hK5
 refine .seqk fun K6 hK6 => ?_
 refine .seqk fun K7 hK7 => ?_
 refine .reg ?_
 simp
 refine hK7 _ ?_
 clear hK7 K7
 refine .keep [1, 2, 5, 6, 10] ?_
 simp only [keepE, E_cons, E_nil]
 refine .condk _ rfl (fun hc1 => ?_) (fun hc1 => ?_)
 ·simp at hc1
  have hfu : 200 - i = (200 - i - 1) + 1 := by omega
  refine .skip ?_
  refine hK6 _ ?_
  clear hK6 K6
  refine .seqk fun K8 hK8 => ?_
  refine .block ?_
  refine .seqk fun K9 hK9 => ?_
  refine .reg ?_
  refine Sq.cutk 3 fun K10 hK10 => ?_
  simp only [zt]
  simp
  refine ACall.mono (m83 g p _ v c hv (by omega) hvp (by simpa using h5)) ?_
  rintro _ h1 ⟨rfl, he1⟩
  simp only [mergeH_eq he1]
  clear he1 h1
  refine hK10 _ ?_
  clear hK10 K10
  simp
  refine hK9 _ ?_
  clear hK9 K9
  refine .keep [1, 2, 5, 6, 7] ?_
  simp only [keepE, E_cons, E_nil]
  refine .seqk fun K11 hK11 => ?_
  refine .seqk fun K12 hK12 => ?_
  refine .reg ?_
  simp
  refine hK12 _ ?_
  clear hK12 K12
  refine .keep [1, 2, 5, 6, 7, 18] ?_
  simp only [keepE, E_cons, E_nil]
  refine .condk _ rfl (fun hc2 => ?_) (fun hc2 => ?_)
  ·simp at hc2
   have hfin : madeL g s 200 0 [] = p := by rw [← hmd, hfu, madeL, if_pos (by simpa using hc2)]
   refine .exit ?_
   try simp only [then', inBlk, if_true, if_false, reduceIte, Nat.reduceEqDiff]
   refine hK3 _ ?_
   clear hK11 hK8 hK5 hK3 K11 K8 K5 K3
   refine .seqk fun K13 hK13 => ?_
   refine .reg ?_
   simp
   refine hK13 _ ?_
   clear hK13 K13
   refine .keep [4] ?_
   simp only [keepE, E_cons, E_nil]
   refine .ret ?_
   try simp only [then', inBlk]
   refine ret_m (.inr rfl) (r := .sl 1000001 v 0 p.length c) (by simp) (by simp) ⟨v, c, by rw [hfin], by rw [hfin]; exact h5⟩
  ·simp at hc2
   have hpk := pickO_mem (s := s) (t := i) (l := (poss g (afterL g (freshK g) p))) hc2
   have hpi := pickI_lt (s := s) (t := i) (List.length_pos_iff.2 hc2)
   have hpl2 := poss_len hv (afterL g (freshK g) p)
   refine .skip ?_
   refine hK11 _ ?_
   clear hK11 K11
   refine .seqk fun K14 hK14 => ?_
   refine .reg ?_
   simp
   refine hK14 _ ?_
   clear hK14 K14
   refine .keep [1, 2, 5, 6, 7, 8] ?_
   simp only [keepE, E_cons, E_nil]
   refine .seqj (fun hh => hh) (fun ee => [(1, ee 1), (2, ee 2), (5, ee 5), (6, ee 6), (7, ee 7), (8, int (pickI s i (poss g (afterL g (freshK g) p)).length : Nat))]) (fun K15 hK15 => ?_) ?_
   ·refine .seqk fun K16 hK16 => ?_
    refine .reg ?_
    simp
    refine hK16 _ ?_
    clear hK16 K16
    refine .keep [1, 2, 5, 6, 7, 8, 21] ?_
    simp only [keepE, E_cons, E_nil]
    refine .condk _ rfl (fun hc3 => ?_) (fun hc3 => ?_)
    ·simp at hc3
     have hsl : 0 < s.length := by first | exact hc3 | exact List.length_pos_iff.2 hc3
     obtain ⟨b, hb⟩ : ∃ b, s[i % s.length]? = some b := ⟨_, List.getElem?_eq_getElem (Nat.mod_lt _ hsl)⟩
     obtain ⟨b0, b1⟩ := hs b (List.mem_of_getElem? hb)
     obtain ⟨m, rfl⟩ : ∃ m : Nat, b = m := ⟨b.toNat, by omega⟩
     have hw : IntKind.i64.wrap (m : Int) = m := wrap64 (by omega) (by omega)
     have htm : (i : Int).tmod s.length = (i : Int) % s.length := Int.tmod_eq_emod_of_nonneg (by omega)
     have htm2 : (m : Int).tmod ((poss g (afterL g (freshK g) p)).length : Int) = (m : Int) % (poss g (afterL g (freshK g) p)).length := Int.tmod_eq_emod_of_nonneg (by omega)
     have hm1 : 0 ≤ (i : Int) % (s.length : Int) := Int.emod_nonneg _ (by omega)
     have hm2 : ((i : Int) % (s.length : Int)).toNat = i % s.length := by rw [← Int.natCast_emod]; exact Int.toNat_natCast _
     have hs0 : ¬ s = [] := List.length_pos_iff.1 hsl
     have hpi0 : (m : Int) % ((poss g (afterL g (freshK g) p)).length : Int) = (pickI s i (poss g (afterL g (freshK g) p)).length : Nat) := by simp [pickI, hb]
     refine .reg ?_
     simp [hs0, hb, hw, htm, htm2, hc2, hm1, hm2]
     refine hK15 _ (Wk.cov ?_ (.refl _))
     simp [hpi0]
    ·simp at hc3
     have hpi0 : (0 : Int) = (pickI s i (poss g (afterL g (freshK g) p)).length : Nat) := by simp [pickI, hc3]
     refine .skip ?_
     refine hK15 _ (Wk.cov ?_ (.refl _))
     simp [hpi0]
   try simp only [E_cons, E_nil]
   have hpos : (0 : Int) ≤ (pickI s i (poss g (afterL g (freshK g) p)).length : Nat) := by omega
   have z1 : (p.length + 1) * 16 ≤ 17592186044416 := by omega
   have z2 : p.length + 1 ≤ 17592186044416 := by omega
   have zz : ¬ (p.length + 1 ≤ p.length) := by omega
   have tk : List.take p.length (List.map Oprn.c p) = List.map Oprn.c p := List.take_of_length_le (by simp)
   refine .reg ?_
   simp [hpos, hpk, getBlk, upd, h5, srcOf, z1, z2, zz, tk]
   refine hK8 _ ?_
   clear hK8 K8
   refine .keep [1, 2, 5, 6] ?_
   simp only [keepE, E_cons, E_nil]
   refine .reg ?_
   simp
   refine hK5 _ _ (by omega) (Wk.cov ?_ (.refl _)) ⟨p ++ [pickO s i (poss g (afterL g (freshK g) p))], v + 1, p.length + 1, _, validL_snoc hvp (poss_mem (List.mem_of_getElem? hpk)), by simp [hpl], ?_, ?_, rfl⟩
   ·simp; exact wrap64 (by omega) (by omega)
   ·rw [← hmd, hfu, madeL, if_neg hc2, show 200 - (i + 1) = 200 - i - 1 by omega]
   ·simp [upd, dl_snoc]
 ·simp at hc1
  obtain rfl : i = 200 := by omega
  have hfin : madeL g s 200 0 [] = p := by rw [← hmd]; rfl
  refine .exit ?_
  try simp only [then', inBlk, if_true, if_false, reduceIte, Nat.reduceEqDiff]
  refine hK3 _ ?_
  clear hK6 hK5 hK3 K6 K5 K3
  refine .seqk fun K17 hK17 => ?_
  refine .reg ?_
  simp
  refine hK17 _ ?_
  clear hK17 K17
  refine .keep [4] ?_
  simp only [keepE, E_cons, E_nil]
  refine .ret ?_
  try simp only [then', inBlk]
  refine ret_m (.inr rfl) (r := .sl 1000001 v 0 p.length c) (by simp) (by simp) ⟨v, c, by rw [hfin], by rw [hfin]; exact h5⟩
end Go.Abs
set_option linter.unusedVariables false
set_option linter.unusedSimpArgs false
namespace Go.Abs
open Go Go.Proofs
theorem inI_iffA {n m : Int} : inI n m = true ↔ 0 ≤ n ∧ n < m := by simp [inI]
theorem frzX {h : Heap} {B v n c k : Nat} (xs : List (List D)) (hB : lim ≤ B) (hl : h B = ⟨v, some ⟨k, dl xs⟩⟩) (hn : n = xs.length) : T (outer h) (outer (deadH h)) some (.sl B v 0 n c) (.d (.slice xs)) :=
 T.rowD (k := k) xs (by simp only [outer, Nat.not_lt.2 hB, if_false]; exact hl) (deadH_live h B) hn
theorem p36 (g : Graph) (s : List Int) (hv : gErr g = 0) (hm : s.length ≤ 1000000) (hs : ∀ n ∈ s, byteI n) : PCall Tryz.prog 36 [ag (Graph.c g), sl (s.map U8.c)] (sl ((madeL g s 200 0 []).map Oprn.c)) := by
 refine PCall.frame rfl rfl ((m36 g s hv hm hs).see ?_)
 rintro _ h' ⟨v, c, rfl, e1⟩
 exact ⟨_, deadH h', deadH_dies h', frzX _ (by decide) e1 (by simp), rfl, deadH_ok h', rfl⟩
theorem cnt_set : ∀ (l : List Bool) (i : Nat), (l.set i true).count false ≤ l.count false
 | [], i => by simp
 | x :: l, 0 => by cases x <;> simp
 | x :: l, i + 1 => by have := cnt_set l i; cases x <;> simp <;> omega
theorem cnt_set_lt : ∀ (l : List Bool) (i : Nat), l[i]? = some false → (l.set i true).count false < l.count false
 | [], i, h => by simp at h
 | x :: l, 0, h => by simp at h; subst h; simp
 | x :: l, i + 1, h => by have := cnt_set_lt l i (by simpa using h); cases x <;> simp <;> omega
def unk (k : Kn) : Nat := k.ns.count false + k.es.count false
theorem getD_f {l : List Bool} {i : Nat} (hi : i < l.length) (h : (l[i]?).getD false = false) : l[i]? = some false := by
 rw [List.getElem?_eq_getElem hi] at h ⊢
 simpa using h
theorem step_unk {g : Graph} {k : Kn} {o : Oprn} (hf : k.fits g) (h : stepE g k o = 0) : unk (afterK g k o) < unk k ∧ allK k = false := by
 unfold stepE at h
 split at h
 ·rename_i h1
  split at h
  ·cases h
  ·rename_i h2
   split at h
   ·cases h
   ·rename_i h3
    have h2' : inI o.el g.nodes.length = true := by simpa using h2
    obtain ⟨k0, k1⟩ := inI_iffA.1 h2'
    have hl : o.el.toNat < k.ns.length := by rw [hf.1]; omega
    have hg : k.ns[o.el.toNat]? = some false := getD_f hl (by simpa [endK] using h3)
    refine ⟨?_, ?_⟩
    ·have := cnt_set_lt _ _ hg
     simp only [unk, afterK, if_pos h1]
     omega
    ·unfold allK
     rw [Bool.and_eq_false_iff]
     refine .inl ?_
     rw [Bool.eq_false_iff]
     intro hc
     have := List.all_eq_true.1 hc false (List.mem_of_getElem? hg)
     cases this
 ·rename_i h1
  split at h
  ·split at h
   ·cases h
   ·rename_i h2
    have h2' : inI o.el g.edges.length = true := by simpa using h2
    obtain ⟨k0, k1⟩ := inI_iffA.1 h2'
    split at h
    ·cases h
    ·rename_i x hx
     split at h
     ·cases h
     ·rename_i h3
      simp only [Bool.or_eq_true, not_or] at h3
      have hl : o.el.toNat < k.es.length := by rw [hf.2]; omega
      have hg : k.es[o.el.toNat]? = some false := getD_f hl (by simpa using h3.1.1)
      refine ⟨?_, ?_⟩
      ·have c1 := cnt_set_lt _ _ hg
       have c2 := cnt_set k.ns x.src.toNat
       have c3 := cnt_set (k.ns.set x.src.toNat true) x.tgt.toNat
       simp only [unk, afterK, if_neg h1, hx]
       omega
      ·unfold allK
       rw [Bool.and_eq_false_iff]
       refine .inr ?_
       rw [Bool.eq_false_iff]
       intro hc
       have := List.all_eq_true.1 hc false (List.mem_of_getElem? hg)
       cases this
  ·cases h
theorem afterL_snoc (g : Graph) (k : Kn) (l : List Oprn) (o : Oprn) : afterL g k (l ++ [o]) = afterK g (afterL g k l) o := by simp [afterL]
theorem afterL_fits {g : Graph} : ∀ {l : List Oprn} {k : Kn}, k.fits g → (afterL g k l).fits g
 | [], k, h => h
 | o :: l, k, h => afterL_fits (l := l) (afterK_fits h o)
theorem planE_valid {g : Graph} : ∀ {l : List Oprn} {k : Kn}, validL g k l → planE g k l = if allK (afterL g k l) then 0 else 20
 | [], k, _ => rfl
 | o :: l, k, ⟨h1, h2⟩ => by
  rw [planE, if_neg (by simp [h1]), planE_valid h2]
  rfl
def endsOK (g : Graph) (p : List Oprn) : Prop := p = [] ∨ ∃ q o, p = q ++ [o] ∧ validL g (freshK g) q ∧ stepE g (afterL g (freshK g) q) o = 0
theorem madeL_ok (g : Graph) (s : List Int) : ∀ (f t : Nat) (p : List Oprn), validL g (freshK g) p → endsOK g p → unk (afterL g (freshK g) p) < f →
  validL g (freshK g) (madeL g s f t p) ∧ endsOK g (madeL g s f t p) ∧ poss g (afterL g (freshK g) (madeL g s f t p)) = []
 | 0, t, p, _, _, h => by omega
 | f + 1, t, p, hv, he, h => by
  rw [madeL]
  split
  ·rename_i h0
   exact ⟨hv, he, h0⟩
  ·rename_i h0
   have hk := pickO_mem (s := s) (t := t) h0
   have hs := poss_mem (List.mem_of_getElem? hk)
   have hu := (step_unk (afterL_fits (l := p) (freshK_fits g)) hs).1
   refine madeL_ok g s f (t + 1) _ (validL_snoc hv hs) (.inr ⟨p, _, rfl, hv, hs⟩) ?_
   rw [afterL_snoc]
   omega
theorem mem_possI {g : Graph} {k : Kn} {kd : Int} {n i : Nat} (hi : i < n) (h : stepE g k ⟨kd, (i : Int)⟩ = 0) : (⟨kd, (i : Int)⟩ : Oprn) ∈ possI g k kd n := by
 simp only [possI, List.mem_filter, List.mem_map, List.mem_range, decide_eq_true_eq]
 exact ⟨⟨i, hi, rfl⟩, h⟩
theorem all_get {l : List Bool} (h : l.all id = false) : ∃ i : Nat, l[i]? = some false := by
 rw [List.all_eq_false] at h
 obtain ⟨x, hx, hn⟩ := h
 obtain ⟨i, hi⟩ := List.getElem?_of_mem hx
 cases x with
 | true => exact absurd rfl hn
 | false => exact ⟨i, hi⟩
theorem all_getT {l : List Bool} (h : l.all id = true) {i : Nat} (hi : i < l.length) : l[i]? = some true := by
 rw [List.getElem?_eq_getElem hi]
 have := List.all_eq_true.1 h l[i] (List.getElem_mem hi)
 simpa using this
theorem poss_nil {g : Graph} {k : Kn} (hf : k.fits g) (hv : gErr g = 0) (h : poss g k = []) : allK k = true := by
 have hmem : ∀ kd : Nat, kd < 3 → ∀ i : Nat, i < maxN g → stepE g k ⟨(kd : Int) + 1, (i : Int)⟩ ≠ 0 := by
  intro kd hkd i hi hs
  have hm := mem_possI (kd := (kd : Int) + 1) hi hs
  have : (⟨(kd : Int) + 1, (i : Int)⟩ : Oprn) ∈ poss g k := by
   simp only [poss, possK, List.mem_append]
   match kd, hkd with
   | 0, _ => exact .inl (.inl (.inr hm))
   | 1, _ => exact .inl (.inr hm)
   | 2, _ => exact .inr hm
  rw [h] at this
  cases this
 unfold allK
 cases hn : k.ns.all id with
 | false =>
  exfalso
  obtain ⟨i, hi⟩ := all_get hn
  have hlt := (List.getElem?_eq_some_iff.1 hi).1
  rw [hf.1] at hlt
  refine hmem 0 (by decide) i (by unfold maxN; omega) ?_
  have hin : inI (i : Int) g.nodes.length = true := inI_iffA.2 ⟨by omega, by omega⟩
  simp [stepE, hin, endK, hi]
 | true =>
  rw [Bool.true_and]
  cases he : k.es.all id with
  | true => rfl
  | false =>
   exfalso
   obtain ⟨i, hi⟩ := all_get he
   have hlt := (List.getElem?_eq_some_iff.1 hi).1
   rw [hf.2] at hlt
   refine hmem 2 (by decide) i (by unfold maxN; omega) ?_
   have hin : inI (i : Int) g.edges.length = true := inI_iffA.2 ⟨by omega, by omega⟩
   obtain ⟨x, hx⟩ : ∃ x, g.edges[i]? = some x := ⟨g.edges[i], by simp [hlt]⟩
   obtain ⟨i1, i2⟩ := gErr_edge hv (List.mem_of_getElem? hx)
   obtain ⟨i10, i11⟩ := inI_iffA.1 i1
   obtain ⟨i20, i21⟩ := inI_iffA.1 i2
   have e1 : k.ns[x.src.toNat]? = some true := all_getT hn (by rw [hf.1]; omega)
   have e2 : k.ns[x.tgt.toNat]? = some true := all_getT hn (by rw [hf.1]; omega)
   simp [stepE, hin, hx, hi, endK, e1, e2]
theorem fresh_unk (g : Graph) : unk (freshK g) = g.nodes.length + g.edges.length := by simp [unk, freshK]
end Go.Abs
