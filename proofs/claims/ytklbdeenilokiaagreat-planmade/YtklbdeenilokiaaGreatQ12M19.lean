/- Contracts of functions of the program, and what they lean on: a part of the proof that planMade_proved stands; no condition. -/
import Derived.Test.YtklbdeenilokiaaGreatProg
import Derived.Test.YtklbdeenilokiaaGreatQ12M16
import Derived.Test.YtklbdeenilokiaaGreatQ12A3
import Derived.Test.YtklbdeenilokiaaGreatQ12M8
set_option linter.unusedVariables false
set_option linter.unusedSimpArgs false
namespace Go.Abs
open Go Go.Proofs
theorem p43 (g : Graph) (l : List Oprn) (hm : l.length ≤ 9223372036854775807) : PCall Tryz.prog 43 [ag (Graph.c g), sl (l.map Oprn.c)] (int (planV g l)) := by
 intro h
 refine ACall.of b43 (by simp) ?_
 unfold c43
 refine .seqk fun K1 hK1 => ?_
 refine .reg ?_
 simp
 refine hK1 _ ?_
 clear hK1 K1
 refine .keep [1, 2] ?_
 simp only [keepE, E_cons, E_nil, reduceIte, Nat.reduceEqDiff]
 refine .see (upd _ 2 ⟨_, none⟩) [(1, sl (l.map Oprn.c)), (2, .dptr (Graph.c g))] ⟨.refl _, T.box (k := 2) (cs := Graph.c g) (by simp [upd]) (by simp [upd]), trivial⟩ (Dies.up (Dies.refl _) (.inr ⟨rfl, Nat.le_refl _⟩)) ?_
 refine .seqk fun K2 hK2 => ?_
 refine .seqk fun K3 hK3 => ?_
 refine .reg ?_
 refine Sq.cutk 2 fun K4 hK4 => ?_
 simp only [List.take_succ_cons, List.take_zero, List.drop_succ_cons, List.drop_zero]
 simp
 refine PCall.sq (p96 g) fun h1 he1 => ?_
 simp only [mergeH_eq he1]
 clear he1 h1
 refine hK4 _ ?_
 clear hK4 K4
 simp
 refine hK3 _ ?_
 clear hK3 K3
 refine .keep [1, 2, 5] ?_
 simp only [keepE, E_cons, E_nil, reduceIte, Nat.reduceEqDiff]
 refine .seqk fun K5 hK5 => ?_
 refine .reg ?_
 simp
 refine hK5 _ ?_
 clear hK5 K5
 refine .condk _ rfl (fun hc1 => ?_) (fun hc1 => ?_)
 ·simp at hc1
  refine .seqk fun K6 hK6 => ?_
  refine .reg ?_
  simp
  refine hK6 _ ?_
  clear hK6 K6
  refine .ret ?_
  -- leaf 1
  refine ret_d (.inr rfl) rfl (.refl _) rfl (by first | exact OutEq.outer _ | assumption | (simp; done) | (simp; assumption)) ?_
  simp [planV, hc1]
 ·simp at hc1
  refine .skip ?_
  refine hK2 _ ?_
  clear hK2 K2
  refine .seqk fun K7 hK7 => ?_
  refine .reg ?_
  refine Sq.cutk 3 fun K8 hK8 => ?_
  simp only [List.take_succ_cons, List.take_zero, List.drop_succ_cons, List.drop_zero]
  simp
  refine PCall.sq (p85 g l hc1 hm) fun h1 he1 => ?_
  simp only [mergeH_eq he1]
  clear he1 h1
  refine hK8 _ ?_
  clear hK8 K8
  simp
  refine hK7 _ ?_
  clear hK7 K7
  refine .keep [4] ?_
  simp only [keepE, E_cons, E_nil, reduceIte, Nat.reduceEqDiff]
  refine .ret ?_
  -- leaf 2
  refine ret_d (.inr rfl) rfl (.refl _) rfl (by first | exact OutEq.outer _ | assumption | (simp; done) | (simp; assumption)) ?_
  simp [planV, hc1]
end Go.Abs
set_option linter.unusedVariables false
set_option linter.unusedSimpArgs false
namespace Go.Abs
open Go Go.Proofs
structure DEdge where
 ty : Int
 src : Int
 tgt : Int
structure Draft where
 nodes : List Int
 edges : List DEdge
def U8.c (n : Int) : List D := [.int .u8 n]
attribute [simp] U8.c
def DEdge.c (e : DEdge) : List D := [.int .u8 e.ty, .int .u8 e.src, .int .u8 e.tgt]
attribute [simp] DEdge.c
def Draft.c (d : Draft) : List D := [.slice (d.nodes.map U8.c), .slice (d.edges.map DEdge.c)]
attribute [simp] Draft.c
theorem tmod_bd {a b : Int} (ha : 0 ≤ a) (hb : 0 < b) : 0 ≤ a.tmod b ∧ a.tmod b < b := ⟨Int.tmod_nonneg _ ha, Int.tmod_lt_of_pos _ hb⟩
def byteI (n : Int) : Prop := 0 ≤ n ∧ n ≤ 255
def Draft.ok (d : Draft) : Prop := (∀ n ∈ d.nodes, byteI n) ∧ ∀ e ∈ d.edges, byteI e.ty ∧ byteI e.src ∧ byteI e.tgt
def mN (d : Draft) (i : Nat) : List Int := (d.nodes.take i).map fun n => n.tmod 3
def mE (d : Draft) (i : Nat) : List Edge := (d.edges.take i).map fun e => ⟨e.ty.tmod 2, e.src.tmod (d.nodes.length : Int), e.tgt.tmod (d.nodes.length : Int)⟩
def madeG (d : Draft) : Graph := ⟨mN d d.nodes.length, if d.nodes.length = 0 then [] else mE d d.edges.length⟩
theorem mN_s {d : Draft} {i : Nat} {x : Int} (hx : d.nodes[i]? = some x) : (mN d (i + 1)).map I.c = (mN d i).map I.c ++ [[.int .i64 (x.tmod 3)]] := by
 simp [mN, List.take_add_one, hx]
theorem mE_s {d : Draft} {i : Nat} {x : DEdge} (hx : d.edges[i]? = some x) : (mE d (i + 1)).map Edge.c = (mE d i).map Edge.c ++ [[.int .i64 (x.ty.tmod 2), .int .i64 (x.src.tmod (d.nodes.length : Int)), .int .i64 (x.tgt.tmod (d.nodes.length : Int))]] := by
 simp [mE, List.take_add_one, hx]
theorem mN_len {d : Draft} {i : Nat} (h : i ≤ d.nodes.length) : (mN d i).length = i := by simp [mN]; omega
theorem mE_len {d : Draft} {i : Nat} (h : i ≤ d.edges.length) : (mE d i).length = i := by simp [mE]; omega
theorem AW.dregvx {α : Type} {P : Program} {N : Nat} {Q : AX → St → Prop} {e : Env} {h : Heap} {ops : List GOp} {un : List (Nat × Nat)} (hm : P.follows .mixedOrders = true) (pre : α → Prop) (h' : α → Heap → Heap) (l : α → Env → List (Nat × AV))
  (ho : Dr P ops ⟨e, h⟩ fun s fs => conf un fs = true ∧ ∃ x, pre x ∧ Cov (l x e) s.env ∧ Dies s.h (h' x h)) (hw : ∀ x, pre x → ∀ s, Wk s ⟨E (l x e), h' x h⟩ → Q .normal s) : AW P N (.dreg ops un) Q ⟨e, h⟩ :=
 .dreg hm (ho.mono fun s fs ⟨h0, x, h1, h2, h3⟩ => ⟨h0, hw x h1 s (Wk.cov (env := s.env) (h := s.h) h2 h3)⟩)
theorem AW.regvx {α : Type} {P : Program} {N : Nat} {Q : AX → St → Prop} {e : Env} {h : Heap} {ops : List GOp} (pre : α → Prop) (h' : α → Heap → Heap) (l : α → Env → List (Nat × AV))
  (ho : Sq P ops ⟨e, h⟩ fun s => ∃ x, pre x ∧ Cov (l x e) s.env ∧ Dies s.h (h' x h)) (hw : ∀ x, pre x → ∀ s, Wk s ⟨E (l x e), h' x h⟩ → Q .normal s) : AW P N (.reg ops) Q ⟨e, h⟩ :=
 .reg ((Sq.mono ho) fun s ⟨x, h1, h2, h3⟩ => hw x h1 s (Wk.cov (env := s.env) (h := s.h) h2 h3))
/-- A row that is nil or lies in block b. -/
def rowOK (b k : Nat) (hh : Heap) (x : AV) (xs : List (List D)) : Prop := (x = .d .nil ∧ xs = []) ∨ ∃ v c, x = .sl b v 0 xs.length c ∧ hh b = ⟨v, some ⟨k, dl xs⟩⟩
theorem rowOK.T {b k : Nat} {hh : Heap} {x : AV} {xs : List (List D)} (hr : rowOK b k hh x xs) (hb : b < lim) : T hh (outer hh) some x (.d (.slice xs)) := by
 rcases hr with ⟨rfl, rfl⟩ | ⟨v, c, rfl, hl⟩
 ·exact .d _ _ .nil
 ·exact T.row hb hl rfl
theorem p52 (d : Draft) (hd : d.ok) (hn : d.nodes.length ≤ 8) (he : d.edges.length ≤ 10) : PCall Tryz.prog 52 [ag (Draft.c d)] (ag (Graph.c (madeG d))) := by
 intro h
 refine ACall.of b52 (by simp) ?_
 unfold c52
 refine .seqk fun K1 hK1 => ?_
 refine .reg ?_
 simp
 refine hK1 _ ?_
 clear hK1 K1
 refine .keep [1, 2, 13, 14] ?_
 simp only [keepE, E_cons, E_nil, reduceIte, Nat.reduceEqDiff]
 refine .see (upd (upd _ 1 ⟨_, none⟩) 2 _) [(1, .dptr (Draft.c d)), (2, .ptr 2 _ 0 0)] ⟨T.box (k := 2) (cs := Draft.c d) (by simp [upd]) (by simp [upd]), .refl _, trivial⟩ (Dies.up (Dies.up (Dies.refl _) (.inr ⟨rfl, Nat.le_refl _⟩)) (.inl rfl)) ?_
 refine .seqk fun K2 hK2 => ?_
 refine .reg ?_
 simp
 refine hK2 _ ?_
 clear hK2 K2
 refine .seqk fun K3 hK3 => ?_
 refine .seqk fun K4 hK4 => ?_
 refine .reg ?_
 simp
 refine hK4 _ ?_
 clear hK4 K4
 refine .block ?_
 refine .count d.nodes.length (fun i st => ∃ x hh, OutEq hh h ∧ hh 2 = ⟨(outer h 2).ver + 1, some ⟨2, [[.d .nil, .d .nil]]⟩⟩ ∧ hh 3 = ⟨(outer h 3).ver + 1, some ⟨2, [[x, .d .nil]]⟩⟩ ∧ rowOK 28 1 hh x ((mN d i).map I.c) ∧ st = ⟨E [(4, int i), (1, .dptr (Draft.c d)), (2, .ptr 2 ((outer h 2).ver + 1) 0 0), (3, .ptr 3 ((outer h 3).ver + 1) 0 0)], hh⟩) 0 (Nat.zero_le _) _ (.cov (by simp [upd]) (.refl _)) ⟨.d .nil, _, by simp, by simp [upd], by simp [upd], .inl ⟨rfl, by simp [mN]⟩, rfl⟩ ?_
 rintro i s hi1 ⟨x, hh, hho, h2, h3, hr, rfl⟩ K5 hK5
 refine .seqk fun K6 hK6 => ?_
 refine .seqreg (fun hh => hh) (fun ee => [(1, ee 1), (2, ee 2), (3, ee 3), (4, ee 4), (15, bo (decide (i < d.nodes.length)))]) ?_ ?_
 ·by_cases h1 : i < d.nodes.length
  ·have : (i : Int) < 8 := by omega
   simp [h1, this]
  ·simp [h1]
 try simp only [E_cons, E_nil, reduceIte, Nat.reduceEqDiff]
 refine .condk _ rfl (fun hc1 => ?_) (fun hc1 => ?_)
 ·simp at hc1
  obtain ⟨y, hy⟩ := get_some hc1
  obtain ⟨y0, y1⟩ := hd.1 y (List.mem_of_getElem? hy)
  have hq := tmod_bd y0 (show (0 : Int) < 3 by omega)
  have hw : IntKind.i64.wrap (y.tmod 3) = y.tmod 3 := wrap64 (by omega) (by omega)
  refine .skip ?_
  refine hK6 _ ?_
  clear hK6 K6
  refine .seqk fun K7 hK7 => ?_
  refine .block ?_
  refine .dregvx mixed (α := Nat × Nat) (fun x2 => True) (fun x2 hh => upd (upd (upd hh 27 ⟨(hh 27).ver + 1, none⟩) 28 ⟨x2.1, some ⟨1, dl ((mN d (i + 1)).map I.c)⟩⟩) 3 ⟨(outer h 3).ver + 1, some ⟨2, [[.sl 28 x2.1 0 (i + 1) x2.2, .d .nil]]⟩⟩) (fun x2 ee => [(1, ee 1), (2, ee 2), (3, ee 3), (4, ee 4), (13, ee 13), (14, ee 14)]) ?_ (fun x2 hx s hs => ?_)
  ·have key : dl ((mN d (i + 1)).map I.c) = dl ((mN d i).map I.c) ++ [[.d (.int .i64 (y.tmod 3))]] := by rw [mN_s hy, dl_snoc]; rfl
   have hl := mN_len hi1
   rcases hr with ⟨rfl, hx0⟩ | ⟨v, c, rfl, h28⟩
   ·rw [hx0] at key
    have hi0 : i = 0 := by have := congrArg List.length hx0; simpa [hl] using this
    subst hi0
    simp [h3, hy, upd, getBlk, srcOf, hw]
    rw [key]
    exact ⟨_, _, Dies.up (Dies.up (Dies.up (Dies.refl _) (.inr ⟨rfl, Nat.le_refl _⟩)) (.inl rfl)) (.inl rfl)⟩
   ·have z1 : (i + 1) * 8 ≤ 17592186044416 := by omega
    have z2 : i ≤ 17592186044415 := by omega
    have zz : ¬ (i + 1 ≤ i) := by omega
    have tk : List.take i (List.map I.c (mN d i)) = List.map I.c (mN d i) := List.take_of_length_le (by simp [hl])
    simp [h3, hy, upd, getBlk, srcOf, hw, h28, hl, z1, z2, zz, tk]
    rw [key]
    exact ⟨_, _, Dies.up (Dies.up (Dies.up (Dies.refl _) (.inr ⟨rfl, Nat.le_refl _⟩)) (.inl rfl)) (.inl rfl)⟩
  refine hK7 _ (.weak hs ?_)
  clear hK7 K7 hs s
  try simp only [E_cons, E_nil, reduceIte, Nat.reduceEqDiff]
  refine .reg ?_
  simp
  -- loop back, leaf 1
  refine hK5 _ _ (by omega) (Wk.cov ?_ (.refl _)) ⟨.sl 28 x2.1 0 (i + 1) x2.2, _, ?_, ?_, ?_, ?_, rfl⟩
  ·simp; exact wrap64 (by omega) (by omega)
  ·simp [hho]
  ·simp [upd, h2]
  ·simp [upd]
  ·exact .inr ⟨_, _, by rw [List.length_map, mN_len hc1], by simp [upd]⟩
 ·simp at hc1
  obtain rfl : i = d.nodes.length := by omega
  refine .exit ?_
  try simp only [then', inBlk, if_true, if_false, reduceIte, Nat.reduceEqDiff]
  refine hK3 _ ?_
  clear hK6 hK5 hK3 K6 K5 K3
  refine .seqreg (fun hh => hh) (fun ee => [(1, ee 1), (2, ee 2), (3, ee 3), (5, int d.nodes.length)]) ?_ ?_
  ·rcases hr with ⟨rfl, hx0⟩ | ⟨v, c, rfl, h28⟩
   ·have h0 : d.nodes.length = 0 := by have := congrArg List.length hx0; simp [mN_len] at this; simp [this]
    simp [h3, getBlk, h0]
   ·simp [h3, getBlk, h28, mN_len]
  try simp only [E_cons, E_nil, reduceIte, Nat.reduceEqDiff]
  refine .seqk fun K8 hK8 => ?_
  refine .seqk fun K9 hK9 => ?_
  refine .reg ?_
  simp
  refine hK9 _ ?_
  clear hK9 K9
  refine .block ?_
  refine .count d.edges.length (fun i st => ∃ y hh, OutEq hh h ∧ (d.nodes.length = 0 → i = 0) ∧ hh 2 = ⟨(outer h 2).ver + 1, some ⟨2, [[.d .nil, .d .nil]]⟩⟩ ∧ hh 3 = ⟨(outer h 3).ver + 1, some ⟨2, [[x, y]]⟩⟩ ∧ rowOK 28 1 hh x ((mN d d.nodes.length).map I.c) ∧ rowOK 78 3 hh y ((mE d i).map Edge.c) ∧ st = ⟨E [(6, int i), (5, int d.nodes.length), (1, .dptr (Draft.c d)), (2, .ptr 2 ((outer h 2).ver + 1) 0 0), (3, .ptr 3 ((outer h 3).ver + 1) 0 0)], hh⟩) 0 (Nat.zero_le _) _ (.cov (by simp) (.refl _)) ⟨_, _, hho, by simp, h2, h3, hr, .inl ⟨rfl, by simp [mE]⟩, rfl⟩ ?_
  rintro i s hi2 ⟨y, hh, hho, hz, h2, h3, hr, hs, rfl⟩ K10 hK10
  refine .seqk fun K11 hK11 => ?_
  refine .seqreg (fun hh => hh) (fun ee => [(1, ee 1), (2, ee 2), (3, ee 3), (5, ee 5), (6, ee 6), (45, bo (decide (i < d.edges.length) && decide (0 < d.nodes.length)))]) ?_ ?_
  ·by_cases h1 : i < d.edges.length
   ·have : (i : Int) < 10 := by omega
    simp [h1, this]
   ·simp [h1]
  try simp only [E_cons, E_nil, reduceIte, Nat.reduceEqDiff]
  refine .condk _ rfl (fun hc2 => ?_) (fun hc2 => ?_)
  ·simp at hc2
   obtain ⟨hc2, hn0⟩ := hc2
   obtain ⟨z, hzz⟩ := get_some hc2
   obtain ⟨⟨a0, a1⟩, ⟨b0, b1⟩, ⟨c0, c1⟩⟩ := hd.2 z (List.mem_of_getElem? hzz)
   have w1 := tmod_bd a0 (show (0 : Int) < 2 by omega)
   have w2 := tmod_bd b0 (show (0 : Int) < d.nodes.length by omega)
   have w3 := tmod_bd c0 (show (0 : Int) < d.nodes.length by omega)
   have u1 : IntKind.i64.wrap (z.ty.tmod 2) = z.ty.tmod 2 := wrap64 (by omega) (by omega)
   have u2 : IntKind.i64.wrap z.src = z.src := wrap64 (by omega) (by omega)
   have u3 : IntKind.i64.wrap z.tgt = z.tgt := wrap64 (by omega) (by omega)
   have u4 : ¬ d.nodes.length = 0 := by omega
   refine .skip ?_
   refine hK11 _ ?_
   clear hK11 K11
   refine .seqk fun K12 hK12 => ?_
   refine .block ?_
   refine .dregvx mixed (α := Nat × Nat) (fun x2 => True) (fun x2 hh => upd (upd (upd hh 77 ⟨(hh 77).ver + 1, none⟩) 78 ⟨x2.1, some ⟨3, dl ((mE d (i + 1)).map Edge.c)⟩⟩) 3 ⟨(outer h 3).ver + 1, some ⟨2, [[x, .sl 78 x2.1 0 (i + 1) x2.2]]⟩⟩) (fun x2 ee => [(1, ee 1), (2, ee 2), (3, ee 3), (5, ee 5), (6, ee 6)]) ?_ (fun x2 hx s hs => ?_)
   ·have key : dl ((mE d (i + 1)).map Edge.c) = dl ((mE d i).map Edge.c) ++ [[.d (.int .i64 (z.ty.tmod 2)), .d (.int .i64 (z.src.tmod (d.nodes.length : Int))), .d (.int .i64 (z.tgt.tmod (d.nodes.length : Int)))]] := by rw [mE_s hzz, dl_snoc]; rfl
    have hl := mE_len hi2
    rcases hs with ⟨rfl, hx0⟩ | ⟨v, c, rfl, h28⟩
    ·rw [hx0] at key
     have hi0 : i = 0 := by have := congrArg List.length hx0; simpa [hl] using this
     subst hi0
     simp [h3, hzz, upd, getBlk, srcOf, u1, u2, u3, u4]
     rw [key]
     exact ⟨_, _, Dies.up (Dies.up (Dies.up (Dies.refl _) (.inr ⟨rfl, Nat.le_refl _⟩)) (.inl rfl)) (.inl rfl)⟩
    ·have z1 : (i + 1) * 24 ≤ 17592186044416 := by omega
     have z2 : i ≤ 17592186044415 := by omega
     have zz : ¬ (i + 1 ≤ i) := by omega
     have tk : List.take i (List.map Edge.c (mE d i)) = List.map Edge.c (mE d i) := List.take_of_length_le (by simp [hl])
     simp [h3, hzz, upd, getBlk, srcOf, u1, u2, u3, u4, h28, hl, z1, z2, zz, tk]
     rw [key]
     exact ⟨_, _, Dies.up (Dies.up (Dies.up (Dies.refl _) (.inr ⟨rfl, Nat.le_refl _⟩)) (.inl rfl)) (.inl rfl)⟩
   refine hK12 _ (.weak hs ?_)
   clear hK12 K12 hs s
   try simp only [E_cons, E_nil, reduceIte, Nat.reduceEqDiff]
   refine .reg ?_
   simp
   -- loop back, leaf 2
   refine hK10 _ _ (by omega) (Wk.cov ?_ (.refl _)) ⟨.sl 78 x2.1 0 (i + 1) x2.2, _, ?_, ?_, ?_, ?_, ?_, ?_, rfl⟩
   ·simp; exact wrap64 (by omega) (by omega)
   ·simp [hho]
   ·intro hn0; omega
   ·simp [upd, h2]
   ·simp [upd]
   ·simpa [rowOK, upd] using hr
   ·exact .inr ⟨_, _, by rw [List.length_map, mE_len hc2], by simp [upd]⟩
  ·simp at hc2
   have hes : (madeG d).edges = mE d i := by
    by_cases h0 : d.nodes.length = 0
    ·have := hz h0
     subst this
     simp [madeG, h0, mE]
    ·have : i = d.edges.length := by
      by_cases h1 : i < d.edges.length
      ·have := hc2 h1
       simp [this] at h0
      ·omega
     subst this
     simp [madeG, h0]
   have hns : (madeG d).nodes = mN d d.nodes.length := rfl
   refine .exit ?_
   try simp only [then', inBlk, if_true, if_false, reduceIte, Nat.reduceEqDiff]
   refine hK8 _ ?_
   clear hK11 hK10 hK8 K11 K10 K8
   refine .seqreg (fun hh => upd hh 2 ⟨(outer h 2).ver + 1, some ⟨2, [[x, y]]⟩⟩) (fun ee => [(2, ee 2)]) ?_ ?_
   ·rcases hr with ⟨rfl, _⟩ | ⟨v, c, rfl, _⟩ <;> rcases hs with ⟨rfl, _⟩ | ⟨v, c, rfl, _⟩ <;> simp [h2, h3, getBlk, upd]
   try simp only [E_cons, E_nil, reduceIte, Nat.reduceEqDiff]
   refine .ret ?_
   -- leaf 3
   refine ret_d (v := .agg [x, y]) (.inr rfl) ?_ (T.agg2 (rowOK.T (b := 28) (k := 1) (xs := (madeG d).nodes.map I.c) (by rw [hns]; simpa [rowOK, upd] using hr) (by decide)) (rowOK.T (b := 78) (k := 3) (xs := (madeG d).edges.map Edge.c) (by rw [hes]; simpa [rowOK, upd] using hs) (by decide))) rfl (by first | exact OutEq.outer _ | assumption | (simp; done) | (simp; assumption)) rfl
   simp [hns, hes]
end Go.Abs
set_option linter.unusedVariables false
set_option linter.unusedSimpArgs false
namespace Go.Abs
open Go Go.Proofs
def validL (g : Graph) : Kn → List Oprn → Prop
 | _, [] => True
 | k, o :: l => stepE g k o = 0 ∧ validL g (afterK g k o) l
def afterL (g : Graph) (k : Kn) (l : List Oprn) : Kn := l.foldl (afterK g) k
def possI (g : Graph) (k : Kn) (kd : Int) (i : Nat) : List Oprn := ((List.range i).map fun (j : Nat) => (⟨kd, (j : Int)⟩ : Oprn)).filter fun o => decide (stepE g k o = 0)
def maxN (g : Graph) : Nat := max g.nodes.length g.edges.length
def possK (g : Graph) (k : Kn) : Nat → List Oprn
 | 0 => []
 | q + 1 => possK g k q ++ possI g k ((q : Int) + 1) (maxN g)
def poss (g : Graph) (k : Kn) : List Oprn := possK g k 3
theorem possI_len (g : Graph) (k : Kn) (kd : Int) (i : Nat) : (possI g k kd i).length ≤ i := by
 refine Nat.le_trans (List.length_filter_le _ _) ?_
 simp
theorem possK_len (g : Graph) (k : Kn) : ∀ q, (possK g k q).length ≤ q * maxN g
 | 0 => by simp [possK]
 | q + 1 => by
  have h1 := possK_len g k q
  have h2 := possI_len g k ((q : Int) + 1) (maxN g)
  simp only [possK, List.length_append, Nat.succ_mul]
  omega
theorem possI_s (g : Graph) (k : Kn) (kd : Int) (i : Nat) : possI g k kd (i + 1) = possI g k kd i ++ (if stepE g k ⟨kd, (i : Int)⟩ = 0 then [⟨kd, (i : Int)⟩] else []) := by
 simp only [possI, List.range_succ, List.map_append, List.filter_append, List.map_cons, List.map_nil]
 by_cases h : stepE g k ⟨kd, (i : Int)⟩ = 0 <;> simp [h]
theorem maxN_lt (g : Graph) (i : Nat) : decide (i < maxN g) = (decide (i < g.nodes.length) || decide (i < g.edges.length)) := by
 have h : i < maxN g ↔ i < g.nodes.length ∨ i < g.edges.length := by unfold maxN; omega
 by_cases h1 : i < g.nodes.length <;> by_cases h2 : i < g.edges.length <;> simp [h, h1, h2]
theorem maxN_le {g : Graph} (h : gErr g = 0) : maxN g ≤ 80 := by
 have := gErr_len h
 simp only [maxN]
 omega
end Go.Abs
set_option linter.unusedVariables false
set_option linter.unusedSimpArgs false
namespace Go.Abs
open Go Go.Proofs
theorem m83 (g : Graph) (l : List Oprn) (h : Heap) (v1 c1 : Nat) (hv : gErr g = 0) (hm : l.length ≤ 1000000) (hvl : validL g (freshK g) l) (r1 : h 1000001 = ⟨v1, some ⟨2, dl (l.map Oprn.c)⟩⟩) : ACall Tryz.prog 83 [ag (Graph.c g), .sl 1000001 v1 0 l.length c1] h fun r' h' => r' = sl ((poss g (afterL g (freshK g) l)).map Oprn.c) ∧ OutEq h' h := by
 refine ACall.of b83 (by simp) ?_
 unfold c83
 have hgl := gErr_len hv
 refine .seqk fun K1 hK1 => ?_
 refine .reg ?_
 simp
 refine hK1 _ ?_
 clear hK1 K1
 refine .keep [1, 2] ?_
 simp only [keepE, E_cons, E_nil, reduceIte, Nat.reduceEqDiff]
 refine .see (upd _ 2 ⟨_, none⟩) [(1, .sl 1000001 v1 0 l.length c1), (2, .dptr (Graph.c g))] ⟨.refl _, T.box (k := 2) (cs := Graph.c g) (by simp [upd]) (by simp [upd]), trivial⟩ (Dies.up (Dies.refl _) (.inr ⟨rfl, Nat.le_refl _⟩)) ?_
 refine .seqk fun K2 hK2 => ?_
 refine .reg ?_
 refine Sq.cutk 2 fun K3 hK3 => ?_
 simp only [List.take_succ_cons, List.take_zero, List.drop_succ_cons, List.drop_zero]
 simp
 refine PCall.sq (p130 g (by omega) (by omega)) fun h1 he1 => ?_
 simp only [mergeH_eq he1]
 clear he1 h1
 refine hK3 _ ?_
 clear hK3 K3
 simp
 refine hK2 _ ?_
 clear hK2 K2
 refine .keep [1, 2, 5] ?_
 simp only [keepE, E_cons, E_nil, reduceIte, Nat.reduceEqDiff]
 refine .seqk fun K4 hK4 => ?_
 refine .seqk fun K5 hK5 => ?_
 refine .reg ?_
 simp
 refine hK5 _ ?_
 clear hK5 K5
 refine .block ?_
 refine .count l.length (fun i st => ∃ k v hh, k.fits g ∧ validL g k (l.drop i) ∧ afterL g k (l.drop i) = afterL g (freshK g) l ∧ OutEq hh h ∧ hh 5 = ⟨v, some ⟨2, [(Kn.c k).map .d]⟩⟩ ∧ st = ⟨E [(6, int i), (1, .sl 1000001 v1 0 l.length c1), (2, .dptr (Graph.c g)), (5, .ptr 5 v 0 0)], hh⟩) 0 (Nat.zero_le _) _ (.cov (by simp; rfl) (.refl _)) ⟨freshK g, _, _, freshK_fits g, by simpa using hvl, by simp, by simp, by simp [upd], rfl⟩ ?_
 rintro i s hi1 ⟨k, v, hh, hf, hvk, hak, hho, h5, rfl⟩ K6 hK6
 refine .seqk fun K7 hK7 => ?_
 refine .seqk fun K8 hK8 => ?_
 have r2 : hh 1000001 = ⟨v1, some ⟨2, dl (l.map Oprn.c)⟩⟩ := by rw [hho _ (by decide)]; exact r1
 refine .reg ?_
 simp [getBlk, r2]
 refine hK8 _ ?_
 clear hK8 K8
 refine .keep [1, 2, 5, 6, 16] ?_
 simp only [keepE, E_cons, E_nil, reduceIte, Nat.reduceEqDiff]
 refine .condk _ rfl (fun hc1 => ?_) (fun hc1 => ?_)
 ·simp at hc1
  obtain ⟨x, hx⟩ := get_some hc1
  obtain ⟨hxl, hxe⟩ := List.getElem?_eq_some_iff.1 hx
  rw [drop_cons hx] at hvk hak
  refine .skip ?_
  refine hK7 _ ?_
  clear hK7 K7
  refine .seqk fun K9 hK9 => ?_
  refine .block ?_
  refine .dreg mixed ?_
  refine Dr.cutk 7 fun K10 hK10 => ?_
  simp only [List.take_succ_cons, List.take_zero, List.drop_succ_cons, List.drop_zero]
  simp [-Bool.exists_bool, hx, hxe, hc1, getBlk, h5, upd, r2, dl_getE]
  refine Dr.pcall (p131 g k x hf hv hvk.1) ?_
  refine hK10 _ _ ?_
  clear hK10 K10
  try simp [-Bool.exists_bool, hx, hxe, hc1, getBlk, h5, upd, r2, dl_getE]
  refine hK9 _ ?_
  clear hK9 K9
  refine .keep [1, 2, 5, 6] ?_
  simp only [keepE, E_cons, E_nil, reduceIte, Nat.reduceEqDiff]
  refine .reg ?_
  simp
  -- loop back, leaf 1
  refine hK6 _ _ (by omega) (Wk.cov ?_ (.refl _)) ⟨afterK g k x, v, upd hh 5 ⟨v, some ⟨2, [(Kn.c (afterK g k x)).map .d]⟩⟩, afterK_fits hf x, hvk.2, hak, by simp [hho], by simp [upd], rfl⟩
  ·simp; exact wrap64 (by omega) (by omega)
 ·simp at hc1
  obtain rfl : i = l.length := by omega
  obtain rfl : k = afterL g (freshK g) l := by simpa [afterL] using hak
  refine .exit ?_
  try simp only [then', inBlk, if_true, if_false, reduceIte, Nat.reduceEqDiff]
  refine hK4 _ ?_
  clear hK7 hK6 hK4 K7 K6 K4
  refine .seqk fun K11 hK11 => ?_
  refine .reg ?_
  simp
  refine hK11 _ ?_
  clear hK11 K11
  refine .keep [2, 5, 7] ?_
  simp only [keepE, E_cons, E_nil, reduceIte, Nat.reduceEqDiff]
  generalize afterL g (freshK g) l = k at *
  refine .see (upd _ 5 ⟨v, none⟩) [(2, .dptr (Graph.c g)), (5, .dptr (Kn.c k)), (7, .d .nil)] ⟨.refl _, T.box (k := 2) (cs := Kn.c k) h5 (by simp [upd]), .refl _, trivial⟩ (Dies.bump _ _ _ (by simp [h5])) ?_
  refine .seqk fun K12 hK12 => ?_
  refine .seqk fun K13 hK13 => ?_
  refine .reg ?_
  simp
  refine hK13 _ ?_
  clear hK13 K13
  refine .block ?_
  refine .count 3 (fun q st => ∃ x hh, OutEq hh h ∧ rowOK 55 2 hh x ((possK g k q).map Oprn.c) ∧ st = ⟨E [(8, int ((q : Int) + 1)), (7, x), (2, .dptr (Graph.c g)), (5, .dptr (Kn.c k))], hh⟩) 0 (Nat.zero_le _) _ (.cov (by simp) (.refl _)) ⟨.d .nil, _, by simp [hho], .inl ⟨rfl, rfl⟩, rfl⟩ ?_
  rintro q s hi2 ⟨x, hh, hho, hr, rfl⟩ K14 hK14
  refine .seqk fun K15 hK15 => ?_
  refine .seqk fun K16 hK16 => ?_
  refine .reg ?_
  simp
  refine hK16 _ ?_
  clear hK16 K16
  refine .condk _ rfl (fun hc2 => ?_) (fun hc2 => ?_)
  ·simp at hc2
   refine .skip ?_
   refine hK15 _ ?_
   clear hK15 K15
   refine .seqk fun K17 hK17 => ?_
   refine .block ?_
   refine .seqk fun K18 hK18 => ?_
   refine .reg ?_
   simp
   refine hK18 _ ?_
   clear hK18 K18
   refine .block ?_
   refine .count (maxN g) (fun i st => ∃ x hh, OutEq hh h ∧ rowOK 55 2 hh x ((possK g k q ++ possI g k ((q : Int) + 1) i).map Oprn.c) ∧ st = ⟨E [(9, int i), (8, int ((q : Int) + 1)), (7, x), (2, .dptr (Graph.c g)), (5, .dptr (Kn.c k))], hh⟩) 0 (Nat.zero_le _) _ (.cov (by simp) (.refl _)) ⟨x, hh, hho, by simpa [possI] using hr, rfl⟩ ?_
   rintro i s hi3 ⟨x, hh, hho, hr, rfl⟩ K19 hK19
   refine .seqk fun K20 hK20 => ?_
   refine .seqreg (fun hh => hh) (fun ee => [(2, ee 2), (5, ee 5), (7, ee 7), (8, ee 8), (9, ee 9), (41, bo (decide (i < maxN g)))]) ?_ ?_
   ·rw [maxN_lt]
    by_cases h1 : i < g.nodes.length <;> by_cases h2 : i < g.edges.length <;> simp [h1, h2]
   try simp only [E_cons, E_nil, reduceIte, Nat.reduceEqDiff]
   refine .condk _ rfl (fun hc3 => ?_) (fun hc3 => ?_)
   ·simp at hc3
    have hmx := maxN_le hv
    have hb1 := possK_len g k q
    have hb2 := possI_len g k ((q : Int) + 1) i
    have hq3 : q * maxN g ≤ 3 * maxN g := Nat.mul_le_mul_right _ (by omega)
    refine .skip ?_
    refine hK20 _ ?_
    clear hK20 K20
    refine .seqk fun K21 hK21 => ?_
    refine .block ?_
    refine .seqk fun K22 hK22 => ?_
    refine .reg ?_
    simp
    refine hK22 _ ?_
    clear hK22 K22
    refine .keep [2, 5, 7, 8, 9, 10] ?_
    simp only [keepE, E_cons, E_nil, reduceIte, Nat.reduceEqDiff]
    refine .see (upd _ 10 ⟨_, none⟩) [(2, .dptr (Graph.c g)), (5, .dptr (Kn.c k)), (7, x), (8, int ((q : Int) + 1)), (9, int i), (10, .dptr (Oprn.c ⟨(q : Int) + 1, i⟩))] ⟨.refl _, .refl _, .refl _, .refl _, .refl _, T.box (k := 2) (cs := Oprn.c ⟨(q : Int) + 1, i⟩) (by simp [upd]) (by simp [upd]), trivial⟩ (Dies.kill _ _ _ _) ?_
    refine .seqk fun K23 hK23 => ?_
    refine .reg ?_
    refine Sq.cutk 4 fun K24 hK24 => ?_
    simp only [List.take_succ_cons, List.take_zero, List.drop_succ_cons, List.drop_zero]
    simp
    refine PCall.sq (p132 g k ⟨(q : Int) + 1, i⟩ hf hv) fun h1 he1 => ?_
    simp only [mergeH_eq he1]
    clear he1 h1
    refine hK24 _ ?_
    clear hK24 K24
    simp
    refine hK23 _ ?_
    clear hK23 K23
    refine .keep [2, 5, 7, 8, 9, 10, 51] ?_
    simp only [keepE, E_cons, E_nil, reduceIte, Nat.reduceEqDiff]
    refine .condk _ rfl (fun hc4 => ?_) (fun hc4 => ?_)
    ·simp at hc4
     refine .regvx (α := Nat × Nat) (fun x2 => True) (fun x2 hh => upd (upd hh 54 ⟨(hh 54).ver + 1, none⟩) 55 ⟨x2.1, some ⟨2, dl ((possK g k q ++ possI g k ((q : Int) + 1) (i + 1)).map Oprn.c)⟩⟩) (fun x2 ee => [(2, ee 2), (5, ee 5), (7, .sl 55 x2.1 0 ((possK g k q ++ possI g k ((q : Int) + 1) i).length + 1) x2.2), (8, ee 8), (9, ee 9)]) ?_ (fun x2 hx s hs => ?_)
     ·have key : dl ((possK g k q ++ possI g k ((q : Int) + 1) (i + 1)).map Oprn.c) = dl ((possK g k q ++ possI g k ((q : Int) + 1) i).map Oprn.c) ++ [[.d (.int .i64 ((q : Int) + 1)), .d (.int .i64 i)]] := by
       rw [possI_s, if_pos hc4, ← List.append_assoc, List.map_append]
       simp only [List.map_cons, List.map_nil, dl_snoc]
       rfl
      have hlen : (possK g k q ++ possI g k ((q : Int) + 1) i).length ≤ 100000 := by rw [List.length_append]; have := Nat.mul_le_mul_left 3 hmx; omega
      rw [key]
      generalize possK g k q ++ possI g k ((q : Int) + 1) i = L at *
      rcases hr with ⟨rfl, hx0⟩ | ⟨v, c, rfl, h55⟩
      ·have hL : L = [] := by simpa using hx0
       subst hL
       simp [upd, getBlk, srcOf]
       exact Dies.up (Dies.up (Dies.refl _) (.inr ⟨rfl, Nat.le_refl _⟩)) (.inl rfl)
      ·have z1 : (L.length + 1) * 16 ≤ 17592186044416 := by omega
       have z2 : L.length ≤ 17592186044415 := by omega
       have zz : ¬ (L.length + 1 ≤ L.length) := by omega
       have tk : List.take L.length (List.map Oprn.c L) = List.map Oprn.c L := List.take_of_length_le (by simp)
       simp [upd, getBlk, srcOf, h55, z1, z2, zz, tk]
       exact Dies.up (Dies.up (Dies.refl _) (.inr ⟨rfl, Nat.le_refl _⟩)) (.inl rfl)
     refine hK21 _ (.weak hs ?_)
     clear hK21 K21 hs s
     try simp only [E_cons, E_nil, reduceIte, Nat.reduceEqDiff]
     refine .reg ?_
     simp
     -- loop back, leaf 2
     refine hK19 _ _ (by omega) (Wk.cov ?_ (.refl _)) ⟨.sl 55 x2.1 0 ((possK g k q ++ possI g k ((q : Int) + 1) (i + 1)).map Oprn.c).length x2.2, _, ?_, .inr ⟨x2.1, x2.2, rfl, by simp [upd]⟩, rfl⟩
     ·simp [possI_s, hc4]; exact ⟨wrap64 (by omega) (by omega), by omega⟩
     ·simp [hho]
    ·simp at hc4
     refine .skip ?_
     refine hK21 _ ?_
     clear hK21 K21
     refine .reg ?_
     simp
     -- loop back, leaf 3
     refine hK19 _ _ (by omega) (Wk.cov ?_ (.refl _)) ⟨x, _, ?_, ?_, rfl⟩
     ·simp; exact wrap64 (by omega) (by omega)
     ·simp [hho]
     ·rw [possI_s, if_neg hc4, List.append_nil]; simpa [rowOK, upd] using hr
   ·simp at hc3
    obtain rfl : i = maxN g := by omega
    refine .exit ?_
    try simp only [then', inBlk, if_true, if_false, reduceIte, Nat.reduceEqDiff]
    refine hK17 _ ?_
    clear hK20 hK19 hK17 K20 K19 K17
    refine .reg ?_
    simp
    -- loop back, leaf 4
    refine hK14 _ _ (by omega) (Wk.cov ?_ (.refl _)) ⟨x, hh, hho, ?_, rfl⟩
    ·simp; exact wrap64 (by omega) (by omega)
    ·exact hr
  ·simp at hc2
   obtain rfl : q = 3 := by omega
   refine .exit ?_
   try simp only [then', inBlk, if_true, if_false, reduceIte, Nat.reduceEqDiff]
   refine hK12 _ ?_
   clear hK15 hK14 hK12 K15 K14 K12
   refine .seqk fun K25 hK25 => ?_
   refine .reg ?_
   simp
   refine hK25 _ ?_
   clear hK25 K25
   refine .ret ?_
   -- leaf 5
   refine ret_d (.inr rfl) rfl (rowOK.T hr (by decide)) rfl (by first | exact OutEq.outer _ | assumption | (simp; done) | (simp; assumption)) ?_
   rfl
end Go.Abs
set_option linter.unusedVariables false
set_option linter.unusedSimpArgs false
namespace Go.Abs
open Go Go.Proofs
def pickI (s : List Int) (t n : Nat) : Nat := match s[t % s.length]? with
 | some b => b.toNat % n
 | none => 0
def pickO (s : List Int) (t : Nat) (l : List Oprn) : Oprn := (l[pickI s t l.length]?).getD ⟨1, 0⟩
def madeL (g : Graph) (s : List Int) : Nat → Nat → List Oprn → List Oprn
 | 0, _, p => p
 | f + 1, t, p => if poss g (afterL g (freshK g) p) = [] then p else madeL g s f (t + 1) (p ++ [pickO s t (poss g (afterL g (freshK g) p))])
theorem pickI_lt {s : List Int} {t n : Nat} (h : 0 < n) : pickI s t n < n := by
 unfold pickI
 split
 ·exact Nat.mod_lt _ h
 ·exact h
theorem pickO_mem {s : List Int} {t : Nat} {l : List Oprn} (h : l ≠ []) : l[pickI s t l.length]? = some (pickO s t l) := by
 have hl : pickI s t l.length < l.length := pickI_lt (List.length_pos_iff.2 h)
 simp [pickO, hl]
theorem poss_mem {g : Graph} {k : Kn} {o : Oprn} (h : o ∈ poss g k) : stepE g k o = 0 := by
 simp only [poss, possK, possI, List.mem_append, List.mem_filter, decide_eq_true_eq, List.not_mem_nil, false_or] at h
 rcases h with (⟨_, h⟩ | ⟨_, h⟩) | ⟨_, h⟩ <;> exact h
theorem validL_snoc {g : Graph} {o : Oprn} : ∀ {l : List Oprn} {k : Kn}, validL g k l → stepE g (afterL g k l) o = 0 → validL g k (l ++ [o])
 | [], k, _, h => ⟨h, trivial⟩
 | x :: l, k, ⟨h1, h2⟩, h => ⟨h1, validL_snoc h2 h⟩
theorem poss_len {g : Graph} (h : gErr g = 0) (k : Kn) : (poss g k).length ≤ 1000 := by
 have h1 := possK_len g k 3
 have h2 := maxN_le h
 simp only [poss]
 omega
theorem m36 (g : Graph) (s : List Int) (hv : gErr g = 0) (hm : s.length ≤ 1000000) (hs : ∀ n ∈ s, byteI n) : ACall Tryz.prog 36 [ag (Graph.c g), sl (s.map U8.c)] h00 fun r h' => ∃ v c, r = .sl 1000001 v 0 (madeL g s 200 0 []).length c ∧ h' 1000001 = ⟨v, some ⟨2, dl ((madeL g s 200 0 []).map Oprn.c)⟩⟩ := by
 refine ACall.of b36 (by simp) ?_
 unfold c36
 rw [outer_h00]
 refine .seqk fun K1 hK1 => ?_
 refine .reg ?_
 simp
 refine hK1 _ ?_
 clear hK1 K1
 refine .keep [1, 2] ?_
 simp only [keepE, E_cons, E_nil, reduceIte, Nat.reduceEqDiff]
 refine .see (upd _ 2 ⟨_, none⟩) [(1, sl (s.map U8.c)), (2, .dptr (Graph.c g))] ⟨.refl _, T.box (k := 2) (cs := Graph.c g) (by simp [upd]) (by simp [upd]), trivial⟩ (Dies.up (Dies.refl _) (.inr ⟨rfl, Nat.le_refl _⟩)) ?_
 refine .seqk fun K2 hK2 => ?_
 refine .reg ?_
 simp
 refine hK2 _ ?_
 clear hK2 K2
 refine .keep [1, 2, 5] ?_
 simp only [keepE, E_cons, E_nil, reduceIte, Nat.reduceEqDiff]
 refine .seqk fun K3 hK3 => ?_
 refine .seqk fun K4 hK4 => ?_
 refine .reg ?_
 simp
 refine hK4 _ ?_
 clear hK4 K4
 refine .keep [1, 2, 5, 6] ?_
 simp only [keepE, E_cons, E_nil, reduceIte, Nat.reduceEqDiff]
 refine .nil1 (l' := [(1, sl (s.map U8.c)), (2, .dptr (Graph.c g)), (5, .sl 39 1 0 0 0), (6, int 0)]) 39 2 (by simp [upd, h00_at]) (by decide) (by decide) (fun t => by
  by_cases ht : t = 5
  ·right; subst ht; exact ⟨rfl, by simp [upd, h00_at]⟩
  ·left; simp [ht]) ?_
 refine .ren 39 1000001 1 (v := 1) (blk := ⟨2, []⟩) (by decide) (by decide) (by simp [upd, h00_at]) (by simp [upd, h00_at]) (by simp [upd, h00_at]) rfl ?_
 simp [renE, renA]
 refine .block ?_
 refine .count 200 (fun i st => ∃ p v c hh, validL g (freshK g) p ∧ p.length = i ∧ madeL g s (200 - i) i p = madeL g s 200 0 [] ∧ hh 1000001 = ⟨v, some ⟨2, dl (p.map Oprn.c)⟩⟩ ∧ st = ⟨E [(6, int i), (5, .sl 1000001 v 0 p.length c), (1, sl (s.map U8.c)), (2, .dptr (Graph.c g))], hh⟩) 0 (Nat.zero_le _) _ (.cov (by simp) (.refl _)) ⟨[], 1, 0, _, trivial, rfl, rfl, by simp [upd], rfl⟩ ?_
 rintro i s hi1 ⟨p, v, c, hh, hvp, hpl, hmd, h5, rfl⟩ K5 hK5
 refine .seqk fun K6 hK6 => ?_
 refine .seqk fun K7 hK7 => ?_
 refine .reg ?_
 simp
 refine hK7 _ ?_
 clear hK7 K7
 refine .keep [1, 2, 5, 6, 10] ?_
 simp only [keepE, E_cons, E_nil, reduceIte, Nat.reduceEqDiff]
 refine .condk _ rfl (fun hc1 => ?_) (fun hc1 => ?_)
 ·simp at hc1
  have hfu : 200 - i = (200 - i - 1) + 1 := by omega
  refine .skip ?_
  refine hK6 _ ?_
  clear hK6 K6
  refine .seqk fun K8 hK8 => ?_
  refine .block ?_
  refine .seqk fun K9 hK9 => ?_
  refine .reg ?_
  refine Sq.cutk 3 fun K10 hK10 => ?_
  simp only [List.take_succ_cons, List.take_zero, List.drop_succ_cons, List.drop_zero]
  simp
  refine ACall.mono (m83 g p _ v c hv (by omega) hvp (by simpa using h5)) ?_
  rintro _ h1 ⟨rfl, he1⟩
  simp only [mergeH_eq he1]
  clear he1 h1
  refine hK10 _ ?_
  clear hK10 K10
  simp
  refine hK9 _ ?_
  clear hK9 K9
  refine .keep [1, 2, 5, 6, 7] ?_
  simp only [keepE, E_cons, E_nil, reduceIte, Nat.reduceEqDiff]
  refine .seqk fun K11 hK11 => ?_
  refine .seqk fun K12 hK12 => ?_
  refine .reg ?_
  simp
  refine hK12 _ ?_
  clear hK12 K12
  refine .keep [1, 2, 5, 6, 7, 18] ?_
  simp only [keepE, E_cons, E_nil, reduceIte, Nat.reduceEqDiff]
  refine .condk _ rfl (fun hc2 => ?_) (fun hc2 => ?_)
  ·simp at hc2
   have hfin : madeL g s 200 0 [] = p := by rw [← hmd, hfu, madeL, if_pos (by simpa using hc2)]
   refine .exit ?_
   try simp only [then', inBlk, if_true, if_false, reduceIte, Nat.reduceEqDiff]
   refine hK3 _ ?_
   clear hK11 hK8 hK5 hK3 K11 K8 K5 K3
   refine .seqk fun K13 hK13 => ?_
   refine .reg ?_
   simp
   refine hK13 _ ?_
   clear hK13 K13
   refine .keep [4] ?_
   simp only [keepE, E_cons, E_nil, reduceIte, Nat.reduceEqDiff]
   refine .ret ?_
   -- leaf 1
   try simp only [then', inBlk]
   refine ret_m (.inr rfl) (r := .sl 1000001 v 0 p.length c) (by simp) (by simp) ⟨v, c, by rw [hfin], by rw [hfin]; exact h5⟩
  ·simp at hc2
   have hpk := pickO_mem (s := s) (t := i) (l := (poss g (afterL g (freshK g) p))) hc2
   have hpi := pickI_lt (s := s) (t := i) (List.length_pos_iff.2 hc2)
   have hpl2 := poss_len hv (afterL g (freshK g) p)
   refine .skip ?_
   refine hK11 _ ?_
   clear hK11 K11
   refine .seqk fun K14 hK14 => ?_
   refine .reg ?_
   simp
   refine hK14 _ ?_
   clear hK14 K14
   refine .keep [1, 2, 5, 6, 7, 8] ?_
   simp only [keepE, E_cons, E_nil, reduceIte, Nat.reduceEqDiff]
   refine .seqj (fun hh => hh) (fun ee => [(1, ee 1), (2, ee 2), (5, ee 5), (6, ee 6), (7, ee 7), (8, int (pickI s i (poss g (afterL g (freshK g) p)).length : Nat))]) (fun K15 hK15 => ?_) ?_
   ·refine .seqk fun K16 hK16 => ?_
    refine .reg ?_
    simp
    refine hK16 _ ?_
    clear hK16 K16
    refine .keep [1, 2, 5, 6, 7, 8, 21] ?_
    simp only [keepE, E_cons, E_nil, reduceIte, Nat.reduceEqDiff]
    refine .condk _ rfl (fun hc3 => ?_) (fun hc3 => ?_)
    ·simp at hc3
     have hsl : 0 < s.length := by first | exact hc3 | exact List.length_pos_iff.2 hc3
     obtain ⟨b, hb⟩ : ∃ b, s[i % s.length]? = some b := ⟨_, List.getElem?_eq_getElem (Nat.mod_lt _ hsl)⟩
     obtain ⟨b0, b1⟩ := hs b (List.mem_of_getElem? hb)
     obtain ⟨m, rfl⟩ : ∃ m : Nat, b = m := ⟨b.toNat, by omega⟩
     have hw : IntKind.i64.wrap (m : Int) = m := wrap64 (by omega) (by omega)
     have htm : (i : Int).tmod s.length = (i : Int) % s.length := Int.tmod_eq_emod_of_nonneg (by omega)
     have htm2 : (m : Int).tmod ((poss g (afterL g (freshK g) p)).length : Int) = (m : Int) % (poss g (afterL g (freshK g) p)).length := Int.tmod_eq_emod_of_nonneg (by omega)
     have hm1 : 0 ≤ (i : Int) % (s.length : Int) := Int.emod_nonneg _ (by omega)
     have hm2 : ((i : Int) % (s.length : Int)).toNat = i % s.length := by rw [← Int.natCast_emod]; exact Int.toNat_natCast _
     have hs0 : ¬ s = [] := List.length_pos_iff.1 hsl
     have hpi0 : (m : Int) % ((poss g (afterL g (freshK g) p)).length : Int) = (pickI s i (poss g (afterL g (freshK g) p)).length : Nat) := by simp [pickI, hb]
     refine .reg ?_
     simp [hs0, hb, hw, htm, htm2, hc2, hm1, hm2]
     refine hK15 _ (Wk.cov ?_ (.refl _))
     simp [hpi0]
    ·simp at hc3
     have hpi0 : (0 : Int) = (pickI s i (poss g (afterL g (freshK g) p)).length : Nat) := by simp [pickI, hc3]
     refine .skip ?_
     refine hK15 _ (Wk.cov ?_ (.refl _))
     simp [hpi0]
   try simp only [E_cons, E_nil, reduceIte, Nat.reduceEqDiff]
   have hpos : (0 : Int) ≤ (pickI s i (poss g (afterL g (freshK g) p)).length : Nat) := by omega
   have z1 : (p.length + 1) * 16 ≤ 17592186044416 := by omega
   have z2 : p.length + 1 ≤ 17592186044416 := by omega
   have zz : ¬ (p.length + 1 ≤ p.length) := by omega
   have tk : List.take p.length (List.map Oprn.c p) = List.map Oprn.c p := List.take_of_length_le (by simp)
   refine .reg ?_
   simp [hpos, hpk, getBlk, upd, h5, srcOf, z1, z2, zz, tk]
   refine hK8 _ ?_
   clear hK8 K8
   refine .keep [1, 2, 5, 6] ?_
   simp only [keepE, E_cons, E_nil, reduceIte, Nat.reduceEqDiff]
   refine .reg ?_
   simp
   -- loop back, leaf 2
   refine hK5 _ _ (by omega) (Wk.cov ?_ (.refl _)) ⟨p ++ [pickO s i (poss g (afterL g (freshK g) p))], v + 1, p.length + 1, _, validL_snoc hvp (poss_mem (List.mem_of_getElem? hpk)), by simp [hpl], ?_, ?_, rfl⟩
   ·simp; exact wrap64 (by omega) (by omega)
   ·rw [← hmd, hfu, madeL, if_neg hc2, show 200 - (i + 1) = 200 - i - 1 by omega]
   ·simp [upd, dl_snoc]
 ·simp at hc1
  obtain rfl : i = 200 := by omega
  have hfin : madeL g s 200 0 [] = p := by rw [← hmd]; rfl
  refine .exit ?_
  try simp only [then', inBlk, if_true, if_false, reduceIte, Nat.reduceEqDiff]
  refine hK3 _ ?_
  clear hK6 hK5 hK3 K6 K5 K3
  refine .seqk fun K17 hK17 => ?_
  refine .reg ?_
  simp
  refine hK17 _ ?_
  clear hK17 K17
  refine .keep [4] ?_
  simp only [keepE, E_cons, E_nil, reduceIte, Nat.reduceEqDiff]
  refine .ret ?_
  -- leaf 3
  try simp only [then', inBlk]
  refine ret_m (.inr rfl) (r := .sl 1000001 v 0 p.length c) (by simp) (by simp) ⟨v, c, by rw [hfin], by rw [hfin]; exact h5⟩
end Go.Abs
set_option linter.unusedVariables false
set_option linter.unusedSimpArgs false
namespace Go.Abs
open Go Go.Proofs
theorem inI_iff {n m : Int} : inI n m = true ↔ 0 ≤ n ∧ n < m := by simp [inI]
theorem frzX {h : Heap} {B v n c k : Nat} (xs : List (List D)) (hB : lim ≤ B) (hl : h B = ⟨v, some ⟨k, dl xs⟩⟩) (hn : n = xs.length) : T (outer h) (outer (deadH h)) some (.sl B v 0 n c) (.d (.slice xs)) :=
 T.rowD (k := k) xs (by simp only [outer, Nat.not_lt.2 hB, if_false]; exact hl) (deadH_live h B) hn
theorem p36 (g : Graph) (s : List Int) (hv : gErr g = 0) (hm : s.length ≤ 1000000) (hs : ∀ n ∈ s, byteI n) : PCall Tryz.prog 36 [ag (Graph.c g), sl (s.map U8.c)] (sl ((madeL g s 200 0 []).map Oprn.c)) := by
 refine PCall.frame rfl rfl ((m36 g s hv hm hs).see ?_)
 rintro _ h' ⟨v, c, rfl, e1⟩
 exact ⟨_, deadH h', deadH_dies h', frzX _ (by decide) e1 (by simp), rfl, deadH_ok h', rfl⟩
theorem cnt_set : ∀ (l : List Bool) (i : Nat), (l.set i true).count false ≤ l.count false
 | [], i => by simp
 | x :: l, 0 => by cases x <;> simp
 | x :: l, i + 1 => by have := cnt_set l i; cases x <;> simp <;> omega
theorem cnt_set_lt : ∀ (l : List Bool) (i : Nat), l[i]? = some false → (l.set i true).count false < l.count false
 | [], i, h => by simp at h
 | x :: l, 0, h => by simp at h; subst h; simp
 | x :: l, i + 1, h => by have := cnt_set_lt l i (by simpa using h); cases x <;> simp <;> omega
def unk (k : Kn) : Nat := k.ns.count false + k.es.count false
theorem getD_f {l : List Bool} {i : Nat} (hi : i < l.length) (h : (l[i]?).getD false = false) : l[i]? = some false := by
 rw [List.getElem?_eq_getElem hi] at h ⊢
 simpa using h
theorem step_unk {g : Graph} {k : Kn} {o : Oprn} (hf : k.fits g) (h : stepE g k o = 0) : unk (afterK g k o) < unk k ∧ allK k = false := by
 unfold stepE at h
 split at h
 ·rename_i h1
  split at h
  ·cases h
  ·rename_i h2
   split at h
   ·cases h
   ·rename_i h3
    have h2' : inI o.el g.nodes.length = true := by simpa using h2
    obtain ⟨k0, k1⟩ := inI_iff.1 h2'
    have hl : o.el.toNat < k.ns.length := by rw [hf.1]; omega
    have hg : k.ns[o.el.toNat]? = some false := getD_f hl (by simpa [endK] using h3)
    refine ⟨?_, ?_⟩
    ·have := cnt_set_lt _ _ hg
     simp only [unk, afterK, if_pos h1]
     omega
    ·unfold allK
     rw [Bool.and_eq_false_iff]
     refine .inl ?_
     rw [Bool.eq_false_iff]
     intro hc
     have := List.all_eq_true.1 hc false (List.mem_of_getElem? hg)
     cases this
 ·rename_i h1
  split at h
  ·split at h
   ·cases h
   ·rename_i h2
    have h2' : inI o.el g.edges.length = true := by simpa using h2
    obtain ⟨k0, k1⟩ := inI_iff.1 h2'
    split at h
    ·cases h
    ·rename_i x hx
     split at h
     ·cases h
     ·rename_i h3
      simp only [Bool.or_eq_true, not_or] at h3
      have hl : o.el.toNat < k.es.length := by rw [hf.2]; omega
      have hg : k.es[o.el.toNat]? = some false := getD_f hl (by simpa using h3.1.1)
      refine ⟨?_, ?_⟩
      ·have c1 := cnt_set_lt _ _ hg
       have c2 := cnt_set k.ns x.src.toNat
       have c3 := cnt_set (k.ns.set x.src.toNat true) x.tgt.toNat
       simp only [unk, afterK, if_neg h1, hx]
       omega
      ·unfold allK
       rw [Bool.and_eq_false_iff]
       refine .inr ?_
       rw [Bool.eq_false_iff]
       intro hc
       have := List.all_eq_true.1 hc false (List.mem_of_getElem? hg)
       cases this
  ·cases h
theorem afterL_snoc (g : Graph) (k : Kn) (l : List Oprn) (o : Oprn) : afterL g k (l ++ [o]) = afterK g (afterL g k l) o := by simp [afterL]
theorem afterL_fits {g : Graph} : ∀ {l : List Oprn} {k : Kn}, k.fits g → (afterL g k l).fits g
 | [], k, h => h
 | o :: l, k, h => afterL_fits (l := l) (afterK_fits h o)
theorem planE_valid {g : Graph} : ∀ {l : List Oprn} {k : Kn}, validL g k l → planE g k l = if allK (afterL g k l) then 0 else 20
 | [], k, _ => rfl
 | o :: l, k, ⟨h1, h2⟩ => by
  rw [planE, if_neg (by simp [h1]), planE_valid h2]
  rfl
def endsOK (g : Graph) (p : List Oprn) : Prop := p = [] ∨ ∃ q o, p = q ++ [o] ∧ validL g (freshK g) q ∧ stepE g (afterL g (freshK g) q) o = 0
theorem madeL_ok (g : Graph) (s : List Int) : ∀ (f t : Nat) (p : List Oprn), validL g (freshK g) p → endsOK g p → unk (afterL g (freshK g) p) < f →
  validL g (freshK g) (madeL g s f t p) ∧ endsOK g (madeL g s f t p) ∧ poss g (afterL g (freshK g) (madeL g s f t p)) = []
 | 0, t, p, _, _, h => by omega
 | f + 1, t, p, hv, he, h => by
  rw [madeL]
  split
  ·rename_i h0
   exact ⟨hv, he, h0⟩
  ·rename_i h0
   have hk := pickO_mem (s := s) (t := t) h0
   have hs := poss_mem (List.mem_of_getElem? hk)
   have hu := (step_unk (afterL_fits (l := p) (freshK_fits g)) hs).1
   refine madeL_ok g s f (t + 1) _ (validL_snoc hv hs) (.inr ⟨p, _, rfl, hv, hs⟩) ?_
   rw [afterL_snoc]
   omega
theorem mem_possI {g : Graph} {k : Kn} {kd : Int} {n i : Nat} (hi : i < n) (h : stepE g k ⟨kd, (i : Int)⟩ = 0) : (⟨kd, (i : Int)⟩ : Oprn) ∈ possI g k kd n := by
 simp only [possI, List.mem_filter, List.mem_map, List.mem_range, decide_eq_true_eq]
 exact ⟨⟨i, hi, rfl⟩, h⟩
theorem all_get {l : List Bool} (h : l.all id = false) : ∃ i : Nat, l[i]? = some false := by
 rw [List.all_eq_false] at h
 obtain ⟨x, hx, hn⟩ := h
 obtain ⟨i, hi⟩ := List.getElem?_of_mem hx
 cases x with
 | true => exact absurd rfl hn
 | false => exact ⟨i, hi⟩
theorem all_getT {l : List Bool} (h : l.all id = true) {i : Nat} (hi : i < l.length) : l[i]? = some true := by
 rw [List.getElem?_eq_getElem hi]
 have := List.all_eq_true.1 h l[i] (List.getElem_mem hi)
 simpa using this
theorem poss_nil {g : Graph} {k : Kn} (hf : k.fits g) (hv : gErr g = 0) (h : poss g k = []) : allK k = true := by
 have hmem : ∀ kd : Nat, kd < 3 → ∀ i : Nat, i < maxN g → stepE g k ⟨(kd : Int) + 1, (i : Int)⟩ ≠ 0 := by
  intro kd hkd i hi hs
  have hm := mem_possI (kd := (kd : Int) + 1) hi hs
  have : (⟨(kd : Int) + 1, (i : Int)⟩ : Oprn) ∈ poss g k := by
   simp only [poss, possK, List.mem_append]
   match kd, hkd with
   | 0, _ => exact .inl (.inl (.inr hm))
   | 1, _ => exact .inl (.inr hm)
   | 2, _ => exact .inr hm
  rw [h] at this
  cases this
 unfold allK
 cases hn : k.ns.all id with
 | false =>
  exfalso
  obtain ⟨i, hi⟩ := all_get hn
  have hlt := (List.getElem?_eq_some_iff.1 hi).1
  rw [hf.1] at hlt
  refine hmem 0 (by decide) i (by unfold maxN; omega) ?_
  have hin : inI (i : Int) g.nodes.length = true := inI_iff.2 ⟨by omega, by omega⟩
  simp [stepE, hin, endK, hi]
 | true =>
  rw [Bool.true_and]
  cases he : k.es.all id with
  | true => rfl
  | false =>
   exfalso
   obtain ⟨i, hi⟩ := all_get he
   have hlt := (List.getElem?_eq_some_iff.1 hi).1
   rw [hf.2] at hlt
   refine hmem 2 (by decide) i (by unfold maxN; omega) ?_
   have hin : inI (i : Int) g.edges.length = true := inI_iff.2 ⟨by omega, by omega⟩
   obtain ⟨x, hx⟩ : ∃ x, g.edges[i]? = some x := ⟨g.edges[i], by simp [hlt]⟩
   obtain ⟨i1, i2⟩ := gErr_edge hv (List.mem_of_getElem? hx)
   obtain ⟨i10, i11⟩ := inI_iff.1 i1
   obtain ⟨i20, i21⟩ := inI_iff.1 i2
   have e1 : k.ns[x.src.toNat]? = some true := all_getT hn (by rw [hf.1]; omega)
   have e2 : k.ns[x.tgt.toNat]? = some true := all_getT hn (by rw [hf.1]; omega)
   simp [stepE, hin, hx, hi, endK, e1, e2]
theorem made_gErr {d : Draft} (hd : d.ok) (hn : d.nodes.length ≤ 8) (he : d.edges.length ≤ 10) : gErr (madeG d) = 0 := by
 have l1 : (madeG d).nodes.length = d.nodes.length := mN_len (Nat.le_refl _)
 have l2 : (madeG d).edges.length ≤ 10 := by
  unfold madeG
  split
  ·simp
  ·rw [mE_len (Nat.le_refl _)]; exact he
 have a1 : (madeG d).nodes.any (fun t => !inR t 99) = false := by
  rw [List.any_eq_false]
  intro x hx
  simp only [madeG, mN, List.mem_map] at hx
  obtain ⟨y, hy, rfl⟩ := hx
  obtain ⟨y0, y1⟩ := hd.1 y (List.mem_of_mem_take hy)
  obtain ⟨t0, t1⟩ := tmod_bd (b := 3) y0 (by decide)
  simp [inR]; omega
 have a2 : (madeG d).edges.any (fun e => !fitsG e (madeG d).nodes.length) = false := by
  rw [List.any_eq_false]
  intro x hx
  rw [l1]
  unfold madeG at hx
  split at hx
  ·simp at hx
  ·rename_i h0
   simp only [mE, List.mem_map] at hx
   obtain ⟨y, hy, rfl⟩ := hx
   obtain ⟨⟨y0, _⟩, ⟨y2, _⟩, ⟨y4, _⟩⟩ := hd.2 y (List.mem_of_mem_take hy)
   obtain ⟨t0, t1⟩ := tmod_bd (b := 2) y0 (by decide)
   obtain ⟨t2, t3⟩ := tmod_bd (b := (d.nodes.length : Int)) y2 (by omega)
   obtain ⟨t4, t5⟩ := tmod_bd (b := (d.nodes.length : Int)) y4 (by omega)
   simp [fitsG, inR]; omega
 unfold gErr
 rw [if_neg (by omega), if_neg (by simp [a1]), if_neg (by rw [a2]; decide)]
theorem fresh_unk (g : Graph) : unk (freshK g) = g.nodes.length + g.edges.length := by simp [unk, freshK]
theorem made_law {g : Graph} (s : List Int) (hv : gErr g = 0) : planV g (madeL g s 200 0 []) = 0 ∧ (madeL g s 200 0 [] ≠ [] → planV g ((madeL g s 200 0 []).take ((madeL g s 200 0 []).length - 1)) = 20) := by
 have hgl := gErr_len hv
 obtain ⟨h1, h2, h3⟩ := madeL_ok g s 200 0 [] trivial (.inl rfl) (by show unk (freshK g) < 200; rw [fresh_unk]; omega)
 have hall := poss_nil (afterL_fits (freshK_fits g)) hv h3
 refine ⟨?_, fun hne => ?_⟩
 ·simp only [planV, hv, ne_eq, not_true_eq_false, if_false]
  rw [planE_valid h1, if_pos hall]
 ·rcases h2 with h2 | ⟨q, o, h2, h4, h5⟩
  ·exact absurd h2 hne
  ·rw [h2]
   have e : (q ++ [o]).take ((q ++ [o]).length - 1) = q := by simp
   rw [e]
   simp only [planV, hv, ne_eq, not_true_eq_false, if_false]
   have := (step_unk (afterL_fits (l := q) (freshK_fits g)) h5).2
   rw [planE_valid h4, this]
   rfl
theorem madeL_len (g : Graph) (s : List Int) : ∀ (f t : Nat) (p : List Oprn), (madeL g s f t p).length ≤ p.length + f
 | 0, t, p => by simp [madeL]
 | f + 1, t, p => by
  rw [madeL]
  split
  ·omega
  ·have := madeL_len g s f (t + 1) (p ++ [pickO s t (poss g (afterL g (freshK g) p))])
   simp at this
   omega
theorem PCall.take2' {α : Type} {P : Program} {f : FuncId} {c : α → List D} {l : List α} {i : Nat} {a : AV} {us : List AV} {r : AV} (h : PCall P f (a :: sl ((l.take i).map c) :: us) r) : PCall P f (a :: .d (.slice ((l.map c).take i)) :: us) r := by
 rw [List.map_take] at h; exact h
set_option maxHeartbeats 1000000 in
theorem p12 (d : Draft) (hd : d.ok) (s : List Int) (hs : ∀ n ∈ s, byteI n) : PCall Tryz.prog 12 [ag (Draft.c d), sl (s.map U8.c)] (bo true) := by
 intro h
 refine ACall.of b12 (by simp) ?_
 unfold c12
 refine .seqk fun K1 hK1 => ?_
 refine .reg ?_
 simp
 refine hK1 _ ?_
 clear hK1 K1
 refine .keep [1, 2] ?_
 simp only [keepE, E_cons, E_nil, reduceIte, Nat.reduceEqDiff]
 refine .see (upd _ 2 ⟨_, none⟩) [(1, _), (2, .dptr (Draft.c d))] ⟨.refl _, T.box (k := 2) (cs := Draft.c d) (by simp [upd]) (by simp [upd]), trivial⟩ (Dies.up (Dies.refl _) (.inr ⟨rfl, Nat.le_refl _⟩)) ?_
 try simp only [E_cons, E_nil, reduceIte, Nat.reduceEqDiff]
 refine .seqk fun K2 hK2 => ?_
 refine .seqreg (fun hh => hh) (fun ee => [(1, ee 1), (2, ee 2), (25, bo (decide ((8 : Int) < d.nodes.length) || decide ((10 : Int) < d.edges.length) || decide ((20 : Int) < s.length)))]) ?_ ?_
 ·refine Sq.cutk 1 fun KC1 hKC1 => ?_
  simp only [List.take_succ_cons, List.take_zero, List.drop_succ_cons, List.drop_zero]
  simp [true_and]
  refine PCall.sq (p34) fun _ he1 => ?_
  simp only [mergeH_eq he1]
  refine hKC1 _ ?_
  by_cases h1 : (8 : Int) < d.nodes.length <;> by_cases h2 : (10 : Int) < d.edges.length <;> by_cases h3 : (20 : Int) < s.length <;> simp [h1, h2, h3]
 try simp only [E_cons, E_nil, reduceIte, Nat.reduceEqDiff]
 refine .condk _ rfl (fun hc1 => ?_) (fun hc1 => ?_)
 ·skip
  refine .seqk fun K3 hK3 => ?_
  refine .reg ?_
  refine Sq.cutk 1 fun K4 hK4 => ?_
  simp only [List.take_succ_cons, List.take_zero, List.drop_succ_cons, List.drop_zero]
  simp
  refine PCall.sq (p34) fun h1 he1 => ?_
  simp only [mergeH_eq he1]
  clear he1 h1
  refine hK4 _ ?_
  clear hK4 K4
  simp
  refine hK3 _ ?_
  clear hK3 K3
  refine .keep [4] ?_
  simp only [keepE, E_cons, E_nil, reduceIte, Nat.reduceEqDiff]
  refine .ret ?_
  -- leaf 1
  refine ret_d (.inr rfl) rfl (.refl _) rfl (by first | exact OutEq.outer _ | assumption | (simp; done) | (simp; assumption)) ?_
  simp
 ·simp at hc1
  have hn : d.nodes.length ≤ 8 := by omega
  have he : d.edges.length ≤ 10 := by omega
  have hv := made_gErr hd hn he
  obtain ⟨hm1, hm2⟩ := made_law s hv
  have hml := madeL_len (madeG d) s 200 0 []
  generalize hM : madeL (madeG d) s 200 0 [] = M at *
  simp at hml
  have hw : IntKind.i64.wrap ((M.length : Int) - 1) = (M.length : Int) - 1 := wrap64 (by omega) (by omega)
  have hp36 : PCall Tryz.prog 36 [ag (Graph.c (madeG d)), sl (s.map U8.c)] (sl (M.map Oprn.c)) := hM ▸ p36 (madeG d) s hv (by omega) hs
  refine .skip ?_
  refine hK2 _ ?_
  clear hK2 K2
  refine .seqk fun K5 hK5 => ?_
  refine .reg ?_
  refine Sq.cutk 2 fun K6 hK6 => ?_
  simp only [List.take_succ_cons, List.take_zero, List.drop_succ_cons, List.drop_zero]
  simp
  refine PCall.sq (p52 d hd hn he) fun h1 he1 => ?_
  simp only [mergeH_eq he1]
  clear he1 h1
  refine hK6 _ ?_
  clear hK6 K6
  simp
  refine hK5 _ ?_
  clear hK5 K5
  refine .keep [1, 5] ?_
  simp only [keepE, E_cons, E_nil, reduceIte, Nat.reduceEqDiff]
  refine .see (upd _ 5 ⟨_, none⟩) [(1, _), (5, .dptr (Graph.c (madeG d)))] ⟨.refl _, T.box (k := 2) (cs := Graph.c (madeG d)) (by simp [upd]) (by simp [upd]), trivial⟩ (Dies.up (Dies.refl _) (.inr ⟨rfl, Nat.le_refl _⟩)) ?_
  try simp only [E_cons, E_nil, reduceIte, Nat.reduceEqDiff]
  refine .seqk fun K7 hK7 => ?_
  refine .reg ?_
  refine Sq.cutk 3 fun K8 hK8 => ?_
  simp only [List.take_succ_cons, List.take_zero, List.drop_succ_cons, List.drop_zero]
  simp
  refine PCall.sq (hp36) fun h1 he1 => ?_
  simp only [mergeH_eq he1]
  clear he1 h1
  refine hK8 _ ?_
  clear hK8 K8
  simp
  refine hK7 _ ?_
  clear hK7 K7
  refine .keep [5, 6] ?_
  simp only [keepE, E_cons, E_nil, reduceIte, Nat.reduceEqDiff]
  refine .seqdreg mixed (fun hh => hh) (fun ee => [(4, bo true)]) ?_ ?_
  ·refine Dr.cutk 3 fun KC1 hKC1 => ?_
   simp only [List.take_succ_cons, List.take_zero, List.drop_succ_cons, List.drop_zero]
   simp [-Bool.exists_bool, true_and]
   refine Dr.pcall (p43 (madeG d) M (by omega)) ?_
   refine hKC1 _ _ ?_
   by_cases hne : M = []
   ·subst hne
    simp [-Bool.exists_bool, hm1]
   have hpos : 0 < M.length := List.length_pos_iff.2 hne
   have hz1 : ¬ ((M.length : Int) = 0) := by omega
   have hz2 : 0 ≤ (M.length : Int) - 1 := by omega
   have hz3 : (M.length : Int) - 1 ≤ M.length := by omega
   have hz4 : ((M.length : Int) - 1).toNat = M.length - 1 := by omega
   have hz5 : (1 : Int) ≤ M.length := by omega
   have hz6 : 1 ≤ M.length := by omega
   have hm3 := hm2 hne
   refine Dr.cutk 13 fun KC2 hKC2 => ?_
   simp only [List.take_succ_cons, List.take_zero, List.drop_succ_cons, List.drop_zero]
   simp [-Bool.exists_bool, hm1, hne, hz1, hz2, hz3, hz4, hz5, hz6, hw, true_and]
   refine Dr.pcall (.take2' (p43 (madeG d) (M.take (M.length - 1)) (by simp; omega))) ?_
   refine hKC2 _ _ ?_
   simp [-Bool.exists_bool, hm1, hne, hz1, hz2, hz3, hz4, hz5, hz6, hw, hm3, true_and]
  try simp only [E_cons, E_nil, reduceIte, Nat.reduceEqDiff]
  refine .ret ?_
  -- leaf 2
  refine ret_d (.inr rfl) rfl (.refl _) rfl (by first | exact OutEq.outer _ | assumption | (simp; done) | (simp; assumption)) ?_
  simp
theorem p12L (d : Draft) (hd : d.ok) (s : List Int) (hs : ∀ n ∈ s, byteI n) : PCall Tryz.prog 12 [ag (Draft.c d), sl (s.map U8.c)] (bo true) := p12 d hd s hs
end Go.Abs
