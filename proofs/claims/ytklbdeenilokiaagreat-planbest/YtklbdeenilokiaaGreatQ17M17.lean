/- Contracts of functions of the program, and what they lean on: a part of the proof that planBest_proved stands; no condition. -/
import Derived.Test.YtklbdeenilokiaaGreatProg
import Derived.Test.YtklbdeenilokiaaGreatQ17M3
import Derived.Test.YtklbdeenilokiaaGreatQ17S1
import Derived.Test.YtklbdeenilokiaaGreatQ17M10
import Derived.Test.YtklbdeenilokiaaGreatQ17B1
import Derived.Test.YtklbdeenilokiaaGreatQ17B2
import Derived.Test.YtklbdeenilokiaaGreatQ17B3
import Derived.Test.YtklbdeenilokiaaGreatQ17B4
import Derived.Test.YtklbdeenilokiaaGreatQ17B5
import Derived.Test.YtklbdeenilokiaaGreatQ17B6
import Derived.Test.YtklbdeenilokiaaGreatQ17M4
set_option linter.unusedVariables false
set_option linter.unusedSimpArgs false
namespace Go.Abs
open Go Go.Proofs
def inI (n m : Int) : Bool := decide (0 ≤ n) && decide (n < m)
theorem inR_eq (n m : Int) : inR n (m - 1) = inI n m := by
 simp only [inR, inI]
 congr 1
 by_cases h : n < m
 ·simp [h]; omega
 ·simp [h]; omega
def touch (k : Int) (x : Edge) : Bool := decide (x.src = k) || decide (x.tgt = k)
def fewG (g : Graph) : Bool := decide ((g.nodes.length : Int) ≤ 45) && decide ((g.edges.length : Int) ≤ 90)
theorem p39 (g : Graph) : PCall Tryz.prog 39 [ag (Graph.c g)] (bo (fewG g)) := by
 intro h
 refine ACall.of b39 (by simp) ?_
 unfold c39
 refine .seqk fun K1 hK1 => ?_
 refine .reg ?_
 simp
 refine hK1 _ ?_
 clear hK1 K1
 refine .keep [1, 8, 9, 10, 11] ?_
 simp only [keepE, E_cons, E_nil]
 refine .see (upd _ 1 ⟨_, none⟩) [(1, .dptr (Graph.c g))] ⟨T.box (k := 2) (cs := Graph.c g) (by simp) (by simp), trivial⟩ (Dies.kill _ _ _ _) ?_
 refine .seqreg (fun hh => hh) (fun ee => [(2, bo (fewG g))]) ?_ ?_
 ·by_cases h0 : (g.nodes.length : Int) ≤ 45 <;> by_cases h1 : (g.edges.length : Int) ≤ 90 <;> simp [h0, h1, fewG]
 try simp only [E_cons, E_nil]
 refine .ret ?_
 refine ret_z (.inr rfl) rfl rfl ?_
 simp
theorem p155 (n : Int) : PCall Tryz.prog 155 [int n] (bo (inR n 99)) := by
 intro h
 refine ACall.of b155 (by simp) ?_
 unfold c155
 refine .seqk fun K1 hK1 => ?_
 refine .reg ?_
 simp
 refine hK1 _ ?_
 clear hK1 K1
 refine .seqreg (fun hh => hh) (fun ee => [(2, bo (inR n 99))]) ?_ ?_
 ·by_cases h0 : 0 ≤ n <;> by_cases h1 : n ≤ 99 <;> simp [h0, h1, inR]
 try simp only [E_cons, E_nil]
 refine .ret ?_
 refine ret_z (.inr rfl) rfl rfl ?_
 simp
theorem p156 (e : Edge) (n : Int) : PCall Tryz.prog 156 [ag (Edge.c e), int n] (bo (fitsG e n)) := by
 intro h
 refine ACall.of b156 (by simp) ?_
 unfold c156
 refine .seqk fun K1 hK1 => ?_
 refine .reg ?_
 simp
 refine hK1 _ ?_
 clear hK1 K1
 refine .keep [1, 2, 9, 10, 11, 14, 15, 16, 17, 20, 21, 22, 25, 26, 27, 28] ?_
 simp only [keepE, E_cons, E_nil]
 refine .see (upd _ 2 ⟨_, none⟩) [(2, .dptr (Edge.c e)), (1, int n)] ⟨T.box (k := 3) (cs := Edge.c e) (by simp) (by simp), .refl _, trivial⟩ (Dies.kill _ _ _ _) ?_
 refine .seqreg (fun hh => hh) (fun ee => [(4, bo (fitsG e n))]) ?_ ?_
 ·refine Sq.cutk 3 fun K1 hK1 => ?_
  simp only [zt]
  simp
  refine PCall.sq (p155 e.ty) fun _ he => ?_
  simp only [mergeH_eq he]
  refine hK1 _ ?_
  by_cases h1 : inR e.ty 99 = true
  ·simp only [fitsG, inR_eq]
   by_cases h2 : 0 ≤ e.src <;> by_cases h3 : e.src < n <;> by_cases h4 : 0 ≤ e.tgt <;> by_cases h5 : e.tgt < n <;> simp [h1, h2, h3, h4, h5, inI]
  ·simp at h1
   simp [fitsG, h1]
 try simp only [E_cons, E_nil]
 refine .ret ?_
 refine ret_z (.inr rfl) rfl rfl ?_
 simp
end Go.Abs
set_option linter.unusedVariables false
set_option linter.unusedSimpArgs false
namespace Go.Abs
open Go Go.Proofs
theorem any_cons_t {α : Type} {p : α → Bool} {l : List α} {i : Nat} {x : α} (hx : l[i]? = some x) (hp : p x = true) : l.any p = true := List.any_eq_true.2 ⟨x, List.mem_of_getElem? hx, hp⟩
theorem any_drop {α : Type} (p : α → Bool) (l : List α) (i : Nat) (x : α) (hx : l[i]? = some x) (hp : p x = false) : (l.drop (i + 1)).any p = (l.drop i).any p := by
 rw [drop_cons hx]
 simp [hp]
theorem p97 (g : Graph) : PCall Tryz.prog 97 [ag (Graph.c g)] (int (gErr g)) := by
 intro h
 refine ACall.of b97 (by simp) ?_
 unfold c97
 refine .seqk fun K1 hK1 => ?_
 refine .reg ?_
 simp
 refine hK1 _ ?_
 clear hK1 K1
 refine .keep [1, 10, 11, 12, 13] ?_
 simp only [keepE, E_cons, E_nil]
 refine .see (upd _ 1 ⟨_, none⟩) [(1, .dptr (Graph.c g))] ⟨T.box (k := 2) (cs := Graph.c g) (by simp) (by simp), trivial⟩ (Dies.kill _ _ _ _) ?_
 refine .seqk fun K2 hK2 => ?_
 refine .seqreg (fun hh => hh) (fun ee => [(1, ee 1), (14, bo (decide ((40 : Int) < g.nodes.length) || decide ((80 : Int) < g.edges.length)))]) ?_ ?_
 ·by_cases h0 : (40 : Int) < g.nodes.length <;> by_cases h1 : (80 : Int) < g.edges.length <;> simp [h0, h1, True]
 try simp only [E_cons, E_nil]
 refine .condk _ rfl (fun hc1 => ?_) (fun hc1 => ?_)
 ·try simp at hc1
  refine .seqk fun K3 hK3 => ?_
  refine .reg ?_
  simp
  refine hK3 _ ?_
  clear hK3 K3
  refine .ret ?_
  refine ret_z (.inr rfl) rfl rfl ?_
  simp [gErr, hc1]
 ·simp at hc1
  have hn40 : g.nodes.length ≤ 40 := by omega
  have he80 : g.edges.length ≤ 80 := by omega
  refine .skip ?_
  refine hK2 _ ?_
  clear hK2 K2
  refine .seqk fun K4 hK4 => ?_
  refine .seqk fun K5 hK5 => ?_
  refine .reg ?_
  simp
  refine hK5 _ ?_
  clear hK5 K5
  refine .block ?_
  refine .count g.nodes.length (fun i st => (g.nodes.drop i).any (fun t => !inR t 99) = g.nodes.any (fun t => !inR t 99) ∧ ∃ hh, OutEq hh h ∧ st = ⟨E [(3, int i), (1, .dptr (Graph.c g))], hh⟩) 0 (Nat.zero_le _) _ (.cov (h' := upd (outer h) 1 ⟨_, none⟩) (by simp) (.refl _)) ⟨by simp, _, by simp, rfl⟩ ?_
  rintro i s hi1 ⟨hp, hh, hho, rfl⟩ K6 hK6
  refine .seqk fun K7 hK7 => ?_
  refine .seqk fun K8 hK8 => ?_
  refine .reg ?_
  simp
  refine hK8 _ ?_
  clear hK8 K8
  refine .keep [1, 3, 19] ?_
  simp only [keepE, E_cons, E_nil]
  refine .condk _ rfl (fun hc2 => ?_) (fun hc2 => ?_)
  ·simp at hc2
   obtain ⟨x, hx⟩ := get_some hc2
   refine .skip ?_
   refine hK7 _ ?_
   clear hK7 K7
   refine .seqk fun K9 hK9 => ?_
   refine .block ?_
   refine .seqk fun K10 hK10 => ?_
   refine .reg ?_
   refine Sq.cutk 6 fun K11 hK11 => ?_
   simp only [zt]
   simp [hx]
   refine PCall.sq (p155 x) fun h1 he1 => ?_
   simp only [mergeH_eq he1]
   clear he1 h1
   refine hK11 _ ?_
   clear hK11 K11
   simp [hx]
   refine hK10 _ ?_
   clear hK10 K10
   refine .keep [1, 3, 28] ?_
   simp only [keepE, E_cons, E_nil]
   refine .condk _ rfl (fun hc3 => ?_) (fun hc3 => ?_)
   ·simp at hc3
    refine .seqk fun K12 hK12 => ?_
    refine .reg ?_
    simp
    refine hK12 _ ?_
    clear hK12 K12
    refine .ret ?_
    refine ret_z (.inr rfl) rfl rfl ?_
    simp [gErr, hn40, he80, any_cons_t (p := fun t => !inR t 99) hx (by simp [hc3])]; omega
   ·simp at hc3
    refine .skip ?_
    refine hK9 _ ?_
    clear hK9 K9
    refine .reg ?_
    simp
    refine hK6 _ _ (by omega) (Wk.cov ?_ (.refl _)) ⟨?_, _, hho, rfl⟩
    ·simp; exact wrap64 (by omega) (by omega)
    ·rw [any_drop _ _ _ _ hx (by simpa using hc3)]; exact hp
  ·simp at hc2
   have hi : i = g.nodes.length := by omega
   have hnn : g.nodes.any (fun t => !inR t 99) = false := by rw [← hp, hi]; simp
   refine .exit ?_
   try simp only [then', inBlk, if_true, if_false, reduceIte, Nat.reduceEqDiff]
   refine hK4 _ ?_
   clear hK7 hK6 hK4 K7 K6 K4
   refine .seqk fun K13 hK13 => ?_
   refine .seqk fun K14 hK14 => ?_
   refine .reg ?_
   simp
   refine hK14 _ ?_
   clear hK14 K14
   refine .block ?_
   refine .count g.edges.length (fun i st => (g.edges.drop i).any (fun e => !fitsG e g.nodes.length) = g.edges.any (fun e => !fitsG e g.nodes.length) ∧ ∃ hh, OutEq hh h ∧ st = ⟨E [(4, int i), (1, .dptr (Graph.c g))], hh⟩) 0 (Nat.zero_le _) _ (.cov (h' := hh) (by simp) (.refl _)) ⟨by simp, _, hho, rfl⟩ ?_
   rintro i s hi2 ⟨hq, hh2, hho2, rfl⟩ K15 hK15
   refine .seqk fun K16 hK16 => ?_
   refine .seqk fun K17 hK17 => ?_
   refine .reg ?_
   simp
   refine hK17 _ ?_
   clear hK17 K17
   refine .keep [1, 4, 33] ?_
   simp only [keepE, E_cons, E_nil]
   refine .condk _ rfl (fun hc4 => ?_) (fun hc4 => ?_)
   ·simp at hc4
    obtain ⟨x, hx⟩ := get_some hc4
    refine .skip ?_
    refine hK16 _ ?_
    clear hK16 K16
    refine .seqk fun K18 hK18 => ?_
    refine .block ?_
    refine .seqk fun K19 hK19 => ?_
    refine .dreg mixed ?_
    refine Dr.cutk 9 fun K20 hK20 => ?_
    simp only [zt]
    simp [-Bool.exists_bool, hx]
    refine Dr.pcall (p156 x g.nodes.length) ?_
    refine hK20 _ _ ?_
    clear hK20 K20
    try simp [-Bool.exists_bool, hx]
    refine hK19 _ ?_
    clear hK19 K19
    refine .keep [1, 4, 45] ?_
    simp only [keepE, E_cons, E_nil]
    refine .condk _ rfl (fun hc5 => ?_) (fun hc5 => ?_)
    ·simp at hc5
     refine .seqk fun K21 hK21 => ?_
     refine .reg ?_
     simp
     refine hK21 _ ?_
     clear hK21 K21
     refine .ret ?_
     refine ret_z (.inr rfl) rfl rfl ?_
     simp [gErr, hn40, he80, hnn, any_cons_t (p := fun e => !fitsG e g.nodes.length) hx (by simp [hc5])]; omega
    ·simp at hc5
     refine .skip ?_
     refine hK18 _ ?_
     clear hK18 K18
     refine .reg ?_
     simp
     refine hK15 _ _ (by omega) (Wk.cov ?_ (.refl _)) ⟨?_, _, hho2, rfl⟩
     ·simp; exact wrap64 (by omega) (by omega)
     ·rw [any_drop _ _ _ _ hx (by simpa using hc5)]; exact hq
   ·simp at hc4
    have hi : i = g.edges.length := by omega
    have hee : g.edges.any (fun e => !fitsG e g.nodes.length) = false := by rw [← hq, hi]; simp
    refine .exit ?_
    try simp only [then', inBlk, if_true, if_false, reduceIte, Nat.reduceEqDiff]
    refine hK13 _ ?_
    clear hK16 hK15 hK13 K16 K15 K13
    refine .seqk fun K22 hK22 => ?_
    refine .reg ?_
    simp
    refine hK22 _ ?_
    clear hK22 K22
    refine .ret ?_
    refine ret_z (.inr rfl) rfl rfl ?_
    simp [gErr, hnn, hee]; omega
end Go.Abs
set_option linter.unusedVariables false
set_option linter.unusedSimpArgs false
namespace Go.Abs
open Go Go.Proofs
theorem gErr_len {g : Graph} (h : gErr g = 0) : g.nodes.length ≤ 40 ∧ g.edges.length ≤ 80 := by
 unfold gErr at h
 split at h
 ·cases h
 ·omega
end Go.Abs
set_option linter.unusedVariables false
set_option linter.unusedSimpArgs false
namespace Go.Abs
open Go Go.Proofs
theorem AW.seqdregx {α : Type} {P : Program} {N : Nat} {c : ACode} {Q : AX → St → Prop} {e : Env} {h : Heap} {ops : List GOp} {un : List (Nat × Nat)} (hm : P.follows .mixedOrders = true) (pre : α → Prop) (h' : α → Heap → Heap) (l : α → Env → List (Nat × AV))
  (ho : Dr P ops ⟨e, h⟩ fun s fs => conf un fs = true ∧ ∃ x, pre x ∧ Cov (l x e) s.env ∧ Dies s.h (h' x h)) (hw : ∀ x, pre x → AW P N c Q ⟨E (l x e), h' x h⟩) : AW P N (.seq (.dreg ops un) c) Q ⟨e, h⟩ :=
 .seq (.dreg hm (ho.mono fun s fs ⟨h0, x, h1, h2, h3⟩ => ⟨h0, .weak (Wk.cov (env := s.env) (h := s.h) h2 h3) (hw x h1)⟩))
theorem T.agg2 {h h' : Heap} {src : Nat → Option Nat} {a b c d : AV} (h1 : T h h' src a c) (h2 : T h h' src b d) : T h h' src (.agg [a, b]) (.agg [c, d]) :=
 .agg _ _ rfl fun j x y hx hy => by
  match j with
  | 0 => simp at hx hy; subst hx hy; exact h1
  | 1 => simp at hx hy; subst hx hy; exact h2
  | j + 2 => simp at hx
theorem Dies.kill1 (h : Heap) (b d v : Nat) (x : Option Blk) (z : HB) (h2 : b ≠ d) : Dies (Go.Abs.upd (Go.Abs.upd h b ⟨v, x⟩) d z) (Go.Abs.upd (Go.Abs.upd h b ⟨v, none⟩) d z) := by
 intro a
 by_cases e1 : a = d
 ·subst e1; exact .inl (by rw [upd_same, upd_same])
 ·rw [upd_ne _ _ _ _ e1, upd_ne _ _ _ _ e1]
  by_cases e3 : a = b
  ·subst e3; exact .inr ⟨by rw [upd_same], by rw [upd_same, upd_same]; exact Nat.le_refl _⟩
  ·exact .inl (by rw [upd_ne _ _ _ _ e3, upd_ne _ _ _ _ e3])
theorem p41 (g : Graph) (hn : g.nodes.length ≤ 1000000000) (he : g.edges.length ≤ 1000000000) : PCall Tryz.prog 41 [ag (Graph.c g)] (ag (Graph.c g)) := by
 intro h
 refine ACall.of b41 (by simp) ?_
 unfold c41
 refine .seqk fun K1 hK1 => ?_
 refine .reg ?_
 simp
 refine hK1 _ ?_
 clear hK1 K1
 refine .keep [1, 2] ?_
 simp only [keepE, E_cons, E_nil]
 refine .see (upd (upd _ 1 ⟨_, none⟩) 2 _) [(1, .dptr (Graph.c g)), (2, .ptr 2 _ 0 0)] ⟨T.box (k := 2) (cs := Graph.c g) (by simp [upd]) (by simp [upd]), .refl _, trivial⟩ (Dies.kill1 _ 1 2 _ _ _ (by decide)) ?_
 refine .seqdregx mixed (α := (Nat × Nat) × (Nat × Nat)) (fun x => True) (fun x hh => upd (upd (upd hh 3 ⟨x.1.1, some ⟨1, dl (g.nodes.map I.c)⟩⟩) 7 ⟨x.2.1, some ⟨3, dl (g.edges.map Edge.c)⟩⟩) 2 ⟨(outer h 2).ver + 1, some ⟨2, [[.sl 3 x.1.1 0 g.nodes.length x.1.2, .sl 7 x.2.1 0 g.edges.length x.2.2]]⟩⟩) (fun x ee => [(2, ee 2)]) ?_ (fun x hx => ?_)
 ·have q1 : g.nodes.length * 8 ≤ 17592186044416 := by omega
  have q2 : g.nodes.length ≤ 17592186044416 := by omega
  have q3 : g.edges.length * 24 ≤ 17592186044416 := by omega
  have q4 : g.edges.length ≤ 17592186044416 := by omega
  by_cases h1 : g.nodes = [] <;> by_cases h2 : g.edges = []
  ·simp [h1, h2, upd, srcOf]
   exact ⟨_, _, _, _, .refl _⟩
  ·simp [h1, h2, q3, q4, upd, srcOf]
   exact ⟨_, _, _, _, .refl _⟩
  ·simp [h1, h2, q1, q2, upd, srcOf]
   exact ⟨_, _, _, _, .refl _⟩
  ·simp [h1, h2, q1, q2, q3, q4, upd, srcOf]
   exact ⟨_, _, _, _, .refl _⟩
 try simp only [E_cons, E_nil]
 refine .ret ?_
 refine ret_d (v := .agg [.sl 3 x.1.1 0 g.nodes.length x.1.2, .sl 7 x.2.1 0 g.edges.length x.2.2]) (.inr rfl) ?_ (T.agg2 (T.row (xs := g.nodes.map I.c) (k := 1) (by simp) (by simp [upd]) (by simp)) (T.row (xs := g.edges.map Edge.c) (k := 3) (by simp) (by simp [upd]) (by simp))) rfl (by first | exact OutEq.outer _ | assumption | (simp; done) | (simp; assumption)) rfl
 simp [upd]
end Go.Abs
set_option linter.unusedVariables false
set_option linter.unusedSimpArgs false
namespace Go.Abs
open Go Go.Proofs
def pairsD : List ByteArray := [⟨#[45, 62]⟩, ⟨#[60, 61]⟩, ⟨#[62, 61]⟩, ⟨#[61, 61]⟩, ⟨#[33, 61]⟩]
def pairI (s : ByteArray) : Bool := decide ((2 : Int) ≤ (strL s).length) && pairsD.any (fun x => (s.extract 0 2).toList == x.toList)
def c279 : ACode := (.seq (.reg [⟨some 2,none,.mov (.c (.d (.bool false)))⟩]) (.seq (.reg [⟨some 3,none,.mov (.t 0)⟩,⟨some 4,none,.call 277 [(.t 3)]⟩,⟨some 5,none,.mov (.t 4)⟩,⟨some 6,some (5, false),.mov (.t 0)⟩,⟨some 7,some (5, false),.call 280 [(.t 6)]⟩,⟨some 8,none,.pick (.t 5) (.c (.d (.bool true))) (.t 7)⟩,⟨some 9,none,.mov (.t 8)⟩,⟨some 10,some (9, false),.mov (.t 0)⟩,⟨some 11,some (9, false),.bin .eql (.t 10) (.c (.d (.int .u8 95)))⟩,⟨some 12,none,.pick (.t 9) (.c (.d (.bool true))) (.t 11)⟩,⟨some 2,none,.mov (.t 12)⟩]) .ret))
theorem b279 : Body Tryz.prog 279 13 c279 [.tmp 2] := Body.of Tryz.f279 Tryz.func279 (by decide +kernel) (by decide +kernel) Tryz.ntmps279 (by decide +kernel) (by decide +kernel)
theorem p279 (n : Int) : PCall Tryz.prog 279 [.d (.int .u8 n)] (bo (part n)) := by
 intro h
 refine ACall.of b279 (by simp) ?_
 unfold c279
 refine .seqk fun K1 hK1 => ?_
 refine .reg ?_
 simp
 refine hK1 _ ?_
 clear hK1 K1
 refine .seqreg (fun hh => hh) (fun ee => [(2, bo (part n))]) ?_ ?_
 ·refine Sq.cutk 2 fun K1 hK1 => ?_
  simp only [zt]
  simp
  refine PCall.sq (p277 n) fun _ he => ?_
  simp only [mergeH_eq he]
  refine hK1 _ ?_
  by_cases h1 : letter n = true
  ·simp [h1, part]
  ·simp at h1
   refine Sq.cutk 3 fun K2 hK2 => ?_
   simp only [zt]
   simp [h1]
   refine PCall.sq (p280 n) fun _ he => ?_
   simp only [mergeH_eq he]
   refine hK2 _ ?_
   by_cases h2 : digit n = true
   ·simp [h1, h2, part]
   ·simp at h2
    by_cases h3 : n = 95
    ·subst h3; simp [h1, h2, part]
    ·simp [h1, h2, h3, part]
 try simp only [E_cons, E_nil]
 refine .ret ?_
 refine ret_z (.inr rfl) rfl rfl ?_
 simp
def c282 : ACode := (.seq (.reg [⟨some 2,none,.mov (.c (.d (.bool false)))⟩]) (.seq (.reg [⟨some 3,none,.mov (.t 0)⟩,⟨some 4,none,.len true (.t 3)⟩,⟨some 5,none,.bin .geq (.t 4) (.c (.d (.int .i64 2)))⟩,⟨some 6,none,.mov (.t 5)⟩,⟨some 7,some (6, true),.lit 1 5 [(.d (.str ⟨⟨[]⟩⟩))] [(0, (.c (.d (.str ⟨⟨[45, 62]⟩⟩)))),(1, (.c (.d (.str ⟨⟨[60, 61]⟩⟩)))),(2, (.c (.d (.str ⟨⟨[62, 61]⟩⟩)))),(3, (.c (.d (.str ⟨⟨[61, 61]⟩⟩)))),(4, (.c (.d (.str ⟨⟨[33, 61]⟩⟩))))]⟩,⟨some 8,some (6, true),.mov (.t 0)⟩,⟨some 9,some (6, true),.slice 0 (.t 8) none (some (.c (.d (.int .i64 2)))) none⟩,⟨some 10,some (6, true),.call 276 [(.t 7),(.t 9)]⟩,⟨some 11,none,.pick (.t 6) (.t 10) (.c (.d (.bool false)))⟩,⟨some 2,none,.mov (.t 11)⟩]) .ret))
theorem b282 : Body Tryz.prog 282 12 c282 [.tmp 2] := Body.of Tryz.f282 Tryz.func282 (by decide +kernel) (by decide +kernel) Tryz.ntmps282 (by decide +kernel) (by decide +kernel)
theorem p282 (s : ByteArray) : PCall Tryz.prog 282 [stri s] (bo (pairI s)) := by
 intro h
 refine ACall.of b282 (by simp) ?_
 unfold c282
 refine .seqk fun K1 hK1 => ?_
 refine .reg ?_
 simp
 refine hK1 _ ?_
 clear hK1 K1
 refine .seqregS (fun hh => upd hh 7 ⟨(hh 7).ver + 1, none⟩) (fun ee => [(2, bo (pairI s))]) ?_ ?_
 ·by_cases h2 : (2 : Int) ≤ (strL s).length
  ·have h3 : 2 ≤ (strL s).length := by omega
   refine SQ.cut 5 fun K1 hK1 => ?_
   simp only [zt]
   refine .of ?_
   simp [h2, h3]
   refine hK1 _ ?_
   refine SQ.see (upd _ 7 ⟨_, none⟩) [(6, bo true), (0, stri s), (7, sl (pairsD.map S.c))] ⟨.refl _, .refl _, T.rowD (k := 1) (pairsD.map S.c) (by simp; rfl) (by simp) rfl, trivial⟩ (Dies.kill _ _ _ _) ?_
   refine .of ?_
   refine Sq.cutk 3 fun K2 hK2 => ?_
   simp only [zt]
   simp [h2, h3]
   refine PCall.sq (p276 pairsD (s.extract 0 2)) fun _ he => ?_
   simp only [mergeH_eq he]
   refine hK2 _ ?_
   simp [pairI, h2]
  ·have h3 : ¬ 2 ≤ (strL s).length := by omega
   refine .of ?_
   simp [h2, h3, pairI]
   exact Dies.bump _ _ _ (by omega)
 try simp only [E_cons, E_nil]
 refine .ret ?_
 refine ret_z (.inr rfl) rfl rfl ?_
 simp
end Go.Abs
set_option linter.unusedVariables false
set_option linter.unusedSimpArgs false
namespace Go.Abs
open Go Go.Proofs
def quotedI (l : List UInt8) : Int × Int :=
 if l[1 + runB quotable (l.drop 1)]? ≠ some 34 then (0, 2) else if (60 : Int) < runB quotable (l.drop 1) then (0, 3) else (runB quotable (l.drop 1) + 2, 0)
def c281 : ACode := (.seq (.reg [⟨some 2,none,.mov (.c (.d (.int .i64 0)))⟩,⟨some 3,none,.mov (.c (.d (.int .i64 0)))⟩]) (.seq (.reg [⟨some 5,none,.mov (.t 0)⟩,⟨some 6,none,.slice 0 (.t 5) (some (.c (.d (.int .i64 1)))) none none⟩,⟨some 7,none,.call 278 [(.t 6),(.c (.fn 285 []))]⟩,⟨some 4,none,.mov (.t 7)⟩]) (.seq (.seq (.reg [⟨some 8,none,.mov (.t 4)⟩,⟨some 9,none,.bin .add (.c (.d (.int .i64 1))) (.t 8)⟩,⟨some 10,none,.mov (.t 0)⟩,⟨some 11,none,.len true (.t 10)⟩,⟨some 12,none,.bin .eql (.t 9) (.t 11)⟩,⟨some 13,none,.mov (.t 12)⟩,⟨some 14,some (13, false),.mov (.t 0)⟩,⟨some 15,some (13, false),.mov (.t 4)⟩,⟨some 16,some (13, false),.bin .add (.c (.d (.int .i64 1))) (.t 15)⟩,⟨some 17,some (13, false),.sidx (.t 14) (.t 16)⟩,⟨some 18,some (13, false),.bin .neq (.t 17) (.c (.d (.int .u8 34)))⟩,⟨some 19,none,.pick (.t 13) (.c (.d (.bool true))) (.t 18)⟩]) (.cond (.t 19) (.seq (.reg [⟨some 2,none,.mov (.c (.d (.int .i64 0)))⟩,⟨some 3,none,.mov (.c (.d (.int .i64 2)))⟩]) .ret) .skip)) (.seq (.seq (.reg [⟨some 20,none,.mov (.t 4)⟩,⟨some 21,none,.bin .gtr (.t 20) (.c (.d (.int .i64 60)))⟩]) (.cond (.t 21) (.seq (.reg [⟨some 2,none,.mov (.c (.d (.int .i64 0)))⟩,⟨some 3,none,.mov (.c (.d (.int .i64 3)))⟩]) .ret) .skip)) (.seq (.reg [⟨some 22,none,.mov (.t 4)⟩,⟨some 23,none,.bin .add (.t 22) (.c (.d (.int .i64 2)))⟩,⟨some 2,none,.mov (.t 23)⟩,⟨some 3,none,.mov (.c (.d (.int .i64 0)))⟩]) .ret)))))
theorem b281 : Body Tryz.prog 281 24 c281 [.tmp 2, .tmp 3] := Body.of Tryz.f281 Tryz.func281 (by decide +kernel) (by decide +kernel) Tryz.ntmps281 (by decide +kernel) (by decide +kernel)
theorem p281 (s : ByteArray) (hm : (strL s).length ≤ 140737488355328) (h0 : 1 ≤ (strL s).length) : PCall Tryz.prog 281 [stri s] (.tup [int (quotedI (strL s)).1, int (quotedI (strL s)).2]) := by
 intro h
 refine ACall.of b281 (by simp) ?_
 unfold c281
 have hI : (1 : Int) ≤ (strL s).length := by omega
 obtain ⟨n, hn⟩ : ∃ n, n = runB quotable ((strL s).drop 1) := ⟨_, rfl⟩
 have hnl : n ≤ (strL s).length - 1 := by rw [hn]; exact Nat.le_trans (runB_le _ _) (by simp)
 have hx0 : strL (s.extract 1 (strL s).length) = (strL s).drop 1 := by rw [strL_extract, List.take_of_length_le (Nat.le_refl _)]
 have hq : quotedI (strL s) = if (strL s)[1 + n]? ≠ some 34 then (0, 2) else if (60 : Int) < n then (0, 3) else ((n : Int) + 2, 0) := by rw [hn]; rfl
 have hw1 : IntKind.i64.wrap (1 + (n : Int)) = 1 + (n : Int) := wrap64 (by omega) (by omega)
 have ht : (1 + (n : Int)).toNat = 1 + n := by omega
 have hp : (0 : Int) ≤ 1 + (n : Int) := by omega
 have hw2 : IntKind.i64.wrap ((n : Int) + 2) = (n : Int) + 2 := wrap64 (by omega) (by omega)
 refine .seqk fun K1 hK1 => ?_
 refine .reg ?_
 simp
 refine hK1 _ ?_
 clear hK1 K1
 refine .seqk fun K2 hK2 => ?_
 refine .reg ?_
 refine Sq.cutk 3 fun K3 hK3 => ?_
 simp only [zt]
 simp [hI]
 refine PCall.sq (p278 (s.extract 1 (strL s).length) 285 [] quotable (by rw [hx0]; simp; omega) p285) fun h1 he1 => ?_
 simp only [mergeH_eq he1]
 clear he1 h1
 refine hK3 _ ?_
 clear hK3 K3
 simp [hI]
 rw [hx0, ← hn]
 refine hK2 _ ?_
 clear hK2 K2
 refine .keep [0, 4, 14, 15, 16, 17, 18] ?_
 simp only [keepE, E_cons, E_nil]
 refine .seqk fun K4 hK4 => ?_
 refine .seqreg (fun hh => hh) (fun ee => [(4, ee 4), (19, bo (decide ((strL s)[1 + n]? ≠ some 34)))]) ?_ ?_
 ·by_cases he : 1 + n = (strL s).length
  ·have hx : (strL s)[1 + n]? = none := by rw [he]; simp
   have he2 : 1 + (n : Int) = ((strL s).length : Int) := by omega
   have hw3 : IntKind.i64.wrap ((strL s).length : Int) = ((strL s).length : Int) := wrap64 (by omega) (by omega)
   simp [hw1, hw3, he2, hx]
  ·have hlt : 1 + n < (strL s).length := by omega
   obtain ⟨c, hx⟩ := get_some hlt
   obtain ⟨hlt', hc⟩ := strL_get hx
   have he2 : ¬ 1 + (n : Int) = ((strL s).length : Int) := by omega
   have h34 : ((c.toNat : Int) = 34) ↔ c = 34 := u8_eq c 34 (by omega)
   by_cases h35 : c = 34 <;> simp [hw1, he2, hx, hc, ht, hp, h34, h35]
 try simp only [E_cons, E_nil]
 refine .condk _ rfl (fun hc1 => ?_) (fun hc1 => ?_)
 ·skip
  refine .seqk fun K5 hK5 => ?_
  refine .reg ?_
  simp
  refine hK5 _ ?_
  clear hK5 K5
  refine .ret ?_
  refine ret_z (.inr rfl) rfl rfl ?_
  simp at hc1
  simp [hq, hc1]
 ·skip
  refine .skip ?_
  refine hK4 _ ?_
  clear hK4 K4
  refine .seqk fun K6 hK6 => ?_
  refine .seqk fun K7 hK7 => ?_
  refine .reg ?_
  simp
  refine hK7 _ ?_
  clear hK7 K7
  refine .condk _ rfl (fun hc2 => ?_) (fun hc2 => ?_)
  ·skip
   refine .seqk fun K8 hK8 => ?_
   refine .reg ?_
   simp
   refine hK8 _ ?_
   clear hK8 K8
   refine .ret ?_
   refine ret_z (.inr rfl) rfl rfl ?_
   simp at hc1 hc2
   simp [hq, hc1, hc2]
  ·skip
   refine .skip ?_
   refine hK6 _ ?_
   clear hK6 K6
   refine .seqk fun K9 hK9 => ?_
   refine .reg ?_
   simp
   refine hK9 _ ?_
   clear hK9 K9
   refine .keep [2, 3] ?_
   simp only [keepE, E_cons, E_nil]
   refine .ret ?_
   refine ret_z (.inr rfl) rfl rfl ?_
   simp at hc1 hc2
   have hc3 : ¬ (60 : Int) < n := by omega
   simp [hq, hc1, hc3, hw2]
end Go.Abs
set_option linter.unusedVariables false
set_option linter.unusedSimpArgs false
namespace Go.Abs
open Go Go.Proofs
def singles : ByteArray := ⟨#[123, 125, 40, 41, 91, 93, 44, 59, 58, 61, 43, 45, 42, 60, 62, 33, 38, 124, 46, 63]⟩
def nextC (s : ByteArray) (c : UInt8) : Int × Int × Int :=
 if letter c.toNat = true then (if (20 : Int) < runB part (strL s) then (0, 0, 3) else (1, runB part (strL s), 0))
 else if digit c.toNat = true then (if (9 : Int) < runB digit (strL s) then (0, 0, 3) else (2, runB digit (strL s), 0))
 else if (c.toNat : Int) = 34 then (3, (quotedI (strL s)).1, (quotedI (strL s)).2)
 else if pairI s = true then (4, 2, 0)
 else if 0 ≤ Lib.indexByte (strL singles) (c.toNat : Int).toNat.toUInt8 then (4, 1, 0)
 else (0, 0, 2)
def c274 : ACode := (.seq (.reg [⟨some 2,none,.mov (.c (.d (.int .i64 0)))⟩,⟨some 3,none,.mov (.c (.d (.int .i64 0)))⟩,⟨some 4,none,.mov (.c (.d (.int .i64 0)))⟩]) (.seq (.reg [⟨some 10,none,.mov (.t 0)⟩,⟨some 11,none,.sidx (.t 10) (.c (.d (.int .i64 0)))⟩,⟨some 5,none,.mov (.t 11)⟩]) (.seq (.block 0 (.seq (.reg [⟨some 13,none,.mov (.t 5)⟩,⟨some 14,none,.call 277 [(.t 13)]⟩,⟨some 12,none,.mov (.t 14)⟩]) (.cond (.t 12) (.seq (.reg [⟨some 15,none,.mov (.t 0)⟩,⟨some 16,none,.call 278 [(.t 15),(.c (.fn 279 []))]⟩,⟨some 6,none,.mov (.t 16)⟩]) (.seq (.seq (.reg [⟨some 17,none,.mov (.t 6)⟩,⟨some 18,none,.bin .gtr (.t 17) (.c (.d (.int .i64 20)))⟩]) (.cond (.t 18) (.seq (.reg [⟨some 2,none,.mov (.c (.d (.int .i64 0)))⟩,⟨some 3,none,.mov (.c (.d (.int .i64 0)))⟩,⟨some 4,none,.mov (.c (.d (.int .i64 3)))⟩]) .ret) .skip)) (.seq (.reg [⟨some 19,none,.mov (.t 6)⟩,⟨some 2,none,.mov (.c (.d (.int .i64 1)))⟩,⟨some 3,none,.mov (.t 19)⟩,⟨some 4,none,.mov (.c (.d (.int .i64 0)))⟩]) .ret))) (.seq (.reg [⟨some 21,none,.mov (.t 5)⟩,⟨some 22,none,.call 280 [(.t 21)]⟩,⟨some 20,none,.mov (.t 22)⟩]) (.cond (.t 20) (.seq (.reg [⟨some 23,none,.mov (.t 0)⟩,⟨some 24,none,.call 278 [(.t 23),(.c (.fn 280 []))]⟩,⟨some 7,none,.mov (.t 24)⟩]) (.seq (.seq (.reg [⟨some 25,none,.mov (.t 7)⟩,⟨some 26,none,.bin .gtr (.t 25) (.c (.d (.int .i64 9)))⟩]) (.cond (.t 26) (.seq (.reg [⟨some 2,none,.mov (.c (.d (.int .i64 0)))⟩,⟨some 3,none,.mov (.c (.d (.int .i64 0)))⟩,⟨some 4,none,.mov (.c (.d (.int .i64 3)))⟩]) .ret) .skip)) (.seq (.reg [⟨some 27,none,.mov (.t 7)⟩,⟨some 2,none,.mov (.c (.d (.int .i64 2)))⟩,⟨some 3,none,.mov (.t 27)⟩,⟨some 4,none,.mov (.c (.d (.int .i64 0)))⟩]) .ret))) (.seq (.reg [⟨some 29,none,.mov (.t 5)⟩,⟨some 30,none,.bin .eql (.t 29) (.c (.d (.int .u8 34)))⟩,⟨some 28,none,.mov (.t 30)⟩]) (.cond (.t 28) (.seq (.reg [⟨some 32,none,.mov (.t 0)⟩,⟨some 33,none,.call 281 [(.t 32)]⟩,⟨some 31,none,.mov (.t 33)⟩,⟨some 34,none,.ext (.t 31) 0⟩,⟨some 35,none,.ext (.t 31) 1⟩,⟨some 8,none,.mov (.t 34)⟩,⟨some 9,none,.mov (.t 35)⟩]) (.seq (.reg [⟨some 36,none,.mov (.t 8)⟩,⟨some 37,none,.mov (.t 9)⟩,⟨some 2,none,.mov (.c (.d (.int .i64 3)))⟩,⟨some 3,none,.mov (.t 36)⟩,⟨some 4,none,.mov (.t 37)⟩]) .ret)) (.seq (.reg [⟨some 39,none,.mov (.t 0)⟩,⟨some 40,none,.call 282 [(.t 39)]⟩,⟨some 38,none,.mov (.t 40)⟩]) (.cond (.t 38) (.seq (.reg [⟨some 2,none,.mov (.c (.d (.int .i64 4)))⟩,⟨some 3,none,.mov (.c (.d (.int .i64 2)))⟩,⟨some 4,none,.mov (.c (.d (.int .i64 0)))⟩]) .ret) (.seq (.reg [⟨some 42,none,.mov (.t 5)⟩,⟨some 43,none,.call 283 [(.c (.d (.str ⟨⟨[123, 125, 40, 41, 91, 93, 44, 59, 58, 61, 43, 45, 42, 60, 62, 33, 38, 124, 46, 63]⟩⟩))),(.t 42)]⟩,⟨some 44,none,.bin .geq (.t 43) (.c (.d (.int .i64 0)))⟩,⟨some 41,none,.mov (.t 44)⟩]) (.cond (.t 41) (.seq (.reg [⟨some 2,none,.mov (.c (.d (.int .i64 4)))⟩,⟨some 3,none,.mov (.c (.d (.int .i64 1)))⟩,⟨some 4,none,.mov (.c (.d (.int .i64 0)))⟩]) .ret) .skip))))))))))) (.seq (.reg [⟨some 2,none,.mov (.c (.d (.int .i64 0)))⟩,⟨some 3,none,.mov (.c (.d (.int .i64 0)))⟩,⟨some 4,none,.mov (.c (.d (.int .i64 2)))⟩]) .ret))))
theorem b274 : Body Tryz.prog 274 45 c274 [.tmp 2, .tmp 3, .tmp 4] := Body.of Tryz.f274 Tryz.func274 (by decide +kernel) (by decide +kernel) Tryz.ntmps274 (by decide +kernel) (by decide +kernel)
theorem p274 (s : ByteArray) (c : UInt8) (hm : (strL s).length ≤ 140737488355328) (hx : (strL s)[0]? = some c) : PCall Tryz.prog 274 [stri s] (.tup [int (nextC s c).1, int (nextC s c).2.1, int (nextC s c).2.2]) := by
 intro h
 refine ACall.of b274 (by simp) ?_
 unfold c274
 have h0 : 1 ≤ (strL s).length := by have := (List.getElem?_eq_some_iff.1 hx).1; omega
 obtain ⟨hlt', hc⟩ := strL_get hx
 refine .seqk fun K1 hK1 => ?_
 refine .reg ?_
 simp
 refine hK1 _ ?_
 clear hK1 K1
 refine .keep [0] ?_
 simp only [keepE, E_cons, E_nil]
 refine .seqk fun K2 hK2 => ?_
 refine .reg ?_
 simp [hx]
 refine hK2 _ ?_
 clear hK2 K2
 refine .keep [0, 5] ?_
 simp only [keepE, E_cons, E_nil]
 refine .seqk fun K3 hK3 => ?_
 refine .block ?_
 refine .seqk fun K4 hK4 => ?_
 refine .reg ?_
 refine Sq.cutk 2 fun K5 hK5 => ?_
 simp only [zt]
 simp
 refine PCall.sq (p277 _) fun h1 he1 => ?_
 simp only [mergeH_eq he1]
 clear he1 h1
 refine hK5 _ ?_
 clear hK5 K5
 simp
 refine hK4 _ ?_
 clear hK4 K4
 refine .keep [0, 5, 12] ?_
 simp only [keepE, E_cons, E_nil]
 refine .condk _ rfl (fun hc1 => ?_) (fun hc1 => ?_)
 ·skip
  refine .seqk fun K6 hK6 => ?_
  refine .reg ?_
  refine Sq.cutk 2 fun K7 hK7 => ?_
  simp only [zt]
  simp
  refine PCall.sq (p278 s 279 [] part hm p279) fun h1 he1 => ?_
  simp only [mergeH_eq he1]
  clear he1 h1
  refine hK7 _ ?_
  clear hK7 K7
  simp
  refine hK6 _ ?_
  clear hK6 K6
  refine .keep [6] ?_
  simp only [keepE, E_cons, E_nil]
  refine .seqk fun K8 hK8 => ?_
  refine .seqk fun K9 hK9 => ?_
  refine .reg ?_
  simp
  refine hK9 _ ?_
  clear hK9 K9
  refine .condk _ rfl (fun hc2 => ?_) (fun hc2 => ?_)
  ·simp at hc2
   refine .seqk fun K10 hK10 => ?_
   refine .reg ?_
   simp
   refine hK10 _ ?_
   clear hK10 K10
   refine .keep [2, 3, 4] ?_
   simp only [keepE, E_cons, E_nil]
   refine .ret ?_
   refine ret_z (.inr rfl) rfl rfl ?_
   simp [nextC, hc1, hc2]
  ·try simp at hc2
   refine .skip ?_
   refine hK8 _ ?_
   clear hK8 K8
   refine .seqk fun K11 hK11 => ?_
   refine .reg ?_
   simp
   refine hK11 _ ?_
   clear hK11 K11
   refine .keep [2, 3, 4] ?_
   simp only [keepE, E_cons, E_nil]
   refine .ret ?_
   refine ret_z (.inr rfl) rfl rfl ?_
   simp [nextC, hc1, Int.not_lt.2 hc2]
 ·try simp at hc1
  refine .seqk fun K12 hK12 => ?_
  refine .reg ?_
  refine Sq.cutk 2 fun K13 hK13 => ?_
  simp only [zt]
  simp
  refine PCall.sq (p280 _) fun h1 he1 => ?_
  simp only [mergeH_eq he1]
  clear he1 h1
  refine hK13 _ ?_
  clear hK13 K13
  simp
  refine hK12 _ ?_
  clear hK12 K12
  refine .keep [0, 5, 20] ?_
  simp only [keepE, E_cons, E_nil]
  refine .condk _ rfl (fun hc3 => ?_) (fun hc3 => ?_)
  ·try simp at hc3
   refine .seqk fun K14 hK14 => ?_
   refine .reg ?_
   refine Sq.cutk 2 fun K15 hK15 => ?_
   simp only [zt]
   simp
   refine PCall.sq (p278 s 280 [] digit hm p280) fun h1 he1 => ?_
   simp only [mergeH_eq he1]
   clear he1 h1
   refine hK15 _ ?_
   clear hK15 K15
   simp
   refine hK14 _ ?_
   clear hK14 K14
   refine .keep [7] ?_
   simp only [keepE, E_cons, E_nil]
   refine .seqk fun K16 hK16 => ?_
   refine .seqk fun K17 hK17 => ?_
   refine .reg ?_
   simp
   refine hK17 _ ?_
   clear hK17 K17
   refine .condk _ rfl (fun hc4 => ?_) (fun hc4 => ?_)
   ·try simp at hc4
    refine .seqk fun K18 hK18 => ?_
    refine .reg ?_
    simp
    refine hK18 _ ?_
    clear hK18 K18
    refine .keep [2, 3, 4] ?_
    simp only [keepE, E_cons, E_nil]
    refine .ret ?_
    refine ret_z (.inr rfl) rfl rfl ?_
    simp [nextC, hc1, hc3, hc4]
   ·try simp at hc4
    refine .skip ?_
    refine hK16 _ ?_
    clear hK16 K16
    refine .seqk fun K19 hK19 => ?_
    refine .reg ?_
    simp
    refine hK19 _ ?_
    clear hK19 K19
    refine .keep [2, 3, 4] ?_
    simp only [keepE, E_cons, E_nil]
    refine .ret ?_
    refine ret_z (.inr rfl) rfl rfl ?_
    simp [nextC, hc1, hc3, Int.not_lt.2 hc4]
  ·try simp at hc3
   refine .seqk fun K20 hK20 => ?_
   refine .reg ?_
   simp
   refine hK20 _ ?_
   clear hK20 K20
   refine .keep [0, 5, 28] ?_
   simp only [keepE, E_cons, E_nil]
   refine .condk _ rfl (fun hc5 => ?_) (fun hc5 => ?_)
   ·try simp at hc5
    refine .seqk fun K21 hK21 => ?_
    refine .reg ?_
    refine Sq.cutk 2 fun K22 hK22 => ?_
    simp only [zt]
    simp
    refine PCall.sq (p281 s hm h0) fun h1 he1 => ?_
    simp only [mergeH_eq he1]
    clear he1 h1
    refine hK22 _ ?_
    clear hK22 K22
    simp
    refine hK21 _ ?_
    clear hK21 K21
    refine .keep [8, 9] ?_
    simp only [keepE, E_cons, E_nil]
    refine .seqk fun K23 hK23 => ?_
    refine .reg ?_
    simp
    refine hK23 _ ?_
    clear hK23 K23
    refine .keep [2, 3, 4] ?_
    simp only [keepE, E_cons, E_nil]
    refine .ret ?_
    refine ret_z (.inr rfl) rfl rfl ?_
    rw [hc5] at hc1 hc3
    simp [nextC, hc1, hc3, hc5]
   ·try simp at hc5
    refine .seqk fun K24 hK24 => ?_
    refine .reg ?_
    refine Sq.cutk 2 fun K25 hK25 => ?_
    simp only [zt]
    simp
    refine PCall.sq (p282 s) fun h1 he1 => ?_
    simp only [mergeH_eq he1]
    clear he1 h1
    refine hK25 _ ?_
    clear hK25 K25
    simp
    refine hK24 _ ?_
    clear hK24 K24
    refine .keep [5, 38] ?_
    simp only [keepE, E_cons, E_nil]
    refine .condk _ rfl (fun hc6 => ?_) (fun hc6 => ?_)
    ·try simp at hc6
     refine .seqk fun K26 hK26 => ?_
     refine .reg ?_
     simp
     refine hK26 _ ?_
     clear hK26 K26
     refine .keep [2, 3, 4] ?_
     simp only [keepE, E_cons, E_nil]
     refine .ret ?_
     refine ret_z (.inr rfl) rfl rfl ?_
     simp [nextC, hc1, hc3, hc5, hc6]
    ·try simp at hc6
     refine .seqk fun K27 hK27 => ?_
     refine .reg ?_
     refine Sq.cutk 2 fun K28 hK28 => ?_
     simp only [zt]
     simp
     refine PCall.sq (p283 singles _) fun h1 he1 => ?_
     simp only [mergeH_eq he1]
     clear he1 h1
     refine hK28 _ ?_
     clear hK28 K28
     simp
     refine hK27 _ ?_
     clear hK27 K27
     refine .keep [41] ?_
     simp only [keepE, E_cons, E_nil]
     refine .condk _ rfl (fun hc7 => ?_) (fun hc7 => ?_)
     ·simp at hc7
      refine .seqk fun K29 hK29 => ?_
      refine .reg ?_
      simp
      refine hK29 _ ?_
      clear hK29 K29
      refine .keep [2, 3, 4] ?_
      simp only [keepE, E_cons, E_nil]
      refine .ret ?_
      refine ret_z (.inr rfl) rfl rfl ?_
      simp [nextC, hc1, hc3, hc5, hc6, hc7]
     ·simp at hc7
      refine .skip ?_
      refine hK3 _ ?_
      clear hK3 K3
      refine .seqk fun K30 hK30 => ?_
      refine .reg ?_
      simp
      refine hK30 _ ?_
      clear hK30 K30
      refine .keep [2, 3, 4] ?_
      simp only [keepE, E_cons, E_nil]
      refine .ret ?_
      refine ret_z (.inr rfl) rfl rfl ?_
      simp [nextC, hc1, hc3, hc5, hc6, Int.not_le.2 hc7]
end Go.Abs
set_option linter.unusedVariables false
set_option linter.unusedSimpArgs false
namespace Go.Abs
open Go Go.Proofs
def wholeI (s : ByteArray) : Bool := match (strL s)[0]? with
 | none => false
 | some c => decide ((nextC s c).2.2 = 0) && decide ((nextC s c).1 = 1) && decide ((nextC s c).2.1 = (strL s).length)
theorem toList_strL (s : ByteArray) : s.toList = strL s := by
 exact ByteArray.toList_eq s
def c262 : ACode := (.seq (.reg [⟨some 1,none,.box 3 (.t 0)⟩,⟨some 2,none,.mov (.c (.d (.str ⟨⟨[]⟩⟩)))⟩,⟨some 3,none,.mov (.c (.d (.bool false)))⟩]) (.seq (.reg [⟨some 8,none,.addr 1 (.t 1)⟩,⟨some 9,none,.load none (.t 8)⟩,⟨some 4,none,.mov (.t 9)⟩]) (.seq (.seq (.reg [⟨some 10,none,.addr 0 (.t 1)⟩,⟨some 11,none,.load none (.t 10)⟩,⟨some 12,none,.bin .eql (.t 11) (.c (.d (.int .i64 3)))⟩]) (.cond (.t 12) (.reg [⟨some 13,none,.mov (.t 4)⟩,⟨some 14,none,.bin .add (.c (.d (.str ⟨⟨[34]⟩⟩))) (.t 13)⟩,⟨some 15,none,.bin .add (.t 14) (.c (.d (.str ⟨⟨[34]⟩⟩)))⟩,⟨some 4,none,.mov (.t 15)⟩]) .skip)) (.seq (.seq (.reg [⟨some 16,none,.mov (.t 4)⟩,⟨some 17,none,.bin .eql (.t 16) (.c (.d (.str ⟨⟨[]⟩⟩)))⟩]) (.cond (.t 17) (.seq (.reg [⟨some 2,none,.mov (.c (.d (.str ⟨⟨[]⟩⟩)))⟩,⟨some 3,none,.mov (.c (.d (.bool false)))⟩]) .ret) .skip)) (.seq (.reg [⟨some 19,none,.mov (.t 4)⟩,⟨some 20,none,.call 274 [(.t 19)]⟩,⟨some 18,none,.mov (.t 20)⟩,⟨some 21,none,.ext (.t 18) 0⟩,⟨some 22,none,.ext (.t 18) 1⟩,⟨some 23,none,.ext (.t 18) 2⟩,⟨some 5,none,.mov (.t 21)⟩,⟨some 6,none,.mov (.t 22)⟩,⟨some 7,none,.mov (.t 23)⟩]) (.seq (.reg [⟨some 24,none,.mov (.t 4)⟩,⟨some 25,none,.mov (.t 7)⟩,⟨some 26,none,.bin .eql (.t 25) (.c (.d (.int .i64 0)))⟩,⟨some 27,none,.mov (.t 26)⟩,⟨some 28,some (27, true),.mov (.t 5)⟩,⟨some 29,some (27, true),.addr 0 (.t 1)⟩,⟨some 30,some (27, true),.load none (.t 29)⟩,⟨some 31,some (27, true),.bin .eql (.t 28) (.t 30)⟩,⟨some 32,none,.pick (.t 27) (.t 31) (.c (.d (.bool false)))⟩,⟨some 33,none,.mov (.t 32)⟩,⟨some 34,some (33, true),.mov (.t 6)⟩,⟨some 35,some (33, true),.mov (.t 4)⟩,⟨some 36,some (33, true),.len true (.t 35)⟩,⟨some 37,some (33, true),.bin .eql (.t 34) (.t 36)⟩,⟨some 38,none,.pick (.t 33) (.t 37) (.c (.d (.bool false)))⟩,⟨some 2,none,.mov (.t 24)⟩,⟨some 3,none,.mov (.t 38)⟩]) .ret))))))
theorem b262 : Body Tryz.prog 262 39 c262 [.tmp 2, .tmp 3] := Body.of Tryz.f262 Tryz.func262 (by decide +kernel) (by decide +kernel) Tryz.ntmps262 (by decide +kernel) (by decide +kernel)
theorem p262 (s : ByteArray) (hm : (strL s).length ≤ 140737488355328) : PCall Tryz.prog 262 [.agg [int 1, stri s, int 0]] (.tup [stri s, bo (wholeI s)]) := by
 intro h
 refine ACall.of b262 (by simp) ?_
 unfold c262
 refine .seqk fun K1 hK1 => ?_
 refine .reg ?_
 simp
 refine hK1 _ ?_
 clear hK1 K1
 refine .keep [1, 28, 29, 30, 31, 34, 35, 36, 37] ?_
 simp only [keepE, E_cons, E_nil]
 refine .seqk fun K2 hK2 => ?_
 refine .reg ?_
 simp
 refine hK2 _ ?_
 clear hK2 K2
 refine .keep [1, 4, 28, 29, 30, 31, 34, 35, 36, 37] ?_
 simp only [keepE, E_cons, E_nil]
 refine .seqk fun K3 hK3 => ?_
 refine .seqk fun K4 hK4 => ?_
 refine .reg ?_
 simp
 refine hK4 _ ?_
 clear hK4 K4
 refine .keep [1, 4, 12, 28, 29, 30, 31, 34, 35, 36, 37] ?_
 simp only [keepE, E_cons, E_nil]
 refine .condk _ rfl (fun hc1 => ?_) (fun hc1 => ?_)
 ·cases hc1
 ·skip
  refine .skip ?_
  refine hK3 _ ?_
  clear hK3 K3
  refine .seqk fun K5 hK5 => ?_
  refine .seqk fun K6 hK6 => ?_
  refine .reg ?_
  simp [toList_strL]
  refine hK6 _ ?_
  clear hK6 K6
  refine .condk _ rfl (fun hc2 => ?_) (fun hc2 => ?_)
  ·have hs : strL s = [] := by simpa [toList_strL, strL] using hc2
   have hs2 : s = ⟨#[]⟩ := by
    cases s with | mk d => simp [strL] at hs; rw [hs]
   refine .seqk fun K7 hK7 => ?_
   refine .reg ?_
   simp
   refine hK7 _ ?_
   clear hK7 K7
   refine .ret ?_
   refine ret_z (.inr rfl) rfl rfl ?_
   subst hs2
   rfl
  ·have hne : strL s ≠ [] := by intro e; simp [toList_strL, e, strL] at hc2; exact hc2 (by simpa [strL] using e)
   obtain ⟨c, hx⟩ : ∃ c, (strL s)[0]? = some c := get_some (List.length_pos_iff.2 hne)
   refine .skip ?_
   refine hK5 _ ?_
   clear hK5 K5
   refine .seqk fun K8 hK8 => ?_
   refine .reg ?_
   refine Sq.cutk 2 fun K9 hK9 => ?_
   simp only [zt]
   simp
   refine PCall.sq (p274 s c hm hx) fun h1 he1 => ?_
   simp only [mergeH_eq he1]
   clear he1 h1
   refine hK9 _ ?_
   clear hK9 K9
   simp
   refine hK8 _ ?_
   clear hK8 K8
   refine .keep [1, 4, 5, 6, 7, 28, 29, 30, 31, 34, 35, 36, 37] ?_
   simp only [keepE, E_cons, E_nil]
   refine .seqreg (fun hh => hh) (fun ee => [(2, stri s), (3, bo (wholeI s))]) ?_ ?_
   ·by_cases h0 : (nextC s c).2.2 = 0 <;> by_cases h1 : (nextC s c).1 = 1 <;> by_cases h2 : (nextC s c).2.1 = (strL s).length <;> simp [h0, h1, h2, wholeI, hx]
   try simp only [E_cons, E_nil]
   refine .ret ?_
   refine ret_z (.inr rfl) rfl rfl ?_
   simp
def c247 : ACode := (.seq (.reg [⟨some 2,none,.mov (.c (.d (.bool false)))⟩]) (.seq (.reg [⟨some 6,none,.mov (.t 0)⟩,⟨some 7,none,.build [(.d (.int .i64 0)),(.d (.str ⟨⟨[]⟩⟩)),(.d (.int .i64 0))] [(0, (1, (.c (.d (.int .i64 1))))),(1, (1, (.t 6)))]⟩,⟨some 8,none,.call 262 [(.t 7)]⟩,⟨some 5,none,.mov (.t 8)⟩,⟨some 9,none,.ext (.t 5) 0⟩,⟨some 10,none,.ext (.t 5) 1⟩,⟨some 3,none,.mov (.t 9)⟩,⟨some 4,none,.mov (.t 10)⟩]) (.seq (.reg [⟨some 11,none,.mov (.t 4)⟩,⟨some 2,none,.mov (.t 11)⟩]) .ret)))
theorem b247 : Body Tryz.prog 247 12 c247 [.tmp 2] := Body.of Tryz.f247 Tryz.func247 (by decide +kernel) (by decide +kernel) Tryz.ntmps247 (by decide +kernel) (by decide +kernel)
theorem p247 (s : ByteArray) (hm : (strL s).length ≤ 140737488355328) : PCall Tryz.prog 247 [stri s] (bo (wholeI s)) := by
 intro h
 refine ACall.of b247 (by simp) ?_
 unfold c247
 refine .seqk fun K1 hK1 => ?_
 refine .reg ?_
 simp
 refine hK1 _ ?_
 clear hK1 K1
 refine .seqk fun K2 hK2 => ?_
 refine .reg ?_
 refine Sq.cutk 3 fun K3 hK3 => ?_
 simp only [zt]
 simp
 refine PCall.sq (p262 s hm) fun h1 he1 => ?_
 simp only [mergeH_eq he1]
 clear he1 h1
 refine hK3 _ ?_
 clear hK3 K3
 simp
 refine hK2 _ ?_
 clear hK2 K2
 refine .keep [4] ?_
 simp only [keepE, E_cons, E_nil]
 refine .seqk fun K4 hK4 => ?_
 refine .reg ?_
 simp
 refine hK4 _ ?_
 clear hK4 K4
 refine .ret ?_
 refine ret_z (.inr rfl) rfl rfl ?_
 rfl
end Go.Abs
set_option linter.unusedVariables false
set_option linter.unusedSimpArgs false
namespace Go.Abs
open Go Go.Proofs
def runP (dg : Bool) (n : Int) : Bool := digit n || (!dg && (letter n || decide (n = 95)))
theorem runP_true : runP true = digit := by funext n; simp [runP]
theorem runP_false : runP false = part := by
 funext n
 simp only [runP, part, Bool.not_false, Bool.true_and]
 cases digit n <;> cases letter n <;> rfl
theorem wrapN {n : Nat} (h : n < 9223372036854775808) : IntKind.i64.wrap (n : Int) = n := wrap64 (by omega) (by omega)
def c269 : ACode := (.seq (.reg [⟨some 2,none,.mov (.c (.d (.bool false)))⟩]) (.seq (.reg [⟨some 3,none,.mov (.t 0)⟩,⟨some 4,none,.bin .geq (.t 3) (.c (.d (.int .u8 97)))⟩,⟨some 5,none,.mov (.t 4)⟩,⟨some 6,some (5, true),.mov (.t 0)⟩,⟨some 7,some (5, true),.bin .leq (.t 6) (.c (.d (.int .u8 122)))⟩,⟨some 8,none,.pick (.t 5) (.t 7) (.c (.d (.bool false)))⟩,⟨some 9,none,.mov (.t 8)⟩,⟨some 10,some (9, false),.mov (.t 0)⟩,⟨some 11,some (9, false),.bin .geq (.t 10) (.c (.d (.int .u8 65)))⟩,⟨some 12,some (9, false),.mov (.t 11)⟩,⟨some 13,some (12, true),.mov (.t 0)⟩,⟨some 14,some (12, true),.bin .leq (.t 13) (.c (.d (.int .u8 90)))⟩,⟨some 15,some (9, false),.pick (.t 12) (.t 14) (.c (.d (.bool false)))⟩,⟨some 16,none,.pick (.t 9) (.c (.d (.bool true))) (.t 15)⟩,⟨some 2,none,.mov (.t 16)⟩]) .ret))
theorem b269 : Body Tryz.prog 269 17 c269 [.tmp 2] := Body.of Tryz.f269 Tryz.func269 (by decide +kernel) (by decide +kernel) Tryz.ntmps269 (by decide +kernel) (by decide +kernel)
theorem p269 (n : Int) : PCall Tryz.prog 269 [.d (.int .u8 n)] (bo (letter n)) := by
 intro h
 refine ACall.of b269 (by simp) ?_
 unfold c269
 refine .seqk fun K1 hK1 => ?_
 refine .reg ?_
 simp
 refine hK1 _ ?_
 clear hK1 K1
 refine .seqreg (fun hh => hh) (fun ee => [(2, bo (letter n))]) ?_ ?_
 ·by_cases h0 : 97 ≤ n <;> by_cases h1 : n ≤ 122 <;> by_cases h2 : 65 ≤ n <;> by_cases h3 : n ≤ 90 <;> simp [h0, h1, h2, h3, letter]
 try simp only [E_cons, E_nil]
 refine .ret ?_
 refine ret_z (.inr rfl) rfl rfl ?_
 simp
def c270 : ACode := (.seq (.reg [⟨some 2,none,.mov (.c (.d (.bool false)))⟩]) (.seq (.reg [⟨some 3,none,.mov (.t 0)⟩,⟨some 4,none,.bin .geq (.t 3) (.c (.d (.int .u8 48)))⟩,⟨some 5,none,.mov (.t 4)⟩,⟨some 6,some (5, true),.mov (.t 0)⟩,⟨some 7,some (5, true),.bin .leq (.t 6) (.c (.d (.int .u8 57)))⟩,⟨some 8,none,.pick (.t 5) (.t 7) (.c (.d (.bool false)))⟩,⟨some 2,none,.mov (.t 8)⟩]) .ret))
theorem b270 : Body Tryz.prog 270 9 c270 [.tmp 2] := Body.of Tryz.f270 Tryz.func270 (by decide +kernel) (by decide +kernel) Tryz.ntmps270 (by decide +kernel) (by decide +kernel)
theorem p270 (n : Int) : PCall Tryz.prog 270 [.d (.int .u8 n)] (bo (digit n)) := by
 intro h
 refine ACall.of b270 (by simp) ?_
 unfold c270
 refine .seqk fun K1 hK1 => ?_
 refine .reg ?_
 simp
 refine hK1 _ ?_
 clear hK1 K1
 refine .seqreg (fun hh => hh) (fun ee => [(2, bo (digit n))]) ?_ ?_
 ·by_cases h0 : 48 ≤ n <;> by_cases h1 : n ≤ 57 <;> simp [h0, h1, digit]
 try simp only [E_cons, E_nil]
 refine .ret ?_
 refine ret_z (.inr rfl) rfl rfl ?_
 simp
def c271 : ACode := (.seq (.reg [⟨some 6,none,.mov (.c (.d (.int .i64 0)))⟩]) (.seq (.reg [⟨some 7,none,.mov (.c (.d (.int .i64 0)))⟩]) (.seq (.block 0 (.loop (.seq (.seq (.reg [⟨some 8,none,.mov (.t 1)⟩,⟨some 9,none,.mov (.t 7)⟩,⟨some 10,none,.bin .add (.t 8) (.t 9)⟩,⟨some 11,none,.mov (.t 0)⟩,⟨some 12,none,.len true (.t 11)⟩,⟨some 13,none,.bin .lss (.t 10) (.t 12)⟩,⟨some 14,none,.mov (.t 13)⟩,⟨some 15,some (14, true),.mov (.t 0)⟩,⟨some 16,some (14, true),.mov (.t 1)⟩,⟨some 17,some (14, true),.mov (.t 7)⟩,⟨some 18,some (14, true),.bin .add (.t 16) (.t 17)⟩,⟨some 19,some (14, true),.sidx (.t 15) (.t 18)⟩,⟨some 20,some (14, true),.call 270 [(.t 19)]⟩,⟨some 21,some (14, true),.mov (.t 20)⟩,⟨some 22,some (21, false),.mov (.t 2)⟩,⟨some 23,some (21, false),.not (.t 22)⟩,⟨some 24,some (21, false),.mov (.t 23)⟩,⟨some 25,some (24, true),.mov (.t 0)⟩,⟨some 26,some (24, true),.mov (.t 1)⟩,⟨some 27,some (24, true),.mov (.t 7)⟩,⟨some 28,some (24, true),.bin .add (.t 26) (.t 27)⟩,⟨some 29,some (24, true),.sidx (.t 25) (.t 28)⟩,⟨some 30,some (24, true),.call 269 [(.t 29)]⟩,⟨some 31,some (24, true),.mov (.t 30)⟩,⟨some 32,some (31, false),.mov (.t 0)⟩,⟨some 33,some (31, false),.mov (.t 1)⟩,⟨some 34,some (31, false),.mov (.t 7)⟩,⟨some 35,some (31, false),.bin .add (.t 33) (.t 34)⟩,⟨some 36,some (31, false),.sidx (.t 32) (.t 35)⟩,⟨some 37,some (31, false),.bin .eql (.t 36) (.c (.d (.int .u8 95)))⟩,⟨some 38,some (24, true),.pick (.t 31) (.c (.d (.bool true))) (.t 37)⟩,⟨some 39,some (21, false),.pick (.t 24) (.t 38) (.c (.d (.bool false)))⟩,⟨some 40,some (14, true),.pick (.t 21) (.c (.d (.bool true))) (.t 39)⟩,⟨some 41,none,.pick (.t 14) (.t 40) (.c (.d (.bool false)))⟩]) (.cond (.t 41) .skip (.exit 0))) (.block 1 (.reg [⟨some 42,none,.mov (.t 7)⟩,⟨some 43,none,.bin .add (.t 42) (.c (.d (.int .i64 1)))⟩,⟨some 7,none,.mov (.t 43)⟩]))))) (.seq (.reg [⟨some 44,none,.mov (.t 7)⟩,⟨some 6,none,.mov (.t 44)⟩]) .ret))))
theorem b271 : Body Tryz.prog 271 45 c271 [.tmp 6] := Body.of Tryz.f271 Tryz.func271 (by decide +kernel) (by decide +kernel) Tryz.ntmps271 (by decide +kernel) (by decide +kernel)
theorem p271 (s : ByteArray) (dg : Bool) (hm : (strL s).length ≤ 140737488355328) : PCall Tryz.prog 271 [stri s, int 0, bo dg] (int (runB (runP dg) (strL s))) := by
 intro h
 refine ACall.of b271 (by simp) ?_
 unfold c271
 refine .seqk fun K1 hK1 => ?_
 refine .reg ?_
 simp
 refine hK1 _ ?_
 clear hK1 K1
 refine .seqk fun K2 hK2 => ?_
 refine .reg ?_
 simp
 refine hK2 _ ?_
 clear hK2 K2
 refine .seqk fun K3 hK3 => ?_
 refine .block ?_
 refine .count (strL s).length (fun i st => i + runB (runP dg) ((strL s).drop i) = runB (runP dg) (strL s) ∧ st = ⟨E [(7, int i), (0, stri s), (1, int 0), (2, bo dg)], outer h⟩) 0 (Nat.zero_le _) _ (.cov (h' := outer h) (by simp) (.refl _)) ⟨by simp, rfl⟩ ?_
 rintro i s hi1 ⟨hp, rfl⟩ K4 hK4
 refine .seqk fun K5 hK5 => ?_
 refine .seqreg (fun hh => hh) (fun ee => [(0, ee 0), (1, ee 1), (2, ee 2), (7, ee 7), (41, bo (match (strL s)[i]? with | some c => runP dg c.toNat | none => false))]) ?_ ?_
 ·have hwi : IntKind.i64.wrap (i : Int) = i := wrapN (by omega)
  cases hx : (strL s)[i]? with
  | none =>
   have hlt : ¬ i < (strL s).length := by simpa using hx
   simp [hlt, hwi]
  | some c =>
   have hlt : i < (strL s).length := (List.getElem?_eq_some_iff.1 hx).1
   obtain ⟨hlt', hc⟩ := strL_get hx
   refine Sq.cutk 13 fun K1 hK1 => ?_
   simp only [zt]
   simp [hlt, hwi, hc]
   refine PCall.sq (p270 _) fun h1 he => ?_
   simp only [mergeH_eq he]
   refine hK1 _ ?_
   by_cases hd : digit c.toNat = true
   ·simp [hlt, hd, runP]
   ·simp at hd
    cases dg with
    | true => simp [hlt, hd, runP]
    | false =>
     refine Sq.cutk 10 fun K2 hK2 => ?_
     simp only [zt]
     simp [hlt, hwi, hc, hd]
     refine PCall.sq (p269 _) fun h1 he => ?_
     simp only [mergeH_eq he]
     refine hK2 _ ?_
     by_cases hl : letter c.toNat = true
     ·simp [hlt, hd, hl, runP]
     ·simp at hl
      by_cases h95 : (c.toNat : Int) = 95
      ·have hl95 : letter 95 = false := rfl
       have hd95 : digit 95 = false := rfl
       simp [hlt, hwi, hc, hd, hl, h95, runP, hl95, hd95]
      ·simp [hlt, hwi, hc, hd, hl, h95, runP]
 try simp only [E_cons, E_nil]
 refine .condk _ rfl (fun hc1 => ?_) (fun hc1 => ?_)
 ·obtain ⟨c, hx, hpc⟩ : ∃ c, (strL s)[i]? = some c ∧ runP dg c.toNat = true := by
   cases hx : (strL s)[i]? with
   | none => simp [hx] at hc1
   | some c => exact ⟨c, rfl, by simpa [hx] using hc1⟩
  have hlt : i < (strL s).length := (List.getElem?_eq_some_iff.1 hx).1
  refine .skip ?_
  refine hK5 _ ?_
  clear hK5 K5
  refine .block ?_
  refine .reg ?_
  simp
  refine hK4 _ _ (by omega) (Wk.cov (h' := outer h) (by simp; exact wrap64 (by omega) (by omega)) (.refl _)) ⟨?_, rfl⟩
  rw [← hp, drop_cons hx]
  simp [runB, hpc]
  omega
 ·have h0 : runB (runP dg) ((strL s).drop i) = 0 := by
   cases hx : (strL s)[i]? with
   | none => rw [List.drop_eq_nil_of_le (by simpa using hx)]; rfl
   | some c =>
    simp [hx] at hc1
    rw [drop_cons hx]
    simp [runB, hc1]
  refine .exit ?_
  try simp only [then', inBlk, if_true, if_false, reduceIte, Nat.reduceEqDiff]
  refine hK3 _ ?_
  clear hK5 hK4 hK3 K5 K4 K3
  refine .seqk fun K6 hK6 => ?_
  refine .reg ?_
  simp
  refine hK6 _ ?_
  clear hK6 K6
  refine .ret ?_
  refine ret_z (.inr rfl) rfl rfl ?_
  simp; omega
end Go.Abs
set_option linter.unusedVariables false
set_option linter.unusedSimpArgs false
namespace Go.Abs
open Go Go.Proofs
def quotedR (l : List UInt8) : Int := if l[1 + runB quotable (l.drop 1)]? = some 34 then (runB quotable (l.drop 1) : Int) + 2 else 0
def c272 : ACode := (.seq (.reg [⟨some 4,none,.mov (.c (.d (.int .i64 0)))⟩]) (.seq (.seq (.reg [⟨some 5,none,.mov (.c (.d (.int .i64 1)))⟩]) (.block 0 (.loop (.seq (.seq (.reg [⟨some 7,none,.mov (.t 1)⟩,⟨some 8,none,.mov (.t 5)⟩,⟨some 9,none,.bin .add (.t 7) (.t 8)⟩,⟨some 10,none,.mov (.t 0)⟩,⟨some 11,none,.len true (.t 10)⟩,⟨some 12,none,.bin .lss (.t 9) (.t 11)⟩]) (.cond (.t 12) .skip (.exit 0))) (.seq (.block 1 (.seq (.reg [⟨some 15,none,.mov (.t 0)⟩,⟨some 16,none,.mov (.t 1)⟩,⟨some 17,none,.mov (.t 5)⟩,⟨some 18,none,.bin .add (.t 16) (.t 17)⟩,⟨some 19,none,.sidx (.t 15) (.t 18)⟩,⟨some 6,none,.mov (.t 19)⟩]) (.seq (.seq (.reg [⟨some 20,none,.mov (.t 6)⟩,⟨some 21,none,.bin .eql (.t 20) (.c (.d (.int .u8 34)))⟩]) (.cond (.t 21) (.seq (.reg [⟨some 22,none,.mov (.t 5)⟩,⟨some 23,none,.bin .add (.t 22) (.c (.d (.int .i64 1)))⟩,⟨some 4,none,.mov (.t 23)⟩]) .ret) .skip)) (.seq (.reg [⟨some 24,none,.mov (.t 6)⟩,⟨some 25,none,.bin .lss (.t 24) (.c (.d (.int .u8 32)))⟩,⟨some 26,none,.mov (.t 25)⟩,⟨some 27,some (26, false),.mov (.t 6)⟩,⟨some 28,some (26, false),.bin .gtr (.t 27) (.c (.d (.int .u8 126)))⟩,⟨some 29,none,.pick (.t 26) (.c (.d (.bool true))) (.t 28)⟩]) (.cond (.t 29) (.seq (.reg [⟨some 4,none,.mov (.c (.d (.int .i64 0)))⟩]) .ret) .skip))))) (.reg [⟨some 13,none,.mov (.t 5)⟩,⟨some 14,none,.bin .add (.t 13) (.c (.d (.int .i64 1)))⟩,⟨some 5,none,.mov (.t 14)⟩])))))) (.seq (.reg [⟨some 4,none,.mov (.c (.d (.int .i64 0)))⟩]) .ret)))
theorem b272 : Body Tryz.prog 272 30 c272 [.tmp 4] := Body.of Tryz.f272 Tryz.func272 (by decide +kernel) (by decide +kernel) Tryz.ntmps272 (by decide +kernel) (by decide +kernel)
theorem p272 (s : ByteArray) (hm : (strL s).length ≤ 140737488355328) (h0 : 1 ≤ (strL s).length) : PCall Tryz.prog 272 [stri s, int 0] (int (quotedR (strL s))) := by
 intro h
 refine ACall.of b272 (by simp) ?_
 unfold c272
 refine .seqk fun K1 hK1 => ?_
 refine .reg ?_
 simp
 refine hK1 _ ?_
 clear hK1 K1
 refine .seqk fun K2 hK2 => ?_
 refine .seqk fun K3 hK3 => ?_
 refine .reg ?_
 simp
 refine hK3 _ ?_
 clear hK3 K3
 refine .block ?_
 refine .count (strL s).length (fun i st => 1 ≤ i ∧ i + runB quotable ((strL s).drop i) = 1 + runB quotable ((strL s).drop 1) ∧ st = ⟨E [(5, int i), (0, stri s), (1, int 0)], outer h⟩) 1 (h0) _ (.cov (h' := outer h) (by simp) (.refl _)) ⟨Nat.le_refl _, rfl, rfl⟩ ?_
 rintro i s hi1 ⟨h1i, hp, rfl⟩ K4 hK4
 refine .seqk fun K5 hK5 => ?_
 refine .seqk fun K6 hK6 => ?_
 have hwi : IntKind.i64.wrap (i : Int) = i := wrapN (by omega)
 have hwi1 : IntKind.i64.wrap ((i : Int) + 1) = i + 1 := wrap64 (by omega) (by omega)
 refine .reg ?_
 simp [hwi]
 refine hK6 _ ?_
 clear hK6 K6
 refine .keep [0, 1, 5, 12, 27, 28] ?_
 simp only [keepE, E_cons, E_nil, reduceIte, Nat.reduceEqDiff]
 refine .condk _ rfl (fun hc1 => ?_) (fun hc1 => ?_)
 ·simp at hc1
  obtain ⟨c, hx⟩ := get_some hc1
  obtain ⟨hlt2, hc⟩ := strL_get hx
  refine .skip ?_
  refine hK5 _ ?_
  clear hK5 K5
  refine .seqk fun K7 hK7 => ?_
  refine .block ?_
  refine .seqk fun K8 hK8 => ?_
  refine .reg ?_
  simp [hwi, hx]
  refine hK8 _ ?_
  clear hK8 K8
  refine .keep [0, 1, 5, 6, 27, 28] ?_
  simp only [keepE, E_cons, E_nil, reduceIte, Nat.reduceEqDiff]
  refine .seqk fun K9 hK9 => ?_
  refine .seqk fun K10 hK10 => ?_
  refine .reg ?_
  simp
  refine hK10 _ ?_
  clear hK10 K10
  refine .condk _ rfl (fun hc2 => ?_) (fun hc2 => ?_)
  ·have h34 : ((c.toNat : Int) = 34) := by simpa using hc2
   have hcc : c = 34 := (u8_eq c 34 (by omega)).1 h34
   have hr : runB quotable ((strL s).drop i) = 0 := by rw [drop_cons hx]; simp [runB, quotable, h34]
   refine .seqk fun K11 hK11 => ?_
   refine .reg ?_
   simp [hwi1]
   refine hK11 _ ?_
   clear hK11 K11
   refine .keep [4] ?_
   simp only [keepE, E_cons, E_nil, reduceIte, Nat.reduceEqDiff]
   refine .ret ?_
   refine ret_z (.inr rfl) rfl rfl ?_
   rw [hr] at hp
   have hn : runB quotable ((strL s).drop 1) = i - 1 := by omega
   have h1 : 1 + (i - 1) = i := by omega
   rw [quotedR, hn, h1, hx, if_pos (by rw [hcc])]
   simp
   omega
  ·have h34 : ¬ ((c.toNat : Int) = 34) := by simpa using hc2
   have hcc : ¬ c = 34 := fun e => h34 ((u8_eq c 34 (by omega)).2 e)
   refine .skip ?_
   refine hK9 _ ?_
   clear hK9 K9
   refine .seqreg (fun hh => hh) (fun ee => [(0, ee 0), (1, ee 1), (5, ee 5), (29, bo (decide (((c.toNat : Int) < 32) ∨ (126 < (c.toNat : Int)))))]) ?_ ?_
   ·by_cases h1 : (c.toNat : Int) < 32 <;> by_cases h2 : 126 < (c.toNat : Int) <;> simp [h1, h2]
   try simp only [E_cons, E_nil, reduceIte, Nat.reduceEqDiff]
   refine .condk _ rfl (fun hc3 => ?_) (fun hc3 => ?_)
   ·have hbad : (c.toNat : Int) < 32 ∨ 126 < (c.toNat : Int) := by simpa using hc3
    have hr : runB quotable ((strL s).drop i) = 0 := by
     rw [drop_cons hx]
     have : quotable (c.toNat : Int) = false := by simp [quotable]; omega
     simp [runB, this]
    refine .seqk fun K12 hK12 => ?_
    refine .reg ?_
    simp
    refine hK12 _ ?_
    clear hK12 K12
    refine .ret ?_
    refine ret_z (.inr rfl) rfl rfl ?_
    rw [hr] at hp
    have hn : runB quotable ((strL s).drop 1) = i - 1 := by omega
    have h1 : 1 + (i - 1) = i := by omega
    rw [quotedR, hn, h1, hx, if_neg (by simpa using hcc)]
    rfl
   ·have hok : ¬ ((c.toNat : Int) < 32 ∨ 126 < (c.toNat : Int)) := by simpa using hc3
    have hqt : quotable (c.toNat : Int) = true := by simp [quotable, h34]; omega
    refine .skip ?_
    refine hK7 _ ?_
    clear hK7 K7
    refine .reg ?_
    simp
    refine hK4 _ _ (by omega) (Wk.cov (h' := outer h) (by simp; exact wrap64 (by omega) (by omega)) (.refl _)) ⟨by omega, ?_, rfl⟩
    rw [← hp, drop_cons hx]
    simp [runB, hqt]
    omega
 ·simp at hc1
  have hr : runB quotable ((strL s).drop i) = 0 := by rw [drop_nil hc1]; rfl
  refine .exit ?_
  try simp only [then', inBlk, if_true, if_false, reduceIte, Nat.reduceEqDiff]
  refine hK2 _ ?_
  clear hK5 hK4 hK2 K5 K4 K2
  refine .seqk fun K13 hK13 => ?_
  refine .reg ?_
  simp
  refine hK13 _ ?_
  clear hK13 K13
  refine .ret ?_
  refine ret_z (.inr rfl) rfl rfl ?_
  rw [hr] at hp
  have hn : runB quotable ((strL s).drop 1) = i - 1 := by omega
  have h1 : 1 + (i - 1) = i := by omega
  rw [quotedR, hn, h1, List.getElem?_eq_none hc1, if_neg (by simp)]
  rfl
end Go.Abs
set_option linter.unusedVariables false
set_option linter.unusedSimpArgs false
namespace Go.Abs
open Go Go.Proofs
def signsD : List ByteArray := [⟨#[45, 62]⟩, ⟨#[60, 61]⟩, ⟨#[62, 61]⟩, ⟨#[61, 61]⟩, ⟨#[33, 61]⟩, ⟨#[123]⟩, ⟨#[125]⟩, ⟨#[40]⟩, ⟨#[41]⟩, ⟨#[91]⟩, ⟨#[93]⟩, ⟨#[44]⟩, ⟨#[59]⟩, ⟨#[58]⟩, ⟨#[61]⟩, ⟨#[43]⟩, ⟨#[45]⟩, ⟨#[42]⟩, ⟨#[60]⟩, ⟨#[62]⟩, ⟨#[33]⟩, ⟨#[38]⟩, ⟨#[124]⟩, ⟨#[46]⟩, ⟨#[63]⟩]
def isSign (s x : ByteArray) : Bool := decide (((strL x).length : Int) ≤ (strL s).length) && ((s.extract 0 (strL x).length).toList == x.toList)
def c273 : ACode := (.seq (.reg [⟨some 0,none,.mov (.c (.d .nil))⟩]) (.seq (.reg [⟨some 1,none,.lit 1 25 [(.d (.str ⟨⟨[]⟩⟩))] [(0, (.c (.d (.str ⟨⟨[45, 62]⟩⟩)))),(1, (.c (.d (.str ⟨⟨[60, 61]⟩⟩)))),(2, (.c (.d (.str ⟨⟨[62, 61]⟩⟩)))),(3, (.c (.d (.str ⟨⟨[61, 61]⟩⟩)))),(4, (.c (.d (.str ⟨⟨[33, 61]⟩⟩)))),(5, (.c (.d (.str ⟨⟨[123]⟩⟩)))),(6, (.c (.d (.str ⟨⟨[125]⟩⟩)))),(7, (.c (.d (.str ⟨⟨[40]⟩⟩)))),(8, (.c (.d (.str ⟨⟨[41]⟩⟩)))),(9, (.c (.d (.str ⟨⟨[91]⟩⟩)))),(10, (.c (.d (.str ⟨⟨[93]⟩⟩)))),(11, (.c (.d (.str ⟨⟨[44]⟩⟩)))),(12, (.c (.d (.str ⟨⟨[59]⟩⟩)))),(13, (.c (.d (.str ⟨⟨[58]⟩⟩)))),(14, (.c (.d (.str ⟨⟨[61]⟩⟩)))),(15, (.c (.d (.str ⟨⟨[43]⟩⟩)))),(16, (.c (.d (.str ⟨⟨[45]⟩⟩)))),(17, (.c (.d (.str ⟨⟨[42]⟩⟩)))),(18, (.c (.d (.str ⟨⟨[60]⟩⟩)))),(19, (.c (.d (.str ⟨⟨[62]⟩⟩)))),(20, (.c (.d (.str ⟨⟨[33]⟩⟩)))),(21, (.c (.d (.str ⟨⟨[38]⟩⟩)))),(22, (.c (.d (.str ⟨⟨[124]⟩⟩)))),(23, (.c (.d (.str ⟨⟨[46]⟩⟩)))),(24, (.c (.d (.str ⟨⟨[63]⟩⟩))))]⟩,⟨some 0,none,.mov (.t 1)⟩]) .ret))
theorem b273 : Body Tryz.prog 273 2 c273 [.tmp 0] := Body.of Tryz.f273 Tryz.func273 (by decide +kernel) (by decide +kernel) Tryz.ntmps273 (by decide +kernel) (by decide +kernel)
theorem p273  : PCall Tryz.prog 273 [] (sl (signsD.map S.c)) := by
 intro h
 refine ACall.of b273 (by simp) ?_
 unfold c273
 refine .seqk fun K1 hK1 => ?_
 refine .reg ?_
 simp
 refine hK1 _ ?_
 clear hK1 K1
 refine .seqk fun K2 hK2 => ?_
 refine .reg ?_
 simp
 refine hK2 _ ?_
 clear hK2 K2
 refine .ret ?_
 refine ret_y (.inr rfl) rfl (T.rowD (k := 1) (signsD.map S.c) (by simp; rfl) (by simp [outer]) rfl) rfl ?_
 rfl
end Go.Abs
set_option linter.unusedVariables false
set_option linter.unusedSimpArgs false
namespace Go.Abs
open Go Go.Proofs
def noTok : Int × ByteArray := (0, ⟨#[]⟩)
def oneC (s : ByteArray) (c : UInt8) : (Int × ByteArray) × Int × Int :=
 if letter c.toNat = true ∨ digit c.toNat = true then
  if digit c.toNat = true then
   if (9 : Int) < runB digit (strL s) then (noTok, 0, 3) else ((2, s.extract 0 (runB digit (strL s))), runB digit (strL s), 0)
  else if (20 : Int) < runB part (strL s) then (noTok, 0, 3) else ((1, s.extract 0 (runB part (strL s))), runB part (strL s), 0)
 else if (c.toNat : Int) = 34 then
  if quotedR (strL s) = 0 then (noTok, 0, 2) else if (60 : Int) < quotedR (strL s) - 2 then (noTok, 0, 3) else ((3, s.extract 1 (quotedR (strL s) - 1).toNat), quotedR (strL s), 0)
 else match signsD.find? (isSign s) with
  | some x => ((4, x), (strL x).length, 0)
  | none => (noTok, 0, 2)
theorem sign_len : ∀ x, x ∈ signsD → (strL x).length ≤ 2 := by
 intro x hx
 simp only [signsD, List.mem_cons, List.not_mem_nil, or_false] at hx
 rcases hx with h | h | h | h | h | h | h | h | h | h | h | h | h | h | h | h | h | h | h | h | h | h | h | h | h <;> subst h <;> decide
theorem quotedR_le (l : List UInt8) : quotedR l ≤ l.length ∧ (quotedR l = 0 ∨ 2 ≤ quotedR l) := by
 unfold quotedR
 split
 ·rename_i h
  have := (List.getElem?_eq_some_iff.1 h).1
  omega
 ·omega
def c261 : ACode := (.seq (.reg [⟨some 4,none,.alloc [(.d (.int .i64 0)),(.d (.str ⟨⟨[]⟩⟩)),(.d (.int .i64 0))]⟩,⟨some 5,none,.mov (.c (.d (.int .i64 0)))⟩,⟨some 6,none,.mov (.c (.d (.int .i64 0)))⟩]) (.seq (.reg [⟨some 14,none,.mov (.t 0)⟩,⟨some 15,none,.mov (.t 1)⟩,⟨some 16,none,.sidx (.t 14) (.t 15)⟩,⟨some 7,none,.mov (.t 16)⟩]) (.seq (.seq (.reg [⟨some 17,none,.mov (.t 7)⟩,⟨some 18,none,.call 269 [(.t 17)]⟩,⟨some 19,none,.mov (.t 18)⟩,⟨some 20,some (19, false),.mov (.t 7)⟩,⟨some 21,some (19, false),.call 270 [(.t 20)]⟩,⟨some 22,none,.pick (.t 19) (.c (.d (.bool true))) (.t 21)⟩]) (.cond (.t 22) (.seq (.reg [⟨some 23,none,.mov (.t 0)⟩,⟨some 24,none,.mov (.t 1)⟩,⟨some 25,none,.mov (.t 7)⟩,⟨some 26,none,.call 270 [(.t 25)]⟩,⟨some 27,none,.call 271 [(.t 23),(.t 24),(.t 26)]⟩,⟨some 8,none,.mov (.t 27)⟩]) (.seq (.reg [⟨some 9,none,.mov (.c (.d (.int .i64 1)))⟩,⟨some 10,none,.mov (.c (.d (.int .i64 20)))⟩]) (.seq (.seq (.reg [⟨some 28,none,.mov (.t 7)⟩,⟨some 29,none,.call 270 [(.t 28)]⟩]) (.cond (.t 29) (.reg [⟨some 9,none,.mov (.c (.d (.int .i64 2)))⟩,⟨some 10,none,.mov (.c (.d (.int .i64 9)))⟩]) .skip)) (.seq (.seq (.reg [⟨some 30,none,.mov (.t 8)⟩,⟨some 31,none,.mov (.t 10)⟩,⟨some 32,none,.bin .gtr (.t 30) (.t 31)⟩]) (.cond (.t 32) (.seq (.reg [⟨some 33,none,.build [(.d (.int .i64 0)),(.d (.str ⟨⟨[]⟩⟩)),(.d (.int .i64 0))] []⟩,⟨none,none,.store 3 (.t 4) (.t 33)⟩,⟨some 5,none,.mov (.c (.d (.int .i64 0)))⟩,⟨some 6,none,.mov (.c (.d (.int .i64 3)))⟩]) .ret) .skip)) (.seq (.reg [⟨some 34,none,.mov (.t 9)⟩,⟨some 35,none,.mov (.t 0)⟩,⟨some 36,none,.mov (.t 1)⟩,⟨some 37,none,.mov (.t 1)⟩,⟨some 38,none,.mov (.t 8)⟩,⟨some 39,none,.bin .add (.t 37) (.t 38)⟩,⟨some 40,none,.slice 0 (.t 35) (some (.t 36)) (some (.t 39)) none⟩,⟨some 41,none,.build [(.d (.int .i64 0)),(.d (.str ⟨⟨[]⟩⟩)),(.d (.int .i64 0))] [(0, (1, (.t 34))),(1, (1, (.t 40)))]⟩,⟨some 42,none,.mov (.t 8)⟩,⟨none,none,.store 3 (.t 4) (.t 41)⟩,⟨some 5,none,.mov (.t 42)⟩,⟨some 6,none,.mov (.c (.d (.int .i64 0)))⟩]) .ret))))) .skip)) (.seq (.seq (.reg [⟨some 43,none,.mov (.t 7)⟩,⟨some 44,none,.bin .eql (.t 43) (.c (.d (.int .u8 34)))⟩]) (.cond (.t 44) (.seq (.reg [⟨some 45,none,.mov (.t 0)⟩,⟨some 46,none,.mov (.t 1)⟩,⟨some 47,none,.call 272 [(.t 45),(.t 46)]⟩,⟨some 11,none,.mov (.t 47)⟩]) (.seq (.seq (.reg [⟨some 48,none,.mov (.t 11)⟩,⟨some 49,none,.bin .eql (.t 48) (.c (.d (.int .i64 0)))⟩]) (.cond (.t 49) (.seq (.reg [⟨some 50,none,.build [(.d (.int .i64 0)),(.d (.str ⟨⟨[]⟩⟩)),(.d (.int .i64 0))] []⟩,⟨none,none,.store 3 (.t 4) (.t 50)⟩,⟨some 5,none,.mov (.c (.d (.int .i64 0)))⟩,⟨some 6,none,.mov (.c (.d (.int .i64 2)))⟩]) .ret) .skip)) (.seq (.seq (.reg [⟨some 51,none,.mov (.t 11)⟩,⟨some 52,none,.bin .sub (.t 51) (.c (.d (.int .i64 2)))⟩,⟨some 53,none,.bin .gtr (.t 52) (.c (.d (.int .i64 60)))⟩]) (.cond (.t 53) (.seq (.reg [⟨some 54,none,.build [(.d (.int .i64 0)),(.d (.str ⟨⟨[]⟩⟩)),(.d (.int .i64 0))] []⟩,⟨none,none,.store 3 (.t 4) (.t 54)⟩,⟨some 5,none,.mov (.c (.d (.int .i64 0)))⟩,⟨some 6,none,.mov (.c (.d (.int .i64 3)))⟩]) .ret) .skip)) (.seq (.reg [⟨some 55,none,.mov (.t 0)⟩,⟨some 56,none,.mov (.t 1)⟩,⟨some 57,none,.bin .add (.t 56) (.c (.d (.int .i64 1)))⟩,⟨some 58,none,.mov (.t 1)⟩,⟨some 59,none,.mov (.t 11)⟩,⟨some 60,none,.bin .add (.t 58) (.t 59)⟩,⟨some 61,none,.bin .sub (.t 60) (.c (.d (.int .i64 1)))⟩,⟨some 62,none,.slice 0 (.t 55) (some (.t 57)) (some (.t 61)) none⟩,⟨some 63,none,.build [(.d (.int .i64 0)),(.d (.str ⟨⟨[]⟩⟩)),(.d (.int .i64 0))] [(0, (1, (.c (.d (.int .i64 3))))),(1, (1, (.t 62)))]⟩,⟨some 64,none,.mov (.t 11)⟩,⟨none,none,.store 3 (.t 4) (.t 63)⟩,⟨some 5,none,.mov (.t 64)⟩,⟨some 6,none,.mov (.c (.d (.int .i64 0)))⟩]) .ret)))) .skip)) (.seq (.reg [⟨some 65,none,.call 273 []⟩,⟨some 12,none,.mov (.t 65)⟩]) (.seq (.seq (.reg [⟨some 13,none,.mov (.c (.d (.int .i64 0)))⟩]) (.block 0 (.loop (.seq (.seq (.reg [⟨some 66,none,.mov (.t 13)⟩,⟨some 67,none,.mov (.t 12)⟩,⟨some 68,none,.len false (.t 67)⟩,⟨some 69,none,.bin .lss (.t 66) (.t 68)⟩]) (.cond (.t 69) .skip (.exit 0))) (.seq (.block 1 (.seq (.dreg [⟨some 72,none,.mov (.t 1)⟩,⟨some 73,none,.mov (.t 12)⟩,⟨some 74,none,.mov (.t 13)⟩,⟨some 75,none,.idx 1 (.t 73) (.t 74)⟩,⟨some 76,none,.load none (.t 75)⟩,⟨some 77,none,.len true (.t 76)⟩,⟨some 78,none,.bin .add (.t 72) (.t 77)⟩,⟨some 79,none,.mov (.t 0)⟩,⟨some 80,none,.len true (.t 79)⟩,⟨some 81,none,.bin .leq (.t 78) (.t 80)⟩,⟨some 82,none,.mov (.t 81)⟩,⟨some 83,some (82, true),.mov (.t 0)⟩,⟨some 84,some (82, true),.mov (.t 1)⟩,⟨some 85,some (82, true),.mov (.t 1)⟩,⟨some 86,some (82, true),.mov (.t 12)⟩,⟨some 87,some (82, true),.mov (.t 13)⟩,⟨some 88,some (82, true),.idx 1 (.t 86) (.t 87)⟩,⟨some 89,some (82, true),.load none (.t 88)⟩,⟨some 90,some (82, true),.len true (.t 89)⟩,⟨some 91,some (82, true),.bin .add (.t 85) (.t 90)⟩,⟨some 92,some (82, true),.slice 0 (.t 83) (some (.t 84)) (some (.t 91)) none⟩,⟨some 93,some (82, true),.mov (.t 12)⟩,⟨some 94,some (82, true),.mov (.t 13)⟩,⟨some 95,some (82, true),.idx 1 (.t 93) (.t 94)⟩,⟨some 96,some (82, true),.load none (.t 95)⟩,⟨some 97,some (82, true),.bin .eql (.t 92) (.t 96)⟩,⟨some 98,none,.pick (.t 82) (.t 97) (.c (.d (.bool false)))⟩] []) (.cond (.t 98) (.seq (.dreg [⟨some 99,none,.mov (.t 12)⟩,⟨some 100,none,.mov (.t 13)⟩,⟨some 101,none,.idx 1 (.t 99) (.t 100)⟩,⟨some 102,none,.load none (.t 101)⟩,⟨some 103,none,.build [(.d (.int .i64 0)),(.d (.str ⟨⟨[]⟩⟩)),(.d (.int .i64 0))] [(0, (1, (.c (.d (.int .i64 4))))),(1, (1, (.t 102)))]⟩,⟨some 104,none,.mov (.t 12)⟩,⟨some 105,none,.mov (.t 13)⟩,⟨some 106,none,.idx 1 (.t 104) (.t 105)⟩,⟨some 107,none,.load none (.t 106)⟩,⟨some 108,none,.len true (.t 107)⟩,⟨none,none,.store 3 (.t 4) (.t 103)⟩,⟨some 5,none,.mov (.t 108)⟩,⟨some 6,none,.mov (.c (.d (.int .i64 0)))⟩] [(7, 10),(8, 10),(9, 10)]) .ret) .skip))) (.reg [⟨some 70,none,.mov (.t 13)⟩,⟨some 71,none,.bin .add (.t 70) (.c (.d (.int .i64 1)))⟩,⟨some 13,none,.mov (.t 71)⟩])))))) (.seq (.reg [⟨some 109,none,.build [(.d (.int .i64 0)),(.d (.str ⟨⟨[]⟩⟩)),(.d (.int .i64 0))] []⟩,⟨none,none,.store 3 (.t 4) (.t 109)⟩,⟨some 5,none,.mov (.c (.d (.int .i64 0)))⟩,⟨some 6,none,.mov (.c (.d (.int .i64 2)))⟩]) .ret)))))))
theorem b261 : Body Tryz.prog 261 110 c261 [.cell (some 3) 4, .tmp 5, .tmp 6] := Body.of Tryz.f261 Tryz.func261 (by decide +kernel) (by decide +kernel) Tryz.ntmps261 (by decide +kernel) (by decide +kernel)
theorem p261 (s : ByteArray) (c : UInt8) (hm : (strL s).length ≤ 140737488355328) (hx : (strL s)[0]? = some c) : PCall Tryz.prog 261 [stri s, int 0] (.tup [.agg [int (oneC s c).1.1, stri (oneC s c).1.2, int 0], int (oneC s c).2.1, int (oneC s c).2.2]) := by
 intro h
 refine ACall.of b261 (by simp) ?_
 unfold c261
 have h0 : 1 ≤ (strL s).length := by have := (List.getElem?_eq_some_iff.1 hx).1; omega
 obtain ⟨n, hn⟩ : ∃ n, n = runB (runP (digit c.toNat)) (strL s) := ⟨_, rfl⟩
 have hnl : n ≤ (strL s).length := by rw [hn]; exact runB_le _ _
 have hwn : IntKind.i64.wrap (n : Int) = n := wrapN (by omega)
 have hni : (n : Int) ≤ (strL s).length := by omega
 obtain ⟨q, hq⟩ : ∃ q, q = quotedR (strL s) := ⟨_, rfl⟩
 have hql : q ≤ (strL s).length ∧ (q = 0 ∨ 2 ≤ q) := by rw [hq]; exact quotedR_le _
 refine .seqk fun K1 hK1 => ?_
 refine .reg ?_
 simp
 refine hK1 _ ?_
 clear hK1 K1
 refine .keep [0, 1, 4, 20, 21, 83, 84, 85, 86, 87, 88, 89, 90, 91, 92, 93, 94, 95, 96, 97] ?_
 simp only [keepE, E_cons, E_nil]
 refine .seqk fun K2 hK2 => ?_
 refine .reg ?_
 simp [hx]
 refine hK2 _ ?_
 clear hK2 K2
 refine .keep [0, 1, 4, 7, 20, 21, 83, 84, 85, 86, 87, 88, 89, 90, 91, 92, 93, 94, 95, 96, 97] ?_
 simp only [keepE, E_cons, E_nil]
 refine .seqk fun K3 hK3 => ?_
 refine .seqreg (fun hh => hh) (fun ee => [(0, ee 0), (1, ee 1), (4, ee 4), (7, ee 7), (22, bo (decide (letter c.toNat = true ∨ digit c.toNat = true))), (83, ee 83), (84, ee 84), (85, ee 85), (86, ee 86), (87, ee 87), (88, ee 88), (89, ee 89), (90, ee 90), (91, ee 91), (92, ee 92), (93, ee 93), (94, ee 94), (95, ee 95), (96, ee 96), (97, ee 97)]) ?_ ?_
 ·refine Sq.cutk 2 fun K1 hK1 => ?_
  simp only [zt]
  simp
  refine PCall.sq (p269 _) fun _ he => ?_
  simp only [mergeH_eq he]
  refine hK1 _ ?_
  by_cases h1 : letter c.toNat = true
  ·simp [h1]
  ·simp at h1
   refine Sq.cutk 3 fun K2 hK2 => ?_
   simp only [zt]
   simp [h1]
   refine PCall.sq (p270 _) fun _ he => ?_
   simp only [mergeH_eq he]
   refine hK2 _ ?_
   simp [h1]
 try simp only [E_cons, E_nil]
 refine .condk _ rfl (fun hc1 => ?_) (fun hc1 => ?_)
 ·try simp at hc1
  refine .seqk fun K4 hK4 => ?_
  refine .reg ?_
  refine Sq.cutk 4 fun K5 hK5 => ?_
  simp only [zt]
  simp
  refine PCall.sq (p270 _) fun h1 he1 => ?_
  simp only [mergeH_eq he1]
  clear he1 h1
  refine hK5 _ ?_
  clear hK5 K5
  refine Sq.cutk 1 fun K6 hK6 => ?_
  simp only [zt]
  simp
  refine PCall.sq (p271 s (digit c.toNat) hm) fun h1 he1 => ?_
  simp only [mergeH_eq he1]
  clear he1 h1
  refine hK6 _ ?_
  clear hK6 K6
  simp
  rw [← hn]
  refine hK4 _ ?_
  clear hK4 K4
  refine .keep [0, 1, 4, 7, 8] ?_
  simp only [keepE, E_cons, E_nil]
  refine .seqk fun K7 hK7 => ?_
  refine .reg ?_
  simp
  refine hK7 _ ?_
  clear hK7 K7
  refine .seqk fun K8 hK8 => ?_
  refine .seqk fun K9 hK9 => ?_
  refine .reg ?_
  simp
  refine PCall.sq (p270 _) fun h1 he1 => ?_
  simp only [mergeH_eq he1]
  clear he1 h1
  try simp
  refine hK9 _ ?_
  clear hK9 K9
  refine .condk _ rfl (fun hc2 => ?_) (fun hc2 => ?_)
  ·skip
   refine .reg ?_
   simp
   refine hK8 _ ?_
   clear hK8 K8
   refine .seqk fun K10 hK10 => ?_
   refine .seqk fun K11 hK11 => ?_
   refine .reg ?_
   simp
   refine hK11 _ ?_
   clear hK11 K11
   refine .keep [0, 1, 4, 8, 9, 32] ?_
   simp only [keepE, E_cons, E_nil]
   refine .condk _ rfl (fun hc3 => ?_) (fun hc3 => ?_)
   ·try simp at hc3
    refine .seqk fun K12 hK12 => ?_
    refine .reg ?_
    simp
    refine hK12 _ ?_
    clear hK12 K12
    refine .keep [4, 5, 6] ?_
    simp only [keepE, E_cons, E_nil]
    refine .ret ?_
    refine ret_d (v := .tup [.agg [int (oneC s c).1.1, stri (oneC s c).1.2, int 0], int (oneC s c).2.1, int (oneC s c).2.2]) (.inr rfl) ?_ (.refl _) rfl (by first | exact OutEq.outer _ | assumption | (simp; done) | (simp; assumption)) rfl
    have hr : (9 : Int) < runB digit (strL s) := by rw [hn, hc2, runP_true] at hc3; exact hc3
    simp [oneC, hc1, hc2, hr, noTok]
   ·try simp at hc3
    refine .skip ?_
    refine hK10 _ ?_
    clear hK10 K10
    refine .seqk fun K13 hK13 => ?_
    refine .reg ?_
    simp [hwn, hni]
    refine hK13 _ ?_
    clear hK13 K13
    refine .keep [4, 5, 6] ?_
    simp only [keepE, E_cons, E_nil]
    refine .ret ?_
    refine ret_d (v := .tup [.agg [int (oneC s c).1.1, stri (oneC s c).1.2, int 0], int (oneC s c).2.1, int (oneC s c).2.2]) (.inr rfl) ?_ (.refl _) rfl (by first | exact OutEq.outer _ | assumption | (simp; done) | (simp; assumption)) rfl
    have hr : ¬ (9 : Int) < runB digit (strL s) := by rw [hn, hc2, runP_true] at hc3; omega
    have hn2 : n = runB digit (strL s) := by rw [hn, hc2, runP_true]
    simp [oneC, hc1, hc2, hr, hn2]
  ·try simp at hc2
   refine .skip ?_
   refine hK8 _ ?_
   clear hK8 K8
   refine .seqk fun K14 hK14 => ?_
   refine .seqk fun K15 hK15 => ?_
   refine .reg ?_
   simp
   refine hK15 _ ?_
   clear hK15 K15
   refine .keep [0, 1, 4, 8, 9, 32] ?_
   simp only [keepE, E_cons, E_nil]
   refine .condk _ rfl (fun hc3 => ?_) (fun hc3 => ?_)
   ·try simp at hc3
    refine .seqk fun K16 hK16 => ?_
    refine .reg ?_
    simp
    refine hK16 _ ?_
    clear hK16 K16
    refine .keep [4, 5, 6] ?_
    simp only [keepE, E_cons, E_nil]
    refine .ret ?_
    refine ret_d (v := .tup [.agg [int (oneC s c).1.1, stri (oneC s c).1.2, int 0], int (oneC s c).2.1, int (oneC s c).2.2]) (.inr rfl) ?_ (.refl _) rfl (by first | exact OutEq.outer _ | assumption | (simp; done) | (simp; assumption)) rfl
    have hl : letter c.toNat = true := by simpa [hc2] using hc1
    have hr : (20 : Int) < runB part (strL s) := by rw [hn, hc2, runP_false] at hc3; exact hc3
    simp [oneC, hl, hc2, hr, noTok]
   ·try simp at hc3
    refine .skip ?_
    refine hK14 _ ?_
    clear hK14 K14
    refine .seqk fun K17 hK17 => ?_
    refine .reg ?_
    simp [hwn, hni]
    refine hK17 _ ?_
    clear hK17 K17
    refine .keep [4, 5, 6] ?_
    simp only [keepE, E_cons, E_nil]
    refine .ret ?_
    refine ret_d (v := .tup [.agg [int (oneC s c).1.1, stri (oneC s c).1.2, int 0], int (oneC s c).2.1, int (oneC s c).2.2]) (.inr rfl) ?_ (.refl _) rfl (by first | exact OutEq.outer _ | assumption | (simp; done) | (simp; assumption)) rfl
    have hl : letter c.toNat = true := by simpa [hc2] using hc1
    have hr : ¬ (20 : Int) < runB part (strL s) := by rw [hn, hc2, runP_false] at hc3; omega
    have hn2 : n = runB part (strL s) := by rw [hn, hc2, runP_false]
    simp [oneC, hl, hc2, hr, hn2]
 ·try simp at hc1
  refine .skip ?_
  refine hK3 _ ?_
  clear hK3 K3
  refine .seqk fun K18 hK18 => ?_
  refine .seqk fun K19 hK19 => ?_
  refine .reg ?_
  simp
  refine hK19 _ ?_
  clear hK19 K19
  refine .condk _ rfl (fun hc4 => ?_) (fun hc4 => ?_)
  ·try simp at hc4
   refine .seqk fun K20 hK20 => ?_
   refine .reg ?_
   refine Sq.cutk 3 fun K21 hK21 => ?_
   simp only [zt]
   simp
   refine PCall.sq (p272 s hm h0) fun h1 he1 => ?_
   simp only [mergeH_eq he1]
   clear he1 h1
   refine hK21 _ ?_
   clear hK21 K21
   simp
   rw [← hq]
   refine hK20 _ ?_
   clear hK20 K20
   refine .keep [0, 1, 4, 11] ?_
   simp only [keepE, E_cons, E_nil]
   refine .seqk fun K22 hK22 => ?_
   refine .seqk fun K23 hK23 => ?_
   refine .reg ?_
   simp
   refine hK23 _ ?_
   clear hK23 K23
   refine .condk _ rfl (fun hc5 => ?_) (fun hc5 => ?_)
   ·try simp at hc5
    refine .seqk fun K24 hK24 => ?_
    refine .reg ?_
    simp
    refine hK24 _ ?_
    clear hK24 K24
    refine .keep [4, 5, 6] ?_
    simp only [keepE, E_cons, E_nil]
    refine .ret ?_
    refine ret_d (v := .tup [.agg [int (oneC s c).1.1, stri (oneC s c).1.2, int 0], int (oneC s c).2.1, int (oneC s c).2.2]) (.inr rfl) ?_ (.refl _) rfl (by first | exact OutEq.outer _ | assumption | (simp; done) | (simp; assumption)) rfl
    rw [hc4] at hc1
    simp [oneC, hc1, hc4, hc5, ← hq, noTok]
   ·try simp at hc5
    refine .skip ?_
    refine hK22 _ ?_
    clear hK22 K22
    refine .seqk fun K25 hK25 => ?_
    refine .seqk fun K26 hK26 => ?_
    have hwq : IntKind.i64.wrap (q - 2) = q - 2 := wrap64 (by omega) (by omega)
    refine .reg ?_
    simp [hwq]
    refine hK26 _ ?_
    clear hK26 K26
    refine .keep [0, 1, 4, 11, 53] ?_
    simp only [keepE, E_cons, E_nil]
    refine .condk _ rfl (fun hc6 => ?_) (fun hc6 => ?_)
    ·try simp at hc6
     refine .seqk fun K27 hK27 => ?_
     refine .reg ?_
     simp
     refine hK27 _ ?_
     clear hK27 K27
     refine .keep [4, 5, 6] ?_
     simp only [keepE, E_cons, E_nil]
     refine .ret ?_
     refine ret_d (v := .tup [.agg [int (oneC s c).1.1, stri (oneC s c).1.2, int 0], int (oneC s c).2.1, int (oneC s c).2.2]) (.inr rfl) ?_ (.refl _) rfl (by first | exact OutEq.outer _ | assumption | (simp; done) | (simp; assumption)) rfl
     rw [hc4] at hc1
     simp [oneC, hc1, hc4, hc5, hc6, ← hq, noTok]
    ·try simp at hc6
     refine .skip ?_
     refine hK25 _ ?_
     clear hK25 K25
     refine .seqk fun K28 hK28 => ?_
     have hq2 : 2 ≤ q := by omega
     have hwq3 : IntKind.i64.wrap q = q := wrap64 (by omega) (by omega)
     have hwq4 : IntKind.i64.wrap (q - 1) = q - 1 := wrap64 (by omega) (by omega)
     have hw1 : IntKind.i64.wrap 1 = 1 := wrap64 (by omega) (by omega)
     have hq5 : 0 ≤ q - 1 := by omega
     have hq6 : q - 1 ≤ (strL s).length := by omega
     have hq1 : 1 ≤ q := by omega
     have hq7 : (1 : Int) ≤ ((q.toNat - 1 : Nat) : Int) := by omega
     refine .reg ?_
     simp [hwq3, hwq4, hw1, hq1, hq6, hq7]
     refine hK28 _ ?_
     clear hK28 K28
     refine .keep [4, 5, 6] ?_
     simp only [keepE, E_cons, E_nil]
     refine .ret ?_
     refine ret_d (v := .tup [.agg [int (oneC s c).1.1, stri (oneC s c).1.2, int 0], int (oneC s c).2.1, int (oneC s c).2.2]) (.inr rfl) ?_ (.refl _) rfl (by first | exact OutEq.outer _ | assumption | (simp; done) | (simp; assumption)) rfl
     rw [hc4] at hc1
     simp [oneC, hc1, hc4, hc5, Int.not_lt.2 hc6, ← hq]
  ·try simp at hc4
   refine .skip ?_
   refine hK18 _ ?_
   clear hK18 K18
   refine .seqk fun K29 hK29 => ?_
   refine .reg ?_
   refine Sq.cutk 1 fun K30 hK30 => ?_
   simp only [zt]
   simp
   refine PCall.sq (p273) fun h1 he1 => ?_
   simp only [mergeH_eq he1]
   clear he1 h1
   refine hK30 _ ?_
   clear hK30 K30
   simp
   refine hK29 _ ?_
   clear hK29 K29
   refine .seqk fun K31 hK31 => ?_
   refine .seqk fun K32 hK32 => ?_
   refine .reg ?_
   simp
   refine hK32 _ ?_
   clear hK32 K32
   refine .block ?_
   refine .count 25 (fun i st => (signsD.drop i).find? (isSign s) = signsD.find? (isSign s) ∧ st = ⟨E [(13, int i), (12, sl (signsD.map S.c)), (0, stri s), (1, int 0), (4, .ptr 4 ((outer h 4).ver + 1) 0 0)], upd (outer h) 4 ⟨(outer h 4).ver + 1, some ⟨3, [[.d (.int .i64 0), .d (.str ⟨#[]⟩), .d (.int .i64 0)]]⟩⟩⟩) 0 (Nat.zero_le _) _ (.cov (by simp) (.refl _)) ⟨rfl, rfl⟩ ?_
   rintro i s hi1 ⟨hp, rfl⟩ K33 hK33
   refine .seqk fun K34 hK34 => ?_
   refine .seqk fun K35 hK35 => ?_
   refine .reg ?_
   simp
   refine hK35 _ ?_
   clear hK35 K35
   refine .keep [0, 1, 4, 12, 13, 69, 83, 84, 85, 86, 87, 88, 89, 90, 91, 92, 93, 94, 95, 96, 97] ?_
   simp only [keepE, E_cons, E_nil]
   refine .condk _ rfl (fun hc7 => ?_) (fun hc7 => ?_)
   ·simp at hc7
    have hlt : i < 25 := hc7
    obtain ⟨x, hx2⟩ := get_some hc7
    have hxl : (strL x).length ≤ 2 := sign_len x (List.mem_of_getElem? hx2)
    have hwl : IntKind.i64.wrap ((strL x).length : Int) = (strL x).length := wrapN (by omega)
    refine .skip ?_
    refine hK34 _ ?_
    clear hK34 K34
    refine .seqk fun K36 hK36 => ?_
    refine .block ?_
    refine .seqdreg mixed (fun hh => hh) (fun ee => [(0, ee 0), (1, ee 1), (4, ee 4), (12, ee 12), (13, ee 13), (98, bo (isSign s x))]) ?_ ?_
    ·by_cases h1 : ((strL x).length : Int) ≤ (strL s).length
     ·have h2 : (strL x).length ≤ (strL s).length := by omega
      simp [hx2, hwl, h1, h2, isSign]
     ·have h2 : ¬ (strL x).length ≤ (strL s).length := by omega
      simp [hx2, hwl, h1, h2, isSign]
    try simp only [E_cons, E_nil]
    refine .condk _ rfl (fun hc8 => ?_) (fun hc8 => ?_)
    ·skip
     refine .seqk fun K37 hK37 => ?_
     refine .dreg mixed ?_
     simp [hx2]
     refine hK37 _ ?_
     clear hK37 K37
     refine .keep [4, 5, 6] ?_
     simp only [keepE, E_cons, E_nil]
     refine .ret ?_
     refine ret_d (v := .tup [.agg [int (oneC s c).1.1, stri (oneC s c).1.2, int 0], int (oneC s c).2.1, int (oneC s c).2.2]) (.inr rfl) ?_ (.refl _) rfl (by first | exact OutEq.outer _ | assumption | (simp; done) | (simp; assumption)) rfl
     rw [drop_cons hx2, List.find?_cons_of_pos hc8] at hp
     simp [oneC, hc1, hc4, ← hp]
    ·skip
     refine .skip ?_
     refine hK36 _ ?_
     clear hK36 K36
     refine .reg ?_
     simp
     refine hK33 _ _ (by omega) (Wk.cov (by simp; exact wrap64 (by omega) (by omega)) (.refl _)) ⟨?_, rfl⟩
     rw [← hp, drop_cons hx2, List.find?_cons_of_neg (by simp [hc8])]
   ·try simp at hc7
    refine .exit ?_
    try simp only [then', inBlk, if_true, if_false, reduceIte, Nat.reduceEqDiff]
    refine hK31 _ ?_
    clear hK34 hK33 hK31 K34 K33 K31
    refine .seqk fun K38 hK38 => ?_
    refine .reg ?_
    simp
    refine hK38 _ ?_
    clear hK38 K38
    refine .keep [4, 5, 6] ?_
    simp only [keepE, E_cons, E_nil]
    refine .ret ?_
    refine ret_d (v := .tup [.agg [int (oneC s c).1.1, stri (oneC s c).1.2, int 0], int (oneC s c).2.1, int (oneC s c).2.2]) (.inr rfl) ?_ (.refl _) rfl (by first | exact OutEq.outer _ | assumption | (simp; done) | (simp; assumption)) rfl
    rw [drop_nil hc7] at hp
    simp [oneC, hc1, hc4, ← hp, noTok]
end Go.Abs
set_option linter.unusedVariables false
set_option linter.unusedSimpArgs false
namespace Go.Abs
open Go Go.Proofs
def rightI (s : ByteArray) : Bool := match (strL s)[0]? with
 | none => false
 | some c => decide ((oneC s c).2.2 = 0) && decide ((oneC s c).2.1 = (strL s).length) && decide ((oneC s c).1.1 = 1)
def c260 : ACode := (.seq (.reg [⟨some 1,none,.box 3 (.t 0)⟩,⟨some 2,none,.mov (.c (.d (.str ⟨⟨[]⟩⟩)))⟩]) (.seq (.seq (.reg [⟨some 3,none,.addr 0 (.t 1)⟩,⟨some 4,none,.load none (.t 3)⟩,⟨some 5,none,.bin .eql (.t 4) (.c (.d (.int .i64 3)))⟩]) (.cond (.t 5) (.seq (.reg [⟨some 6,none,.addr 1 (.t 1)⟩,⟨some 7,none,.load none (.t 6)⟩,⟨some 8,none,.bin .add (.c (.d (.str ⟨⟨[34]⟩⟩))) (.t 7)⟩,⟨some 9,none,.bin .add (.t 8) (.c (.d (.str ⟨⟨[34]⟩⟩)))⟩,⟨some 2,none,.mov (.t 9)⟩]) .ret) .skip)) (.seq (.reg [⟨some 10,none,.addr 1 (.t 1)⟩,⟨some 11,none,.load none (.t 10)⟩,⟨some 2,none,.mov (.t 11)⟩]) .ret)))
theorem b260 : Body Tryz.prog 260 12 c260 [.tmp 2] := Body.of Tryz.f260 Tryz.func260 (by decide +kernel) (by decide +kernel) Tryz.ntmps260 (by decide +kernel) (by decide +kernel)
theorem p260 (s : ByteArray) : PCall Tryz.prog 260 [.agg [int 1, stri s, int 0]] (stri s) := by
 intro h
 refine ACall.of b260 (by simp) ?_
 unfold c260
 refine .seqk fun K1 hK1 => ?_
 refine .reg ?_
 simp
 refine hK1 _ ?_
 clear hK1 K1
 refine .seqk fun K2 hK2 => ?_
 refine .seqk fun K3 hK3 => ?_
 refine .reg ?_
 simp
 refine hK3 _ ?_
 clear hK3 K3
 refine .keep [1, 5] ?_
 simp only [keepE, E_cons, E_nil]
 refine .condk _ rfl (fun hc1 => ?_) (fun hc1 => ?_)
 ·cases hc1
 ·skip
  refine .skip ?_
  refine hK2 _ ?_
  clear hK2 K2
  refine .seqk fun K4 hK4 => ?_
  refine .reg ?_
  simp
  refine hK4 _ ?_
  clear hK4 K4
  refine .keep [2] ?_
  simp only [keepE, E_cons, E_nil]
  refine .ret ?_
  refine ret_z (.inr rfl) rfl rfl ?_
  rfl
def c243 : ACode := (.seq (.reg [⟨some 1,none,.box 3 (.t 0)⟩,⟨some 2,none,.mov (.c (.d (.bool false)))⟩]) (.seq (.reg [⟨some 7,none,.load (some 3) (.t 1)⟩,⟨some 8,none,.call 260 [(.t 7)]⟩,⟨some 3,none,.mov (.t 8)⟩]) (.seq (.seq (.reg [⟨some 9,none,.mov (.t 3)⟩,⟨some 10,none,.bin .eql (.t 9) (.c (.d (.str ⟨⟨[]⟩⟩)))⟩]) (.cond (.t 10) (.seq (.reg [⟨some 2,none,.mov (.c (.d (.bool false)))⟩]) .ret) .skip)) (.seq (.reg [⟨some 12,none,.mov (.t 3)⟩,⟨some 13,none,.call 261 [(.t 12),(.c (.d (.int .i64 0)))]⟩,⟨some 11,none,.mov (.t 13)⟩,⟨some 14,none,.ext (.t 11) 0⟩,⟨some 15,none,.ext (.t 11) 1⟩,⟨some 16,none,.ext (.t 11) 2⟩,⟨some 4,none,.alloc [(.d (.int .i64 0)),(.d (.str ⟨⟨[]⟩⟩)),(.d (.int .i64 0))]⟩,⟨none,none,.store 3 (.t 4) (.t 14)⟩,⟨some 5,none,.mov (.t 15)⟩,⟨some 6,none,.mov (.t 16)⟩]) (.seq (.reg [⟨some 17,none,.mov (.t 6)⟩,⟨some 18,none,.bin .eql (.t 17) (.c (.d (.int .i64 0)))⟩,⟨some 19,none,.mov (.t 18)⟩,⟨some 20,some (19, true),.mov (.t 5)⟩,⟨some 21,some (19, true),.mov (.t 3)⟩,⟨some 22,some (19, true),.len true (.t 21)⟩,⟨some 23,some (19, true),.bin .eql (.t 20) (.t 22)⟩,⟨some 24,none,.pick (.t 19) (.t 23) (.c (.d (.bool false)))⟩,⟨some 25,none,.mov (.t 24)⟩,⟨some 26,some (25, true),.addr 0 (.t 4)⟩,⟨some 27,some (25, true),.load none (.t 26)⟩,⟨some 28,some (25, true),.addr 0 (.t 1)⟩,⟨some 29,some (25, true),.load none (.t 28)⟩,⟨some 30,some (25, true),.bin .eql (.t 27) (.t 29)⟩,⟨some 31,none,.pick (.t 25) (.t 30) (.c (.d (.bool false)))⟩,⟨some 2,none,.mov (.t 31)⟩]) .ret)))))
theorem b243 : Body Tryz.prog 243 32 c243 [.tmp 2] := Body.of Tryz.f243 Tryz.func243 (by decide +kernel) (by decide +kernel) Tryz.ntmps243 (by decide +kernel) (by decide +kernel)
theorem p243 (s : ByteArray) (hm : (strL s).length ≤ 140737488355328) : PCall Tryz.prog 243 [.agg [int 1, stri s, int 0]] (bo (rightI s)) := by
 intro h
 refine ACall.of b243 (by simp) ?_
 unfold c243
 refine .seqk fun K1 hK1 => ?_
 refine .reg ?_
 simp
 refine hK1 _ ?_
 clear hK1 K1
 refine .seqk fun K2 hK2 => ?_
 refine .reg ?_
 refine Sq.cutk 2 fun K3 hK3 => ?_
 simp only [zt]
 simp
 refine PCall.sq (p260 s) fun h1 he1 => ?_
 simp only [mergeH_eq he1]
 clear he1 h1
 refine hK3 _ ?_
 clear hK3 K3
 simp
 refine hK2 _ ?_
 clear hK2 K2
 refine .keep [1, 3, 20, 21, 22, 23, 26, 27, 28, 29, 30] ?_
 simp only [keepE, E_cons, E_nil]
 refine .seqk fun K4 hK4 => ?_
 refine .seqk fun K5 hK5 => ?_
 refine .reg ?_
 simp [toList_strL]
 refine hK5 _ ?_
 clear hK5 K5
 refine .condk _ rfl (fun hc1 => ?_) (fun hc1 => ?_)
 ·have hs : strL s = [] := by simpa [toList_strL, strL] using hc1
  refine .seqk fun K6 hK6 => ?_
  refine .reg ?_
  simp
  refine hK6 _ ?_
  clear hK6 K6
  refine .ret ?_
  refine ret_z (.inr rfl) rfl rfl ?_
  simp [rightI, hs]
 ·have hne : strL s ≠ [] := by intro e; simp [toList_strL, e, strL] at hc1; exact hc1 (by simpa [strL] using e)
  obtain ⟨c, hx⟩ : ∃ c, (strL s)[0]? = some c := get_some (List.length_pos_iff.2 hne)
  refine .skip ?_
  refine hK4 _ ?_
  clear hK4 K4
  refine .seqk fun K7 hK7 => ?_
  refine .reg ?_
  refine Sq.cutk 2 fun K8 hK8 => ?_
  simp only [zt]
  simp
  refine PCall.sq (p261 s c hm hx) fun h1 he1 => ?_
  simp only [mergeH_eq he1]
  clear he1 h1
  refine hK8 _ ?_
  clear hK8 K8
  simp
  refine hK7 _ ?_
  clear hK7 K7
  refine .keep [1, 3, 4, 5, 6, 20, 21, 22, 23, 26, 27, 28, 29, 30] ?_
  simp only [keepE, E_cons, E_nil]
  refine .seqreg (fun hh => hh) (fun ee => [(2, bo (rightI s))]) ?_ ?_
  ·by_cases h0 : (oneC s c).2.2 = 0 <;> by_cases h1 : (oneC s c).2.1 = (strL s).length <;> by_cases h2 : (oneC s c).1.1 = 1 <;> simp [h0, h1, h2, rightI, hx]
  try simp only [E_cons, E_nil]
  refine .ret ?_
  refine ret_z (.inr rfl) rfl rfl ?_
  simp
def c209 : ACode := (.seq (.reg [⟨some 2,none,.mov (.c (.d (.bool false)))⟩]) (.seq (.reg [⟨some 3,none,.mov (.t 0)⟩,⟨some 4,none,.build [(.d (.int .i64 0)),(.d (.str ⟨⟨[]⟩⟩)),(.d (.int .i64 0))] [(0, (1, (.c (.d (.int .i64 1))))),(1, (1, (.t 3)))]⟩,⟨some 5,none,.call 243 [(.t 4)]⟩,⟨some 2,none,.mov (.t 5)⟩]) .ret))
theorem b209 : Body Tryz.prog 209 6 c209 [.tmp 2] := Body.of Tryz.f209 Tryz.func209 (by decide +kernel) (by decide +kernel) Tryz.ntmps209 (by decide +kernel) (by decide +kernel)
theorem p209 (s : ByteArray) (hm : (strL s).length ≤ 140737488355328) : PCall Tryz.prog 209 [stri s] (bo (rightI s)) := by
 intro h
 refine ACall.of b209 (by simp) ?_
 unfold c209
 refine .seqk fun K1 hK1 => ?_
 refine .reg ?_
 simp
 refine hK1 _ ?_
 clear hK1 K1
 refine .seqk fun K2 hK2 => ?_
 refine .reg ?_
 refine Sq.cutk 3 fun K3 hK3 => ?_
 simp only [zt]
 simp
 refine PCall.sq (p243 s hm) fun h1 he1 => ?_
 simp only [mergeH_eq he1]
 clear he1 h1
 refine hK3 _ ?_
 clear hK3 K3
 simp
 refine hK2 _ ?_
 clear hK2 K2
 refine .keep [2] ?_
 simp only [keepE, E_cons, E_nil]
 refine .ret ?_
 refine ret_z (.inr rfl) rfl rfl ?_
 rfl
end Go.Abs
/- The examples of the chapters: closed runs. -/
set_option linter.unusedVariables false
set_option linter.unusedSimpArgs false
set_option maxRecDepth 1000000
namespace Go.Abs
open Go Go.Proofs
def tabL : List (Nat × Nat × ACode × List Res) := [(34, 67, c34, [.tmp 0]), (35, 67, c35, [.cell (some 2) 4, .tmp 5]), (38, 95, c38, [.tmp 10, .tmp 11, .tmp 12]), (44, 8, c44, [.tmp 2]), (46, 26, c46, [.tmp 4]), (50, 26, c50, [.tmp 4]), (59, 43, c59, [.tmp 6, .tmp 7, .tmp 8]), (61, 15, c61, [.cell (some 2) 0]), (79, 43, c79, [.tmp 8]), (80, 13, c80, [.cell (some 2) 0, .cell (some 2) 1]), (81, 75, c81, [.tmp 4]), (82, 73, c82, [.tmp 6]), (84, 51, c84, [.tmp 6]), (85, 28, c85, [.tmp 4]), (86, 12, c86, [.cell (some 2) 2]), (87, 93, c87, [.tmp 12]), (88, 126, c88, [.tmp 6]), (89, 33, c89, [.cell (some 2) 8, .tmp 9]), (90, 48, c90, [.tmp 4]), (91, 104, c91, [.tmp 6]), (92, 14, c92, []), (93, 17, c93, [.tmp 4]), (94, 18, c94, [.tmp 2]), (95, 36, c95, [.tmp 4]), (96, 20, c96, [.tmp 2]), (97, 46, c97, [.tmp 2]), (101, 60, c101, [.tmp 2, .tmp 3]), (114, 125, c114, []), (117, 8, c117, [.tmp 2]), (126, 33, c126, [.tmp 6]), (127, 15, c127, [.tmp 6]), (128, 25, c128, [.tmp 6]), (129, 30, c129, [.tmp 4]), (133, 158, c133, [.tmp 4]), (134, 13, c134, [.tmp 2]), (135, 20, c135, [.tmp 5]), (136, 42, c136, [.tmp 6, .tmp 7]), (137, 75, c137, [.tmp 10, .tmp 11]), (138, 13, c138, [.tmp 4]), (139, 44, c139, [.tmp 6]), (140, 29, c140, [.tmp 12]), (142, 36, c142, [.tmp 8]), (143, 28, c143, [.cell (some 2) 8]), (144, 9, c144, [.tmp 4]), (145, 33, c145, [.cell (some 2) 8, .tmp 9]), (146, 148, c146, []), (148, 20, c148, [.tmp 4]), (149, 9, c149, [.tmp 4]), (150, 6, c150, [.tmp 2]), (151, 12, c151, [.tmp 4]), (152, 9, c152, [.tmp 4]), (153, 10, c153, [.tmp 3]), (154, 22, c154, [.tmp 4]), (155, 9, c155, [.tmp 2]), (156, 30, c156, [.tmp 4]), (158, 95, c158, [.tmp 4]), (159, 63, c159, [.tmp 4]), (169, 31, c169, [.tmp 2]), (170, 10, c170, [.cell (some 2) 2]), (182, 60, c182, [.tmp 2, .tmp 3]), (183, 12, c183, [.tmp 4]), (184, 22, c184, [.tmp 4]), (185, 18, c185, [.tmp 2]), (186, 46, c186, [.tmp 8]), (187, 9, c187, [.tmp 4]), (188, 9, c188, [.tmp 4]), (189, 19, c189, [.tmp 6]), (190, 17, c190, [.tmp 4]), (191, 42, c191, [.tmp 2]), (192, 208, c192, []), (195, 19, c195, [.tmp 4]), (196, 53, c196, []), (206, 6, c206, [.tmp 2]), (207, 19, c207, [.tmp 4]), (208, 19, c208, [.tmp 4]), (210, 24, c210, [.tmp 4]), (211, 38, c211, [.tmp 2]), (212, 16, c212, [.tmp 4]), (222, 8, c222, [.tmp 2]), (225, 70, c225, [.tmp 4]), (226, 52, c226, [.tmp 4]), (227, 18, c227, [.tmp 4]), (228, 12, c228, [.tmp 6]), (229, 9, c229, [.tmp 4]), (230, 8, c230, [.tmp 3]), (231, 19, c231, [.tmp 4]), (232, 9, c232, [.tmp 3]), (233, 10, c233, [.tmp 3]), (234, 32, c234, [.tmp 4, .tmp 5]), (235, 11, c235, [.tmp 4]), (236, 49, c236, [.tmp 2]), (237, 59, c237, [.tmp 6]), (244, 34, c244, [.tmp 2]), (248, 9, c248, [.tmp 4]), (249, 9, c249, [.tmp 3]), (250, 26, c250, [.tmp 4]), (251, 55, c251, [.tmp 4]), (252, 13, c252, [.tmp 3]), (253, 9, c253, [.tmp 4]), (254, 9, c254, [.tmp 3]), (255, 24, c255, [.tmp 4]), (256, 13, c256, [.tmp 3]), (257, 21, c257, [.tmp 4]), (258, 19, c258, [.tmp 4]), (263, 19, c263, [.tmp 4]), (264, 9, c264, [.tmp 4]), (265, 9, c265, [.tmp 3]), (266, 26, c266, [.tmp 2]), (267, 19, c267, [.tmp 4]), (268, 28, c268, []), (275, 19, c275, [.tmp 4]), (276, 9, c276, [.tmp 4]), (284, 19, c284, [.tmp 4])]
theorem tabL_ok : AllB Tryz.prog tabL := ⟨b34, b35, b38, b44, b46, b50, b59, b61, b79, b80, b81, b82, b84, b85, b86, b87, b88, b89, b90, b91, b92, b93, b94, b95, b96, b97, b101, b114, b117, b126, b127, b128, b129, b133, b134, b135, b136, b137, b138, b139, b140, b142, b143, b144, b145, b146, b148, b149, b150, b151, b152, b153, b154, b155, b156, b158, b159, b169, b170, b182, b183, b184, b185, b186, b187, b188, b189, b190, b191, b192, b195, b196, b206, b207, b208, b210, b211, b212, b222, b225, b226, b227, b228, b229, b230, b231, b232, b233, b234, b235, b236, b237, b244, b248, b249, b250, b251, b252, b253, b254, b255, b256, b257, b258, b263, b264, b265, b266, b267, b268, b275, b276, b284, trivial⟩
def known0 (f : FuncId) (args : List AV) : Option AV := match args with
 | [.d (.str s)] => if f = 247 then (if (strL s).length ≤ 140737488355328 then some (bo (wholeI s)) else none)
  else if f = 209 then (if (strL s).length ≤ 140737488355328 then some (bo (rightI s)) else none) else none
 | [.d (.int .u64 x)] => if f = 147 then (if 0 ≤ x ∧ x ≤ 18446744073709551615 then some (int (Lib.bitLen x.toNat)) else none) else none
 | [.d (.int .u64 x), .d (.int .u64 y)] => if f = 141 then (if 0 ≤ x ∧ x < 18446744073709551616 ∧ 0 ≤ y ∧ y < 18446744073709551616 then
   some (.tup [.d (.int .u64 ((x.toNat * y.toNat / 18446744073709551616 : Nat) : Int)), .d (.int .u64 ((x.toNat * y.toNat % 18446744073709551616 : Nat) : Int))]) else none) else none
 | _ => none
theorem known0_ok (f : FuncId) (args : List AV) (r : AV) (h : known0 f args = some r) : PCall Tryz.prog f args r := by
 unfold known0 at h
 split at h
 ·rename_i s
  split at h
  ·rename_i hf
   split at h
   ·rename_i hs; cases h; subst hf; exact p247 s hs
   ·cases h
  ·split at h
   ·rename_i hf
    split at h
    ·rename_i hs; cases h; subst hf; exact p209 s hs
    ·cases h
   ·cases h
 ·rename_i x
  split at h
  ·rename_i hf
   split at h
   ·rename_i hs; cases h; subst hf; exact p147 x hs.1 hs.2
   ·cases h
  ·cases h
 ·rename_i x y
  split at h
  ·rename_i hf
   split at h
   ·rename_i hs
    cases h
    subst hf
    obtain ⟨h1, h2, h3, h4⟩ := hs
    obtain ⟨m, rfl⟩ : ∃ m : Nat, x = m := ⟨x.toNat, by omega⟩
    obtain ⟨n, rfl⟩ : ∃ n : Nat, y = n := ⟨y.toNat, by omega⟩
    simp only [Int.toNat_natCast]
    exact p141 m n (by omega) (by omega)
   ·cases h
  ·cases h
 ·cases h
def T0 : Tab := ⟨look tabL, known0⟩
theorem T0_ok : T0.OK Tryz.prog := ⟨fun f N c rs h => look_ok tabL_ok f N c rs h, known0_ok⟩
def bs (l : List UInt8) : ByteArray := ⟨⟨l⟩⟩
def I (n : Int) : D := .int .i64 n
/-- The shared example of the document, as the program lays it. -/
def exT : AV := .agg [.d (.slice [[.str (bs [65, 99, 99, 111, 117, 110, 116]), I (-1), .bool true, .slice [[.str (bs [98, 97, 108, 97, 110, 99, 101]), I (-1000), I 1000, .nil]]],
  [.str (bs [67, 97, 115, 104]), I 0, .bool false, .nil],
  [.str (bs [76, 111, 97, 110]), I 0, .bool false, .slice [[.str (bs [115, 116, 97, 116, 101]), I 0, I 1, .slice [[.str (bs [111, 112, 101, 110])], [.str (bs [99, 108, 111, 115, 101, 100])]]]]],
  [.str (bs [80, 101, 114, 115, 111, 110]), I (-1), .bool false, .nil]]),
 .d (.slice [[.str (bs [111, 119, 110, 115]), I 3, I 0, I 0, I (-1), I 1, I 1], [.str (bs [112, 97, 121, 115]), I 1, I 1, I 0, I (-1), I 0, I (-1)]])]
theorem v182 : PCall Tryz.prog 182 [exT] (.tup [stri (bs []), int 0]) := .closed T0_ok mixed 3000 (by decide +kernel) rfl rfl
end Go.Abs
set_option linter.unusedVariables false
set_option linter.unusedSimpArgs false
namespace Go.Abs
open Go Go.Proofs
theorem Dies.up {h h' : Heap} {b : Nat} {x y : HB} (hd : Dies h h') (hxy : y = x ∨ (y.live = none ∧ x.ver ≤ y.ver)) : Dies (Go.Abs.upd h b x) (Go.Abs.upd h' b y) := by
 intro a
 by_cases e : a = b
 ·subst e
  rw [upd_same, upd_same]
  rcases hxy with h1 | h1
  ·exact .inl h1
  ·exact .inr h1
 ·rw [upd_ne _ _ _ _ e, upd_ne _ _ _ _ e]; exact hd a
/-- What is known of a pattern. -/
structure Kn where
 ns : List Bool
 es : List Bool
def Kn.c (k : Kn) : List D := [.slice (k.ns.map Bo.c), .slice (k.es.map Bo.c)]
attribute [simp] Kn.c
def freshK (g : Graph) : Kn := ⟨List.replicate g.nodes.length false, List.replicate g.edges.length false⟩
def Kn.fits (k : Kn) (g : Graph) : Prop := k.ns.length = g.nodes.length ∧ k.es.length = g.edges.length
def endK (k : Kn) (n : Int) : Bool := (k.ns[n.toNat]?).getD false
def stepE (g : Graph) (k : Kn) (o : Oprn) : Int :=
 if o.kind = 1 then (if inI o.el g.nodes.length = false then 6 else if endK k o.el then 8 else 0)
 else if o.kind = 2 ∨ o.kind = 3 then (if inI o.el g.edges.length = false then 6 else match g.edges[o.el.toNat]? with
  | none => 6
  | some x => if (k.es[o.el.toNat]?).getD false || (decide (o.kind = 3) && !(endK k x.src && endK k x.tgt)) || (decide (o.kind = 2) && ((endK k x.src && endK k x.tgt) || !(endK k x.src || endK k x.tgt))) then 8 else 0)
 else 6
def afterK (g : Graph) (k : Kn) (o : Oprn) : Kn := if o.kind = 1 then ⟨k.ns.set o.el.toNat true, k.es⟩ else match g.edges[o.el.toNat]? with
 | none => k
 | some x => ⟨(k.ns.set x.src.toNat true).set x.tgt.toNat true, k.es.set o.el.toNat true⟩
theorem afterK_fits {g : Graph} {k : Kn} (h : k.fits g) (o : Oprn) : (afterK g k o).fits g := by
 unfold afterK
 split
 ·exact ⟨by simp [h.1], h.2⟩
 ·split
  ·exact h
  ·exact ⟨by simp [h.1], by simp [h.2]⟩
theorem freshK_fits (g : Graph) : (freshK g).fits g := ⟨by simp [freshK], by simp [freshK]⟩
def allK (k : Kn) : Bool := k.ns.all id && k.es.all id
def planE (g : Graph) : Kn → List Oprn → Int
 | k, [] => if allK k then 0 else 20
 | k, o :: l => if stepE g k o ≠ 0 then stepE g k o else planE g (afterK g k o) l
theorem AW.seqj {P : Program} {N : Nat} {c d : ACode} {Q : AX → St → Prop} {e : Env} {h : Heap} (hf : Heap → Heap) (l : Env → List (Nat × AV)) (h1 : ∀ K : St → Prop, (∀ s, Wk s ⟨E (l e), hf h⟩ → K s) → AW P N c (then' K Q) ⟨e, h⟩) (h2 : AW P N d Q ⟨E (l e), hf h⟩) : AW P N (.seq c d) Q ⟨e, h⟩ :=
 .seq (h1 _ fun s hs => .weak hs h2)
theorem AW.regv {P : Program} {N : Nat} {Q : AX → St → Prop} {e : Env} {h : Heap} {ops : List GOp} (hf : Heap → Heap) (l : Env → List (Nat × AV)) (ho : Sq P ops ⟨e, h⟩ fun s => Cov (l e) s.env ∧ Dies s.h (hf h)) (hw : ∀ s, Wk s ⟨E (l e), hf h⟩ → Q .normal s) : AW P N (.reg ops) Q ⟨e, h⟩ :=
 .reg ((Sq.mono ho) fun s ⟨h1, h2⟩ => hw s (Wk.cov (env := s.env) (h := s.h) h1 h2))
def lenK (g : Graph) (o : Oprn) : Int := if o.kind = 1 then (g.nodes.length : Int) else g.edges.length
def outK (g : Graph) (o : Oprn) : Bool := decide (o.kind < 1) || decide (3 < o.kind) || decide (o.el < 0) || decide (lenK g o ≤ o.el)
theorem stepE_out {g : Graph} {k : Kn} {o : Oprn} (h : outK g o = true) : stepE g k o = 6 := by
 simp only [outK, Bool.or_eq_true, decide_eq_true_eq] at h
 unfold lenK at h
 unfold stepE
 by_cases h1 : o.kind = 1
 ·rw [if_pos h1] at h ⊢
  have : inI o.el g.nodes.length = false := by
   simp only [inI, Bool.and_eq_false_iff, decide_eq_false_iff_not]
   omega
  rw [if_pos this]
 ·rw [if_neg h1] at h ⊢
  by_cases h2 : o.kind = 2 ∨ o.kind = 3
  ·rw [if_pos h2]
   have : inI o.el g.edges.length = false := by
    simp only [inI, Bool.and_eq_false_iff, decide_eq_false_iff_not]
    omega
   rw [if_pos this]
  ·rw [if_neg h2]
theorem outK_f {g : Graph} {o : Oprn} (h : outK g o = false) : (o.kind = 1 ∨ o.kind = 2 ∨ o.kind = 3) ∧ 0 ≤ o.el ∧ o.el < lenK g o := by
 simp only [outK, Bool.or_eq_false_iff, decide_eq_false_iff_not] at h
 omega
theorem stepE_in {g : Graph} {k : Kn} {o : Oprn} (h : outK g o = false) : stepE g k o = 0 ∨ stepE g k o = 8 := by
 obtain ⟨hk, h0, hl⟩ := outK_f h
 unfold lenK at hl
 unfold stepE
 by_cases h1 : o.kind = 1
 ·rw [if_pos h1] at hl ⊢
  rw [if_neg (by simp [inI, h0, hl])]
  split
  ·exact .inr rfl
  ·exact .inl rfl
 ·rw [if_neg h1] at hl ⊢
  rw [if_pos (by omega), if_neg (by simp [inI, h0, hl])]
  have : g.edges[o.el.toNat]? = some (g.edges[o.el.toNat]'(by omega)) := by simp
  rw [this]
  simp only
  split
  ·exact .inr rfl
  ·exact .inl rfl
theorem gErr_edge {g : Graph} (h : gErr g = 0) {x : Edge} (hx : x ∈ g.edges) : inI x.src g.nodes.length = true ∧ inI x.tgt g.nodes.length = true := by
 unfold gErr at h
 split at h
 ·cases h
 ·split at h
  ·cases h
  ·split at h
   ·cases h
   ·rename_i h3
    have h4 : fitsG x g.nodes.length = true := by
     cases hb : fitsG x g.nodes.length with
     | true => rfl
     | false => exact absurd (List.any_eq_true.2 ⟨x, hx, by simp [hb]⟩) h3
    simp only [fitsG, inR_eq, Bool.and_eq_true] at h4
    exact ⟨h4.1.2, h4.2⟩
theorem Kn.get {k : Kn} {g : Graph} (hf : k.fits g) {n : Int} (h : inI n g.nodes.length = true) : 0 ≤ n ∧ ∃ a, k.ns[n.toNat]? = some a ∧ endK k n = a := by
 simp only [inI, Bool.and_eq_true, decide_eq_true_eq] at h
 have : n.toNat < k.ns.length := by rw [hf.1]; omega
 exact ⟨h.1, k.ns[n.toNat], by simp [this], by simp [endK, this]⟩
theorem p181 (g : Graph) (k : Kn) (n : Int) (x : Edge) (a b : Bool) (h0 : 0 ≤ n) (hx : g.edges[n.toNat]? = some x) (hs : 0 ≤ x.src) (ht : 0 ≤ x.tgt) (ha : k.ns[x.src.toNat]? = some a) (hb : k.ns[x.tgt.toNat]? = some b) : PCall Tryz.prog 181 [ag (Graph.c g), ag (Kn.c k), int n] (.tup [bo a, bo b]) := by
 intro h
 refine ACall.of b181 (by simp) ?_
 unfold c181
 refine .seqk fun K1 hK1 => ?_
 refine .reg ?_
 simp
 refine hK1 _ ?_
 clear hK1 K1
 refine .keep [2, 3, 4] ?_
 simp only [keepE, E_cons, E_nil]
 refine .see (upd (upd _ 3 ⟨_, none⟩) 4 ⟨_, none⟩) [(2, int n), (3, .dptr (Graph.c g)), (4, .dptr (Kn.c k))] ⟨.refl _, T.box (k := 2) (cs := Graph.c g) (by simp [upd]) (by simp [upd]), T.box (k := 2) (cs := Kn.c k) (by simp [upd]) (by simp [upd]), trivial⟩ (Dies.up (Dies.up (Dies.refl _) (.inr ⟨rfl, Nat.le_refl _⟩)) (.inr ⟨rfl, Nat.le_refl _⟩)) ?_
 refine .seqk fun K2 hK2 => ?_
 refine .dreg mixed ?_
 simp [h0, hx, hs, ht, ha, hb]
 refine hK2 _ ?_
 clear hK2 K2
 refine .keep [6, 7] ?_
 simp only [keepE, E_cons, E_nil]
 refine .ret ?_
 refine ret_z (.inr rfl) rfl rfl ?_
 rfl
set_option maxHeartbeats 4000000 in
theorem p132 (g : Graph) (k : Kn) (o : Oprn) (hf : k.fits g) (hv : gErr g = 0) : PCall Tryz.prog 132 [ag (Graph.c g), ag (Kn.c k), ag (Oprn.c o)] (int (stepE g k o)) := by
 intro h
 refine ACall.of b132 (by simp) ?_
 unfold c132
 refine .seqk fun K1 hK1 => ?_
 refine .reg ?_
 simp
 refine hK1 _ ?_
 clear hK1 K1
 refine .keep [3, 4, 5, 24, 25, 26, 29, 30, 31, 34, 35, 36, 37, 65, 66, 67, 68, 69, 70, 71, 72, 73, 74, 75, 76, 77, 78, 79, 80, 81, 82, 83] ?_
 simp only [keepE, E_cons, E_nil]
 refine .see (upd (upd (upd _ 3 ⟨_, none⟩) 4 ⟨_, none⟩) 5 ⟨_, none⟩) [(3, .dptr (Graph.c g)), (4, .dptr (Kn.c k)), (5, .dptr (Oprn.c o))] ⟨T.box (k := 2) (cs := Graph.c g) (by simp [upd]) (by simp [upd]), T.box (k := 2) (cs := Kn.c k) (by simp [upd]) (by simp [upd]), T.box (k := 2) (cs := Oprn.c o) (by simp [upd]) (by simp [upd]), trivial⟩ (Dies.up (Dies.up (Dies.up (Dies.refl _) (.inr ⟨rfl, Nat.le_refl _⟩)) (.inr ⟨rfl, Nat.le_refl _⟩)) (.inr ⟨rfl, Nat.le_refl _⟩)) ?_
 refine .seqk fun K2 hK2 => ?_
 refine .reg ?_
 simp
 refine hK2 _ ?_
 clear hK2 K2
 refine .keep [3, 4, 5, 7, 24, 25, 26, 29, 30, 31, 34, 35, 36, 37, 65, 66, 67, 68, 69, 70, 71, 72, 73, 74, 75, 76, 77, 78, 79, 80, 81, 82, 83] ?_
 simp only [keepE, E_cons, E_nil]
 refine .seqj (fun hh => hh) (fun ee => [(3, ee 3), (4, ee 4), (5, ee 5), (7, int (lenK g o)), (24, ee 24), (25, ee 25), (26, ee 26), (29, ee 29), (30, ee 30), (31, ee 31), (34, ee 34), (35, ee 35), (36, ee 36), (37, ee 37), (65, ee 65), (66, ee 66), (67, ee 67), (68, ee 68), (69, ee 69), (70, ee 70), (71, ee 71), (72, ee 72), (73, ee 73), (74, ee 74), (75, ee 75), (76, ee 76), (77, ee 77), (78, ee 78), (79, ee 79), (80, ee 80), (81, ee 81), (82, ee 82), (83, ee 83)]) (fun K3 hK3 => ?_) ?_
 ·refine .seqk fun K4 hK4 => ?_
  refine .reg ?_
  simp
  refine hK4 _ ?_
  clear hK4 K4
  refine .keep [3, 4, 5, 7, 16, 24, 25, 26, 29, 30, 31, 34, 35, 36, 37, 65, 66, 67, 68, 69, 70, 71, 72, 73, 74, 75, 76, 77, 78, 79, 80, 81, 82, 83] ?_
  simp only [keepE, E_cons, E_nil]
  refine .condk _ rfl (fun hc1 => ?_) (fun hc1 => ?_)
  ·try simp at hc1
   refine .reg ?_
   simp
   refine hK3 _ (Wk.cov ?_ (.refl _))
   simp [lenK, hc1]
  ·try simp at hc1
   refine .skip ?_
   refine hK3 _ (Wk.cov ?_ (.refl _))
   simp [lenK, hc1]
 try simp only [E_cons, E_nil]
 refine .seqk fun K5 hK5 => ?_
 refine .seqreg (fun hh => hh) (fun ee => [(3, ee 3), (4, ee 4), (5, ee 5), (38, bo (outK g o)), (65, ee 65), (66, ee 66), (67, ee 67), (68, ee 68), (69, ee 69), (70, ee 70), (71, ee 71), (72, ee 72), (73, ee 73), (74, ee 74), (75, ee 75), (76, ee 76), (77, ee 77), (78, ee 78), (79, ee 79), (80, ee 80), (81, ee 81), (82, ee 82), (83, ee 83)]) ?_ ?_
 ·by_cases h0 : o.kind < 1 <;> by_cases h1 : 3 < o.kind <;> by_cases h2 : o.el < 0 <;> by_cases h3 : lenK g o ≤ o.el <;> simp [h0, h1, h2, h3, outK]
 try simp only [E_cons, E_nil]
 refine .condk _ rfl (fun hc2 => ?_) (fun hc2 => ?_)
 ·skip
  refine .seqk fun K6 hK6 => ?_
  refine .reg ?_
  simp
  refine hK6 _ ?_
  clear hK6 K6
  refine .ret ?_
  refine ret_z (.inr rfl) rfl rfl ?_
  simp [stepE_out hc2]
 ·obtain ⟨hk, h0, hlt⟩ := outK_f hc2
  refine .skip ?_
  refine hK5 _ ?_
  clear hK5 K5
  refine .seqk fun K7 hK7 => ?_
  refine .reg ?_
  simp
  refine hK7 _ ?_
  clear hK7 K7
  refine .seqj (fun hh => hh) (fun ee => [(8, bo (decide (stepE g k o ≠ 8)))]) (fun K8 hK8 => ?_) ?_
  ·refine .seqk fun K9 hK9 => ?_
   refine .reg ?_
   simp
   refine hK9 _ ?_
   clear hK9 K9
   refine .keep [3, 4, 5, 41, 65, 66, 67, 68, 69, 70, 71, 72, 73, 74, 75, 76, 77, 78, 79, 80, 81, 82, 83] ?_
   simp only [keepE, E_cons, E_nil]
   refine .condk _ rfl (fun hc3 => ?_) (fun hc3 => ?_)
   ·simp at hc3
    have hin : inI o.el g.nodes.length = true := by simp [lenK, hc3] at hlt; simp [inI, h0, hlt]
    obtain ⟨_, a, ha, hea⟩ := Kn.get hf hin
    refine .reg ?_
    simp [ha, h0]
    refine hK8 _ (Wk.cov ?_ (.refl _))
    first | (cases a <;> simp [stepE, hc3, hin, hea]) | simp
   ·simp at hc3
    have hk2 : o.kind = 2 ∨ o.kind = 3 := by omega
    have hle : o.el < g.edges.length := by simpa [lenK, hc3] using hlt
    have hin : inI o.el g.edges.length = true := by simp [inI, h0, hle]
    obtain ⟨x, hx⟩ : ∃ x, g.edges[o.el.toNat]? = some x := ⟨g.edges[o.el.toNat]'(by omega), by simp⟩
    obtain ⟨e, he⟩ : ∃ e, k.es[o.el.toNat]? = some e := ⟨k.es[o.el.toNat]'(by rw [hf.2]; omega), by simp⟩
    obtain ⟨i1, i2⟩ := gErr_edge hv (List.mem_of_getElem? hx)
    obtain ⟨hs0, a, ha, hea⟩ := Kn.get hf i1
    obtain ⟨ht0, b, hb, heb⟩ := Kn.get hf i2
    refine .seqk fun K10 hK10 => ?_
    refine .reg ?_
    refine Sq.cutk 5 fun K11 hK11 => ?_
    simp only [zt]
    simp
    refine PCall.sq (p181 g k o.el x a b h0 hx hs0 ht0 ha hb) fun h1 he1 => ?_
    simp only [mergeH_eq he1]
    clear he1 h1
    refine hK11 _ ?_
    clear hK11 K11
    simp
    refine hK10 _ ?_
    clear hK10 K10
    refine .keep [4, 5, 9, 10, 65, 66, 67, 68, 69, 70, 71, 72, 73, 74, 75, 76, 77, 78, 79, 80, 81, 82, 83] ?_
    simp only [keepE, E_cons, E_nil]
    refine .regv (fun hh => hh) (fun ee => [(8, bo (decide (stepE g k o ≠ 8)))]) ?_ (fun s hs => ?_)
    ·rcases hk2 with h2 | h2 <;> cases a <;> cases b <;> cases e <;> simp (maxSteps := 1000000) [stepE, hin, hx, he, hea, heb, h0, h2]
    refine hK8 _ (hs.trans (Wk.cov ?_ (.refl _)))
    first | (cases a <;> simp [stepE, hc3, hin, hea]) | simp
  try simp only [E_cons, E_nil]
  refine .seqk fun K12 hK12 => ?_
  refine .seqk fun K13 hK13 => ?_
  refine .reg ?_
  simp
  refine hK13 _ ?_
  clear hK13 K13
  refine .condk _ rfl (fun hc4 => ?_) (fun hc4 => ?_)
  ·simp at hc4
   refine .seqk fun K14 hK14 => ?_
   refine .reg ?_
   simp
   refine hK14 _ ?_
   clear hK14 K14
   refine .ret ?_
   refine ret_z (.inr rfl) rfl rfl ?_
   simp [hc4]
  ·simp at hc4
   refine .skip ?_
   refine hK12 _ ?_
   clear hK12 K12
   refine .seqk fun K15 hK15 => ?_
   refine .reg ?_
   simp
   refine hK15 _ ?_
   clear hK15 K15
   refine .ret ?_
   refine ret_z (.inr rfl) rfl rfl ?_
   rcases stepE_in (k := k) hc2 with h1 | h1
   ·simp [h1]
   ·exact absurd h1 hc4
end Go.Abs
set_option linter.unusedVariables false
set_option linter.unusedSimpArgs false
namespace Go.Abs
open Go Go.Proofs
theorem Dn.mono {P : Program} : ∀ {als : List Alt} {ops : List GOp} {s : St} {K K' : St → List Fp → Prop}, Dn P als ops s K → (∀ s fs, K s fs → K' s fs) → Dn P als ops s K'
 | als, [], s, K, K', h, hk => hk s [] h
 | als, o :: ops, s, K, K', h, hk => by
  unfold Dn at h ⊢
  split
  ·rename_i hg; rw [hg] at h; exact Dn.mono h (fun s fs => hk s _)
  ·rename_i hg
   rw [hg] at h
   simp only at h
   split
   ·rename_i hc
    rw [hc] at h
    simp only at h
    split
    ·rename_i f args hf
     rw [hf] at h
     obtain ⟨pu, r, ws, h1, h2⟩ := h
     exact ⟨pu, r, ws, h1, Dn.mono h2 (fun s fs => hk s _)⟩
    ·rename_i hf; rw [hf] at h; exact h
   ·rename_i hc
    rw [hc] at h
    simp only at h
    split
    ·rename_i e he
     rw [he] at h
     simp only at h
     split
     ·rename_i v ws rd halt
      rw [halt] at h
      exact ⟨h.1, Dn.mono h.2 (fun s fs => hk s _)⟩
     ·rename_i halt; rw [halt] at h; exact h
    ·rename_i he; rw [he] at h; exact h
  ·rename_i hg; rw [hg] at h; exact h
theorem AW.seqdregnx {α : Type} {P : Program} {N : Nat} {c : ACode} {Q : AX → St → Prop} {e : Env} {h : Heap} {ops : List GOp} {un : List (Nat × Nat)} (hm : P.follows .mixedOrders = true) (als : List Alt) (pre : α → Prop) (h' : α → Heap → Heap) (l : α → Env → List (Nat × AV))
  (ho : Dn P als ops ⟨e, h⟩ fun s fs => conf un fs = true ∧ ∃ x, pre x ∧ Cov (l x e) s.env ∧ Dies s.h (h' x h)) (hw : ∀ x, pre x → AW P N c Q ⟨E (l x e), h' x h⟩) : AW P N (.seq (.dreg ops un) c) Q ⟨e, h⟩ :=
 .seq (.dregn hm als (ho.mono fun s fs ⟨h0, x, h1, h2, h3⟩ => ⟨h0, .weak (Wk.cov (env := s.env) (h := s.h) h2 h3) (hw x h1)⟩))
theorem rep_dl (n : Nat) : dl (List.replicate n [D.bool false]) = List.replicate n [.d (.bool false)] := by simp [dl]
theorem ret_m {rs : List Res} {e : AX} {s : St} {Q : AV → Heap → Prop} {r : AV} (he : e = .normal ∨ e = .ret) (hv : resA s rs = some r) (hr : outOnly r = true) (hq : Q r s.h) : Ret rs Q e s := by
 rcases he with rfl | rfl <;> exact ⟨r, r, hv, .refl _, hr, hq⟩
def K1 : Nat := 1000001
def K2 : Nat := 1000002
theorem p130 (g : Graph) (hn : g.nodes.length ≤ 1000) (he : g.edges.length ≤ 1000) : PCall Tryz.prog 130 [ag (Graph.c g)] (ag (Kn.c (freshK g))) := by
 intro h
 refine ACall.of b130 (by simp) ?_
 unfold c130
 refine .seqk fun K1 hK1 => ?_
 refine .reg ?_
 simp
 refine hK1 _ ?_
 clear hK1 K1
 refine .keep [1, 2] ?_
 simp only [keepE, E_cons, E_nil]
 refine .see (upd (upd _ 1 ⟨_, none⟩) 2 _) [(1, .dptr (Graph.c g)), (2, .ptr 2 _ 0 0)] ⟨T.box (k := 2) (cs := Graph.c g) (by simp [upd]) (by simp [upd]), .refl _, trivial⟩ (Dies.up (Dies.up (Dies.refl _) (.inr ⟨rfl, Nat.le_refl _⟩)) (.inl rfl)) ?_
 refine .seqdreg mixed (fun hh => upd (upd (upd hh 6 ⟨(outer h 6).ver + 1, some ⟨1, dl ((List.replicate g.nodes.length false).map Bo.c)⟩⟩) 10 ⟨(outer h 10).ver + 1, some ⟨1, dl ((List.replicate g.edges.length false).map Bo.c)⟩⟩) 2 ⟨(outer h 2).ver + 1, some ⟨2, [[.sl 6 ((outer h 6).ver + 1) 0 g.nodes.length g.nodes.length, .sl 10 ((outer h 10).ver + 1) 0 g.edges.length g.edges.length]]⟩⟩) (fun ee => [(2, ee 2)]) ?_ ?_
 ·have w1 : IntKind.i64.wrap (g.nodes.length : Int) = g.nodes.length := wrapN (by omega)
  have w2 : IntKind.i64.wrap (g.edges.length : Int) = g.edges.length := wrapN (by omega)
  have q1 : g.nodes.length ≤ 140737488355328 := by omega
  have q2 : g.edges.length ≤ 140737488355328 := by omega
  have q3 : (g.nodes.length : Int) ≤ 140737488355328 := by omega
  have q4 : (g.edges.length : Int) ≤ 140737488355328 := by omega
  simp [q1, q2, q3, q4, upd, rep_dl, srcOf]
 try simp only [E_cons, E_nil]
 refine .ret ?_
 refine ret_d (v := .agg [.sl 6 ((outer h 6).ver + 1) 0 g.nodes.length g.nodes.length, .sl 10 ((outer h 10).ver + 1) 0 g.edges.length g.edges.length]) (.inr rfl) ?_ (T.agg2 (T.row (xs := (List.replicate g.nodes.length false).map Bo.c) (k := 1) (by simp) (by simp [upd]) (by simp)) (T.row (xs := (List.replicate g.edges.length false).map Bo.c) (k := 1) (by simp) (by simp [upd]) (by simp))) rfl (by first | exact OutEq.outer _ | assumption | (simp; done) | (simp; assumption)) rfl
 simp [upd]
theorem p180 (k : Kn) (h : Heap) (hn : k.ns.length ≤ 1000) (he : k.es.length ≤ 1000) (d1 : (h 1000001).live = none) (d2 : (h 1000002).live = none) : ACall Tryz.prog 180 [ag (Kn.c k)] h fun r h' => ∃ v1 v2 c1 c2, r = .agg [.sl 1000001 v1 0 k.ns.length c1, .sl 1000002 v2 0 k.es.length c2] ∧ OutEq h' (upd (upd h 1000001 ⟨v1, some ⟨1, dl (k.ns.map Bo.c)⟩⟩) 1000002 ⟨v2, some ⟨1, dl (k.es.map Bo.c)⟩⟩) := by
 refine ACall.of b180 (by simp) ?_
 unfold c180
 have o1 : outer h 1000001 = h 1000001 := by simp [outer]
 have o2 : outer h 1000002 = h 1000002 := by simp [outer]
 refine .seqk fun K1 hK1 => ?_
 refine .reg ?_
 simp
 refine hK1 _ ?_
 clear hK1 K1
 refine .keep [1, 2] ?_
 simp only [keepE, E_cons, E_nil]
 refine .see (upd (upd _ 1 ⟨_, none⟩) 2 _) [(1, .dptr (Kn.c k)), (2, .ptr 2 _ 0 0)] ⟨T.box (k := 2) (cs := Kn.c k) (by simp [upd]) (by simp [upd]), .refl _, trivial⟩ (Dies.up (Dies.up (Dies.refl _) (.inr ⟨rfl, Nat.le_refl _⟩)) (.inl rfl)) ?_
 refine .seqdregnx mixed [.named 1000001 ((h 1000001).ver + 1), .plain, .plain, .plain, .named 1000002 ((h 1000002).ver + 1)] (α := (Nat × Nat) × (Nat × Nat)) (fun x => True) (fun x hh => upd (upd (upd (upd (upd hh 3 ⟨(outer h 3).ver + 1, none⟩) 1000001 ⟨x.1.1, some ⟨1, dl (k.ns.map Bo.c)⟩⟩) 7 ⟨(outer h 7).ver + 1, none⟩) 1000002 ⟨x.2.1, some ⟨1, dl (k.es.map Bo.c)⟩⟩) 2 ⟨(outer h 2).ver + 1, some ⟨2, [[.sl 1000001 x.1.1 0 k.ns.length x.1.2, .sl 1000002 x.2.1 0 k.es.length x.2.2]]⟩⟩) (fun x ee => [(2, ee 2)]) ?_ (fun x hx => ?_)
 ·have q2 : k.ns.length ≤ 17592186044416 := by omega
  have q4 : k.es.length ≤ 17592186044416 := by omega
  by_cases h1 : k.ns = [] <;> by_cases h2 : k.es = []
  ·simp [h1, h2, upd, srcOf, o1, o2, d1, d2]
   exact ⟨_, _, _, _, .refl _⟩
  ·simp [h1, h2, q4, upd, srcOf, o1, o2, d1, d2]
   exact ⟨_, _, _, _, .refl _⟩
  ·simp [h1, h2, q2, upd, srcOf, o1, o2, d1, d2]
   exact ⟨_, _, _, _, .refl _⟩
  ·simp [h1, h2, q2, q4, upd, srcOf, o1, o2, d1, d2]
   exact ⟨_, _, _, _, .refl _⟩
 try simp only [E_cons, E_nil]
 refine .ret ?_
 refine ret_m (.inr rfl) (r := .agg [.sl 1000001 x.1.1 0 k.ns.length x.1.2, .sl 1000002 x.2.1 0 k.es.length x.2.2]) (by simp [upd]) (by simp) ⟨_, _, _, _, rfl, ?_⟩
 intro b hb
 have hb1 : 1000000 ≤ b := hb
 have n1 : b ≠ 1 := by omega
 have n2 : b ≠ 2 := by omega
 have n3 : b ≠ 3 := by omega
 have n7 : b ≠ 7 := by omega
 simp [upd, outer, n1, n2, n3, n7, Nat.not_lt.2 hb1]
end Go.Abs
set_option linter.unusedVariables false
set_option linter.unusedSimpArgs false
namespace Go.Abs
open Go Go.Proofs
theorem mergeH_upd2 {h h1 : Heap} {B C : Nat} {x y : HB} (he : OutEq h1 (Go.Abs.upd (Go.Abs.upd h B x) C y)) (hB : lim ≤ B) (hC : lim ≤ C) : mergeH h h1 = Go.Abs.upd (Go.Abs.upd h B x) C y := by
 funext b
 simp only [mergeH]
 split
 ·rename_i hb
  rw [upd_ne _ _ _ _ (by omega), upd_ne _ _ _ _ (by omega)]
 ·rename_i hb
  exact he b (by omega)
theorem dl_setB (l : List Bool) (i : Nat) (b : Bool) : (dl (l.map Bo.c)).set i [.d (.bool b)] = dl ((l.set i b).map Bo.c) := by
 simp [dl, List.map_set]
theorem dl_getE (xs : List (List D)) (i : Nat) (hi : i < (dl xs).length) : (dl xs)[i] = (xs[i]'(by simpa using hi)).map .d := by simp [dl]
/-- What a call ends in, seen otherwise. -/
theorem ACall.see {P : Program} {f : FuncId} {args : List AV} {h : Heap} {Q Q' : AV → Heap → Prop} (hc : ACall P f args h Q) (hq : ∀ r h', Q r h' → ∃ r2 h2, Dies (outer h') (outer h2) ∧ T (outer h') (outer h2) some r r2 ∧ outOnly r2 = true ∧ OutOK h2 ∧ Q' r2 h2) : ACall P f args h Q' := by
 refine ⟨hc.1, fun w X ι vs h1 h0 h2 h3 => (hc.2 w X ι vs h1 h0 h2 h3).mono ?_⟩
 rintro e w' ⟨r, v, h', ι', q, rfl, q1, q2, q3, q4, q5⟩
 obtain ⟨r2, h2, hd, hT, ho, hok, hq'⟩ := hq r h' q
 have ht := HT.dies hd
 exact ⟨r2, v, h2, _, hq', rfl, HT.rel q1 ht, hok, ho, HT.vr q1 ht hT q4, q5.trans ht.evo⟩
theorem h00_at (b : Nat) : h00 b = ⟨0, none⟩ := rfl
def deadH (h : Heap) : Heap := fun b => ⟨(h b).ver, none⟩
theorem deadH_dies (h : Heap) : Dies (outer h) (outer (deadH h)) := fun b => .inr ⟨by simp only [outer, deadH]; split <;> rfl, by simp only [outer, deadH]; split <;> exact Nat.le_refl _⟩
theorem deadH_ok (h : Heap) : OutOK (deadH h) := fun b blk _ hl => by cases hl
theorem deadH_live (h : Heap) (b : Nat) : (outer (deadH h) b).live = none := by simp only [outer, deadH]; split <;> rfl
theorem frzK {h : Heap} {B v n c : Nat} {l : List Bool} (hB : lim ≤ B) (hl : h B = ⟨v, some ⟨1, dl (l.map Bo.c)⟩⟩) (hn : n = l.length) : T (outer h) (outer (deadH h)) some (.sl B v 0 n c) (.d (.slice (l.map Bo.c))) :=
 T.rowD (k := 1) (l.map Bo.c) (by simp only [outer, Nat.not_lt.2 hB, if_false]; exact hl) (deadH_live h B) (by simp [hn])
theorem stepE_0 {g : Graph} {k : Kn} {o : Oprn} (hf : k.fits g) (hv : gErr g = 0) (h : stepE g k o = 0) : 0 ≤ o.el ∧ ((o.kind = 1 ∧ o.el.toNat < k.ns.length) ∨ ((o.kind = 2 ∨ o.kind = 3) ∧ o.kind ≠ 1 ∧ ∃ x, g.edges[o.el.toNat]? = some x ∧ o.el.toNat < k.es.length ∧ 0 ≤ x.src ∧ 0 ≤ x.tgt ∧ x.src.toNat < k.ns.length ∧ x.tgt.toNat < k.ns.length)) := by
 have ho : outK g o = false := by
  cases hb : outK g o with
  | false => rfl
  | true => rw [stepE_out hb] at h; cases h
 obtain ⟨hk, h0, hl⟩ := outK_f ho
 unfold lenK at hl
 refine ⟨h0, ?_⟩
 by_cases h1 : o.kind = 1
 ·rw [if_pos h1] at hl
  exact .inl ⟨h1, by rw [hf.1]; omega⟩
 ·rw [if_neg h1] at hl
  refine .inr ⟨by omega, h1, g.edges[o.el.toNat]'(by omega), by simp, by rw [hf.2]; omega, ?_⟩
  obtain ⟨i1, i2⟩ := gErr_edge hv (List.getElem_mem (by omega : o.el.toNat < g.edges.length))
  simp only [inI, Bool.and_eq_true, decide_eq_true_eq] at i1 i2
  rw [hf.1]
  omega
set_option maxHeartbeats 4000000 in
theorem m131 (g : Graph) (k : Kn) (o : Oprn) (hf : k.fits g) (hv : gErr g = 0) (hs : stepE g k o = 0) : ACall Tryz.prog 131 [ag (Graph.c g), ag (Kn.c k), ag (Oprn.c o)] h00 fun r h' => ∃ v1 v2 c1 c2, r = .agg [.sl 1000001 v1 0 k.ns.length c1, .sl 1000002 v2 0 k.es.length c2] ∧ h' 1000001 = ⟨v1, some ⟨1, dl ((afterK g k o).ns.map Bo.c)⟩⟩ ∧ h' 1000002 = ⟨v2, some ⟨1, dl ((afterK g k o).es.map Bo.c)⟩⟩ := by
 refine ACall.of b131 (by simp) ?_
 unfold c131
 have hgl := gErr_len hv
 have hn : k.ns.length ≤ 1000 := by rw [hf.1]; omega
 have he : k.es.length ≤ 1000 := by rw [hf.2]; omega
 obtain ⟨h0, hcase⟩ := stepE_0 hf hv hs
 rw [outer_h00]
 refine .seqk fun K1 hK1 => ?_
 refine .reg ?_
 simp [h00_at, upd]
 refine hK1 _ ?_
 clear hK1 K1
 refine .keep [3, 4, 5, 6] ?_
 simp only [keepE, E_cons, E_nil]
 refine .see (upd (upd (upd (upd _ 3 ⟨_, none⟩) 4 _) 5 ⟨_, none⟩) 6 _) [(3, .dptr (Graph.c g)), (4, .ptr 4 1 0 0), (5, .dptr (Oprn.c o)), (6, .ptr 6 1 0 0)] ⟨T.box (k := 2) (cs := Graph.c g) (by simp [upd]) (by simp [upd]), .refl _, T.box (k := 2) (cs := Oprn.c o) (by simp [upd]) (by simp [upd]), .refl _, trivial⟩ (Dies.up (Dies.up (Dies.up (Dies.up (Dies.refl _) (.inr ⟨rfl, Nat.le_refl _⟩)) (.inl rfl)) (.inr ⟨rfl, Nat.le_refl _⟩)) (.inl rfl)) ?_
 refine .seqk fun K2 hK2 => ?_
 refine .reg ?_
 refine Sq.cutk 2 fun K3 hK3 => ?_
 simp only [zt]
 simp [upd]
 refine ACall.mono (p180 k _ hn he (by simp [upd, h00_at]) (by simp [upd, h00_at])) ?_
 rintro _ h1 ⟨v1, v2, c1, c2, rfl, he1⟩
 rw [mergeH_upd2 he1 (by decide) (by decide)]
 clear he1 h1
 refine hK3 _ ?_
 clear hK3 K3
 simp [upd]
 refine hK2 _ ?_
 clear hK2 K2
 refine .keep [3, 4, 5, 6] ?_
 simp only [keepE, E_cons, E_nil]
 refine .seqk fun K4 hK4 => ?_
 refine .seqk fun K5 hK5 => ?_
 refine .reg ?_
 simp
 refine hK5 _ ?_
 clear hK5 K5
 refine .keep [3, 4, 5, 6, 11] ?_
 simp only [keepE, E_cons, E_nil]
 refine .condk _ rfl (fun hc1 => ?_) (fun hc1 => ?_)
 ·simp at hc1
  obtain hlt : o.el.toNat < k.ns.length := by
   rcases hcase with ⟨_, hlt⟩ | ⟨_, hne, _⟩
   ·exact hlt
   ·exact absurd hc1 hne
  obtain ⟨a, ha⟩ : ∃ a, k.ns[o.el.toNat]? = some a := ⟨_, List.getElem?_eq_getElem hlt⟩
  have hi : o.el < (k.ns.length : Int) := by omega
  refine .seqk fun K6 hK6 => ?_
  refine .reg ?_
  simp [h0, hi, ha, dl_setB, dl_getE, upd, -List.map_set]
  refine hK6 _ ?_
  clear hK6 K6
  refine .keep [4, 6] ?_
  simp only [keepE, E_cons, E_nil]
  refine .seqk fun K7 hK7 => ?_
  refine .reg ?_
  simp [upd]
  refine hK7 _ ?_
  clear hK7 K7
  refine .ret ?_
  try simp only [then']
  refine ret_m (.inr rfl) (r := .agg [.sl 1000001 v1 0 k.ns.length c1, .sl 1000002 v2 0 k.es.length c2]) ?_ (by simp) ?_
  ·simp [upd]
  ·refine ⟨v1, v2, c1, c2, rfl, ?_, ?_⟩ <;> simp [upd, afterK, hc1]
 ·simp at hc1
  obtain ⟨x, hx, hel, s0, t0, hsl, htl⟩ : ∃ x, g.edges[o.el.toNat]? = some x ∧ o.el.toNat < k.es.length ∧ 0 ≤ x.src ∧ 0 ≤ x.tgt ∧ x.src.toNat < k.ns.length ∧ x.tgt.toNat < k.ns.length := by
   rcases hcase with ⟨h1, _⟩ | ⟨_, _, h2⟩
   ·exact absurd h1 hc1
   ·exact h2
  obtain ⟨c, hc⟩ : ∃ c, k.es[o.el.toNat]? = some c := ⟨_, List.getElem?_eq_getElem hel⟩
  obtain ⟨a, ha⟩ : ∃ a, k.ns[x.src.toNat]? = some a := ⟨_, List.getElem?_eq_getElem hsl⟩
  obtain ⟨b, hb⟩ : ∃ b, (k.ns.set x.src.toNat true)[x.tgt.toNat]? = some b := ⟨_, List.getElem?_eq_getElem (by simpa using htl)⟩
  have hi : o.el < (k.es.length : Int) := by omega
  have hi2 : x.src < (k.ns.length : Int) := by omega
  have hi3 : x.tgt < (k.ns.length : Int) := by omega
  refine .skip ?_
  refine hK4 _ ?_
  clear hK4 K4
  refine .seqk fun K8 hK8 => ?_
  refine .reg ?_
  simp [h0, hi, hc, dl_setB, dl_getE, upd, -List.map_set]
  refine hK8 _ ?_
  clear hK8 K8
  refine .keep [3, 4, 5, 6] ?_
  simp only [keepE, E_cons, E_nil]
  refine .seqk fun K9 hK9 => ?_
  refine .dreg mixed ?_
  simp [h0, hx, s0, t0, hi2, hi3, ha, hb, dl_setB, dl_getE, upd, -List.map_set]
  refine hK9 _ ?_
  clear hK9 K9
  refine .keep [4, 6] ?_
  simp only [keepE, E_cons, E_nil]
  refine .seqk fun K10 hK10 => ?_
  refine .reg ?_
  simp [upd]
  refine hK10 _ ?_
  clear hK10 K10
  refine .ret ?_
  try simp only [then']
  refine ret_m (.inr rfl) (r := .agg [.sl 1000001 v1 0 k.ns.length c1, .sl 1000002 v2 0 k.es.length c2]) ?_ (by simp) ?_
  ·simp [upd]
  ·refine ⟨v1, v2, c1, c2, rfl, ?_, ?_⟩ <;> simp [upd, afterK, hc1, hx]
theorem p131 (g : Graph) (k : Kn) (o : Oprn) (hf : k.fits g) (hv : gErr g = 0) (hs : stepE g k o = 0) : PCall Tryz.prog 131 [ag (Graph.c g), ag (Kn.c k), ag (Oprn.c o)] (ag (Kn.c (afterK g k o))) := by
 refine PCall.frame rfl rfl ((m131 g k o hf hv hs).see ?_)
 rintro _ h' ⟨v1, v2, c1, c2, rfl, e1, e2⟩
 have hl := afterK_fits hf o
 exact ⟨_, deadH h', deadH_dies h', T.agg2 (frzK (by decide) e1 (by rw [hl.1, hf.1])) (frzK (by decide) e2 (by rw [hl.2, hf.2])), rfl, deadH_ok h', rfl⟩
end Go.Abs
set_option linter.unusedVariables false
set_option linter.unusedSimpArgs false
namespace Go.Abs
open Go Go.Proofs
def eqO (l m : List Oprn) : Bool := eqBy (fun x y => decide (x = y)) l m
theorem eqO_refl : ∀ l : List Oprn, eqO l l = true
 | [] => rfl
 | x :: l => by simp only [eqO, eqBy, decide_true, Bool.true_and]; exact eqO_refl l
theorem dl_snoc (xs : List (List D)) (x : List D) : dl (xs ++ [x]) = dl xs ++ [x.map .d] := by simp [dl]
theorem AW.nil1 {P : Program} {N : Nat} {c : ACode} {Q : AX → St → Prop} {l l' : List (Nat × AV)} {h : Heap} (b k : Nat) (hb : (h b).live = none) (hlt : b < lim) (hk : 0 < k) (he : ∀ t, E l' t = E l t ∨ (E l t = .d .nil ∧ E l' t = .sl b ((h b).ver + 1) 0 0 0)) (hw : AW P N c Q ⟨E l', upd h b ⟨(h b).ver + 1, some ⟨k, []⟩⟩⟩) : AW P N c Q ⟨E l, h⟩ :=
 .weak (Wk.nil b k ((h b).ver + 1) hb hlt hk (Nat.lt_succ_self _) he) hw
theorem p46 (l m : List Oprn) (hm : l.length ≤ 9223372036854775807) : PCall Tryz.prog 46 [sl (l.map Oprn.c), sl (m.map Oprn.c)] (bo (eqO l m)) := by
 intro h
 refine ACall.of b46 (by simp) ?_
 unfold c46
 refine .seqk fun K1 hK1 => ?_
 refine .reg ?_
 simp
 refine hK1 _ ?_
 clear hK1 K1
 refine .seqk fun K2 hK2 => ?_
 refine .seqk fun K3 hK3 => ?_
 refine .reg ?_
 simp
 refine hK3 _ ?_
 clear hK3 K3
 refine .keep [0, 1, 10] ?_
 simp only [keepE, E_cons, E_nil]
 refine .condk _ rfl (fun hc1 => ?_) (fun hc1 => ?_)
 ·simp at hc1
  refine .seqk fun K4 hK4 => ?_
  refine .reg ?_
  simp
  refine hK4 _ ?_
  clear hK4 K4
  refine .ret ?_
  refine ret_z (.inr rfl) rfl rfl ?_
  have : eqO l m ≠ true := fun e => hc1 (by have := eqBy_len _ l m e; omega)
  simp at this
  simp [this]
 ·simp at hc1
  have hlm : l.length = m.length := by omega
  refine .skip ?_
  refine hK2 _ ?_
  clear hK2 K2
  refine .seqk fun K5 hK5 => ?_
  refine .seqk fun K6 hK6 => ?_
  refine .reg ?_
  simp
  refine hK6 _ ?_
  clear hK6 K6
  refine .block ?_
  refine .count l.length (fun i st => eqO (l.drop i) (m.drop i) = eqO l m ∧ ∃ hh, OutEq hh h ∧ st = ⟨E [(5, int i), (0, sl (l.map Oprn.c)), (1, sl (m.map Oprn.c))], hh⟩) 0 (Nat.zero_le _) _ (.cov (h' := outer h) (by simp) (.refl _)) ⟨rfl, _, OutEq.outer h, rfl⟩ ?_
  rintro i s hi1 ⟨hp, hh, hho, rfl⟩ K7 hK7
  refine .seqk fun K8 hK8 => ?_
  refine .seqk fun K9 hK9 => ?_
  refine .reg ?_
  simp
  refine hK9 _ ?_
  clear hK9 K9
  refine .keep [0, 1, 5, 14] ?_
  simp only [keepE, E_cons, E_nil]
  refine .condk _ rfl (fun hc2 => ?_) (fun hc2 => ?_)
  ·simp at hc2
   obtain ⟨x, hx⟩ := get_some hc2
   obtain ⟨y, hy⟩ := get_some (hlm ▸ hc2)
   refine .skip ?_
   refine hK8 _ ?_
   clear hK8 K8
   refine .seqk fun K10 hK10 => ?_
   refine .block ?_
   refine .seqdreg mixed (fun hh => hh) (fun ee => [(0, ee 0), (1, ee 1), (5, ee 5), (25, bo (!decide (x = y)))]) ?_ ?_
   ·obtain ⟨x1, x2⟩ := x
    obtain ⟨y1, y2⟩ := y
    by_cases h1 : x1 = y1 <;> by_cases h2 : x2 = y2 <;> simp [hx, hy, h1, h2]
   try simp only [E_cons, E_nil]
   refine .condk _ rfl (fun hc3 => ?_) (fun hc3 => ?_)
   ·simp at hc3
    refine .seqk fun K11 hK11 => ?_
    refine .reg ?_
    simp
    refine hK11 _ ?_
    clear hK11 K11
    refine .ret ?_
    refine ret_z (.inr rfl) rfl rfl ?_
    rw [← hp, drop_cons hx, drop_cons hy]; simp [eqO, eqBy, hc3]
   ·simp at hc3
    refine .skip ?_
    refine hK10 _ ?_
    clear hK10 K10
    refine .reg ?_
    simp
    refine hK7 _ _ (by omega) (Wk.cov ?_ (.refl _)) ⟨?_, _, hho, rfl⟩
    ·simp; exact wrap64 (by omega) (by omega)
    ·rw [← hp, drop_cons hx, drop_cons hy]; simp [eqO, eqBy, hc3]
  ·simp at hc2
   refine .exit ?_
   try simp only [then', inBlk, if_true, if_false, reduceIte, Nat.reduceEqDiff]
   refine hK5 _ ?_
   clear hK8 hK7 hK5 K8 K7 K5
   refine .seqk fun K12 hK12 => ?_
   refine .reg ?_
   simp
   refine hK12 _ ?_
   clear hK12 K12
   refine .ret ?_
   refine ret_z (.inr rfl) rfl rfl ?_
   have hi : i = l.length := by omega
   rw [← hp, drop_nil (by omega), drop_nil (by omega)]
   rfl
end Go.Abs
set_option linter.unusedVariables false
set_option linter.unusedSimpArgs false
namespace Go.Abs
open Go Go.Proofs
def stepK (g : Graph) (k : Kn) (o : Oprn) : Kn := if stepE g k o = 0 then afterK g k o else k
theorem contF : ∀ l : List Bool, l.any (fun x => false == x) = !l.all id
 | [] => rfl
 | x :: l => by
  have := contF l
  cases x
  ·simp
  ·simp only [List.any_cons, List.all_cons, this]; rfl
theorem m86 (g : Graph) (h : Heap) (hn : g.nodes.length ≤ 1000) (he : g.edges.length ≤ 1000) (d1 : (h 1000001).live = none) (d2 : (h 1000002).live = none) : ACall Tryz.prog 86 [ag (Graph.c g)] h fun r h' => ∃ v1 v2 c1 c2, r = .agg [.sl 1000001 v1 0 (freshK g).ns.length c1, .sl 1000002 v2 0 (freshK g).es.length c2] ∧ OutEq h' (upd (upd h 1000001 ⟨v1, some ⟨1, dl ((freshK g).ns.map Bo.c)⟩⟩) 1000002 ⟨v2, some ⟨1, dl ((freshK g).es.map Bo.c)⟩⟩) := by
 refine ACall.of b86 (by simp) ?_
 unfold c86
 have o1 : outer h 1000001 = h 1000001 := by simp [outer]
 have o2 : outer h 1000002 = h 1000002 := by simp [outer]
 simp only [freshK]
 refine .seqk fun K1 hK1 => ?_
 refine .reg ?_
 simp
 refine hK1 _ ?_
 clear hK1 K1
 refine .keep [1, 2] ?_
 simp only [keepE, E_cons, E_nil]
 refine .see (upd (upd _ 1 ⟨_, none⟩) 2 _) [(1, .dptr (Graph.c g)), (2, .ptr 2 _ 0 0)] ⟨T.box (k := 2) (cs := Graph.c g) (by simp [upd]) (by simp [upd]), .refl _, trivial⟩ (Dies.up (Dies.up (Dies.refl _) (.inr ⟨rfl, Nat.le_refl _⟩)) (.inl rfl)) ?_
 refine .seqdregnx mixed [.plain, .plain, .plain, .named 1000001 ((h 1000001).ver + 1), .plain, .plain, .plain, .named 1000002 ((h 1000002).ver + 1)] (α := Unit) (fun x => True) (fun x hh => upd (upd (upd (upd (upd hh 6 ⟨(outer h 6).ver + 1, none⟩) 1000001 ⟨(h 1000001).ver + 1, some ⟨1, dl ((List.replicate g.nodes.length false).map Bo.c)⟩⟩) 10 ⟨(outer h 10).ver + 1, none⟩) 1000002 ⟨(h 1000002).ver + 1, some ⟨1, dl ((List.replicate g.edges.length false).map Bo.c)⟩⟩) 2 ⟨(outer h 2).ver + 1, some ⟨2, [[.sl 1000001 ((h 1000001).ver + 1) 0 g.nodes.length g.nodes.length, .sl 1000002 ((h 1000002).ver + 1) 0 g.edges.length g.edges.length]]⟩⟩) (fun x ee => [(2, ee 2)]) ?_ (fun x hx => ?_)
 ·have q1 : g.nodes.length ≤ 140737488355328 := by omega
  have q2 : g.edges.length ≤ 140737488355328 := by omega
  have q3 : (g.nodes.length : Int) ≤ 140737488355328 := by omega
  have q4 : (g.edges.length : Int) ≤ 140737488355328 := by omega
  simp [q1, q2, q3, q4, upd, rep_dl, srcOf, o1, o2, d1, d2]
 try simp only [E_cons, E_nil]
 refine .ret ?_
 try simp only [then']
 refine ret_m (.inr rfl) (r := .agg [.sl 1000001 ((h 1000001).ver + 1) 0 g.nodes.length g.nodes.length, .sl 1000002 ((h 1000002).ver + 1) 0 g.edges.length g.edges.length]) (by simp [upd]) (by simp) ⟨_, _, _, _, by simp; exact ⟨⟨rfl, rfl⟩, rfl, rfl⟩, ?_⟩
 intro b hb
 have hb1 : 1000000 ≤ b := hb
 have n1 : b ≠ 1 := by omega
 have n2 : b ≠ 2 := by omega
 have n3 : b ≠ 6 := by omega
 have n7 : b ≠ 10 := by omega
 simp [upd, outer, n1, n2, n3, n7, Nat.not_lt.2 hb1]
theorem p134 (k : Kn) : PCall Tryz.prog 134 [ag (Kn.c k)] (bo (allK k)) := by
 intro h
 refine ACall.of b134 (by simp) ?_
 unfold c134
 refine .seqk fun K1 hK1 => ?_
 refine .reg ?_
 simp
 refine hK1 _ ?_
 clear hK1 K1
 refine .keep [1, 8, 9, 10, 11] ?_
 simp only [keepE, E_cons, E_nil]
 refine .see (upd _ 1 ⟨_, none⟩) [(1, .dptr (Kn.c k))] ⟨T.box (k := 2) (cs := Kn.c k) (by simp [upd]) (by simp [upd]), trivial⟩ (Dies.up (Dies.refl _) (.inr ⟨rfl, Nat.le_refl _⟩)) ?_
 refine .seqreg (fun hh => hh) (fun ee => [(2, bo (allK k))]) ?_ ?_
 ·refine Sq.cutk 3 fun K1 hK1 => ?_
  simp only [zt]
  simp
  refine PCall.sq (p188 k.ns false) fun _ he => ?_
  simp only [mergeH_eq he]
  refine hK1 _ ?_
  rw [contF]
  by_cases h1 : k.ns.all id = true
  ·refine Sq.cutk 5 fun K2 hK2 => ?_
   simp only [zt]
   rw [h1]
   simp
   refine PCall.sq (p188 k.es false) fun _ he => ?_
   simp only [mergeH_eq he]
   refine hK2 _ ?_
   rw [contF]
   cases h2 : k.es.all id <;> simp [allK, h1, h2]
  ·rw [Bool.not_eq_true] at h1
   rw [h1]
   simp [allK, h1]
 try simp only [E_cons, E_nil]
 refine .ret ?_
 refine ret_z (.inr rfl) rfl rfl ?_
 simp
end Go.Abs
