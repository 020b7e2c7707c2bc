/- Contracts of functions of the program, and what they lean on: a part of the proof that planBest_proved stands; no condition. -/
import Derived.Test.YtklbdeenilokiaaGreatProg
import Derived.Test.YtklbdeenilokiaaGreatQ17M21
set_option linter.unusedVariables false
set_option linter.unusedSimpArgs false
namespace Go.Abs
open Go Go.Proofs
def orI : List Int → Int
 | [] => 0
 | x :: l => if x ≠ 0 then x else orI l
def cmpC (a b : Count) : Int := if a.ty ≠ b.ty then a.ty - b.ty else if a.src ≠ b.src then a.src - b.src else a.tgt - b.tgt
structure smC (c : Count) : Prop where
 t0 : 0 ≤ c.ty
 t1 : c.ty ≤ 1000
 s0 : 0 ≤ c.src
 s1 : c.src ≤ 1000
 g0 : 0 ≤ c.tgt
 g1 : c.tgt ≤ 1000
def totC (l : List Count) : Int := (l.map (·.num)).sum
theorem totC_s {l : List Count} {i : Nat} {x : Count} (hx : l[i]? = some x) : totC (l.take (i + 1)) = totC (l.take i) + x.num := by
 simp [totC, List.take_add_one, hx]
theorem totC_bd : ∀ {l : List Count}, (∀ c ∈ l, 1 ≤ c.num ∧ c.num ≤ 80) → 0 ≤ totC l ∧ totC l ≤ 80 * l.length
 | [], _ => by simp [totC]
 | x :: l, h => by
  have h1 := totC_bd (l := l) (fun c hc => h c (by simp [hc]))
  have h2 := h x (by simp)
  simp only [totC, List.map_cons, List.sum_cons, List.length_cons] at h1 ⊢
  omega
theorem totC_bd2 {l : List Count} (h : ∀ c ∈ l, 1 ≤ c.num ∧ c.num ≤ 80) (i : Nat) : 0 ≤ totC (l.take i) ∧ totC (l.take i) ≤ 80 * i := by
 have h1 := totC_bd (l := l.take i) (fun c hc => h c (List.mem_of_mem_take hc))
 have h2 : (l.take i).length ≤ i := by simp; omega
 omega
def hasN (s : Stat) (k : Int) : Bool := s.nodes.any (fun c => decide (c.ty = k))
def badN (t : Types) (c : Count) : Bool := !(inI c.ty t.nodes.length) || !decide (c.src = 0) || !decide (c.tgt = 0) || decide (c.num < 1) || decide (40 < c.num)
def badE (t : Types) (c : Count) : Bool := !(inI c.ty t.edges.length) || !(inI c.src t.nodes.length) || !(inI c.tgt t.nodes.length) || decide (c.num < 1) || decide (80 < c.num)
def prevO {α : Type} (l : List α) (i : Nat) : Option α := if i = 0 then none else l[i - 1]?
theorem prevO_s {α : Type} (l : List α) (i : Nat) : prevO l (i + 1) = l[i]? := by simp [prevO]
def ordB (p : Option Count) (c : Count) : Bool := match p with
 | none => false
 | some q => decide (0 ≤ cmpC q c)
def statN (t : Types) : Option Count → List Count → Int
 | _, [] => 0
 | p, c :: r => if badN t c then 6 else if ordB p c then 12 else statN t (some c) r
def statEd (t : Types) (s : Stat) : Option Count → List Count → Int
 | _, [] => 0
 | p, c :: r => if badE t c then 6 else if fitsT t c.ty c.src c.tgt = false then 13 else if (hasN s c.src && hasN s c.tgt) = false then 10 else if ordB p c then 12 else statEd t s (some c) r
def statV (t : Types) (s : Stat) : Int :=
 if (typesV t).2 ≠ 0 then (typesV t).2 else if statN t none s.nodes ≠ 0 then statN t none s.nodes else if 40 < totC s.nodes then 3
 else if statEd t s none s.edges ≠ 0 then statEd t s none s.edges else if 80 < totC s.edges then 3 else 0
theorem badN_sm {t : Types} (ht : tOK t) {c : Count} (h : badN t c = false) : smC c ∧ (1 ≤ c.num ∧ c.num ≤ 80) ∧ c.src = 0 ∧ c.tgt = 0 ∧ c.ty < t.nodes.length := by
 simp only [badN, inI, Bool.or_eq_false_iff, Bool.not_eq_false', Bool.and_eq_true, decide_eq_true_eq, decide_eq_false_iff_not] at h
 have := ht.nl
 exact ⟨⟨by omega, by omega, by omega, by omega, by omega, by omega⟩, by omega, by omega, by omega, by omega⟩
theorem badE_sm {t : Types} (ht : tOK t) {c : Count} (h : badE t c = false) : smC c ∧ 1 ≤ c.num ∧ c.num ≤ 80 := by
 simp only [badE, inI, Bool.or_eq_false_iff, Bool.not_eq_false', Bool.and_eq_true, decide_eq_true_eq, decide_eq_false_iff_not] at h
 have := ht.nl
 have := ht.el
 exact ⟨⟨by omega, by omega, by omega, by omega, by omega, by omega⟩, by omega, by omega⟩
def numC (l : List Count) (k : Int) : Int := match l.find? (fun c => decide (c.ty = k)) with
 | none => 0
 | some c => c.num
theorem numC_any : ∀ (l : List Count) (k : Int), (∀ c ∈ l, 1 ≤ c.num) → decide (numC l k = 0) = !l.any (fun c => decide (c.ty = k))
 | [], k, _ => by simp [numC]
 | x :: l, k, h => by
  have ih := numC_any l k (fun c hc => h c (by simp [hc]))
  have hx := h x (by simp)
  by_cases hk : x.ty = k
  ·have : ¬ x.num = 0 := by omega
   simp [numC, List.find?, hk, this]
  ·simp only [numC, List.find?, hk, decide_false, List.any_cons, Bool.false_or] at ih ⊢
   exact ih
theorem p183 (n m : Int) : PCall Tryz.prog 183 [int n, int m] (bo (inI n m)) := by
 intro h
 refine ACall.of b183 (by simp) ?_
 unfold c183
 refine .seqk fun K1 hK1 => ?_
 refine .reg ?_
 simp
 refine hK1 _ ?_
 clear hK1 K1
 refine .seqreg (fun hh => hh) (fun ee => [(4, bo (inI n m))]) ?_ ?_
 ·by_cases h0 : 0 ≤ n <;> by_cases h1 : n < m <;> simp [h0, h1, inI]
 try simp only [E_cons, E_nil]
 refine .ret ?_
 refine ret_z (.inr rfl) rfl rfl ?_
 simp
theorem p216 (n m : Int) : PCall Tryz.prog 216 [int n, int m] (bo (inI n m)) := by
 intro h
 refine ACall.of b216 (by simp) ?_
 unfold c216
 refine .seqk fun K1 hK1 => ?_
 refine .reg ?_
 simp
 refine hK1 _ ?_
 clear hK1 K1
 refine .seqreg (fun hh => hh) (fun ee => [(4, bo (inI n m))]) ?_ ?_
 ·by_cases h0 : 0 ≤ n <;> by_cases h1 : n < m <;> simp [h0, h1, inI]
 try simp only [E_cons, E_nil]
 refine .ret ?_
 refine ret_z (.inr rfl) rfl rfl ?_
 simp
theorem p94 (l : List Int) (hm : l.length ≤ 1000) : PCall Tryz.prog 94 [sl (l.map I.c)] (int (orI l)) := by
 intro h
 refine ACall.of b94 (by simp) ?_
 unfold c94
 refine .seqk fun K1 hK1 => ?_
 refine .reg ?_
 simp
 refine hK1 _ ?_
 clear hK1 K1
 refine .seqk fun K2 hK2 => ?_
 refine .reg ?_
 simp
 refine hK2 _ ?_
 clear hK2 K2
 refine .seqk fun K3 hK3 => ?_
 refine .seqk fun K4 hK4 => ?_
 refine .reg ?_
 simp
 refine hK4 _ ?_
 clear hK4 K4
 refine .keep [3, 6, 7, 8] ?_
 simp only [keepE, E_cons, E_nil]
 refine .block ?_
 refine .count (l).length (fun i st => (orI (l.drop i) = orI l) ∧ ∃ hh1, OutEq hh1 h ∧ st = ⟨E [(3, int 0), (6, sl (l.map I.c)), (7, int (l.length : Int)), (8, int i)], hh1⟩) 0 (Nat.zero_le _) _ (.cov (by first | (simp; done) | (simp; rfl) | (simp; exact ⟨rfl, rfl⟩)) (.refl _)) ⟨by simp, _, by first | (simp; done) | (simp; assumption) | (simp [*]; done), rfl⟩ ?_
 rintro i s hi1 ⟨hp1, hh1, hho1, rfl⟩ K5 hK5
 refine .seqk fun K6 hK6 => ?_
 refine .reg ?_
 simp
 refine hK6 _ ?_
 clear hK6 K6
 refine .seqk fun K7 hK7 => ?_
 refine .condk _ rfl (fun hc1 => ?_) (fun hc1 => ?_)
 ·simp at hc1
  obtain ⟨x, hx1⟩ := get_some hc1
  refine .skip ?_
  refine hK7 _ ?_
  clear hK7 K7
  refine .seqk fun K8 hK8 => ?_
  refine .block ?_
  refine .seqk fun K9 hK9 => ?_
  refine .reg ?_
  simp [hx1]
  refine hK9 _ ?_
  clear hK9 K9
  refine .keep [3, 5, 6, 7, 8] ?_
  simp only [keepE, E_cons, E_nil]
  refine .seqk fun K10 hK10 => ?_
  refine .reg ?_
  simp
  refine hK10 _ ?_
  clear hK10 K10
  refine .keep [3, 5, 6, 7, 8, 14] ?_
  simp only [keepE, E_cons, E_nil]
  refine .condk _ rfl (fun hc2 => ?_) (fun hc2 => ?_)
  ·simp at hc2
   refine .seqk fun K11 hK11 => ?_
   refine .reg ?_
   simp
   refine hK11 _ ?_
   clear hK11 K11
   refine .ret ?_
   refine ret_z (.inr rfl) rfl rfl ?_
   rw [← hp1, drop_cons hx1]; simp [orI, hc2]
  ·simp at hc2
   refine .skip ?_
   refine hK8 _ ?_
   clear hK8 K8
   refine .reg ?_
   simp
   refine hK5 _ _ (by omega) (Wk.cov ?_ (.refl _)) ⟨?_, _, ?_, rfl⟩
   ·simp; exact wrap64 (by omega) (by omega)
   ·rw [← hp1, drop_cons hx1]; simp [orI, hc2]
   ·first | assumption | (simp; done) | (simp; assumption) | (simp [hho1]; done)
 ·simp at hc1
  have hi1 : i = (l).length := by omega
  subst hi1
  refine .exit ?_
  try simp only [then', inBlk, if_true, if_false, reduceIte, Nat.reduceEqDiff]
  refine hK3 _ ?_
  clear hK7 hK5 hK3 K7 K5 K3
  refine .seqk fun K12 hK12 => ?_
  refine .reg ?_
  simp
  refine hK12 _ ?_
  clear hK12 K12
  refine .ret ?_
  refine ret_z (.inr rfl) rfl rfl ?_
  rw [← hp1]; simp [orI]
theorem p184 (a b : Count) (ha : smC a) (hb : smC b) : PCall Tryz.prog 184 [ag (Count.c a), ag (Count.c b)] (int (cmpC a b)) := by
 intro h
 refine ACall.of b184 (by simp) ?_
 unfold c184
 refine .seqk fun K1 hK1 => ?_
 refine .reg ?_
 simp
 refine hK1 _ ?_
 clear hK1 K1
 refine .keep [2, 3] ?_
 simp only [keepE, E_cons, E_nil]
 refine .see (upd (upd _ 2 ⟨_, none⟩) 3 ⟨_, none⟩) [(2, .dptr (Count.c a)), (3, .dptr (Count.c b))] ⟨T.box (k := 4) (cs := Count.c a) (by simp [upd]) (by simp [upd]), T.box (k := 4) (cs := Count.c b) (by simp [upd]) (by simp [upd]), trivial⟩ (Dies.up (Dies.up (Dies.refl _) (.inr ⟨rfl, Nat.le_refl _⟩)) (.inr ⟨rfl, Nat.le_refl _⟩)) ?_
 try simp only [E_cons, E_nil]
 refine .seqregS (fun hh => upd hh 20 ⟨(hh 20).ver + 1, none⟩) (fun ee => [(4, int (cmpC a b))]) ?_ ?_
 ·have w1 : IntKind.i64.wrap (a.ty - b.ty) = a.ty - b.ty := wrap64 (by have := ha.t0; have := hb.t1; omega) (by have := ha.t1; have := hb.t0; omega)
  have w2 : IntKind.i64.wrap (a.src - b.src) = a.src - b.src := wrap64 (by have := ha.s0; have := hb.s1; omega) (by have := ha.s1; have := hb.s0; omega)
  have w3 : IntKind.i64.wrap (a.tgt - b.tgt) = a.tgt - b.tgt := wrap64 (by have := ha.g0; have := hb.g1; omega) (by have := ha.g1; have := hb.g0; omega)
  have ho : orI [a.ty - b.ty, a.src - b.src, a.tgt - b.tgt] = cmpC a b := by
   simp only [orI, cmpC]
   by_cases h1 : a.ty = b.ty <;> by_cases h2 : a.src = b.src <;> by_cases h3 : a.tgt = b.tgt <;> simp [h1, h2, h3] <;> omega
  refine SQ.cut 16 fun KL hKL => ?_
  simp only [zt]
  refine SQ.of ?_
  simp [w1, w2, w3]
  refine hKL _ ?_
  refine SQ.see (upd _ 20 ⟨_, none⟩) [(20, sl ([a.ty - b.ty, a.src - b.src, a.tgt - b.tgt].map I.c))] ⟨T.rowD (k := 1) ([a.ty - b.ty, a.src - b.src, a.tgt - b.tgt].map I.c) (by simp [upd, dl_cons]) (by simp [upd]) rfl, trivial⟩ (Dies.up (Dies.refl _) (.inr ⟨rfl, Nat.le_refl _⟩)) ?_
  refine SQ.of ?_
  refine Sq.cutk 1 fun KC1 hKC1 => ?_
  simp only [zt]
  simp
  refine PCall.sq (p94 [a.ty - b.ty, a.src - b.src, a.tgt - b.tgt] (by simp)) fun _ he => ?_
  simp only [mergeH_eq he]
  refine hKC1 _ ?_
  simp [ho]
 try simp only [E_cons, E_nil]
 refine .ret ?_
 refine ret_z (.inr rfl) rfl rfl ?_
 simp
theorem p129 (a b : Count) (ha : smC a) (hb : smC b) : PCall Tryz.prog 129 [ag (Count.c a), ag (Count.c b)] (int (cmpC a b)) := by
 intro h
 refine ACall.of b129 (by simp) ?_
 unfold c129
 have w1 : IntKind.i64.wrap (a.ty - b.ty) = a.ty - b.ty := wrap64 (by have := ha.t0; have := hb.t1; omega) (by have := ha.t1; have := hb.t0; omega)
 have w2 : IntKind.i64.wrap (a.src - b.src) = a.src - b.src := wrap64 (by have := ha.s0; have := hb.s1; omega) (by have := ha.s1; have := hb.s0; omega)
 have w3 : IntKind.i64.wrap (a.tgt - b.tgt) = a.tgt - b.tgt := wrap64 (by have := ha.g0; have := hb.g1; omega) (by have := ha.g1; have := hb.g0; omega)
 refine .seqk fun K1 hK1 => ?_
 refine .reg ?_
 simp
 refine hK1 _ ?_
 clear hK1 K1
 refine .keep [2, 3] ?_
 simp only [keepE, E_cons, E_nil]
 refine .see (upd (upd _ 2 ⟨_, none⟩) 3 ⟨_, none⟩) [(2, .dptr (Count.c a)), (3, .dptr (Count.c b))] ⟨T.box (k := 4) (cs := Count.c a) (by simp [upd]) (by simp [upd]), T.box (k := 4) (cs := Count.c b) (by simp [upd]) (by simp [upd]), trivial⟩ (Dies.up (Dies.up (Dies.refl _) (.inr ⟨rfl, Nat.le_refl _⟩)) (.inr ⟨rfl, Nat.le_refl _⟩)) ?_
 try simp only [E_cons, E_nil]
 refine .seqk fun K2 hK2 => ?_
 refine .seqk fun K3 hK3 => ?_
 refine .reg ?_
 simp
 refine hK3 _ ?_
 clear hK3 K3
 refine .keep [2, 3, 9] ?_
 simp only [keepE, E_cons, E_nil]
 refine .condk _ rfl (fun hc1 => ?_) (fun hc1 => ?_)
 ·simp at hc1
  refine .seqk fun K4 hK4 => ?_
  refine .reg ?_
  simp
  refine hK4 _ ?_
  clear hK4 K4
  refine .keep [4] ?_
  simp only [keepE, E_cons, E_nil]
  refine .ret ?_
  refine ret_z (.inr rfl) rfl rfl ?_
  simp [cmpC, hc1, w1]
 ·simp at hc1
  refine .skip ?_
  refine hK2 _ ?_
  clear hK2 K2
  refine .seqk fun K5 hK5 => ?_
  refine .seqk fun K6 hK6 => ?_
  refine .reg ?_
  simp
  refine hK6 _ ?_
  clear hK6 K6
  refine .keep [2, 3, 19] ?_
  simp only [keepE, E_cons, E_nil]
  refine .condk _ rfl (fun hc2 => ?_) (fun hc2 => ?_)
  ·simp at hc2
   refine .seqk fun K7 hK7 => ?_
   refine .reg ?_
   simp
   refine hK7 _ ?_
   clear hK7 K7
   refine .keep [4] ?_
   simp only [keepE, E_cons, E_nil]
   refine .ret ?_
   refine ret_z (.inr rfl) rfl rfl ?_
   simp [cmpC, hc1, hc2, w2]
  ·simp at hc2
   refine .skip ?_
   refine hK5 _ ?_
   clear hK5 K5
   refine .seqk fun K8 hK8 => ?_
   refine .reg ?_
   simp
   refine hK8 _ ?_
   clear hK8 K8
   refine .keep [4] ?_
   simp only [keepE, E_cons, E_nil]
   refine .ret ?_
   refine ret_z (.inr rfl) rfl rfl ?_
   simp [cmpC, hc1, hc2, w3]
theorem p185 (l : List Count) (hl : l.length ≤ 1000) (hs : ∀ c ∈ l, 1 ≤ c.num ∧ c.num ≤ 80) : PCall Tryz.prog 185 [sl (l.map Count.c)] (int (totC l)) := by
 intro h
 refine ACall.of b185 (by simp) ?_
 unfold c185
 refine .seqk fun K1 hK1 => ?_
 refine .reg ?_
 simp
 refine hK1 _ ?_
 clear hK1 K1
 refine .keep [0] ?_
 simp only [keepE, E_cons, E_nil]
 refine .seqk fun K2 hK2 => ?_
 refine .reg ?_
 simp
 refine hK2 _ ?_
 clear hK2 K2
 refine .keep [0, 3] ?_
 simp only [keepE, E_cons, E_nil]
 refine .seqk fun K3 hK3 => ?_
 refine .seqk fun K4 hK4 => ?_
 refine .reg ?_
 simp
 refine hK4 _ ?_
 clear hK4 K4
 refine .keep [3, 6, 7, 8] ?_
 simp only [keepE, E_cons, E_nil]
 refine .block ?_
 refine .count (l).length (fun i st => (True) ∧ ∃ hh1, OutEq hh1 h ∧ st = ⟨E [(3, int (totC (l.take i))), (6, sl (l.map Count.c)), (7, int (l.length : Int)), (8, int i)], hh1⟩) 0 (Nat.zero_le _) _ (.cov (by first | (simp; done) | (simp; rfl) | (simp; exact ⟨rfl, rfl⟩)) (.refl _)) ⟨by simp, _, by first | (simp; done) | (simp; assumption) | (simp [*]; done), rfl⟩ ?_
 rintro i s hi1 ⟨hp1, hh1, hho1, rfl⟩ K5 hK5
 refine .seqk fun K6 hK6 => ?_
 refine .reg ?_
 simp
 refine hK6 _ ?_
 clear hK6 K6
 refine .keep [3, 6, 7, 8, 9] ?_
 simp only [keepE, E_cons, E_nil]
 refine .seqk fun K7 hK7 => ?_
 refine .condk _ rfl (fun hc1 => ?_) (fun hc1 => ?_)
 ·simp at hc1
  obtain ⟨x, hx1⟩ := get_some hc1
  have hb := totC_bd2 hs i
  have hxb := hs x (List.mem_of_getElem? hx1)
  refine .skip ?_
  refine hK7 _ ?_
  clear hK7 K7
  refine .seqk fun K8 hK8 => ?_
  refine .block ?_
  refine .seqk fun K9 hK9 => ?_
  refine .reg ?_
  simp [hx1]
  refine hK9 _ ?_
  clear hK9 K9
  refine .keep [3, 5, 6, 7, 8] ?_
  simp only [keepE, E_cons, E_nil]
  refine .see (upd _ 5 ⟨_, none⟩) [(3, _), (5, .dptr (Count.c x)), (6, _), (7, _), (8, _)] ⟨.refl _, T.box (k := 4) (cs := Count.c x) (by simp [upd]) (by simp [upd]), .refl _, .refl _, .refl _, trivial⟩ (Dies.up (Dies.refl _) (.inr ⟨rfl, Nat.le_refl _⟩)) ?_
  try simp only [E_cons, E_nil]
  refine .reg ?_
  simp
  refine hK8 _ ?_
  clear hK8 K8
  refine .keep [3, 6, 7, 8] ?_
  simp only [keepE, E_cons, E_nil]
  refine .reg ?_
  simp
  refine hK5 _ _ (by omega) (Wk.cov ?_ (.refl _)) ⟨?_, _, ?_, rfl⟩
  ·simp; exact ⟨by rw [totC_s hx1, wrap64 (by omega) (by omega)], wrap64 (by omega) (by omega)⟩
  ·trivial
  ·first | assumption | (simp; done) | (simp; assumption) | (simp [hho1]; done)
 ·simp at hc1
  have hi1 : i = (l).length := by omega
  subst hi1
  refine .exit ?_
  try simp only [then', inBlk, if_true, if_false, reduceIte, Nat.reduceEqDiff]
  refine hK3 _ ?_
  clear hK7 hK5 hK3 K7 K5 K3
  refine .seqk fun K10 hK10 => ?_
  refine .reg ?_
  simp
  refine hK10 _ ?_
  clear hK10 K10
  refine .keep [2] ?_
  simp only [keepE, E_cons, E_nil]
  refine .ret ?_
  refine ret_z (.inr rfl) rfl rfl ?_
  simp
theorem p217 (l : List Count) (hl : l.length ≤ 1000) (hs : ∀ c ∈ l, 1 ≤ c.num ∧ c.num ≤ 80) : PCall Tryz.prog 217 [sl (l.map Count.c)] (int (totC l)) := by
 intro h
 refine ACall.of b217 (by simp) ?_
 unfold c217
 refine .seqk fun K1 hK1 => ?_
 refine .reg ?_
 simp
 refine hK1 _ ?_
 clear hK1 K1
 refine .keep [0] ?_
 simp only [keepE, E_cons, E_nil]
 refine .seqk fun K2 hK2 => ?_
 refine .reg ?_
 simp
 refine hK2 _ ?_
 clear hK2 K2
 refine .keep [0, 3] ?_
 simp only [keepE, E_cons, E_nil]
 refine .seqk fun K3 hK3 => ?_
 refine .seqk fun K4 hK4 => ?_
 refine .reg ?_
 simp
 refine hK4 _ ?_
 clear hK4 K4
 refine .keep [0, 3, 4] ?_
 simp only [keepE, E_cons, E_nil]
 refine .block ?_
 refine .count (l).length (fun i st => (True) ∧ ∃ hh1, OutEq hh1 h ∧ st = ⟨E [(0, sl (l.map Count.c)), (3, int (totC (l.take i))), (4, int i)], hh1⟩) 0 (Nat.zero_le _) _ (.cov (by first | (simp; done) | (simp; rfl) | (simp; exact ⟨rfl, rfl⟩)) (.refl _)) ⟨by simp, _, by first | (simp; done) | (simp; assumption) | (simp [*]; done), rfl⟩ ?_
 rintro i s hi1 ⟨hp1, hh1, hho1, rfl⟩ K5 hK5
 refine .seqk fun K6 hK6 => ?_
 refine .seqk fun K7 hK7 => ?_
 refine .reg ?_
 simp
 refine hK7 _ ?_
 clear hK7 K7
 refine .keep [0, 3, 4, 8] ?_
 simp only [keepE, E_cons, E_nil]
 refine .condk _ rfl (fun hc1 => ?_) (fun hc1 => ?_)
 ·simp at hc1
  obtain ⟨x, hx1⟩ := get_some hc1
  have hb := totC_bd2 hs i
  have hxb := hs x (List.mem_of_getElem? hx1)
  refine .skip ?_
  refine hK6 _ ?_
  clear hK6 K6
  refine .seqk fun K8 hK8 => ?_
  refine .block ?_
  refine .reg ?_
  simp [hx1]
  refine hK8 _ ?_
  clear hK8 K8
  refine .keep [0, 3, 4] ?_
  simp only [keepE, E_cons, E_nil]
  refine .reg ?_
  simp
  refine hK5 _ _ (by omega) (Wk.cov ?_ (.refl _)) ⟨?_, _, ?_, rfl⟩
  ·simp; exact ⟨by rw [totC_s hx1, wrap64 (by omega) (by omega)], wrap64 (by omega) (by omega)⟩
  ·trivial
  ·first | assumption | (simp; done) | (simp; assumption) | (simp [hho1]; done)
 ·simp at hc1
  have hi1 : i = (l).length := by omega
  subst hi1
  refine .exit ?_
  try simp only [then', inBlk, if_true, if_false, reduceIte, Nat.reduceEqDiff]
  refine hK3 _ ?_
  clear hK6 hK5 hK3 K6 K5 K3
  refine .seqk fun K9 hK9 => ?_
  refine .reg ?_
  simp
  refine hK9 _ ?_
  clear hK9 K9
  refine .keep [2] ?_
  simp only [keepE, E_cons, E_nil]
  refine .ret ?_
  refine ret_z (.inr rfl) rfl rfl ?_
  simp
theorem p230 (c : Count) (k : Int) : PCall Tryz.prog 230 [ag (Count.c c), .dptr (I.c k)] (bo (decide (c.ty = k))) := by
 intro h
 refine ACall.of b230 (by simp) ?_
 unfold c230
 refine .seqk fun K1 hK1 => ?_
 refine .reg ?_
 simp
 refine hK1 _ ?_
 clear hK1 K1
 refine .keep [1, 2] ?_
 simp only [keepE, E_cons, E_nil]
 refine .see (upd _ 2 ⟨_, none⟩) [(1, _), (2, .dptr (Count.c c))] ⟨.refl _, T.box (k := 4) (cs := Count.c c) (by simp [upd]) (by simp [upd]), trivial⟩ (Dies.up (Dies.refl _) (.inr ⟨rfl, Nat.le_refl _⟩)) ?_
 try simp only [E_cons, E_nil]
 refine .seqk fun K2 hK2 => ?_
 refine .reg ?_
 simp
 refine hK2 _ ?_
 clear hK2 K2
 refine .keep [3] ?_
 simp only [keepE, E_cons, E_nil]
 refine .ret ?_
 refine ret_z (.inr rfl) rfl rfl ?_
 simp
theorem p187 (s : Stat) (k : Int) : PCall Tryz.prog 187 [ag (Stat.c s), int k] (bo (hasN s k)) := by
 intro h
 refine ACall.of b187 (by simp) ?_
 unfold c187
 refine .seqk fun K1 hK1 => ?_
 refine .reg ?_
 simp
 refine hK1 _ ?_
 clear hK1 K1
 refine .keep [2, 3] ?_
 simp only [keepE, E_cons, E_nil]
 refine .see (upd (upd _ 2 ⟨_, none⟩) 3 ⟨_, none⟩) [(2, .dptr (Stat.c s)), (3, .dptr (I.c k))] ⟨T.box (k := 2) (cs := Stat.c s) (by simp [upd]) (by simp [upd]), T.box (k := 1) (cs := I.c k) (by simp [upd]) (by simp [upd]), trivial⟩ (Dies.up (Dies.up (Dies.refl _) (.inr ⟨rfl, Nat.le_refl _⟩)) (.inr ⟨rfl, Nat.le_refl _⟩)) ?_
 try simp only [E_cons, E_nil]
 refine .seqk fun K2 hK2 => ?_
 refine .reg ?_
 refine Sq.cutk 4 fun K3 hK3 => ?_
 simp only [zt]
 simp
 refine PCall.sq (p229 s.nodes 230 [.dptr (I.c k)] (fun c => decide (c.ty = k)) (fun c _ => p230 c k)) fun h1 he1 => ?_
 simp only [mergeH_eq he1]
 clear he1 h1
 refine hK3 _ ?_
 clear hK3 K3
 simp
 refine hK2 _ ?_
 clear hK2 K2
 refine .keep [4] ?_
 simp only [keepE, E_cons, E_nil]
 refine .ret ?_
 refine ret_z (.inr rfl) rfl rfl ?_
 rfl
set_option maxHeartbeats 4000000 in
theorem p133 (t : Types) (ht : tOK t) (s : Stat) (hn : s.nodes.length ≤ 1000) (he : s.edges.length ≤ 1000) : PCall Tryz.prog 133 [ag (Types.c t), ag (Stat.c s)] (int (statV t s)) := by
 intro h
 refine ACall.of b133 (by simp) ?_
 unfold c133
 refine .seqk fun K1 hK1 => ?_
 refine .reg ?_
 simp
 refine hK1 _ ?_
 clear hK1 K1
 refine .keep [2, 3] ?_
 simp only [keepE, E_cons, E_nil]
 refine .see (upd (upd _ 2 ⟨_, none⟩) 3 ⟨_, none⟩) [(2, .dptr (Types.c t)), (3, .dptr (Stat.c s))] ⟨T.box (k := 2) (cs := Types.c t) (by simp [upd]) (by simp [upd]), T.box (k := 2) (cs := Stat.c s) (by simp [upd]) (by simp [upd]), trivial⟩ (Dies.up (Dies.up (Dies.refl _) (.inr ⟨rfl, Nat.le_refl _⟩)) (.inr ⟨rfl, Nat.le_refl _⟩)) ?_
 try simp only [E_cons, E_nil]
 refine .seqk fun K2 hK2 => ?_
 refine .seqk fun K3 hK3 => ?_
 refine .reg ?_
 refine Sq.cutk 2 fun K4 hK4 => ?_
 simp only [zt]
 simp
 refine PCall.sq (p182 t ht) fun h1 he1 => ?_
 simp only [mergeH_eq he1]
 clear he1 h1
 refine hK4 _ ?_
 clear hK4 K4
 simp
 refine hK3 _ ?_
 clear hK3 K3
 refine .keep [2, 3, 6] ?_
 simp only [keepE, E_cons, E_nil]
 refine .seqk fun K5 hK5 => ?_
 refine .reg ?_
 simp
 refine hK5 _ ?_
 clear hK5 K5
 refine .keep [2, 3, 6, 17] ?_
 simp only [keepE, E_cons, E_nil]
 refine .condk _ rfl (fun hc1 => ?_) (fun hc1 => ?_)
 ·simp at hc1
  refine .seqk fun K6 hK6 => ?_
  refine .reg ?_
  simp
  refine hK6 _ ?_
  clear hK6 K6
  refine .keep [4] ?_
  simp only [keepE, E_cons, E_nil]
  refine .ret ?_
  refine ret_z (.inr rfl) rfl rfl ?_
  simp [statV, hc1]
 ·simp at hc1
  have hV : statV t s = if statN t none s.nodes ≠ 0 then statN t none s.nodes else if 40 < totC s.nodes then 3 else if statEd t s none s.edges ≠ 0 then statEd t s none s.edges else if 80 < totC s.edges then 3 else 0 := by simp only [statV]; rw [if_neg (by simpa using hc1)]
  refine .skip ?_
  refine hK2 _ ?_
  clear hK2 K2
  refine .seqk fun K7 hK7 => ?_
  refine .seqk fun K8 hK8 => ?_
  refine .reg ?_
  simp
  refine hK8 _ ?_
  clear hK8 K8
  refine .keep [2, 3, 20, 21, 22] ?_
  simp only [keepE, E_cons, E_nil]
  refine .block ?_
  refine .count (s.nodes).length (fun i st => (statN t (prevO s.nodes i) (s.nodes.drop i) = statN t none s.nodes ∧ ∀ j y, j < i → s.nodes[j]? = some y → badN t y = false) ∧ ∃ hh1, OutEq hh1 h ∧ st = ⟨E [(2, .dptr (Types.c t)), (3, .dptr (Stat.c s)), (20, sl (s.nodes.map Count.c)), (21, int (s.nodes.length : Int)), (22, int i)], hh1⟩) 0 (Nat.zero_le _) _ (.cov (by first | (simp; done) | (simp; rfl) | (simp; exact ⟨rfl, rfl⟩)) (.refl _)) ⟨⟨by simp [prevO], fun j y hj => absurd hj (by omega)⟩, _, by first | (simp; done) | (simp; assumption) | (simp [*]; done), rfl⟩ ?_
  rintro i s hi1 ⟨⟨hp1, hq1⟩, hh1, hho1, rfl⟩ K9 hK9
  refine .seqk fun K10 hK10 => ?_
  refine .reg ?_
  simp
  refine hK10 _ ?_
  clear hK10 K10
  refine .keep [2, 3, 20, 21, 22, 23] ?_
  simp only [keepE, E_cons, E_nil]
  refine .seqk fun K11 hK11 => ?_
  refine .condk _ rfl (fun hc2 => ?_) (fun hc2 => ?_)
  ·simp at hc2
   obtain ⟨x, hx1⟩ := get_some hc2
   refine .skip ?_
   refine hK11 _ ?_
   clear hK11 K11
   refine .seqk fun K12 hK12 => ?_
   refine .block ?_
   refine .seqk fun K13 hK13 => ?_
   refine .reg ?_
   simp [hx1]
   refine hK13 _ ?_
   clear hK13 K13
   refine .keep [2, 3, 7, 8, 20, 21, 22] ?_
   simp only [keepE, E_cons, E_nil]
   refine .see (upd _ 8 ⟨_, none⟩) [(2, _), (3, _), (7, _), (8, .dptr (Count.c x)), (20, _), (21, _), (22, _)] ⟨.refl _, .refl _, .refl _, T.box (k := 4) (cs := Count.c x) (by simp [upd]) (by simp [upd]), .refl _, .refl _, .refl _, trivial⟩ (Dies.up (Dies.refl _) (.inr ⟨rfl, Nat.le_refl _⟩)) ?_
   try simp only [E_cons, E_nil]
   refine .seqk fun K14 hK14 => ?_
   refine .seqreg (fun hh => hh) (fun ee => [(2, ee 2), (3, ee 3), (7, ee 7), (8, ee 8), (20, ee 20), (21, ee 21), (22, ee 22), (53, bo (badN t x))]) ?_ ?_
   ·have e : badN t x = (!(inI x.ty t.nodes.length) || !decide (x.src = 0) || !decide (x.tgt = 0) || decide (x.num < 1) || decide (40 < x.num)) := rfl
    refine Sq.cutk 6 fun KC1 hKC1 => ?_
    simp only [zt]
    simp [e, true_and]
    refine PCall.sq (p183 x.ty t.nodes.length) fun _ he1 => ?_
    simp only [mergeH_eq he1]
    refine hKC1 _ ?_
    by_cases h1 : inI x.ty t.nodes.length = true
    rotate_left
    ·simp [e, h1, true_and]
    by_cases h2 : x.src = 0 <;> by_cases h3 : x.tgt = 0 <;> by_cases h4 : x.num < 1 <;> by_cases h5 : 40 < x.num <;> simp [e, h1, h2, h3, h4, h5]
   try simp only [E_cons, E_nil]
   refine .condk _ rfl (fun hc3 => ?_) (fun hc3 => ?_)
   ·skip
    refine .seqk fun K15 hK15 => ?_
    refine .reg ?_
    simp
    refine hK15 _ ?_
    clear hK15 K15
    refine .keep [4] ?_
    simp only [keepE, E_cons, E_nil]
    refine .ret ?_
    refine ret_z (.inr rfl) rfl rfl ?_
    have e : statN t none s.nodes = 6 := by rw [← hp1, drop_cons hx1]; simp [statN, hc3]
    simp [hV, e]
   ·skip
    refine .skip ?_
    refine hK14 _ ?_
    clear hK14 K14
    refine .seqdreg mixed (fun hh => hh) (fun ee => [(2, ee 2), (3, ee 3), (20, ee 20), (21, ee 21), (22, ee 22), (66, bo (ordB (prevO s.nodes i) x))]) ?_ ?_
    ·by_cases h0 : 0 < i
     rotate_left
     ·have hi0 : i = 0 := by omega
      subst hi0
      simp [-Bool.exists_bool, ordB, prevO]
     obtain ⟨p, hpv⟩ : ∃ p, s.nodes[i - 1]? = some p := ⟨s.nodes[i - 1]'(by omega), by simp⟩
     have hpo : prevO s.nodes i = some p := by simp [prevO, hpv]; omega
     have hw1 : IntKind.i64.wrap ((i : Int) - 1) = ((i - 1 : Nat) : Int) := by rw [wrap64 (by omega) (by omega)]; omega
     have hps := (badN_sm ht (hq1 (i - 1) p (by omega) hpv)).1
     have hxs := (badN_sm ht (by simpa using hc3)).1
     refine Dr.cutk 11 fun KC1 hKC1 => ?_
     simp only [zt]
     simp [-Bool.exists_bool, h0, hw1, hpv, hpo, hx1, ordB, true_and]
     refine Dr.pcall (p184 p x hps hxs) ?_
     refine hKC1 _ _ ?_
     simp [-Bool.exists_bool, h0, hw1, hpv, hpo, hx1, ordB, true_and]
    try simp only [E_cons, E_nil]
    refine .condk _ rfl (fun hc4 => ?_) (fun hc4 => ?_)
    ·skip
     refine .seqk fun K16 hK16 => ?_
     refine .reg ?_
     simp
     refine hK16 _ ?_
     clear hK16 K16
     refine .keep [4] ?_
     simp only [keepE, E_cons, E_nil]
     refine .ret ?_
     refine ret_z (.inr rfl) rfl rfl ?_
     have e : statN t none s.nodes = 12 := by rw [← hp1, drop_cons hx1]; simp [statN, hc3, hc4]
     simp [hV, e]
    ·skip
     refine .skip ?_
     refine hK12 _ ?_
     clear hK12 K12
     refine .reg ?_
     simp
     refine hK9 _ _ (by omega) (Wk.cov ?_ (.refl _)) ⟨?_, _, ?_, rfl⟩
     ·simp; exact wrap64 (by omega) (by omega)
     ·refine ⟨by rw [← hp1, drop_cons hx1, prevO_s, hx1]; simp [statN, hc3, hc4], fun j y hj hy => ?_⟩
      by_cases hji : j = i
      ·subst hji; rw [hx1] at hy; cases hy; simpa using hc3
      ·exact hq1 j y (by omega) hy
     ·first | assumption | (simp; done) | (simp; assumption) | (simp [hho1]; done)
  ·simp at hc2
   have hi1 : i = (s.nodes).length := by omega
   subst hi1
   have hn0 : statN t none s.nodes = 0 := by rw [← hp1]; simp [statN]
   have hb : ∀ c ∈ s.nodes, 1 ≤ c.num ∧ c.num ≤ 80 := fun c hc => by
    obtain ⟨j, hj⟩ := List.getElem?_of_mem hc
    exact (badN_sm ht (hq1 j c (List.getElem?_eq_some_iff.1 hj).1 hj)).2.1
   refine .exit ?_
   try simp only [then', inBlk, if_true, if_false, reduceIte, Nat.reduceEqDiff]
   refine hK7 _ ?_
   clear hK11 hK9 hK7 K11 K9 K7
   refine .seqk fun K17 hK17 => ?_
   refine .seqk fun K18 hK18 => ?_
   refine .reg ?_
   refine Sq.cutk 3 fun K19 hK19 => ?_
   simp only [zt]
   simp
   refine PCall.sq (p185 s.nodes hn hb) fun h1 he1 => ?_
   simp only [mergeH_eq he1]
   clear he1 h1
   refine hK19 _ ?_
   clear hK19 K19
   simp
   refine hK18 _ ?_
   clear hK18 K18
   refine .keep [2, 3, 71] ?_
   simp only [keepE, E_cons, E_nil]
   refine .condk _ rfl (fun hc5 => ?_) (fun hc5 => ?_)
   ·simp at hc5
    refine .seqk fun K20 hK20 => ?_
    refine .reg ?_
    simp
    refine hK20 _ ?_
    clear hK20 K20
    refine .keep [4] ?_
    simp only [keepE, E_cons, E_nil]
    refine .ret ?_
    refine ret_z (.inr rfl) rfl rfl ?_
    simp [hV, hn0, hc5]
   ·simp at hc5
    refine .skip ?_
    refine hK17 _ ?_
    clear hK17 K17
    refine .seqk fun K21 hK21 => ?_
    refine .seqk fun K22 hK22 => ?_
    refine .reg ?_
    simp
    refine hK22 _ ?_
    clear hK22 K22
    refine .keep [2, 3, 73, 74, 75] ?_
    simp only [keepE, E_cons, E_nil]
    refine .block ?_
    refine .count (s.edges).length (fun i st => (statEd t s (prevO s.edges i) (s.edges.drop i) = statEd t s none s.edges ∧ ∀ j y, j < i → s.edges[j]? = some y → badE t y = false) ∧ ∃ hh2, OutEq hh2 h ∧ st = ⟨E [(2, .dptr (Types.c t)), (3, .dptr (Stat.c s)), (73, sl (s.edges.map Count.c)), (74, int (s.edges.length : Int)), (75, int i)], hh2⟩) 0 (Nat.zero_le _) _ (.cov (by first | (simp; done) | (simp; rfl) | (simp; exact ⟨rfl, rfl⟩)) (.refl _)) ⟨⟨by simp [prevO], fun j y hj => absurd hj (by omega)⟩, _, by first | (simp; done) | (simp; assumption) | (simp [*]; done), rfl⟩ ?_
    rintro i s hi2 ⟨⟨hp2, hq2⟩, hh2, hho2, rfl⟩ K23 hK23
    refine .seqk fun K24 hK24 => ?_
    refine .reg ?_
    simp
    refine hK24 _ ?_
    clear hK24 K24
    refine .keep [2, 3, 73, 74, 75, 76] ?_
    simp only [keepE, E_cons, E_nil]
    refine .seqk fun K25 hK25 => ?_
    refine .condk _ rfl (fun hc6 => ?_) (fun hc6 => ?_)
    ·simp at hc6
     obtain ⟨x, hx2⟩ := get_some hc6
     refine .skip ?_
     refine hK25 _ ?_
     clear hK25 K25
     refine .seqk fun K26 hK26 => ?_
     refine .block ?_
     refine .seqk fun K27 hK27 => ?_
     refine .reg ?_
     simp [hx2]
     refine hK27 _ ?_
     clear hK27 K27
     refine .keep [2, 3, 9, 10, 73, 74, 75] ?_
     simp only [keepE, E_cons, E_nil]
     refine .see (upd _ 10 ⟨_, none⟩) [(2, _), (3, _), (9, _), (10, .dptr (Count.c x)), (73, _), (74, _), (75, _)] ⟨.refl _, .refl _, .refl _, T.box (k := 4) (cs := Count.c x) (by simp [upd]) (by simp [upd]), .refl _, .refl _, .refl _, trivial⟩ (Dies.up (Dies.refl _) (.inr ⟨rfl, Nat.le_refl _⟩)) ?_
     try simp only [E_cons, E_nil]
     refine .block ?_
     refine .seqreg (fun hh => hh) (fun ee => [(2, ee 2), (3, ee 3), (9, ee 9), (10, ee 10), (73, ee 73), (74, ee 74), (75, ee 75), (80, bo (badE t x))]) ?_ ?_
     ·have e : badE t x = (!(inI x.ty t.edges.length) || !(inI x.src t.nodes.length) || !(inI x.tgt t.nodes.length) || decide (x.num < 1) || decide (80 < x.num)) := rfl
      refine Sq.cutk 6 fun KC1 hKC1 => ?_
      simp only [zt]
      simp [e, true_and]
      refine PCall.sq (p183 x.ty t.edges.length) fun _ he1 => ?_
      simp only [mergeH_eq he1]
      refine hKC1 _ ?_
      by_cases h1 : inI x.ty t.edges.length = true
      rotate_left
      ·simp [e, h1, true_and]
      refine Sq.cutk 8 fun KC2 hKC2 => ?_
      simp only [zt]
      simp [e, h1, true_and]
      refine PCall.sq (p183 x.src t.nodes.length) fun _ he2 => ?_
      simp only [mergeH_eq he2]
      refine hKC2 _ ?_
      by_cases h2 : inI x.src t.nodes.length = true
      rotate_left
      ·simp [e, h1, h2, true_and]
      refine Sq.cutk 9 fun KC3 hKC3 => ?_
      simp only [zt]
      simp [e, h1, h2, true_and]
      refine PCall.sq (p183 x.tgt t.nodes.length) fun _ he3 => ?_
      simp only [mergeH_eq he3]
      refine hKC3 _ ?_
      by_cases h3 : inI x.tgt t.nodes.length = true
      rotate_left
      ·simp [e, h1, h2, h3, true_and]
      by_cases h4 : x.num < 1 <;> by_cases h5 : 80 < x.num <;> simp [e, h1, h2, h3, h4, h5]
     try simp only [E_cons, E_nil]
     refine .condk _ rfl (fun hc7 => ?_) (fun hc7 => ?_)
     ·skip
      refine .seqk fun K28 hK28 => ?_
      refine .reg ?_
      simp
      refine hK28 _ ?_
      clear hK28 K28
      refine .keep [4] ?_
      simp only [keepE, E_cons, E_nil]
      refine .ret ?_
      refine ret_z (.inr rfl) rfl rfl ?_
      have e : statEd t s none s.edges = 6 := by rw [← hp2, drop_cons hx2]; simp [statEd, hc7]
      simp [hV, hn0, e, hc5]
     ·skip
      refine .seqk fun K29 hK29 => ?_
      refine .reg ?_
      refine Sq.cutk 8 fun K30 hK30 => ?_
      simp only [zt]
      simp
      refine PCall.sq (p186 t ht x.ty x.src x.tgt) fun h1 he1 => ?_
      simp only [mergeH_eq he1]
      clear he1 h1
      refine hK30 _ ?_
      clear hK30 K30
      simp
      refine hK29 _ ?_
      clear hK29 K29
      refine .keep [2, 3, 9, 10, 73, 74, 75, 116] ?_
      simp only [keepE, E_cons, E_nil]
      refine .condk _ rfl (fun hc8 => ?_) (fun hc8 => ?_)
      ·simp at hc8
       refine .seqk fun K31 hK31 => ?_
       refine .reg ?_
       simp
       refine hK31 _ ?_
       clear hK31 K31
       refine .keep [4] ?_
       simp only [keepE, E_cons, E_nil]
       refine .ret ?_
       refine ret_z (.inr rfl) rfl rfl ?_
       have e : statEd t s none s.edges = 13 := by rw [← hp2, drop_cons hx2]; simp [statEd, hc7, hc8]
       simp [hV, hn0, e, hc5]
      ·simp at hc8
       refine .seqreg (fun hh => hh) (fun ee => [(2, ee 2), (3, ee 3), (9, ee 9), (10, ee 10), (73, ee 73), (74, ee 74), (75, ee 75), (126, bo (!(hasN s x.src && hasN s x.tgt)))]) ?_ ?_
       ·refine Sq.cutk 4 fun KC1 hKC1 => ?_
        simp only [zt]
        simp [true_and]
        refine PCall.sq (p187 s x.src) fun _ he1 => ?_
        simp only [mergeH_eq he1]
        refine hKC1 _ ?_
        by_cases h1 : hasN s x.src = true
        rotate_left
        ·simp [h1, true_and]
        refine Sq.cutk 6 fun KC2 hKC2 => ?_
        simp only [zt]
        simp [h1, true_and]
        refine PCall.sq (p187 s x.tgt) fun _ he2 => ?_
        simp only [mergeH_eq he2]
        refine hKC2 _ ?_
        simp [h1, true_and]
       try simp only [E_cons, E_nil]
       refine .condk _ rfl (fun hc9 => ?_) (fun hc9 => ?_)
       ·skip
        refine .seqk fun K32 hK32 => ?_
        refine .reg ?_
        simp
        refine hK32 _ ?_
        clear hK32 K32
        refine .keep [4] ?_
        simp only [keepE, E_cons, E_nil]
        refine .ret ?_
        refine ret_z (.inr rfl) rfl rfl ?_
        have hc9' := bnT hc9
        have e : statEd t s none s.edges = 10 := by rw [← hp2, drop_cons hx2]; simp [statEd, hc7, hc8, hc9']
        simp [hV, hn0, e, hc5]
       ·simp at hc9
        refine .seqdreg mixed (fun hh => hh) (fun ee => [(2, ee 2), (3, ee 3), (73, ee 73), (74, ee 74), (75, ee 75), (139, bo (ordB (prevO s.edges i) x))]) ?_ ?_
        ·by_cases h0 : 0 < i
         rotate_left
         ·have hi0 : i = 0 := by omega
          subst hi0
          simp [-Bool.exists_bool, ordB, prevO]
         obtain ⟨p, hpv⟩ : ∃ p, s.edges[i - 1]? = some p := ⟨s.edges[i - 1]'(by omega), by simp⟩
         have hpo : prevO s.edges i = some p := by simp [prevO, hpv]; omega
         have hw1 : IntKind.i64.wrap ((i : Int) - 1) = ((i - 1 : Nat) : Int) := by rw [wrap64 (by omega) (by omega)]; omega
         have hps := (badE_sm ht (hq2 (i - 1) p (by omega) hpv)).1
         have hxs := (badE_sm ht (by simpa using hc7)).1
         refine Dr.cutk 11 fun KC1 hKC1 => ?_
         simp only [zt]
         simp [-Bool.exists_bool, h0, hw1, hpv, hpo, hx2, ordB, true_and]
         refine Dr.pcall (p184 p x hps hxs) ?_
         refine hKC1 _ _ ?_
         simp [-Bool.exists_bool, h0, hw1, hpv, hpo, hx2, ordB, true_and]
        try simp only [E_cons, E_nil]
        refine .condk _ rfl (fun hc10 => ?_) (fun hc10 => ?_)
        ·skip
         refine .seqk fun K33 hK33 => ?_
         refine .reg ?_
         simp
         refine hK33 _ ?_
         clear hK33 K33
         refine .keep [4] ?_
         simp only [keepE, E_cons, E_nil]
         refine .ret ?_
         refine ret_z (.inr rfl) rfl rfl ?_
         have hc9' : ¬ (hasN s x.src && hasN s x.tgt) = false := by simpa using hc9
         have e : statEd t s none s.edges = 12 := by rw [← hp2, drop_cons hx2]; simp [statEd, hc7, hc8, hc9', hc10]
         simp [hV, hn0, e, hc5]
        ·skip
         refine .skip ?_
         refine hK26 _ ?_
         clear hK26 K26
         refine .reg ?_
         simp
         refine hK23 _ _ (by omega) (Wk.cov ?_ (.refl _)) ⟨?_, _, ?_, rfl⟩
         ·simp; exact wrap64 (by omega) (by omega)
         ·refine ⟨by rw [← hp2, drop_cons hx2, prevO_s, hx2]; simp [statEd, hc7, hc8, hc9, hc10], fun j y hj hy => ?_⟩
          by_cases hji : j = i
          ·subst hji; rw [hx2] at hy; cases hy; simpa using hc7
          ·exact hq2 j y (by omega) hy
         ·first | assumption | (simp; done) | (simp; assumption) | (simp [hho2]; done)
    ·simp at hc6
     have hi2 : i = (s.edges).length := by omega
     subst hi2
     have he0 : statEd t s none s.edges = 0 := by rw [← hp2]; simp [statEd]
     have hbe : ∀ c ∈ s.edges, 1 ≤ c.num ∧ c.num ≤ 80 := fun c hc => by
      obtain ⟨j, hj⟩ := List.getElem?_of_mem hc
      exact (badE_sm ht (hq2 j c (List.getElem?_eq_some_iff.1 hj).1 hj)).2
     refine .exit ?_
     try simp only [then', inBlk, if_true, if_false, reduceIte, Nat.reduceEqDiff]
     refine hK21 _ ?_
     clear hK25 hK23 hK21 K25 K23 K21
     refine .seqk fun K34 hK34 => ?_
     refine .seqk fun K35 hK35 => ?_
     refine .reg ?_
     refine Sq.cutk 3 fun K36 hK36 => ?_
     simp only [zt]
     simp
     refine PCall.sq (p185 s.edges he hbe) fun h1 he1 => ?_
     simp only [mergeH_eq he1]
     clear he1 h1
     refine hK36 _ ?_
     clear hK36 K36
     simp
     refine hK35 _ ?_
     clear hK35 K35
     refine .keep [157] ?_
     simp only [keepE, E_cons, E_nil]
     refine .condk _ rfl (fun hc11 => ?_) (fun hc11 => ?_)
     ·simp at hc11
      refine .seqk fun K37 hK37 => ?_
      refine .reg ?_
      simp
      refine hK37 _ ?_
      clear hK37 K37
      refine .keep [4] ?_
      simp only [keepE, E_cons, E_nil]
      refine .ret ?_
      refine ret_z (.inr rfl) rfl rfl ?_
      simp [hV, hn0, he0, hc5, hc11]
     ·simp at hc11
      refine .skip ?_
      refine hK34 _ ?_
      clear hK34 K34
      refine .seqk fun K38 hK38 => ?_
      refine .reg ?_
      simp
      refine hK38 _ ?_
      clear hK38 K38
      refine .keep [4] ?_
      simp only [keepE, E_cons, E_nil]
      refine .ret ?_
      refine ret_z (.inr rfl) rfl rfl ?_
      have e : statV t s = 0 := by rw [hV, if_neg (by simp [hn0]), if_neg (by omega), if_neg (by simp [he0]), if_neg (by omega)]
      simp [e]
theorem p218 (l : List Count) (k : Int) (hl : l.length ≤ 1000) (h0 : 0 ≤ k) (h1 : k ≤ 1000) (hs : ∀ c ∈ l, smC c ∧ c.src = 0 ∧ c.tgt = 0) : PCall Tryz.prog 218 [sl (l.map Count.c), .agg [int k, int 0, int 0, int 0]] (int (numC l k)) := by
 intro h
 refine ACall.of b218 (by simp) ?_
 unfold c218
 refine .seqk fun K1 hK1 => ?_
 refine .reg ?_
 simp
 refine hK1 _ ?_
 clear hK1 K1
 refine .keep [0, 3] ?_
 simp only [keepE, E_cons, E_nil]
 refine .see (upd _ 3 ⟨_, none⟩) [(0, _), (3, .dptr (Count.c ⟨k, 0, 0, 0⟩))] ⟨.refl _, T.box (k := 4) (cs := Count.c ⟨k, 0, 0, 0⟩) (by simp [upd]) (by simp [upd]), trivial⟩ (Dies.up (Dies.refl _) (.inr ⟨rfl, Nat.le_refl _⟩)) ?_
 try simp only [E_cons, E_nil]
 refine .seqk fun K2 hK2 => ?_
 refine .seqk fun K3 hK3 => ?_
 refine .reg ?_
 simp
 refine hK3 _ ?_
 clear hK3 K3
 refine .keep [0, 3, 5] ?_
 simp only [keepE, E_cons, E_nil]
 refine .block ?_
 refine .count (l).length (fun i st => (numC (l.drop i) k = numC l k) ∧ ∃ hh1, OutEq hh1 h ∧ st = ⟨E [(0, sl (l.map Count.c)), (3, .dptr (Count.c ⟨k, 0, 0, 0⟩)), (5, int i)], hh1⟩) 0 (Nat.zero_le _) _ (.cov (by first | (simp; done) | (simp; rfl) | (simp; exact ⟨rfl, rfl⟩)) (.refl _)) ⟨by simp, _, by first | (simp; done) | (simp; assumption) | (simp [*]; done), rfl⟩ ?_
 rintro i s hi1 ⟨hp1, hh1, hho1, rfl⟩ K4 hK4
 refine .seqk fun K5 hK5 => ?_
 refine .seqk fun K6 hK6 => ?_
 refine .reg ?_
 simp
 refine hK6 _ ?_
 clear hK6 K6
 refine .keep [0, 3, 5, 9] ?_
 simp only [keepE, E_cons, E_nil]
 refine .condk _ rfl (fun hc1 => ?_) (fun hc1 => ?_)
 ·simp at hc1
  obtain ⟨x, hx1⟩ := get_some hc1
  obtain ⟨hxs, hx2, hx3⟩ := hs x (List.mem_of_getElem? hx1)
  refine .skip ?_
  refine hK5 _ ?_
  clear hK5 K5
  refine .seqk fun K7 hK7 => ?_
  refine .block ?_
  refine .seqdreg mixed (fun hh => hh) (fun ee => [(0, ee 0), (3, ee 3), (5, ee 5), (18, bo (decide (x.ty = k)))]) ?_ ?_
  ·have hcm : cmpC x ⟨k, 0, 0, 0⟩ = 0 ↔ x.ty = k := by
    simp only [cmpC, hx2, hx3]
    by_cases h : x.ty = k
    ·simp [h]
    ·simp [h]; omega
   refine Dr.cutk 6 fun KC1 hKC1 => ?_
   simp only [zt]
   simp [-Bool.exists_bool, hx1, hcm, true_and]
   refine Dr.pcall (p129 x ⟨k, 0, 0, 0⟩ hxs ⟨h0, h1, by simp, by simp, by simp, by simp⟩) ?_
   refine hKC1 _ _ ?_
   simp [-Bool.exists_bool, hx1, hcm, true_and]
  try simp only [E_cons, E_nil]
  refine .condk _ rfl (fun hc2 => ?_) (fun hc2 => ?_)
  ·have hxk : x.ty = k := by simpa using hc2
   refine .seqk fun K8 hK8 => ?_
   refine .reg ?_
   simp [hx1]
   refine hK8 _ ?_
   clear hK8 K8
   refine .keep [4] ?_
   simp only [keepE, E_cons, E_nil]
   refine .ret ?_
   refine ret_z (.inr rfl) rfl rfl ?_
   rw [← hp1, drop_cons hx1]; simp [numC, List.find?, hxk]
  ·have hxk : ¬ x.ty = k := by simpa using hc2
   refine .skip ?_
   refine hK7 _ ?_
   clear hK7 K7
   refine .reg ?_
   simp
   refine hK4 _ _ (by omega) (Wk.cov ?_ (.refl _)) ⟨?_, _, ?_, rfl⟩
   ·simp; exact wrap64 (by omega) (by omega)
   ·rw [← hp1, drop_cons hx1]; simp [numC, List.find?, hxk]
   ·first | assumption | (simp; done) | (simp; assumption) | (simp [hho1]; done)
 ·simp at hc1
  have hi1 : i = (l).length := by omega
  subst hi1
  refine .exit ?_
  try simp only [then', inBlk, if_true, if_false, reduceIte, Nat.reduceEqDiff]
  refine hK2 _ ?_
  clear hK5 hK4 hK2 K5 K4 K2
  refine .seqk fun K9 hK9 => ?_
  refine .reg ?_
  simp
  refine hK9 _ ?_
  clear hK9 K9
  refine .keep [4] ?_
  simp only [keepE, E_cons, E_nil]
  refine .ret ?_
  refine ret_z (.inr rfl) rfl rfl ?_
  rw [← hp1]; simp [numC]
set_option maxHeartbeats 4000000 in
theorem p167 (t : Types) (ht : tOK t) (s : Stat) (hn : s.nodes.length ≤ 1000) (he : s.edges.length ≤ 1000) : PCall Tryz.prog 167 [ag (Types.c t), ag (Stat.c s)] (int (statV t s)) := by
 intro h
 refine ACall.of b167 (by simp) ?_
 unfold c167
 refine .seqk fun K1 hK1 => ?_
 refine .reg ?_
 simp
 refine hK1 _ ?_
 clear hK1 K1
 refine .keep [2, 3] ?_
 simp only [keepE, E_cons, E_nil]
 refine .see (upd (upd _ 2 ⟨_, none⟩) 3 ⟨_, none⟩) [(2, .dptr (Types.c t)), (3, .dptr (Stat.c s))] ⟨T.box (k := 2) (cs := Types.c t) (by simp [upd]) (by simp [upd]), T.box (k := 2) (cs := Stat.c s) (by simp [upd]) (by simp [upd]), trivial⟩ (Dies.up (Dies.up (Dies.refl _) (.inr ⟨rfl, Nat.le_refl _⟩)) (.inr ⟨rfl, Nat.le_refl _⟩)) ?_
 try simp only [E_cons, E_nil]
 refine .seqk fun K2 hK2 => ?_
 refine .seqk fun K3 hK3 => ?_
 refine .reg ?_
 refine Sq.cutk 2 fun K4 hK4 => ?_
 simp only [zt]
 simp
 refine PCall.sq (p101 t ht) fun h1 he1 => ?_
 simp only [mergeH_eq he1]
 clear he1 h1
 refine hK4 _ ?_
 clear hK4 K4
 simp
 refine hK3 _ ?_
 clear hK3 K3
 refine .keep [2, 3, 6] ?_
 simp only [keepE, E_cons, E_nil]
 refine .seqk fun K5 hK5 => ?_
 refine .reg ?_
 simp
 refine hK5 _ ?_
 clear hK5 K5
 refine .keep [2, 3, 6, 17] ?_
 simp only [keepE, E_cons, E_nil]
 refine .condk _ rfl (fun hc1 => ?_) (fun hc1 => ?_)
 ·simp at hc1
  refine .seqk fun K6 hK6 => ?_
  refine .reg ?_
  simp
  refine hK6 _ ?_
  clear hK6 K6
  refine .keep [4] ?_
  simp only [keepE, E_cons, E_nil]
  refine .ret ?_
  refine ret_z (.inr rfl) rfl rfl ?_
  simp [statV, hc1]
 ·simp at hc1
  have hV : statV t s = if statN t none s.nodes ≠ 0 then statN t none s.nodes else if 40 < totC s.nodes then 3 else if statEd t s none s.edges ≠ 0 then statEd t s none s.edges else if 80 < totC s.edges then 3 else 0 := by simp only [statV]; rw [if_neg (by simpa using hc1)]
  refine .skip ?_
  refine hK2 _ ?_
  clear hK2 K2
  refine .seqk fun K7 hK7 => ?_
  refine .seqk fun K8 hK8 => ?_
  refine .reg ?_
  simp
  refine hK8 _ ?_
  clear hK8 K8
  refine .keep [2, 3, 7] ?_
  simp only [keepE, E_cons, E_nil]
  refine .block ?_
  refine .count (s.nodes).length (fun i st => (statN t (prevO s.nodes i) (s.nodes.drop i) = statN t none s.nodes ∧ ∀ j y, j < i → s.nodes[j]? = some y → badN t y = false) ∧ ∃ hh1, OutEq hh1 h ∧ st = ⟨E [(2, .dptr (Types.c t)), (3, .dptr (Stat.c s)), (7, int i)], hh1⟩) 0 (Nat.zero_le _) _ (.cov (by first | (simp; done) | (simp; rfl) | (simp; exact ⟨rfl, rfl⟩)) (.refl _)) ⟨⟨by simp [prevO], fun j y hj => absurd hj (by omega)⟩, _, by first | (simp; done) | (simp; assumption) | (simp [*]; done), rfl⟩ ?_
  rintro i s hi1 ⟨⟨hp1, hq1⟩, hh1, hho1, rfl⟩ K9 hK9
  refine .seqk fun K10 hK10 => ?_
  refine .seqk fun K11 hK11 => ?_
  refine .reg ?_
  simp
  refine hK11 _ ?_
  clear hK11 K11
  refine .keep [2, 3, 7, 23] ?_
  simp only [keepE, E_cons, E_nil]
  refine .condk _ rfl (fun hc2 => ?_) (fun hc2 => ?_)
  ·simp at hc2
   obtain ⟨x, hx1⟩ := get_some hc2
   refine .skip ?_
   refine hK10 _ ?_
   clear hK10 K10
   refine .seqk fun K12 hK12 => ?_
   refine .block ?_
   refine .seqk fun K13 hK13 => ?_
   refine .reg ?_
   simp [hx1]
   refine hK13 _ ?_
   clear hK13 K13
   refine .keep [2, 3, 7, 8] ?_
   simp only [keepE, E_cons, E_nil]
   refine .see (upd _ 8 ⟨_, none⟩) [(2, _), (3, _), (7, _), (8, .dptr (Count.c x))] ⟨.refl _, .refl _, .refl _, T.box (k := 4) (cs := Count.c x) (by simp [upd]) (by simp [upd]), trivial⟩ (Dies.up (Dies.refl _) (.inr ⟨rfl, Nat.le_refl _⟩)) ?_
   try simp only [E_cons, E_nil]
   refine .seqk fun K14 hK14 => ?_
   refine .seqreg (fun hh => hh) (fun ee => [(2, ee 2), (3, ee 3), (7, ee 7), (8, ee 8), (57, bo (badN t x))]) ?_ ?_
   ·have e : badN t x = (!(inI x.ty t.nodes.length) || !decide (x.src = 0) || !decide (x.tgt = 0) || decide (x.num < 1) || decide (40 < x.num)) := rfl
    refine Sq.cutk 6 fun KC1 hKC1 => ?_
    simp only [zt]
    simp [e, true_and]
    refine PCall.sq (p216 x.ty t.nodes.length) fun _ he1 => ?_
    simp only [mergeH_eq he1]
    refine hKC1 _ ?_
    by_cases h1 : inI x.ty t.nodes.length = true
    rotate_left
    ·simp [e, h1, true_and]
    by_cases h2 : x.src = 0 <;> by_cases h3 : x.tgt = 0 <;> by_cases h4 : x.num < 1 <;> by_cases h5 : 40 < x.num <;> simp [e, h1, h2, h3, h4, h5]
   try simp only [E_cons, E_nil]
   refine .condk _ rfl (fun hc3 => ?_) (fun hc3 => ?_)
   ·skip
    refine .seqk fun K15 hK15 => ?_
    refine .reg ?_
    simp
    refine hK15 _ ?_
    clear hK15 K15
    refine .keep [4] ?_
    simp only [keepE, E_cons, E_nil]
    refine .ret ?_
    refine ret_z (.inr rfl) rfl rfl ?_
    have e : statN t none s.nodes = 6 := by rw [← hp1, drop_cons hx1]; simp [statN, hc3]
    simp [hV, e]
   ·skip
    refine .skip ?_
    refine hK14 _ ?_
    clear hK14 K14
    refine .seqdreg mixed (fun hh => hh) (fun ee => [(2, ee 2), (3, ee 3), (7, ee 7), (70, bo (ordB (prevO s.nodes i) x))]) ?_ ?_
    ·by_cases h0 : 0 < i
     rotate_left
     ·have hi0 : i = 0 := by omega
      subst hi0
      simp [-Bool.exists_bool, ordB, prevO]
     obtain ⟨p, hpv⟩ : ∃ p, s.nodes[i - 1]? = some p := ⟨s.nodes[i - 1]'(by omega), by simp⟩
     have hpo : prevO s.nodes i = some p := by simp [prevO, hpv]; omega
     have hw1 : IntKind.i64.wrap ((i : Int) - 1) = ((i - 1 : Nat) : Int) := by rw [wrap64 (by omega) (by omega)]; omega
     have hps := (badN_sm ht (hq1 (i - 1) p (by omega) hpv)).1
     have hxs := (badN_sm ht (by simpa using hc3)).1
     refine Dr.cutk 11 fun KC1 hKC1 => ?_
     simp only [zt]
     simp [-Bool.exists_bool, h0, hw1, hpv, hpo, hx1, ordB, true_and]
     refine Dr.pcall (p129 p x hps hxs) ?_
     refine hKC1 _ _ ?_
     simp [-Bool.exists_bool, h0, hw1, hpv, hpo, hx1, ordB, true_and]
    try simp only [E_cons, E_nil]
    refine .condk _ rfl (fun hc4 => ?_) (fun hc4 => ?_)
    ·skip
     refine .seqk fun K16 hK16 => ?_
     refine .reg ?_
     simp
     refine hK16 _ ?_
     clear hK16 K16
     refine .keep [4] ?_
     simp only [keepE, E_cons, E_nil]
     refine .ret ?_
     refine ret_z (.inr rfl) rfl rfl ?_
     have e : statN t none s.nodes = 12 := by rw [← hp1, drop_cons hx1]; simp [statN, hc3, hc4]
     simp [hV, e]
    ·skip
     refine .skip ?_
     refine hK12 _ ?_
     clear hK12 K12
     refine .reg ?_
     simp
     refine hK9 _ _ (by omega) (Wk.cov ?_ (.refl _)) ⟨?_, _, ?_, rfl⟩
     ·simp; exact wrap64 (by omega) (by omega)
     ·refine ⟨by rw [← hp1, drop_cons hx1, prevO_s, hx1]; simp [statN, hc3, hc4], fun j y hj hy => ?_⟩
      by_cases hji : j = i
      ·subst hji; rw [hx1] at hy; cases hy; simpa using hc3
      ·exact hq1 j y (by omega) hy
     ·first | assumption | (simp; done) | (simp; assumption) | (simp [hho1]; done)
  ·simp at hc2
   have hi1 : i = (s.nodes).length := by omega
   subst hi1
   have hn0 : statN t none s.nodes = 0 := by rw [← hp1]; simp [statN]
   have hb : ∀ c ∈ s.nodes, 1 ≤ c.num ∧ c.num ≤ 80 := fun c hc => by
    obtain ⟨j, hj⟩ := List.getElem?_of_mem hc
    exact (badN_sm ht (hq1 j c (List.getElem?_eq_some_iff.1 hj).1 hj)).2.1
   have hns : ∀ c ∈ s.nodes, smC c ∧ c.src = 0 ∧ c.tgt = 0 := fun c hc => by
    obtain ⟨j, hj⟩ := List.getElem?_of_mem hc
    have := badN_sm ht (hq1 j c (List.getElem?_eq_some_iff.1 hj).1 hj)
    exact ⟨this.1, this.2.2.1, this.2.2.2.1⟩
   have hnn : ∀ c ∈ s.nodes, 1 ≤ c.num := fun c hc => (hb c hc).1
   refine .exit ?_
   try simp only [then', inBlk, if_true, if_false, reduceIte, Nat.reduceEqDiff]
   refine hK7 _ ?_
   clear hK10 hK9 hK7 K10 K9 K7
   refine .seqk fun K17 hK17 => ?_
   refine .seqk fun K18 hK18 => ?_
   refine .reg ?_
   refine Sq.cutk 3 fun K19 hK19 => ?_
   simp only [zt]
   simp
   refine PCall.sq (p217 s.nodes hn hb) fun h1 he1 => ?_
   simp only [mergeH_eq he1]
   clear he1 h1
   refine hK19 _ ?_
   clear hK19 K19
   simp
   refine hK18 _ ?_
   clear hK18 K18
   refine .keep [2, 3, 74] ?_
   simp only [keepE, E_cons, E_nil]
   refine .condk _ rfl (fun hc5 => ?_) (fun hc5 => ?_)
   ·simp at hc5
    refine .seqk fun K20 hK20 => ?_
    refine .reg ?_
    simp
    refine hK20 _ ?_
    clear hK20 K20
    refine .keep [4] ?_
    simp only [keepE, E_cons, E_nil]
    refine .ret ?_
    refine ret_z (.inr rfl) rfl rfl ?_
    simp [hV, hn0, hc5]
   ·simp at hc5
    refine .skip ?_
    refine hK17 _ ?_
    clear hK17 K17
    refine .seqk fun K21 hK21 => ?_
    refine .seqk fun K22 hK22 => ?_
    refine .reg ?_
    simp
    refine hK22 _ ?_
    clear hK22 K22
    refine .keep [2, 3, 9] ?_
    simp only [keepE, E_cons, E_nil]
    refine .block ?_
    refine .count (s.edges).length (fun i st => (statEd t s (prevO s.edges i) (s.edges.drop i) = statEd t s none s.edges ∧ ∀ j y, j < i → s.edges[j]? = some y → badE t y = false) ∧ ∃ hh2, OutEq hh2 h ∧ st = ⟨E [(2, .dptr (Types.c t)), (3, .dptr (Stat.c s)), (9, int i)], hh2⟩) 0 (Nat.zero_le _) _ (.cov (by first | (simp; done) | (simp; rfl) | (simp; exact ⟨rfl, rfl⟩)) (.refl _)) ⟨⟨by simp [prevO], fun j y hj => absurd hj (by omega)⟩, _, by first | (simp; done) | (simp; assumption) | (simp [*]; done), rfl⟩ ?_
    rintro i s hi2 ⟨⟨hp2, hq2⟩, hh2, hho2, rfl⟩ K23 hK23
    refine .seqk fun K24 hK24 => ?_
    refine .seqk fun K25 hK25 => ?_
    refine .reg ?_
    simp
    refine hK25 _ ?_
    clear hK25 K25
    refine .keep [2, 3, 9, 79] ?_
    simp only [keepE, E_cons, E_nil]
    refine .condk _ rfl (fun hc6 => ?_) (fun hc6 => ?_)
    ·simp at hc6
     obtain ⟨x, hx2⟩ := get_some hc6
     refine .skip ?_
     refine hK24 _ ?_
     clear hK24 K24
     refine .seqk fun K26 hK26 => ?_
     refine .block ?_
     refine .seqk fun K27 hK27 => ?_
     refine .reg ?_
     simp [hx2]
     refine hK27 _ ?_
     clear hK27 K27
     refine .keep [2, 3, 9, 10] ?_
     simp only [keepE, E_cons, E_nil]
     refine .see (upd _ 10 ⟨_, none⟩) [(2, _), (3, _), (9, _), (10, .dptr (Count.c x))] ⟨.refl _, .refl _, .refl _, T.box (k := 4) (cs := Count.c x) (by simp [upd]) (by simp [upd]), trivial⟩ (Dies.up (Dies.refl _) (.inr ⟨rfl, Nat.le_refl _⟩)) ?_
     try simp only [E_cons, E_nil]
     refine .seqk fun K28 hK28 => ?_
     refine .seqreg (fun hh => hh) (fun ee => [(2, ee 2), (3, ee 3), (9, ee 9), (10, ee 10), (121, bo (badE t x))]) ?_ ?_
     ·have e : badE t x = (!(inI x.ty t.edges.length) || !(inI x.src t.nodes.length) || !(inI x.tgt t.nodes.length) || decide (x.num < 1) || decide (80 < x.num)) := rfl
      refine Sq.cutk 6 fun KC1 hKC1 => ?_
      simp only [zt]
      simp [e, true_and]
      refine PCall.sq (p216 x.ty t.edges.length) fun _ he1 => ?_
      simp only [mergeH_eq he1]
      refine hKC1 _ ?_
      by_cases h1 : inI x.ty t.edges.length = true
      rotate_left
      ·simp [e, h1, true_and]
      refine Sq.cutk 8 fun KC2 hKC2 => ?_
      simp only [zt]
      simp [e, h1, true_and]
      refine PCall.sq (p216 x.src t.nodes.length) fun _ he2 => ?_
      simp only [mergeH_eq he2]
      refine hKC2 _ ?_
      by_cases h2 : inI x.src t.nodes.length = true
      rotate_left
      ·simp [e, h1, h2, true_and]
      refine Sq.cutk 9 fun KC3 hKC3 => ?_
      simp only [zt]
      simp [e, h1, h2, true_and]
      refine PCall.sq (p216 x.tgt t.nodes.length) fun _ he3 => ?_
      simp only [mergeH_eq he3]
      refine hKC3 _ ?_
      by_cases h3 : inI x.tgt t.nodes.length = true
      rotate_left
      ·simp [e, h1, h2, h3, true_and]
      by_cases h4 : x.num < 1 <;> by_cases h5 : 80 < x.num <;> simp [e, h1, h2, h3, h4, h5]
     try simp only [E_cons, E_nil]
     refine .condk _ rfl (fun hc7 => ?_) (fun hc7 => ?_)
     ·skip
      refine .seqk fun K29 hK29 => ?_
      refine .reg ?_
      simp
      refine hK29 _ ?_
      clear hK29 K29
      refine .keep [4] ?_
      simp only [keepE, E_cons, E_nil]
      refine .ret ?_
      refine ret_z (.inr rfl) rfl rfl ?_
      have e : statEd t s none s.edges = 6 := by rw [← hp2, drop_cons hx2]; simp [statEd, hc7]
      simp [hV, hn0, e, hc5]
     ·skip
      refine .skip ?_
      refine hK28 _ ?_
      clear hK28 K28
      refine .seqk fun K30 hK30 => ?_
      refine .seqk fun K31 hK31 => ?_
      refine .reg ?_
      refine Sq.cutk 8 fun K32 hK32 => ?_
      simp only [zt]
      simp
      refine PCall.sq (p79 t ht x.ty x.src x.tgt) fun h1 he1 => ?_
      simp only [mergeH_eq he1]
      clear he1 h1
      refine hK32 _ ?_
      clear hK32 K32
      simp
      refine hK31 _ ?_
      clear hK31 K31
      refine .keep [2, 3, 9, 10, 130] ?_
      simp only [keepE, E_cons, E_nil]
      refine .condk _ rfl (fun hc8 => ?_) (fun hc8 => ?_)
      ·simp at hc8
       refine .seqk fun K33 hK33 => ?_
       refine .reg ?_
       simp
       refine hK33 _ ?_
       clear hK33 K33
       refine .keep [4] ?_
       simp only [keepE, E_cons, E_nil]
       refine .ret ?_
       refine ret_z (.inr rfl) rfl rfl ?_
       have e : statEd t s none s.edges = 13 := by rw [← hp2, drop_cons hx2]; simp [statEd, hc7, hc8]
       simp [hV, hn0, e, hc5]
      ·simp at hc8
       refine .skip ?_
       refine hK30 _ ?_
       clear hK30 K30
       refine .seqk fun K34 hK34 => ?_
       refine .seqreg (fun hh => hh) (fun ee => [(2, ee 2), (3, ee 3), (9, ee 9), (10, ee 10), (146, bo (!(hasN s x.src && hasN s x.tgt)))]) ?_ ?_
       ·have hxs := (badE_sm ht (by simpa using hc7)).1
        have k1 : numC s.nodes x.src = 0 ↔ hasN s x.src = false := by have := numC_any s.nodes x.src hnn; simp only [hasN]; rw [Bool.eq_iff_iff] at this; simpa using this
        have k2 : numC s.nodes x.tgt = 0 ↔ hasN s x.tgt = false := by have := numC_any s.nodes x.tgt hnn; simp only [hasN]; rw [Bool.eq_iff_iff] at this; simpa using this
        refine Sq.cutk 6 fun KC1 hKC1 => ?_
        simp only [zt]
        simp [k1, k2, true_and]
        refine PCall.sq (p218 s.nodes x.src hn hxs.s0 hxs.s1 hns) fun _ he1 => ?_
        simp only [mergeH_eq he1]
        refine hKC1 _ ?_
        by_cases h1 : hasN s x.src = true
        rotate_left
        ·simp [k1, k2, h1, true_and]
        refine Sq.cutk 8 fun KC2 hKC2 => ?_
        simp only [zt]
        simp [k1, k2, h1, true_and]
        refine PCall.sq (p218 s.nodes x.tgt hn hxs.g0 hxs.g1 hns) fun _ he2 => ?_
        simp only [mergeH_eq he2]
        refine hKC2 _ ?_
        simp [k1, k2, h1, true_and]
       try simp only [E_cons, E_nil]
       refine .condk _ rfl (fun hc9 => ?_) (fun hc9 => ?_)
       ·skip
        refine .seqk fun K35 hK35 => ?_
        refine .reg ?_
        simp
        refine hK35 _ ?_
        clear hK35 K35
        refine .keep [4] ?_
        simp only [keepE, E_cons, E_nil]
        refine .ret ?_
        refine ret_z (.inr rfl) rfl rfl ?_
        have hc9' := bnT hc9
        have e : statEd t s none s.edges = 10 := by rw [← hp2, drop_cons hx2]; simp [statEd, hc7, hc8, hc9']
        simp [hV, hn0, e, hc5]
       ·simp at hc9
        refine .skip ?_
        refine hK34 _ ?_
        clear hK34 K34
        refine .seqdreg mixed (fun hh => hh) (fun ee => [(2, ee 2), (3, ee 3), (9, ee 9), (159, bo (ordB (prevO s.edges i) x))]) ?_ ?_
        ·by_cases h0 : 0 < i
         rotate_left
         ·have hi0 : i = 0 := by omega
          subst hi0
          simp [-Bool.exists_bool, ordB, prevO]
         obtain ⟨p, hpv⟩ : ∃ p, s.edges[i - 1]? = some p := ⟨s.edges[i - 1]'(by omega), by simp⟩
         have hpo : prevO s.edges i = some p := by simp [prevO, hpv]; omega
         have hw1 : IntKind.i64.wrap ((i : Int) - 1) = ((i - 1 : Nat) : Int) := by rw [wrap64 (by omega) (by omega)]; omega
         have hps := (badE_sm ht (hq2 (i - 1) p (by omega) hpv)).1
         have hxs := (badE_sm ht (by simpa using hc7)).1
         refine Dr.cutk 11 fun KC1 hKC1 => ?_
         simp only [zt]
         simp [-Bool.exists_bool, h0, hw1, hpv, hpo, hx2, ordB, true_and]
         refine Dr.pcall (p129 p x hps hxs) ?_
         refine hKC1 _ _ ?_
         simp [-Bool.exists_bool, h0, hw1, hpv, hpo, hx2, ordB, true_and]
        try simp only [E_cons, E_nil]
        refine .condk _ rfl (fun hc10 => ?_) (fun hc10 => ?_)
        ·skip
         refine .seqk fun K36 hK36 => ?_
         refine .reg ?_
         simp
         refine hK36 _ ?_
         clear hK36 K36
         refine .keep [4] ?_
         simp only [keepE, E_cons, E_nil]
         refine .ret ?_
         refine ret_z (.inr rfl) rfl rfl ?_
         have hc9' : ¬ (hasN s x.src && hasN s x.tgt) = false := by simpa using hc9
         have e : statEd t s none s.edges = 12 := by rw [← hp2, drop_cons hx2]; simp [statEd, hc7, hc8, hc9', hc10]
         simp [hV, hn0, e, hc5]
        ·skip
         refine .skip ?_
         refine hK26 _ ?_
         clear hK26 K26
         refine .reg ?_
         simp
         refine hK23 _ _ (by omega) (Wk.cov ?_ (.refl _)) ⟨?_, _, ?_, rfl⟩
         ·simp; exact wrap64 (by omega) (by omega)
         ·refine ⟨by rw [← hp2, drop_cons hx2, prevO_s, hx2]; simp [statEd, hc7, hc8, hc9, hc10], fun j y hj hy => ?_⟩
          by_cases hji : j = i
          ·subst hji; rw [hx2] at hy; cases hy; simpa using hc7
          ·exact hq2 j y (by omega) hy
         ·first | assumption | (simp; done) | (simp; assumption) | (simp [hho2]; done)
    ·simp at hc6
     have hi2 : i = (s.edges).length := by omega
     subst hi2
     have he0 : statEd t s none s.edges = 0 := by rw [← hp2]; simp [statEd]
     have hbe : ∀ c ∈ s.edges, 1 ≤ c.num ∧ c.num ≤ 80 := fun c hc => by
      obtain ⟨j, hj⟩ := List.getElem?_of_mem hc
      exact (badE_sm ht (hq2 j c (List.getElem?_eq_some_iff.1 hj).1 hj)).2
     refine .exit ?_
     try simp only [then', inBlk, if_true, if_false, reduceIte, Nat.reduceEqDiff]
     refine hK21 _ ?_
     clear hK24 hK23 hK21 K24 K23 K21
     refine .seqk fun K37 hK37 => ?_
     refine .seqk fun K38 hK38 => ?_
     refine .reg ?_
     refine Sq.cutk 3 fun K39 hK39 => ?_
     simp only [zt]
     simp
     refine PCall.sq (p217 s.edges he hbe) fun h1 he1 => ?_
     simp only [mergeH_eq he1]
     clear he1 h1
     refine hK39 _ ?_
     clear hK39 K39
     simp
     refine hK38 _ ?_
     clear hK38 K38
     refine .keep [163] ?_
     simp only [keepE, E_cons, E_nil]
     refine .condk _ rfl (fun hc11 => ?_) (fun hc11 => ?_)
     ·simp at hc11
      refine .seqk fun K40 hK40 => ?_
      refine .reg ?_
      simp
      refine hK40 _ ?_
      clear hK40 K40
      refine .keep [4] ?_
      simp only [keepE, E_cons, E_nil]
      refine .ret ?_
      refine ret_z (.inr rfl) rfl rfl ?_
      simp [hV, hn0, he0, hc5, hc11]
     ·simp at hc11
      refine .skip ?_
      refine hK37 _ ?_
      clear hK37 K37
      refine .seqk fun K41 hK41 => ?_
      refine .reg ?_
      simp
      refine hK41 _ ?_
      clear hK41 K41
      refine .keep [4] ?_
      simp only [keepE, E_cons, E_nil]
      refine .ret ?_
      refine ret_z (.inr rfl) rfl rfl ?_
      have e : statV t s = 0 := by rw [hV, if_neg (by simp [hn0]), if_neg (by omega), if_neg (by simp [he0]), if_neg (by omega)]
      simp [e]
end Go.Abs
set_option linter.unusedVariables false
set_option linter.unusedSimpArgs false
namespace Go.Abs
open Go Go.Proofs
def typedB (t : Types) (g : Graph) : Bool := g.nodes.all (fun n => inI n t.nodes.length) && g.edges.all (fun e => inI e.ty t.edges.length)
def pricedE (t : Types) (s : Stat) (g : Graph) : Int := if statV t s ≠ 0 then statV t s else if gErr g ≠ 0 then gErr g else if typedB t g then 0 else 13
def cntN (t : Types) (l : List Count) (k : Int) : Int := totC (l.filter fun c => isT t c.ty k)
def cntE (t : Types) (l : List Count) (e a b : Int) : Int := totC (l.filter fun c => decide (c.ty = e) && isT t c.src a && isT t c.tgt b)
def nodesN (t : Types) (s : Stat) (k : Int) : Int × Int := if statV t s ≠ 0 then (0, statV t s) else if inI k t.nodes.length then (cntN t s.nodes k, 0) else (0, 6)
def edgesN (t : Types) (s : Stat) (e a b : Int) : Int × Int := if statV t s ≠ 0 then (0, statV t s) else if inI e t.edges.length && inI a t.nodes.length && inI b t.nodes.length then (cntE t s.edges e a b, 0) else (0, 6)
theorem gErr_ty {g : Graph} (h : gErr g = 0) : (∀ n ∈ g.nodes, 0 ≤ n) ∧ ∀ x ∈ g.edges, 0 ≤ x.ty := by
 unfold gErr at h
 split at h
 ·cases h
 ·split at h
  ·cases h
  ·split at h
   ·cases h
   ·rename_i h2 h3
    refine ⟨fun n hn => ?_, fun x hx => ?_⟩
    ·have : inR n 99 = true := by
      cases hb : inR n 99 with
      | true => rfl
      | false => exact absurd (List.any_eq_true.2 ⟨n, hn, by simp [hb]⟩) h2
     simp [inR] at this; omega
    ·have h4 : fitsG x g.nodes.length = true := by
      cases hb : fitsG x g.nodes.length with
      | true => rfl
      | false => exact absurd (List.any_eq_true.2 ⟨x, hx, by simp [hb]⟩) h3
     simp only [fitsG, Bool.and_eq_true] at h4
     have := h4.1.1
     simp [inR] at this; omega
structure sV (t : Types) (s : Stat) : Prop where
 tv : tV t
 nb : ∀ c ∈ s.nodes, badN t c = false
 eb : ∀ c ∈ s.edges, badE t c = false
 n4 : totC s.nodes ≤ 40
 e8 : totC s.edges ≤ 80
theorem statN_ok {t : Types} : ∀ {l : List Count} {p : Option Count}, statN t p l = 0 → ∀ c ∈ l, badN t c = false
 | [], _, _, c, hc => by simp at hc
 | x :: l, p, h, c, hc => by
  simp only [statN] at h
  split at h
  ·cases h
  ·split at h
   ·cases h
   ·rename_i h1 h2
    rcases List.mem_cons.1 hc with rfl | hc
    ·simpa using h1
    ·exact statN_ok h c hc
theorem statEd_ok {t : Types} {s : Stat} : ∀ {l : List Count} {p : Option Count}, statEd t s p l = 0 → ∀ c ∈ l, badE t c = false
 | [], _, _, c, hc => by simp at hc
 | x :: l, p, h, c, hc => by
  simp only [statEd] at h
  split at h
  ·cases h
  ·split at h
   ·cases h
   ·split at h
    ·cases h
    ·split at h
     ·cases h
     ·rename_i h1 h2 h3 h4
      rcases List.mem_cons.1 hc with rfl | hc
      ·simpa using h1
      ·exact statEd_ok h c hc
theorem statV_ok {t : Types} {s : Stat} (h : statV t s = 0) : sV t s := by
 unfold statV at h
 split at h
 ·rename_i h1; exact absurd h h1
 ·split at h
  ·rename_i h2; exact absurd h h2
  ·split at h
   ·cases h
   ·split at h
    ·rename_i h4; exact absurd h h4
    ·split at h
     ·cases h
     ·rename_i h1 h2 h3 h4 h5
      exact ⟨typesV_ok (by simpa using h1), statN_ok (by simpa using h2), statEd_ok (by simpa using h4), by omega, by omega⟩
theorem totC_cons (x : Count) (l : List Count) : totC (x :: l) = x.num + totC l := by simp [totC]
theorem totC_append (l m : List Count) : totC (l ++ m) = totC l + totC m := by simp [totC]
theorem totC_fs (p : Count → Bool) {l : List Count} {i : Nat} {x : Count} (hx : l[i]? = some x) : totC ((l.take (i + 1)).filter p) = totC ((l.take i).filter p) + if p x then x.num else 0 := by
 rw [List.take_add_one, hx, List.filter_append, totC_append]
 cases hp : p x <;> simp [List.filter, hp, totC]
theorem totC_filter_le (p : Count → Bool) : ∀ {l : List Count}, (∀ c ∈ l, 1 ≤ c.num) → 0 ≤ totC (l.filter p) ∧ totC (l.filter p) ≤ totC l
 | [], _ => by simp [totC]
 | x :: l, h => by
  have ih := totC_filter_le p (l := l) (fun c hc => h c (by simp [hc]))
  have hx := h x (by simp)
  rw [List.filter_cons]
  split
  ·rw [totC_cons, totC_cons]; omega
  ·rw [totC_cons]; omega
theorem totC_nn : ∀ {l : List Count}, (∀ c ∈ l, 1 ≤ c.num) → 0 ≤ totC l
 | [], _ => by simp [totC]
 | x :: l, h => by
  have ih := totC_nn (l := l) (fun c hc => h c (by simp [hc]))
  have hx := h x (by simp)
  rw [totC_cons]; omega
theorem totC_take_le {l : List Count} (h : ∀ c ∈ l, 1 ≤ c.num) (i : Nat) : totC (l.take i) ≤ totC l := by
 have : totC l = totC (l.take i) + totC (l.drop i) := by rw [← totC_append, List.take_append_drop]
 have h2 := totC_nn (l := l.drop i) (fun c hc => h c (List.mem_of_mem_drop hc))
 omega
theorem totC_pf (p : Count → Bool) {l : List Count} (h : ∀ c ∈ l, 1 ≤ c.num) (i : Nat) : 0 ≤ totC ((l.take i).filter p) ∧ totC ((l.take i).filter p) ≤ totC l := by
 have h1 := totC_filter_le p (l := l.take i) (fun c hc => h c (List.mem_of_mem_take hc))
 have := totC_take_le h i
 omega
set_option maxHeartbeats 1000000 in
theorem p84 (t : Types) (ht : tOK t) (s : Stat) (hn : s.nodes.length ≤ 1000) (he : s.edges.length ≤ 1000) (g : Graph) : PCall Tryz.prog 84 [ag (Types.c t), ag (Stat.c s), ag (Graph.c g)] (int (pricedE t s g)) := by
 intro h
 refine ACall.of b84 (by simp) ?_
 unfold c84
 refine .seqk fun K1 hK1 => ?_
 refine .reg ?_
 simp
 refine hK1 _ ?_
 clear hK1 K1
 refine .keep [3, 4, 5] ?_
 simp only [keepE, E_cons, E_nil]
 refine .see (upd (upd (upd _ 3 ⟨_, none⟩) 4 ⟨_, none⟩) 5 ⟨_, none⟩) [(3, .dptr (Types.c t)), (4, .dptr (Stat.c s)), (5, .dptr (Graph.c g))] ⟨T.box (k := 2) (cs := Types.c t) (by simp [upd]) (by simp [upd]), T.box (k := 2) (cs := Stat.c s) (by simp [upd]) (by simp [upd]), T.box (k := 2) (cs := Graph.c g) (by simp [upd]) (by simp [upd]), trivial⟩ (Dies.up (Dies.up (Dies.up (Dies.refl _) (.inr ⟨rfl, Nat.le_refl _⟩)) (.inr ⟨rfl, Nat.le_refl _⟩)) (.inr ⟨rfl, Nat.le_refl _⟩)) ?_
 try simp only [E_cons, E_nil]
 refine .seqk fun K2 hK2 => ?_
 refine .seqk fun K3 hK3 => ?_
 refine .reg ?_
 refine Sq.cutk 3 fun K4 hK4 => ?_
 simp only [zt]
 simp
 refine PCall.sq (p133 t ht s hn he) fun h1 he1 => ?_
 simp only [mergeH_eq he1]
 clear he1 h1
 refine hK4 _ ?_
 clear hK4 K4
 simp
 refine hK3 _ ?_
 clear hK3 K3
 refine .keep [3, 5, 7] ?_
 simp only [keepE, E_cons, E_nil]
 refine .seqk fun K5 hK5 => ?_
 refine .reg ?_
 simp
 refine hK5 _ ?_
 clear hK5 K5
 refine .keep [3, 5, 7, 17] ?_
 simp only [keepE, E_cons, E_nil]
 refine .condk _ rfl (fun hc1 => ?_) (fun hc1 => ?_)
 ·simp at hc1
  refine .seqk fun K6 hK6 => ?_
  refine .reg ?_
  simp
  refine hK6 _ ?_
  clear hK6 K6
  refine .keep [6] ?_
  simp only [keepE, E_cons, E_nil]
  refine .ret ?_
  refine ret_z (.inr rfl) rfl rfl ?_
  simp [pricedE, hc1]
 ·simp at hc1
  refine .skip ?_
  refine hK2 _ ?_
  clear hK2 K2
  refine .seqk fun K7 hK7 => ?_
  refine .seqk fun K8 hK8 => ?_
  refine .reg ?_
  refine Sq.cutk 2 fun K9 hK9 => ?_
  simp only [zt]
  simp
  refine PCall.sq (p96 g) fun h1 he1 => ?_
  simp only [mergeH_eq he1]
  clear he1 h1
  refine hK9 _ ?_
  clear hK9 K9
  simp
  refine hK8 _ ?_
  clear hK8 K8
  refine .keep [3, 5, 8] ?_
  simp only [keepE, E_cons, E_nil]
  refine .seqk fun K10 hK10 => ?_
  refine .reg ?_
  simp
  refine hK10 _ ?_
  clear hK10 K10
  refine .keep [3, 5, 8, 22] ?_
  simp only [keepE, E_cons, E_nil]
  refine .condk _ rfl (fun hc2 => ?_) (fun hc2 => ?_)
  ·simp at hc2
   refine .seqk fun K11 hK11 => ?_
   refine .reg ?_
   simp
   refine hK11 _ ?_
   clear hK11 K11
   refine .keep [6] ?_
   simp only [keepE, E_cons, E_nil]
   refine .ret ?_
   refine ret_z (.inr rfl) rfl rfl ?_
   simp [pricedE, hc1, hc2]
  ·simp at hc2
   have hgl := gErr_len hc2
   obtain ⟨hg0, hg1⟩ := gErr_ty hc2
   refine .skip ?_
   refine hK7 _ ?_
   clear hK7 K7
   refine .seqk fun K12 hK12 => ?_
   refine .seqk fun K13 hK13 => ?_
   refine .reg ?_
   simp
   refine hK13 _ ?_
   clear hK13 K13
   refine .keep [3, 5, 25, 26, 27] ?_
   simp only [keepE, E_cons, E_nil]
   refine .block ?_
   refine .count (g.nodes).length (fun i st => (∀ j y, j < i → g.nodes[j]? = some y → inI y t.nodes.length = true) ∧ ∃ hh1, OutEq hh1 h ∧ st = ⟨E [(3, .dptr (Types.c t)), (5, .dptr (Graph.c g)), (25, sl (g.nodes.map I.c)), (26, int (g.nodes.length : Int)), (27, int i)], hh1⟩) 0 (Nat.zero_le _) _ (.cov (by first | (simp; done) | (simp; rfl) | (simp; exact ⟨rfl, rfl⟩)) (.refl _)) ⟨fun j y hj => absurd hj (by omega), _, by first | (simp; done) | (simp; assumption) | (simp [*]; done), rfl⟩ ?_
   rintro i s hi1 ⟨hp1, hh1, hho1, rfl⟩ K14 hK14
   refine .seqk fun K15 hK15 => ?_
   refine .reg ?_
   simp
   refine hK15 _ ?_
   clear hK15 K15
   refine .keep [3, 5, 25, 26, 27, 28] ?_
   simp only [keepE, E_cons, E_nil]
   refine .seqk fun K16 hK16 => ?_
   refine .condk _ rfl (fun hc3 => ?_) (fun hc3 => ?_)
   ·simp at hc3
    obtain ⟨x, hx1⟩ := get_some hc3
    refine .skip ?_
    refine hK16 _ ?_
    clear hK16 K16
    refine .seqk fun K17 hK17 => ?_
    refine .block ?_
    refine .seqk fun K18 hK18 => ?_
    refine .reg ?_
    simp [hx1]
    refine hK18 _ ?_
    clear hK18 K18
    refine .keep [3, 5, 10, 25, 26, 27] ?_
    simp only [keepE, E_cons, E_nil]
    refine .seqk fun K19 hK19 => ?_
    refine .reg ?_
    simp
    refine hK19 _ ?_
    clear hK19 K19
    refine .keep [3, 5, 25, 26, 27, 35] ?_
    simp only [keepE, E_cons, E_nil]
    refine .condk _ rfl (fun hc4 => ?_) (fun hc4 => ?_)
    ·simp at hc4
     refine .seqk fun K20 hK20 => ?_
     refine .reg ?_
     simp
     refine hK20 _ ?_
     clear hK20 K20
     refine .keep [6] ?_
     simp only [keepE, E_cons, E_nil]
     refine .ret ?_
     refine ret_z (.inr rfl) rfl rfl ?_
     have hna : g.nodes.all (fun n => inI n t.nodes.length) = false := by
      rw [Bool.eq_false_iff]; intro h
      have := List.all_eq_true.1 h x (List.mem_of_getElem? hx1)
      simp [inI] at this; omega
     simp [pricedE, hc1, hc2, typedB, hna]
    ·simp at hc4
     refine .skip ?_
     refine hK17 _ ?_
     clear hK17 K17
     refine .reg ?_
     simp
     refine hK14 _ _ (by omega) (Wk.cov ?_ (.refl _)) ⟨?_, _, ?_, rfl⟩
     ·simp; exact wrap64 (by omega) (by omega)
     ·intro j y hj hy
      by_cases hji : j = i
      ·subst hji; rw [hx1] at hy; cases hy; have := hg0 x (List.mem_of_getElem? hx1); simp [inI]; omega
      ·exact hp1 j y (by omega) hy
     ·first | assumption | (simp; done) | (simp; assumption) | (simp [hho1]; done)
   ·simp at hc3
    have hi1 : i = (g.nodes).length := by omega
    subst hi1
    have hna : g.nodes.all (fun n => inI n t.nodes.length) = true := List.all_eq_true.2 fun y hy => by
     obtain ⟨j, hj⟩ := List.getElem?_of_mem hy
     exact hp1 j y (List.getElem?_eq_some_iff.1 hj).1 hj
    refine .exit ?_
    try simp only [then', inBlk, if_true, if_false, reduceIte, Nat.reduceEqDiff]
    refine hK12 _ ?_
    clear hK16 hK14 hK12 K16 K14 K12
    refine .seqk fun K21 hK21 => ?_
    refine .seqk fun K22 hK22 => ?_
    refine .reg ?_
    simp
    refine hK22 _ ?_
    clear hK22 K22
    refine .keep [3, 38, 39, 40] ?_
    simp only [keepE, E_cons, E_nil]
    refine .block ?_
    refine .count (g.edges).length (fun i st => (∀ j y, j < i → g.edges[j]? = some y → inI y.ty t.edges.length = true) ∧ ∃ hh2, OutEq hh2 h ∧ st = ⟨E [(3, .dptr (Types.c t)), (38, sl (g.edges.map Edge.c)), (39, int (g.edges.length : Int)), (40, int i)], hh2⟩) 0 (Nat.zero_le _) _ (.cov (by first | (simp; done) | (simp; rfl) | (simp; exact ⟨rfl, rfl⟩)) (.refl _)) ⟨fun j y hj => absurd hj (by omega), _, by first | (simp; done) | (simp; assumption) | (simp [*]; done), rfl⟩ ?_
    rintro i s hi2 ⟨hp2, hh2, hho2, rfl⟩ K23 hK23
    refine .seqk fun K24 hK24 => ?_
    refine .reg ?_
    simp
    refine hK24 _ ?_
    clear hK24 K24
    refine .keep [3, 38, 39, 40, 41] ?_
    simp only [keepE, E_cons, E_nil]
    refine .seqk fun K25 hK25 => ?_
    refine .condk _ rfl (fun hc5 => ?_) (fun hc5 => ?_)
    ·simp at hc5
     obtain ⟨x, hx2⟩ := get_some hc5
     refine .skip ?_
     refine hK25 _ ?_
     clear hK25 K25
     refine .seqk fun K26 hK26 => ?_
     refine .block ?_
     refine .seqk fun K27 hK27 => ?_
     refine .reg ?_
     simp [hx2]
     refine hK27 _ ?_
     clear hK27 K27
     refine .keep [3, 12, 38, 39, 40] ?_
     simp only [keepE, E_cons, E_nil]
     refine .see (upd _ 12 ⟨_, none⟩) [(3, _), (12, .dptr (Edge.c x)), (38, _), (39, _), (40, _)] ⟨.refl _, T.box (k := 3) (cs := Edge.c x) (by simp [upd]) (by simp [upd]), .refl _, .refl _, .refl _, trivial⟩ (Dies.up (Dies.refl _) (.inr ⟨rfl, Nat.le_refl _⟩)) ?_
     try simp only [E_cons, E_nil]
     refine .seqk fun K28 hK28 => ?_
     refine .reg ?_
     simp
     refine hK28 _ ?_
     clear hK28 K28
     refine .keep [3, 38, 39, 40, 49] ?_
     simp only [keepE, E_cons, E_nil]
     refine .condk _ rfl (fun hc6 => ?_) (fun hc6 => ?_)
     ·simp at hc6
      refine .seqk fun K29 hK29 => ?_
      refine .reg ?_
      simp
      refine hK29 _ ?_
      clear hK29 K29
      refine .keep [6] ?_
      simp only [keepE, E_cons, E_nil]
      refine .ret ?_
      refine ret_z (.inr rfl) rfl rfl ?_
      have hea : g.edges.all (fun e => inI e.ty t.edges.length) = false := by
       rw [Bool.eq_false_iff]; intro h
       have := List.all_eq_true.1 h x (List.mem_of_getElem? hx2)
       simp [inI] at this; omega
      simp [pricedE, hc1, hc2, typedB, hna, hea]
     ·simp at hc6
      refine .skip ?_
      refine hK26 _ ?_
      clear hK26 K26
      refine .reg ?_
      simp
      refine hK23 _ _ (by omega) (Wk.cov ?_ (.refl _)) ⟨?_, _, ?_, rfl⟩
      ·simp; exact wrap64 (by omega) (by omega)
      ·intro j y hj hy
       by_cases hji : j = i
       ·subst hji; rw [hx2] at hy; cases hy; have := hg1 x (List.mem_of_getElem? hx2); simp [inI]; omega
       ·exact hp2 j y (by omega) hy
      ·first | assumption | (simp; done) | (simp; assumption) | (simp [hho2]; done)
    ·simp at hc5
     have hi2 : i = (g.edges).length := by omega
     subst hi2
     have hea : g.edges.all (fun e => inI e.ty t.edges.length) = true := List.all_eq_true.2 fun y hy => by
      obtain ⟨j, hj⟩ := List.getElem?_of_mem hy
      exact hp2 j y (List.getElem?_eq_some_iff.1 hj).1 hj
     refine .exit ?_
     try simp only [then', inBlk, if_true, if_false, reduceIte, Nat.reduceEqDiff]
     refine hK21 _ ?_
     clear hK25 hK23 hK21 K25 K23 K21
     refine .seqk fun K30 hK30 => ?_
     refine .reg ?_
     simp
     refine hK30 _ ?_
     clear hK30 K30
     refine .keep [6] ?_
     simp only [keepE, E_cons, E_nil]
     refine .ret ?_
     refine ret_z (.inr rfl) rfl rfl ?_
     simp [pricedE, hc1, hc2, typedB, hna, hea]
theorem p102 (t : Types) (g : Graph) (h1 : g.nodes.length ≤ 1000000) (h2 : g.edges.length ≤ 1000000) : PCall Tryz.prog 102 [ag (Types.c t), ag (Graph.c g)] (bo (typedB t g)) := by
 intro h
 refine ACall.of b102 (by simp) ?_
 unfold c102
 refine .seqk fun K1 hK1 => ?_
 refine .reg ?_
 simp
 refine hK1 _ ?_
 clear hK1 K1
 refine .keep [2, 3] ?_
 simp only [keepE, E_cons, E_nil]
 refine .see (upd (upd _ 2 ⟨_, none⟩) 3 ⟨_, none⟩) [(2, .dptr (Types.c t)), (3, .dptr (Graph.c g))] ⟨T.box (k := 2) (cs := Types.c t) (by simp [upd]) (by simp [upd]), T.box (k := 2) (cs := Graph.c g) (by simp [upd]) (by simp [upd]), trivial⟩ (Dies.up (Dies.up (Dies.refl _) (.inr ⟨rfl, Nat.le_refl _⟩)) (.inr ⟨rfl, Nat.le_refl _⟩)) ?_
 try simp only [E_cons, E_nil]
 refine .seqk fun K2 hK2 => ?_
 refine .seqk fun K3 hK3 => ?_
 refine .reg ?_
 simp
 refine hK3 _ ?_
 clear hK3 K3
 refine .keep [2, 3, 5] ?_
 simp only [keepE, E_cons, E_nil]
 refine .block ?_
 refine .count (g.nodes).length (fun i st => (∀ j y, j < i → g.nodes[j]? = some y → inI y t.nodes.length = true) ∧ ∃ hh1, OutEq hh1 h ∧ st = ⟨E [(2, .dptr (Types.c t)), (3, .dptr (Graph.c g)), (5, int i)], hh1⟩) 0 (Nat.zero_le _) _ (.cov (by first | (simp; done) | (simp; rfl) | (simp; exact ⟨rfl, rfl⟩)) (.refl _)) ⟨fun j y hj => absurd hj (by omega), _, by first | (simp; done) | (simp; assumption) | (simp [*]; done), rfl⟩ ?_
 rintro i s hi1 ⟨hp1, hh1, hho1, rfl⟩ K4 hK4
 refine .seqk fun K5 hK5 => ?_
 refine .seqk fun K6 hK6 => ?_
 refine .reg ?_
 simp
 refine hK6 _ ?_
 clear hK6 K6
 refine .keep [2, 3, 5, 11] ?_
 simp only [keepE, E_cons, E_nil]
 refine .condk _ rfl (fun hc1 => ?_) (fun hc1 => ?_)
 ·simp at hc1
  obtain ⟨x, hx1⟩ := get_some hc1
  refine .skip ?_
  refine hK5 _ ?_
  clear hK5 K5
  refine .seqk fun K7 hK7 => ?_
  refine .block ?_
  refine .seqdreg mixed (fun hh => hh) (fun ee => [(2, ee 2), (3, ee 3), (5, ee 5), (30, bo (!inI x t.nodes.length))]) ?_ ?_
  ·by_cases h0 : x < 0 <;> by_cases h1 : (t.nodes.length : Int) ≤ x <;> simp [h0, h1, inI_not, hx1, -Bool.exists_bool]
  try simp only [E_cons, E_nil]
  refine .condk _ rfl (fun hc2 => ?_) (fun hc2 => ?_)
  ·simp at hc2
   refine .seqk fun K8 hK8 => ?_
   refine .reg ?_
   simp
   refine hK8 _ ?_
   clear hK8 K8
   refine .keep [4] ?_
   simp only [keepE, E_cons, E_nil]
   refine .ret ?_
   refine ret_z (.inr rfl) rfl rfl ?_
   have hna : g.nodes.all (fun n => inI n t.nodes.length) = false := by
    rw [Bool.eq_false_iff]; intro h
    have := List.all_eq_true.1 h x (List.mem_of_getElem? hx1)
    simp [hc2] at this
   simp [typedB, hna]
  ·simp at hc2
   refine .skip ?_
   refine hK7 _ ?_
   clear hK7 K7
   refine .reg ?_
   simp
   refine hK4 _ _ (by omega) (Wk.cov ?_ (.refl _)) ⟨?_, _, ?_, rfl⟩
   ·simp; exact wrap64 (by omega) (by omega)
   ·intro j y hj hy
    by_cases hji : j = i
    ·subst hji; rw [hx1] at hy; cases hy; simpa using hc2
    ·exact hp1 j y (by omega) hy
   ·first | assumption | (simp; done) | (simp; assumption) | (simp [hho1]; done)
 ·simp at hc1
  have hi1 : i = (g.nodes).length := by omega
  subst hi1
  have hna : g.nodes.all (fun n => inI n t.nodes.length) = true := List.all_eq_true.2 fun y hy => by
   obtain ⟨j, hj⟩ := List.getElem?_of_mem hy
   exact hp1 j y (List.getElem?_eq_some_iff.1 hj).1 hj
  refine .exit ?_
  try simp only [then', inBlk, if_true, if_false, reduceIte, Nat.reduceEqDiff]
  refine hK2 _ ?_
  clear hK5 hK4 hK2 K5 K4 K2
  refine .seqk fun K9 hK9 => ?_
  refine .seqk fun K10 hK10 => ?_
  refine .reg ?_
  simp
  refine hK10 _ ?_
  clear hK10 K10
  refine .keep [2, 3, 6] ?_
  simp only [keepE, E_cons, E_nil]
  refine .block ?_
  refine .count (g.edges).length (fun i st => (∀ j y, j < i → g.edges[j]? = some y → inI y.ty t.edges.length = true) ∧ ∃ hh2, OutEq hh2 h ∧ st = ⟨E [(2, .dptr (Types.c t)), (3, .dptr (Graph.c g)), (6, int i)], hh2⟩) 0 (Nat.zero_le _) _ (.cov (by first | (simp; done) | (simp; rfl) | (simp; exact ⟨rfl, rfl⟩)) (.refl _)) ⟨fun j y hj => absurd hj (by omega), _, by first | (simp; done) | (simp; assumption) | (simp [*]; done), rfl⟩ ?_
  rintro i s hi2 ⟨hp2, hh2, hho2, rfl⟩ K11 hK11
  refine .seqk fun K12 hK12 => ?_
  refine .seqk fun K13 hK13 => ?_
  refine .reg ?_
  simp
  refine hK13 _ ?_
  clear hK13 K13
  refine .keep [2, 3, 6, 35] ?_
  simp only [keepE, E_cons, E_nil]
  refine .condk _ rfl (fun hc3 => ?_) (fun hc3 => ?_)
  ·simp at hc3
   obtain ⟨x, hx2⟩ := get_some hc3
   refine .skip ?_
   refine hK12 _ ?_
   clear hK12 K12
   refine .seqk fun K14 hK14 => ?_
   refine .block ?_
   refine .seqdreg mixed (fun hh => hh) (fun ee => [(2, ee 2), (3, ee 3), (6, ee 6), (56, bo (!inI x.ty t.edges.length))]) ?_ ?_
   ·by_cases h0 : x.ty < 0 <;> by_cases h1 : (t.edges.length : Int) ≤ x.ty <;> simp [h0, h1, inI_not, hx2, -Bool.exists_bool]
   try simp only [E_cons, E_nil]
   refine .condk _ rfl (fun hc4 => ?_) (fun hc4 => ?_)
   ·simp at hc4
    refine .seqk fun K15 hK15 => ?_
    refine .reg ?_
    simp
    refine hK15 _ ?_
    clear hK15 K15
    refine .keep [4] ?_
    simp only [keepE, E_cons, E_nil]
    refine .ret ?_
    refine ret_z (.inr rfl) rfl rfl ?_
    have hea : g.edges.all (fun e => inI e.ty t.edges.length) = false := by
     rw [Bool.eq_false_iff]; intro h
     have := List.all_eq_true.1 h x (List.mem_of_getElem? hx2)
     simp [hc4] at this
    simp [typedB, hna, hea]
   ·simp at hc4
    refine .skip ?_
    refine hK14 _ ?_
    clear hK14 K14
    refine .reg ?_
    simp
    refine hK11 _ _ (by omega) (Wk.cov ?_ (.refl _)) ⟨?_, _, ?_, rfl⟩
    ·simp; exact wrap64 (by omega) (by omega)
    ·intro j y hj hy
     by_cases hji : j = i
     ·subst hji; rw [hx2] at hy; cases hy; simpa using hc4
     ·exact hp2 j y (by omega) hy
    ·first | assumption | (simp; done) | (simp; assumption) | (simp [hho2]; done)
  ·simp at hc3
   have hi2 : i = (g.edges).length := by omega
   subst hi2
   have hea : g.edges.all (fun e => inI e.ty t.edges.length) = true := List.all_eq_true.2 fun y hy => by
    obtain ⟨j, hj⟩ := List.getElem?_of_mem hy
    exact hp2 j y (List.getElem?_eq_some_iff.1 hj).1 hj
   refine .exit ?_
   try simp only [then', inBlk, if_true, if_false, reduceIte, Nat.reduceEqDiff]
   refine hK9 _ ?_
   clear hK12 hK11 hK9 K12 K11 K9
   refine .seqk fun K16 hK16 => ?_
   refine .reg ?_
   simp
   refine hK16 _ ?_
   clear hK16 K16
   refine .keep [4] ?_
   simp only [keepE, E_cons, E_nil]
   refine .ret ?_
   refine ret_z (.inr rfl) rfl rfl ?_
   simp [typedB, hna, hea]
theorem p112 (t : Types) (ht : tOK t) (s : Stat) (hn : s.nodes.length ≤ 1000) (he : s.edges.length ≤ 1000) (g : Graph) : PCall Tryz.prog 112 [ag (Types.c t), ag (Stat.c s), ag (Graph.c g)] (int (pricedE t s g)) := by
 intro h
 refine ACall.of b112 (by simp) ?_
 unfold c112
 refine .seqk fun K1 hK1 => ?_
 refine .reg ?_
 simp
 refine hK1 _ ?_
 clear hK1 K1
 refine .keep [3, 4, 5] ?_
 simp only [keepE, E_cons, E_nil]
 refine .see (upd (upd (upd _ 3 ⟨_, none⟩) 4 ⟨_, none⟩) 5 ⟨_, none⟩) [(3, .dptr (Types.c t)), (4, .dptr (Stat.c s)), (5, .dptr (Graph.c g))] ⟨T.box (k := 2) (cs := Types.c t) (by simp [upd]) (by simp [upd]), T.box (k := 2) (cs := Stat.c s) (by simp [upd]) (by simp [upd]), T.box (k := 2) (cs := Graph.c g) (by simp [upd]) (by simp [upd]), trivial⟩ (Dies.up (Dies.up (Dies.up (Dies.refl _) (.inr ⟨rfl, Nat.le_refl _⟩)) (.inr ⟨rfl, Nat.le_refl _⟩)) (.inr ⟨rfl, Nat.le_refl _⟩)) ?_
 try simp only [E_cons, E_nil]
 refine .seqk fun K2 hK2 => ?_
 refine .seqk fun K3 hK3 => ?_
 refine .reg ?_
 refine Sq.cutk 3 fun K4 hK4 => ?_
 simp only [zt]
 simp
 refine PCall.sq (p167 t ht s hn he) fun h1 he1 => ?_
 simp only [mergeH_eq he1]
 clear he1 h1
 refine hK4 _ ?_
 clear hK4 K4
 simp
 refine hK3 _ ?_
 clear hK3 K3
 refine .keep [3, 5, 7] ?_
 simp only [keepE, E_cons, E_nil]
 refine .seqk fun K5 hK5 => ?_
 refine .reg ?_
 simp
 refine hK5 _ ?_
 clear hK5 K5
 refine .keep [3, 5, 7, 13] ?_
 simp only [keepE, E_cons, E_nil]
 refine .condk _ rfl (fun hc1 => ?_) (fun hc1 => ?_)
 ·simp at hc1
  refine .seqk fun K6 hK6 => ?_
  refine .reg ?_
  simp
  refine hK6 _ ?_
  clear hK6 K6
  refine .keep [6] ?_
  simp only [keepE, E_cons, E_nil]
  refine .ret ?_
  refine ret_z (.inr rfl) rfl rfl ?_
  simp [pricedE, hc1]
 ·simp at hc1
  refine .skip ?_
  refine hK2 _ ?_
  clear hK2 K2
  refine .seqk fun K7 hK7 => ?_
  refine .seqk fun K8 hK8 => ?_
  refine .reg ?_
  refine Sq.cutk 2 fun K9 hK9 => ?_
  simp only [zt]
  simp
  refine PCall.sq (p97 g) fun h1 he1 => ?_
  simp only [mergeH_eq he1]
  clear he1 h1
  refine hK9 _ ?_
  clear hK9 K9
  simp
  refine hK8 _ ?_
  clear hK8 K8
  refine .keep [3, 5, 8] ?_
  simp only [keepE, E_cons, E_nil]
  refine .seqk fun K10 hK10 => ?_
  refine .reg ?_
  simp
  refine hK10 _ ?_
  clear hK10 K10
  refine .keep [3, 5, 8, 18] ?_
  simp only [keepE, E_cons, E_nil]
  refine .condk _ rfl (fun hc2 => ?_) (fun hc2 => ?_)
  ·simp at hc2
   refine .seqk fun K11 hK11 => ?_
   refine .reg ?_
   simp
   refine hK11 _ ?_
   clear hK11 K11
   refine .keep [6] ?_
   simp only [keepE, E_cons, E_nil]
   refine .ret ?_
   refine ret_z (.inr rfl) rfl rfl ?_
   simp [pricedE, hc1, hc2]
  ·simp at hc2
   have hgl := gErr_len hc2
   refine .skip ?_
   refine hK7 _ ?_
   clear hK7 K7
   refine .seqk fun K12 hK12 => ?_
   refine .seqk fun K13 hK13 => ?_
   refine .reg ?_
   refine Sq.cutk 3 fun K14 hK14 => ?_
   simp only [zt]
   simp
   refine PCall.sq (p102 t g (by omega) (by omega)) fun h1 he1 => ?_
   simp only [mergeH_eq he1]
   clear he1 h1
   refine hK14 _ ?_
   clear hK14 K14
   simp
   refine hK13 _ ?_
   clear hK13 K13
   refine .keep [23] ?_
   simp only [keepE, E_cons, E_nil]
   refine .condk _ rfl (fun hc3 => ?_) (fun hc3 => ?_)
   ·simp at hc3
    refine .seqk fun K15 hK15 => ?_
    refine .reg ?_
    simp
    refine hK15 _ ?_
    clear hK15 K15
    refine .keep [6] ?_
    simp only [keepE, E_cons, E_nil]
    refine .ret ?_
    refine ret_z (.inr rfl) rfl rfl ?_
    simp [pricedE, hc1, hc2, hc3]
   ·simp at hc3
    refine .skip ?_
    refine hK12 _ ?_
    clear hK12 K12
    refine .seqk fun K16 hK16 => ?_
    refine .reg ?_
    simp
    refine hK16 _ ?_
    clear hK16 K16
    refine .keep [6] ?_
    simp only [keepE, E_cons, E_nil]
    refine .ret ?_
    refine ret_z (.inr rfl) rfl rfl ?_
    simp [pricedE, hc1, hc2, hc3]
theorem p136 (t : Types) (ht : tOK t) (s : Stat) (hn : s.nodes.length ≤ 1000) (he : s.edges.length ≤ 1000) (k : Int) : PCall Tryz.prog 136 [ag (Types.c t), ag (Stat.c s), int k] (.tup [int (nodesN t s k).1, int (nodesN t s k).2]) := by
 intro h
 refine ACall.of b136 (by simp) ?_
 unfold c136
 refine .seqk fun K1 hK1 => ?_
 refine .reg ?_
 simp
 refine hK1 _ ?_
 clear hK1 K1
 refine .keep [2, 3, 4] ?_
 simp only [keepE, E_cons, E_nil]
 refine .see (upd (upd _ 3 ⟨_, none⟩) 4 ⟨_, none⟩) [(2, _), (3, .dptr (Types.c t)), (4, .dptr (Stat.c s))] ⟨.refl _, T.box (k := 2) (cs := Types.c t) (by simp [upd]) (by simp [upd]), T.box (k := 2) (cs := Stat.c s) (by simp [upd]) (by simp [upd]), trivial⟩ (Dies.up (Dies.up (Dies.refl _) (.inr ⟨rfl, Nat.le_refl _⟩)) (.inr ⟨rfl, Nat.le_refl _⟩)) ?_
 try simp only [E_cons, E_nil]
 refine .seqk fun K2 hK2 => ?_
 refine .seqk fun K3 hK3 => ?_
 refine .reg ?_
 refine Sq.cutk 3 fun K4 hK4 => ?_
 simp only [zt]
 simp
 refine PCall.sq (p133 t ht s hn he) fun h1 he1 => ?_
 simp only [mergeH_eq he1]
 clear he1 h1
 refine hK4 _ ?_
 clear hK4 K4
 simp
 refine hK3 _ ?_
 clear hK3 K3
 refine .keep [2, 3, 4, 8] ?_
 simp only [keepE, E_cons, E_nil]
 refine .seqk fun K5 hK5 => ?_
 refine .reg ?_
 simp
 refine hK5 _ ?_
 clear hK5 K5
 refine .keep [2, 3, 4, 8, 16] ?_
 simp only [keepE, E_cons, E_nil]
 refine .condk _ rfl (fun hc1 => ?_) (fun hc1 => ?_)
 ·simp at hc1
  refine .seqk fun K6 hK6 => ?_
  refine .reg ?_
  simp
  refine hK6 _ ?_
  clear hK6 K6
  refine .keep [6, 7] ?_
  simp only [keepE, E_cons, E_nil]
  refine .ret ?_
  refine ret_z (.inr rfl) rfl rfl ?_
  simp [nodesN, hc1]
 ·simp at hc1
  have hsv := statV_ok (show statV t s = 0 by simpa using hc1)
  have hnn : ∀ c ∈ s.nodes, 1 ≤ c.num := fun c hc => (badN_sm ht (hsv.nb c hc)).2.1.1
  have hen : ∀ c ∈ s.edges, 1 ≤ c.num := fun c hc => (badE_sm ht (hsv.eb c hc)).2.1
  have hn4 := hsv.n4
  have he8 := hsv.e8
  refine .skip ?_
  refine hK2 _ ?_
  clear hK2 K2
  refine .seqk fun K7 hK7 => ?_
  refine .seqk fun K8 hK8 => ?_
  refine .reg ?_
  refine Sq.cutk 5 fun K9 hK9 => ?_
  simp only [zt]
  simp
  refine PCall.sq (p183 k t.nodes.length) fun h1 he1 => ?_
  simp only [mergeH_eq he1]
  clear he1 h1
  refine hK9 _ ?_
  clear hK9 K9
  simp
  refine hK8 _ ?_
  clear hK8 K8
  refine .keep [2, 3, 4, 23] ?_
  simp only [keepE, E_cons, E_nil]
  refine .condk _ rfl (fun hc2 => ?_) (fun hc2 => ?_)
  ·simp at hc2
   refine .seqk fun K10 hK10 => ?_
   refine .reg ?_
   simp
   refine hK10 _ ?_
   clear hK10 K10
   refine .keep [6, 7] ?_
   simp only [keepE, E_cons, E_nil]
   refine .ret ?_
   refine ret_z (.inr rfl) rfl rfl ?_
   simp [nodesN, hc1, hc2]
  ·simp at hc2
   refine .skip ?_
   refine hK7 _ ?_
   clear hK7 K7
   refine .seqk fun K11 hK11 => ?_
   refine .reg ?_
   simp
   refine hK11 _ ?_
   clear hK11 K11
   refine .keep [2, 3, 4, 9] ?_
   simp only [keepE, E_cons, E_nil]
   refine .seqk fun K12 hK12 => ?_
   refine .seqk fun K13 hK13 => ?_
   refine .reg ?_
   simp
   refine hK13 _ ?_
   clear hK13 K13
   refine .keep [2, 3, 9, 25, 26, 27] ?_
   simp only [keepE, E_cons, E_nil]
   refine .block ?_
   refine .count (s.nodes).length (fun i st => (True) ∧ ∃ hh1, OutEq hh1 h ∧ st = ⟨E [(2, int k), (3, .dptr (Types.c t)), (9, int (totC ((s.nodes.take i).filter fun c => isT t c.ty k))), (25, sl (s.nodes.map Count.c)), (26, int (s.nodes.length : Int)), (27, int i)], hh1⟩) 0 (Nat.zero_le _) _ (.cov (by simp [totC]) (.refl _)) ⟨by simp, _, by first | (simp; done) | (simp; assumption) | (simp [*]; done), rfl⟩ ?_
   rintro i s hi1 ⟨hp1, hh1, hho1, rfl⟩ K14 hK14
   refine .seqk fun K15 hK15 => ?_
   refine .reg ?_
   simp
   refine hK15 _ ?_
   clear hK15 K15
   refine .keep [2, 3, 9, 25, 26, 27, 28] ?_
   simp only [keepE, E_cons, E_nil]
   refine .seqk fun K16 hK16 => ?_
   refine .condk _ rfl (fun hc3 => ?_) (fun hc3 => ?_)
   ·simp at hc3
    obtain ⟨x, hx1⟩ := get_some hc3
    have hb := totC_pf (fun c => isT t c.ty k) hnn i
    have hxb := (badN_sm ht (hsv.nb x (List.mem_of_getElem? hx1))).2.1
    have hts := totC_fs (fun c => isT t c.ty k) hx1
    refine .skip ?_
    refine hK16 _ ?_
    clear hK16 K16
    refine .seqk fun K17 hK17 => ?_
    refine .block ?_
    refine .seqk fun K18 hK18 => ?_
    refine .reg ?_
    simp [hx1]
    refine hK18 _ ?_
    clear hK18 K18
    refine .keep [2, 3, 9, 11, 25, 26, 27] ?_
    simp only [keepE, E_cons, E_nil]
    refine .see (upd _ 11 ⟨_, none⟩) [(2, _), (3, _), (9, _), (11, .dptr (Count.c x)), (25, _), (26, _), (27, _)] ⟨.refl _, .refl _, .refl _, T.box (k := 4) (cs := Count.c x) (by simp [upd]) (by simp [upd]), .refl _, .refl _, .refl _, trivial⟩ (Dies.up (Dies.refl _) (.inr ⟨rfl, Nat.le_refl _⟩)) ?_
    try simp only [E_cons, E_nil]
    refine .seqk fun K19 hK19 => ?_
    refine .reg ?_
    simp
    refine PCall.sq (p189 t ht x.ty k) fun h1 he1 => ?_
    simp only [mergeH_eq he1]
    clear he1 h1
    try simp
    refine hK19 _ ?_
    clear hK19 K19
    refine .keep [2, 3, 9, 11, 25, 26, 27, 35] ?_
    simp only [keepE, E_cons, E_nil]
    refine .condk _ rfl (fun hc4 => ?_) (fun hc4 => ?_)
    ·skip
     refine .reg ?_
     simp
     refine hK17 _ ?_
     clear hK17 K17
     refine .keep [2, 3, 9, 25, 26, 27] ?_
     simp only [keepE, E_cons, E_nil]
     refine .reg ?_
     simp
     refine hK14 _ _ (by omega) (Wk.cov ?_ (.refl _)) ⟨trivial, _, ?_, rfl⟩
     ·simp [hts, hc4]; exact ⟨wrap64 (by omega) (by omega), wrap64 (by omega) (by omega)⟩
     ·first | assumption | simp [hho1]
    ·skip
     refine .skip ?_
     refine hK17 _ ?_
     clear hK17 K17
     refine .reg ?_
     simp
     refine hK14 _ _ (by omega) (Wk.cov ?_ (.refl _)) ⟨trivial, _, ?_, rfl⟩
     ·simp [hts, hc4]; exact wrap64 (by omega) (by omega)
     ·first | assumption | simp [hho1]
   ·simp at hc3
    have hi1 : i = (s.nodes).length := by omega
    subst hi1
    refine .exit ?_
    try simp only [then', inBlk, if_true, if_false, reduceIte, Nat.reduceEqDiff]
    refine hK12 _ ?_
    clear hK16 hK14 hK12 K16 K14 K12
    refine .seqk fun K20 hK20 => ?_
    refine .reg ?_
    simp
    refine hK20 _ ?_
    clear hK20 K20
    refine .keep [6, 7] ?_
    simp only [keepE, E_cons, E_nil]
    refine .ret ?_
    refine ret_z (.inr rfl) rfl rfl ?_
    simp [nodesN, hc1, hc2, cntN]
theorem p219 (t : Types) (ht : tOK t) (s : Stat) (hn : s.nodes.length ≤ 1000) (he : s.edges.length ≤ 1000) (k : Int) : PCall Tryz.prog 219 [ag (Types.c t), ag (Stat.c s), int k] (.tup [int (nodesN t s k).1, int (nodesN t s k).2]) := by
 intro h
 refine ACall.of b219 (by simp) ?_
 unfold c219
 refine .seqk fun K1 hK1 => ?_
 refine .reg ?_
 simp
 refine hK1 _ ?_
 clear hK1 K1
 refine .keep [2, 3, 4] ?_
 simp only [keepE, E_cons, E_nil]
 refine .see (upd (upd _ 3 ⟨_, none⟩) 4 ⟨_, none⟩) [(2, _), (3, .dptr (Types.c t)), (4, .dptr (Stat.c s))] ⟨.refl _, T.box (k := 2) (cs := Types.c t) (by simp [upd]) (by simp [upd]), T.box (k := 2) (cs := Stat.c s) (by simp [upd]) (by simp [upd]), trivial⟩ (Dies.up (Dies.up (Dies.refl _) (.inr ⟨rfl, Nat.le_refl _⟩)) (.inr ⟨rfl, Nat.le_refl _⟩)) ?_
 try simp only [E_cons, E_nil]
 refine .seqk fun K2 hK2 => ?_
 refine .seqk fun K3 hK3 => ?_
 refine .reg ?_
 refine Sq.cutk 3 fun K4 hK4 => ?_
 simp only [zt]
 simp
 refine PCall.sq (p167 t ht s hn he) fun h1 he1 => ?_
 simp only [mergeH_eq he1]
 clear he1 h1
 refine hK4 _ ?_
 clear hK4 K4
 simp
 refine hK3 _ ?_
 clear hK3 K3
 refine .keep [2, 3, 4, 8] ?_
 simp only [keepE, E_cons, E_nil]
 refine .seqk fun K5 hK5 => ?_
 refine .reg ?_
 simp
 refine hK5 _ ?_
 clear hK5 K5
 refine .keep [2, 3, 4, 8, 15] ?_
 simp only [keepE, E_cons, E_nil]
 refine .condk _ rfl (fun hc1 => ?_) (fun hc1 => ?_)
 ·simp at hc1
  refine .seqk fun K6 hK6 => ?_
  refine .reg ?_
  simp
  refine hK6 _ ?_
  clear hK6 K6
  refine .keep [6, 7] ?_
  simp only [keepE, E_cons, E_nil]
  refine .ret ?_
  refine ret_z (.inr rfl) rfl rfl ?_
  simp [nodesN, hc1]
 ·simp at hc1
  have hsv := statV_ok (show statV t s = 0 by simpa using hc1)
  have hnn : ∀ c ∈ s.nodes, 1 ≤ c.num := fun c hc => (badN_sm ht (hsv.nb c hc)).2.1.1
  have hen : ∀ c ∈ s.edges, 1 ≤ c.num := fun c hc => (badE_sm ht (hsv.eb c hc)).2.1
  have hn4 := hsv.n4
  have he8 := hsv.e8
  refine .skip ?_
  refine hK2 _ ?_
  clear hK2 K2
  refine .seqk fun K7 hK7 => ?_
  refine .seqk fun K8 hK8 => ?_
  refine .reg ?_
  refine Sq.cutk 5 fun K9 hK9 => ?_
  simp only [zt]
  simp
  refine PCall.sq (p216 k t.nodes.length) fun h1 he1 => ?_
  simp only [mergeH_eq he1]
  clear he1 h1
  refine hK9 _ ?_
  clear hK9 K9
  simp
  refine hK8 _ ?_
  clear hK8 K8
  refine .keep [2, 3, 4, 22] ?_
  simp only [keepE, E_cons, E_nil]
  refine .condk _ rfl (fun hc2 => ?_) (fun hc2 => ?_)
  ·simp at hc2
   refine .seqk fun K10 hK10 => ?_
   refine .reg ?_
   simp
   refine hK10 _ ?_
   clear hK10 K10
   refine .keep [6, 7] ?_
   simp only [keepE, E_cons, E_nil]
   refine .ret ?_
   refine ret_z (.inr rfl) rfl rfl ?_
   simp [nodesN, hc1, hc2]
  ·simp at hc2
   refine .skip ?_
   refine hK7 _ ?_
   clear hK7 K7
   refine .seqk fun K11 hK11 => ?_
   refine .reg ?_
   simp
   refine hK11 _ ?_
   clear hK11 K11
   refine .keep [2, 3, 4, 9] ?_
   simp only [keepE, E_cons, E_nil]
   refine .seqk fun K12 hK12 => ?_
   refine .seqk fun K13 hK13 => ?_
   refine .reg ?_
   simp
   refine hK13 _ ?_
   clear hK13 K13
   refine .keep [2, 3, 4, 9, 10] ?_
   simp only [keepE, E_cons, E_nil]
   refine .block ?_
   refine .count (s.nodes).length (fun i st => (True) ∧ ∃ hh1, OutEq hh1 h ∧ st = ⟨E [(2, int k), (3, .dptr (Types.c t)), (4, .dptr (Stat.c s)), (9, int (totC ((s.nodes.take i).filter fun c => isT t c.ty k))), (10, int i)], hh1⟩) 0 (Nat.zero_le _) _ (.cov (by simp [totC]) (.refl _)) ⟨by simp, _, by first | (simp; done) | (simp; assumption) | (simp [*]; done), rfl⟩ ?_
   rintro i s hi1 ⟨hp1, hh1, hho1, rfl⟩ K14 hK14
   refine .seqk fun K15 hK15 => ?_
   refine .seqk fun K16 hK16 => ?_
   refine .reg ?_
   simp
   refine hK16 _ ?_
   clear hK16 K16
   refine .keep [2, 3, 4, 9, 10, 27] ?_
   simp only [keepE, E_cons, E_nil]
   refine .condk _ rfl (fun hc3 => ?_) (fun hc3 => ?_)
   ·simp at hc3
    obtain ⟨x, hx1⟩ := get_some hc3
    have hb := totC_pf (fun c => isT t c.ty k) hnn i
    have hxb := (badN_sm ht (hsv.nb x (List.mem_of_getElem? hx1))).2.1
    have hts := totC_fs (fun c => isT t c.ty k) hx1
    refine .skip ?_
    refine hK15 _ ?_
    clear hK15 K15
    refine .seqk fun K17 hK17 => ?_
    refine .block ?_
    refine .seqk fun K18 hK18 => ?_
    refine .dreg mixed ?_
    simp [-Bool.exists_bool, hx1]
    refine Dr.pcall (p245 t ht x.ty k) ?_
    try simp [-Bool.exists_bool, hx1]
    refine hK18 _ ?_
    clear hK18 K18
    refine .keep [2, 3, 4, 9, 10, 38] ?_
    simp only [keepE, E_cons, E_nil]
    refine .condk _ rfl (fun hc4 => ?_) (fun hc4 => ?_)
    ·skip
     refine .reg ?_
     simp [hx1]
     refine hK17 _ ?_
     clear hK17 K17
     refine .keep [2, 3, 4, 9, 10] ?_
     simp only [keepE, E_cons, E_nil]
     refine .reg ?_
     simp
     refine hK14 _ _ (by omega) (Wk.cov ?_ (.refl _)) ⟨trivial, _, ?_, rfl⟩
     ·simp [hts, hc4]; exact ⟨wrap64 (by omega) (by omega), wrap64 (by omega) (by omega)⟩
     ·first | assumption | simp [hho1]
    ·skip
     refine .skip ?_
     refine hK17 _ ?_
     clear hK17 K17
     refine .reg ?_
     simp
     refine hK14 _ _ (by omega) (Wk.cov ?_ (.refl _)) ⟨trivial, _, ?_, rfl⟩
     ·simp [hts, hc4]; exact wrap64 (by omega) (by omega)
     ·first | assumption | simp [hho1]
   ·simp at hc3
    have hi1 : i = (s.nodes).length := by omega
    subst hi1
    refine .exit ?_
    try simp only [then', inBlk, if_true, if_false, reduceIte, Nat.reduceEqDiff]
    refine hK12 _ ?_
    clear hK15 hK14 hK12 K15 K14 K12
    refine .seqk fun K19 hK19 => ?_
    refine .reg ?_
    simp
    refine hK19 _ ?_
    clear hK19 K19
    refine .keep [6, 7] ?_
    simp only [keepE, E_cons, E_nil]
    refine .ret ?_
    refine ret_z (.inr rfl) rfl rfl ?_
    simp [nodesN, hc1, hc2, cntN]
set_option maxHeartbeats 1000000 in
theorem p137 (t : Types) (ht : tOK t) (s : Stat) (hn : s.nodes.length ≤ 1000) (he : s.edges.length ≤ 1000) (e a b : Int) : PCall Tryz.prog 137 [ag (Types.c t), ag (Stat.c s), int e, int a, int b] (.tup [int (edgesN t s e a b).1, int (edgesN t s e a b).2]) := by
 intro h
 refine ACall.of b137 (by simp) ?_
 unfold c137
 refine .seqk fun K1 hK1 => ?_
 refine .reg ?_
 simp
 refine hK1 _ ?_
 clear hK1 K1
 refine .keep [2, 3, 4, 5, 6] ?_
 simp only [keepE, E_cons, E_nil]
 refine .see (upd (upd _ 5 ⟨_, none⟩) 6 ⟨_, none⟩) [(2, _), (3, _), (4, _), (5, .dptr (Types.c t)), (6, .dptr (Stat.c s))] ⟨.refl _, .refl _, .refl _, T.box (k := 2) (cs := Types.c t) (by simp [upd]) (by simp [upd]), T.box (k := 2) (cs := Stat.c s) (by simp [upd]) (by simp [upd]), trivial⟩ (Dies.up (Dies.up (Dies.refl _) (.inr ⟨rfl, Nat.le_refl _⟩)) (.inr ⟨rfl, Nat.le_refl _⟩)) ?_
 try simp only [E_cons, E_nil]
 refine .seqk fun K2 hK2 => ?_
 refine .seqk fun K3 hK3 => ?_
 refine .reg ?_
 refine Sq.cutk 3 fun K4 hK4 => ?_
 simp only [zt]
 simp
 refine PCall.sq (p133 t ht s hn he) fun h1 he1 => ?_
 simp only [mergeH_eq he1]
 clear he1 h1
 refine hK4 _ ?_
 clear hK4 K4
 simp
 refine hK3 _ ?_
 clear hK3 K3
 refine .keep [2, 3, 4, 5, 6, 12] ?_
 simp only [keepE, E_cons, E_nil]
 refine .seqk fun K5 hK5 => ?_
 refine .reg ?_
 simp
 refine hK5 _ ?_
 clear hK5 K5
 refine .keep [2, 3, 4, 5, 6, 12, 20] ?_
 simp only [keepE, E_cons, E_nil]
 refine .condk _ rfl (fun hc1 => ?_) (fun hc1 => ?_)
 ·simp at hc1
  refine .seqk fun K6 hK6 => ?_
  refine .reg ?_
  simp
  refine hK6 _ ?_
  clear hK6 K6
  refine .keep [10, 11] ?_
  simp only [keepE, E_cons, E_nil]
  refine .ret ?_
  refine ret_z (.inr rfl) rfl rfl ?_
  simp [edgesN, hc1]
 ·simp at hc1
  have hsv := statV_ok (show statV t s = 0 by simpa using hc1)
  have hnn : ∀ c ∈ s.nodes, 1 ≤ c.num := fun c hc => (badN_sm ht (hsv.nb c hc)).2.1.1
  have hen : ∀ c ∈ s.edges, 1 ≤ c.num := fun c hc => (badE_sm ht (hsv.eb c hc)).2.1
  have hn4 := hsv.n4
  have he8 := hsv.e8
  refine .skip ?_
  refine hK2 _ ?_
  clear hK2 K2
  refine .seqk fun K7 hK7 => ?_
  refine .seqreg (fun hh => hh) (fun ee => [(2, ee 2), (3, ee 3), (4, ee 4), (5, ee 5), (6, ee 6), (43, bo (!(inI e t.edges.length && inI a t.nodes.length && inI b t.nodes.length)))]) ?_ ?_
  ·refine Sq.cutk 5 fun KC1 hKC1 => ?_
   simp only [zt]
   simp [true_and]
   refine PCall.sq (p183 e t.edges.length) fun _ he1 => ?_
   simp only [mergeH_eq he1]
   refine hKC1 _ ?_
   by_cases h1 : inI e t.edges.length = true
   rotate_left
   ·simp [h1, true_and]
   refine Sq.cutk 7 fun KC2 hKC2 => ?_
   simp only [zt]
   simp [h1, true_and]
   refine PCall.sq (p183 a t.nodes.length) fun _ he2 => ?_
   simp only [mergeH_eq he2]
   refine hKC2 _ ?_
   by_cases h2 : inI a t.nodes.length = true
   rotate_left
   ·simp [h1, h2, true_and]
   refine Sq.cutk 8 fun KC3 hKC3 => ?_
   simp only [zt]
   simp [h1, h2, true_and]
   refine PCall.sq (p183 b t.nodes.length) fun _ he3 => ?_
   simp only [mergeH_eq he3]
   refine hKC3 _ ?_
   simp [h1, h2, true_and]
  try simp only [E_cons, E_nil]
  refine .condk _ rfl (fun hc2 => ?_) (fun hc2 => ?_)
  ·skip
   refine .seqk fun K8 hK8 => ?_
   refine .reg ?_
   simp
   refine hK8 _ ?_
   clear hK8 K8
   refine .keep [10, 11] ?_
   simp only [keepE, E_cons, E_nil]
   refine .ret ?_
   refine ret_z (.inr rfl) rfl rfl ?_
   have e : edgesN t s e a b = (0, 6) := by
    simp only [edgesN]
    rw [if_neg (by simp [hc1]), if_neg (by rw [bnT hc2]; decide)]
   simp [e]
  ·skip
   refine .skip ?_
   refine hK7 _ ?_
   clear hK7 K7
   refine .seqk fun K9 hK9 => ?_
   refine .reg ?_
   simp
   refine hK9 _ ?_
   clear hK9 K9
   refine .keep [2, 3, 4, 5, 6, 13] ?_
   simp only [keepE, E_cons, E_nil]
   refine .seqk fun K10 hK10 => ?_
   refine .seqk fun K11 hK11 => ?_
   refine .reg ?_
   simp
   refine hK11 _ ?_
   clear hK11 K11
   refine .keep [2, 3, 4, 5, 13, 45, 46, 47] ?_
   simp only [keepE, E_cons, E_nil]
   refine .block ?_
   refine .count (s.edges).length (fun i st => (True) ∧ ∃ hh1, OutEq hh1 h ∧ st = ⟨E [(2, int e), (3, int a), (4, int b), (5, .dptr (Types.c t)), (13, int (totC ((s.edges.take i).filter fun c => decide (c.ty = e) && isT t c.src a && isT t c.tgt b))), (45, sl (s.edges.map Count.c)), (46, int (s.edges.length : Int)), (47, int i)], hh1⟩) 0 (Nat.zero_le _) _ (.cov (by simp [totC]) (.refl _)) ⟨by simp, _, by first | (simp; done) | (simp; assumption) | (simp [*]; done), rfl⟩ ?_
   rintro i s hi1 ⟨hp1, hh1, hho1, rfl⟩ K12 hK12
   refine .seqk fun K13 hK13 => ?_
   refine .reg ?_
   simp
   refine hK13 _ ?_
   clear hK13 K13
   refine .keep [2, 3, 4, 5, 13, 45, 46, 47, 48] ?_
   simp only [keepE, E_cons, E_nil]
   refine .seqk fun K14 hK14 => ?_
   refine .condk _ rfl (fun hc3 => ?_) (fun hc3 => ?_)
   ·simp at hc3
    obtain ⟨x, hx1⟩ := get_some hc3
    have hb := totC_pf (fun c => decide (c.ty = e) && isT t c.src a && isT t c.tgt b) hen i
    have hxb := (badE_sm ht (hsv.eb x (List.mem_of_getElem? hx1))).2
    have hts := totC_fs (fun c => decide (c.ty = e) && isT t c.src a && isT t c.tgt b) hx1
    generalize hPx : (decide (x.ty = e) && isT t x.src a && isT t x.tgt b) = px at hts
    refine .skip ?_
    refine hK14 _ ?_
    clear hK14 K14
    refine .seqk fun K15 hK15 => ?_
    refine .block ?_
    refine .seqk fun K16 hK16 => ?_
    refine .reg ?_
    simp [hx1]
    refine hK16 _ ?_
    clear hK16 K16
    refine .keep [2, 3, 4, 5, 13, 15, 45, 46, 47] ?_
    simp only [keepE, E_cons, E_nil]
    refine .see (upd _ 15 ⟨_, none⟩) [(2, _), (3, _), (4, _), (5, _), (13, _), (15, .dptr (Count.c x)), (45, _), (46, _), (47, _)] ⟨.refl _, .refl _, .refl _, .refl _, .refl _, T.box (k := 4) (cs := Count.c x) (by simp [upd]) (by simp [upd]), .refl _, .refl _, .refl _, trivial⟩ (Dies.up (Dies.refl _) (.inr ⟨rfl, Nat.le_refl _⟩)) ?_
    try simp only [E_cons, E_nil]
    refine .seqreg (fun hh => hh) (fun ee => [(2, ee 2), (3, ee 3), (4, ee 4), (5, ee 5), (13, ee 13), (15, ee 15), (45, ee 45), (46, ee 46), (47, ee 47), (68, bo px)]) ?_ ?_
    ·rw [← hPx]
     by_cases h1 : x.ty = e
     rotate_left
     ·simp [h1, true_and]
     refine Sq.cutk 10 fun KC1 hKC1 => ?_
     simp only [zt]
     simp [h1, true_and]
     refine PCall.sq (p189 t ht x.src a) fun _ he1 => ?_
     simp only [mergeH_eq he1]
     refine hKC1 _ ?_
     by_cases h2 : isT t x.src a = true
     rotate_left
     ·simp [h1, h2, true_and]
     refine Sq.cutk 7 fun KC2 hKC2 => ?_
     simp only [zt]
     simp [h1, h2, true_and]
     refine PCall.sq (p189 t ht x.tgt b) fun _ he2 => ?_
     simp only [mergeH_eq he2]
     refine hKC2 _ ?_
     simp [h1, h2, true_and]
    try simp only [E_cons, E_nil]
    refine .condk _ rfl (fun hc4 => ?_) (fun hc4 => ?_)
    ·skip
     refine .reg ?_
     simp
     refine hK15 _ ?_
     clear hK15 K15
     refine .keep [2, 3, 4, 5, 13, 45, 46, 47] ?_
     simp only [keepE, E_cons, E_nil]
     refine .reg ?_
     simp
     refine hK12 _ _ (by omega) (Wk.cov ?_ (.refl _)) ⟨trivial, _, ?_, rfl⟩
     ·simp [hts, hc4]; exact ⟨wrap64 (by omega) (by omega), wrap64 (by omega) (by omega)⟩
     ·first | assumption | simp [hho1]
    ·skip
     refine .skip ?_
     refine hK15 _ ?_
     clear hK15 K15
     refine .reg ?_
     simp
     refine hK12 _ _ (by omega) (Wk.cov ?_ (.refl _)) ⟨trivial, _, ?_, rfl⟩
     ·simp [hts, hc4]; exact wrap64 (by omega) (by omega)
     ·first | assumption | simp [hho1]
   ·simp at hc3
    have hi1 : i = (s.edges).length := by omega
    subst hi1
    refine .exit ?_
    try simp only [then', inBlk, if_true, if_false, reduceIte, Nat.reduceEqDiff]
    refine hK10 _ ?_
    clear hK14 hK12 hK10 K14 K12 K10
    refine .seqk fun K17 hK17 => ?_
    refine .reg ?_
    simp
    refine hK17 _ ?_
    clear hK17 K17
    refine .keep [10, 11] ?_
    simp only [keepE, E_cons, E_nil]
    refine .ret ?_
    refine ret_z (.inr rfl) rfl rfl ?_
    have e : edgesN t s e a b = (cntE t s.edges e a b, 0) := by
     simp only [edgesN]
     rw [if_neg (by simp [hc1]), if_pos (bnF hc2)]
    simp [e, cntE]
set_option maxHeartbeats 1000000 in
theorem p221 (t : Types) (ht : tOK t) (s : Stat) (hn : s.nodes.length ≤ 1000) (he : s.edges.length ≤ 1000) (e a b : Int) : PCall Tryz.prog 221 [ag (Types.c t), ag (Stat.c s), int e, int a, int b] (.tup [int (edgesN t s e a b).1, int (edgesN t s e a b).2]) := by
 intro h
 refine ACall.of b221 (by simp) ?_
 unfold c221
 refine .seqk fun K1 hK1 => ?_
 refine .reg ?_
 simp
 refine hK1 _ ?_
 clear hK1 K1
 refine .keep [2, 3, 4, 5, 6] ?_
 simp only [keepE, E_cons, E_nil]
 refine .see (upd (upd _ 5 ⟨_, none⟩) 6 ⟨_, none⟩) [(2, _), (3, _), (4, _), (5, .dptr (Types.c t)), (6, .dptr (Stat.c s))] ⟨.refl _, .refl _, .refl _, T.box (k := 2) (cs := Types.c t) (by simp [upd]) (by simp [upd]), T.box (k := 2) (cs := Stat.c s) (by simp [upd]) (by simp [upd]), trivial⟩ (Dies.up (Dies.up (Dies.refl _) (.inr ⟨rfl, Nat.le_refl _⟩)) (.inr ⟨rfl, Nat.le_refl _⟩)) ?_
 try simp only [E_cons, E_nil]
 refine .seqk fun K2 hK2 => ?_
 refine .seqk fun K3 hK3 => ?_
 refine .reg ?_
 refine Sq.cutk 3 fun K4 hK4 => ?_
 simp only [zt]
 simp
 refine PCall.sq (p167 t ht s hn he) fun h1 he1 => ?_
 simp only [mergeH_eq he1]
 clear he1 h1
 refine hK4 _ ?_
 clear hK4 K4
 simp
 refine hK3 _ ?_
 clear hK3 K3
 refine .keep [2, 3, 4, 5, 6, 12] ?_
 simp only [keepE, E_cons, E_nil]
 refine .seqk fun K5 hK5 => ?_
 refine .reg ?_
 simp
 refine hK5 _ ?_
 clear hK5 K5
 refine .keep [2, 3, 4, 5, 6, 12, 20] ?_
 simp only [keepE, E_cons, E_nil]
 refine .condk _ rfl (fun hc1 => ?_) (fun hc1 => ?_)
 ·simp at hc1
  refine .seqk fun K6 hK6 => ?_
  refine .reg ?_
  simp
  refine hK6 _ ?_
  clear hK6 K6
  refine .keep [10, 11] ?_
  simp only [keepE, E_cons, E_nil]
  refine .ret ?_
  refine ret_z (.inr rfl) rfl rfl ?_
  simp [edgesN, hc1]
 ·simp at hc1
  have hsv := statV_ok (show statV t s = 0 by simpa using hc1)
  have hnn : ∀ c ∈ s.nodes, 1 ≤ c.num := fun c hc => (badN_sm ht (hsv.nb c hc)).2.1.1
  have hen : ∀ c ∈ s.edges, 1 ≤ c.num := fun c hc => (badE_sm ht (hsv.eb c hc)).2.1
  have hn4 := hsv.n4
  have he8 := hsv.e8
  refine .skip ?_
  refine hK2 _ ?_
  clear hK2 K2
  refine .seqk fun K7 hK7 => ?_
  refine .seqreg (fun hh => hh) (fun ee => [(2, ee 2), (3, ee 3), (4, ee 4), (5, ee 5), (6, ee 6), (43, bo (!(inI e t.edges.length && inI a t.nodes.length && inI b t.nodes.length)))]) ?_ ?_
  ·refine Sq.cutk 5 fun KC1 hKC1 => ?_
   simp only [zt]
   simp [true_and]
   refine PCall.sq (p216 e t.edges.length) fun _ he1 => ?_
   simp only [mergeH_eq he1]
   refine hKC1 _ ?_
   by_cases h1 : inI e t.edges.length = true
   rotate_left
   ·simp [h1, true_and]
   refine Sq.cutk 7 fun KC2 hKC2 => ?_
   simp only [zt]
   simp [h1, true_and]
   refine PCall.sq (p216 a t.nodes.length) fun _ he2 => ?_
   simp only [mergeH_eq he2]
   refine hKC2 _ ?_
   by_cases h2 : inI a t.nodes.length = true
   rotate_left
   ·simp [h1, h2, true_and]
   refine Sq.cutk 8 fun KC3 hKC3 => ?_
   simp only [zt]
   simp [h1, h2, true_and]
   refine PCall.sq (p216 b t.nodes.length) fun _ he3 => ?_
   simp only [mergeH_eq he3]
   refine hKC3 _ ?_
   simp [h1, h2, true_and]
  try simp only [E_cons, E_nil]
  refine .condk _ rfl (fun hc2 => ?_) (fun hc2 => ?_)
  ·skip
   refine .seqk fun K8 hK8 => ?_
   refine .reg ?_
   simp
   refine hK8 _ ?_
   clear hK8 K8
   refine .keep [10, 11] ?_
   simp only [keepE, E_cons, E_nil]
   refine .ret ?_
   refine ret_z (.inr rfl) rfl rfl ?_
   have e : edgesN t s e a b = (0, 6) := by
    simp only [edgesN]
    rw [if_neg (by simp [hc1]), if_neg (by rw [bnT hc2]; decide)]
   simp [e]
  ·skip
   refine .skip ?_
   refine hK7 _ ?_
   clear hK7 K7
   refine .seqk fun K9 hK9 => ?_
   refine .reg ?_
   simp
   refine hK9 _ ?_
   clear hK9 K9
   refine .keep [2, 3, 4, 5, 6, 13] ?_
   simp only [keepE, E_cons, E_nil]
   refine .seqk fun K10 hK10 => ?_
   refine .seqk fun K11 hK11 => ?_
   refine .reg ?_
   simp
   refine hK11 _ ?_
   clear hK11 K11
   refine .keep [2, 3, 4, 5, 6, 13, 14] ?_
   simp only [keepE, E_cons, E_nil]
   refine .block ?_
   refine .count (s.edges).length (fun i st => (True) ∧ ∃ hh1, OutEq hh1 h ∧ st = ⟨E [(2, int e), (3, int a), (4, int b), (5, .dptr (Types.c t)), (6, .dptr (Stat.c s)), (13, int (totC ((s.edges.take i).filter fun c => decide (c.ty = e) && isT t c.src a && isT t c.tgt b))), (14, int i)], hh1⟩) 0 (Nat.zero_le _) _ (.cov (by simp [totC]) (.refl _)) ⟨by simp, _, by first | (simp; done) | (simp; assumption) | (simp [*]; done), rfl⟩ ?_
   rintro i s hi1 ⟨hp1, hh1, hho1, rfl⟩ K12 hK12
   refine .seqk fun K13 hK13 => ?_
   refine .seqk fun K14 hK14 => ?_
   refine .reg ?_
   simp
   refine hK14 _ ?_
   clear hK14 K14
   refine .keep [2, 3, 4, 5, 6, 13, 14, 48] ?_
   simp only [keepE, E_cons, E_nil]
   refine .condk _ rfl (fun hc3 => ?_) (fun hc3 => ?_)
   ·simp at hc3
    obtain ⟨x, hx1⟩ := get_some hc3
    have hb := totC_pf (fun c => decide (c.ty = e) && isT t c.src a && isT t c.tgt b) hen i
    have hxb := (badE_sm ht (hsv.eb x (List.mem_of_getElem? hx1))).2
    have hts := totC_fs (fun c => decide (c.ty = e) && isT t c.src a && isT t c.tgt b) hx1
    generalize hPx : (decide (x.ty = e) && isT t x.src a && isT t x.tgt b) = px at hts
    refine .skip ?_
    refine hK13 _ ?_
    clear hK13 K13
    refine .seqk fun K15 hK15 => ?_
    refine .block ?_
    refine .seqk fun K16 hK16 => ?_
    refine .reg ?_
    simp [hx1]
    refine hK16 _ ?_
    clear hK16 K16
    refine .keep [2, 3, 4, 5, 6, 13, 14, 15] ?_
    simp only [keepE, E_cons, E_nil]
    refine .see (upd _ 15 ⟨_, none⟩) [(2, _), (3, _), (4, _), (5, _), (6, _), (13, _), (14, _), (15, .dptr (Count.c x))] ⟨.refl _, .refl _, .refl _, .refl _, .refl _, .refl _, .refl _, T.box (k := 4) (cs := Count.c x) (by simp [upd]) (by simp [upd]), trivial⟩ (Dies.up (Dies.refl _) (.inr ⟨rfl, Nat.le_refl _⟩)) ?_
    try simp only [E_cons, E_nil]
    refine .seqreg (fun hh => hh) (fun ee => [(2, ee 2), (3, ee 3), (4, ee 4), (5, ee 5), (6, ee 6), (13, ee 13), (14, ee 14), (15, ee 15), (73, bo px)]) ?_ ?_
    ·rw [← hPx]
     by_cases h1 : x.ty = e
     rotate_left
     ·simp [h1, true_and]
     refine Sq.cutk 10 fun KC1 hKC1 => ?_
     simp only [zt]
     simp [h1, true_and]
     refine PCall.sq (p245 t ht x.src a) fun _ he1 => ?_
     simp only [mergeH_eq he1]
     refine hKC1 _ ?_
     by_cases h2 : isT t x.src a = true
     rotate_left
     ·simp [h1, h2, true_and]
     refine Sq.cutk 7 fun KC2 hKC2 => ?_
     simp only [zt]
     simp [h1, h2, true_and]
     refine PCall.sq (p245 t ht x.tgt b) fun _ he2 => ?_
     simp only [mergeH_eq he2]
     refine hKC2 _ ?_
     simp [h1, h2, true_and]
    try simp only [E_cons, E_nil]
    refine .condk _ rfl (fun hc4 => ?_) (fun hc4 => ?_)
    ·skip
     refine .reg ?_
     simp
     refine hK15 _ ?_
     clear hK15 K15
     refine .keep [2, 3, 4, 5, 6, 13, 14] ?_
     simp only [keepE, E_cons, E_nil]
     refine .reg ?_
     simp
     refine hK12 _ _ (by omega) (Wk.cov ?_ (.refl _)) ⟨trivial, _, ?_, rfl⟩
     ·simp [hts, hc4]; exact ⟨wrap64 (by omega) (by omega), wrap64 (by omega) (by omega)⟩
     ·first | assumption | simp [hho1]
    ·skip
     refine .skip ?_
     refine hK15 _ ?_
     clear hK15 K15
     refine .reg ?_
     simp
     refine hK12 _ _ (by omega) (Wk.cov ?_ (.refl _)) ⟨trivial, _, ?_, rfl⟩
     ·simp [hts, hc4]; exact wrap64 (by omega) (by omega)
     ·first | assumption | simp [hho1]
   ·simp at hc3
    have hi1 : i = (s.edges).length := by omega
    subst hi1
    refine .exit ?_
    try simp only [then', inBlk, if_true, if_false, reduceIte, Nat.reduceEqDiff]
    refine hK10 _ ?_
    clear hK13 hK12 hK10 K13 K12 K10
    refine .seqk fun K17 hK17 => ?_
    refine .reg ?_
    simp
    refine hK17 _ ?_
    clear hK17 K17
    refine .keep [10, 11] ?_
    simp only [keepE, E_cons, E_nil]
    refine .ret ?_
    refine ret_z (.inr rfl) rfl rfl ?_
    have e : edgesN t s e a b = (cntE t s.edges e a b, 0) := by
     simp only [edgesN]
     rw [if_neg (by simp [hc1]), if_pos (bnF hc2)]
    simp [e, cntE]
end Go.Abs
