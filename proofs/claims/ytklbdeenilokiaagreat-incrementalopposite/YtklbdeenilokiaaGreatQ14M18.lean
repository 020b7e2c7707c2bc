/- Contracts of functions of the program, and what they lean on: a part of the proof that incrementalOpposite_proved stands; no condition. -/
import Derived.Test.YtklbdeenilokiaaGreatProg
import Derived.Test.YtklbdeenilokiaaGreatQ14M4
import Derived.Test.YtklbdeenilokiaaGreatQ14S1
import Derived.Test.YtklbdeenilokiaaGreatQ14M8
import Derived.Test.YtklbdeenilokiaaGreatQ14B1
import Derived.Test.YtklbdeenilokiaaGreatQ14B2
import Derived.Test.YtklbdeenilokiaaGreatQ14B3
import Derived.Test.YtklbdeenilokiaaGreatQ14B4
import Derived.Test.YtklbdeenilokiaaGreatQ14B5
import Derived.Test.YtklbdeenilokiaaGreatQ14B6
import Derived.Test.YtklbdeenilokiaaGreatQ14A2
set_option linter.unusedVariables false
set_option linter.unusedSimpArgs false
namespace Go.Abs
open Go Go.Proofs

def inI (n m : Int) : Bool := decide (0 ≤ n) && decide (n < m)
theorem inR_eq (n m : Int) : inR n (m - 1) = inI n m := by
  simp only [inR, inI]
  congr 1
  by_cases h : n < m
  · simp [h]; omega
  · simp [h]; omega
def touch (k : Int) (x : Edge) : Bool := decide (x.src = k) || decide (x.tgt = k)
def fewG (g : Graph) : Bool := decide ((g.nodes.length : Int) ≤ 45) && decide ((g.edges.length : Int) ≤ 90)
def editErr (g : Graph) (e : Edit) (n m : Int) : Int :=
  if e.kind = 1 then (if inI e.ty n = false then 13 else if (g.nodes.length : Int) = 40 then 3 else 0)
  else if e.kind = 2 then (if inI e.ty m = false then 13 else if (inI e.src g.nodes.length && inI e.tgt g.nodes.length) = false then 6 else if (g.edges.length : Int) = 80 then 3 else 0)
  else if e.kind = 3 then (if inI e.index g.nodes.length = false then 6 else if g.edges.any (touch e.index) then 14 else 0)
  else if e.kind = 4 then (if inI e.index g.edges.length = false then 6 else 0)
  else 1
theorem p39 (g : Graph) : PCall Tryz.prog 39 [ag (Graph.c g)] (bo (fewG g)) := by
  intro h
  refine ACall.of b39 (by simp) ?_
  unfold c39
  refine .seqk fun K1 hK1 => ?_
  refine .reg ?_
  simp
  refine hK1 _ ?_
  clear hK1 K1
  refine .keep [1, 8, 9, 10, 11] ?_
  simp only [keepE, E_cons, E_nil, reduceIte, Nat.reduceEqDiff]
  refine .see (upd _ 1 ⟨_, none⟩) [(1, .dptr (Graph.c g))] ⟨T.box (k := 2) (cs := Graph.c g) (by simp) (by simp), trivial⟩ (Dies.kill _ _ _ _) ?_
  refine .seqreg (fun hh => hh) (fun ee => [(2, bo (fewG g))]) ?_ ?_
  · by_cases h0 : (g.nodes.length : Int) ≤ 45 <;> by_cases h1 : (g.edges.length : Int) ≤ 90 <;> simp [h0, h1, fewG]
  try simp only [E_cons, E_nil, reduceIte, Nat.reduceEqDiff]
  refine .ret ?_
  -- leaf 1
  refine ret_d (.inr rfl) rfl (.refl _) rfl (by first | exact OutEq.outer _ | assumption | (simp; done) | (simp; assumption)) ?_
  simp
theorem p124 (n m : Int) : PCall Tryz.prog 124 [int n, int m] (bo (inI n m)) := by
  intro h
  refine ACall.of b124 (by simp) ?_
  unfold c124
  refine .seqk fun K1 hK1 => ?_
  refine .reg ?_
  simp
  refine hK1 _ ?_
  clear hK1 K1
  refine .seqreg (fun hh => hh) (fun ee => [(4, bo (inI n m))]) ?_ ?_
  · by_cases h0 : 0 ≤ n <;> by_cases h1 : n < m <;> simp [h0, h1, inI]
  try simp only [E_cons, E_nil, reduceIte, Nat.reduceEqDiff]
  refine .ret ?_
  -- leaf 1
  refine ret_d (.inr rfl) rfl (.refl _) rfl (by first | exact OutEq.outer _ | assumption | (simp; done) | (simp; assumption)) ?_
  simp
theorem p155 (n : Int) : PCall Tryz.prog 155 [int n] (bo (inR n 99)) := by
  intro h
  refine ACall.of b155 (by simp) ?_
  unfold c155
  refine .seqk fun K1 hK1 => ?_
  refine .reg ?_
  simp
  refine hK1 _ ?_
  clear hK1 K1
  refine .seqreg (fun hh => hh) (fun ee => [(2, bo (inR n 99))]) ?_ ?_
  · by_cases h0 : 0 ≤ n <;> by_cases h1 : n ≤ 99 <;> simp [h0, h1, inR]
  try simp only [E_cons, E_nil, reduceIte, Nat.reduceEqDiff]
  refine .ret ?_
  -- leaf 1
  refine ret_d (.inr rfl) rfl (.refl _) rfl (by first | exact OutEq.outer _ | assumption | (simp; done) | (simp; assumption)) ?_
  simp
theorem p156 (e : Edge) (n : Int) : PCall Tryz.prog 156 [ag (Edge.c e), int n] (bo (fitsG e n)) := by
  intro h
  refine ACall.of b156 (by simp) ?_
  unfold c156
  refine .seqk fun K1 hK1 => ?_
  refine .reg ?_
  simp
  refine hK1 _ ?_
  clear hK1 K1
  refine .keep [1, 2, 9, 10, 11, 14, 15, 16, 17, 20, 21, 22, 25, 26, 27, 28] ?_
  simp only [keepE, E_cons, E_nil, reduceIte, Nat.reduceEqDiff]
  refine .see (upd _ 2 ⟨_, none⟩) [(2, .dptr (Edge.c e)), (1, int n)] ⟨T.box (k := 3) (cs := Edge.c e) (by simp) (by simp), .refl _, trivial⟩ (Dies.kill _ _ _ _) ?_
  refine .seqreg (fun hh => hh) (fun ee => [(4, bo (fitsG e n))]) ?_ ?_
  · refine Sq.cutk 3 fun K1 hK1 => ?_
    simp only [List.take_succ_cons, List.take_zero, List.drop_succ_cons, List.drop_zero]
    simp
    refine PCall.sq (p155 e.ty) fun _ he => ?_
    simp only [mergeH_eq he]
    refine hK1 _ ?_
    by_cases h1 : inR e.ty 99 = true
    · simp only [fitsG, inR_eq]
      by_cases h2 : 0 ≤ e.src <;> by_cases h3 : e.src < n <;> by_cases h4 : 0 ≤ e.tgt <;> by_cases h5 : e.tgt < n <;> simp [h1, h2, h3, h4, h5, inI]
    · simp at h1
      simp [fitsG, h1]
  try simp only [E_cons, E_nil, reduceIte, Nat.reduceEqDiff]
  refine .ret ?_
  -- leaf 1
  refine ret_d (.inr rfl) rfl (.refl _) rfl (by first | exact OutEq.outer _ | assumption | (simp; done) | (simp; assumption)) ?_
  simp
theorem p165 (n : Int) (g : Graph) : PCall Tryz.prog 165 [int n, .dptr (Graph.c g)] (bo (inI n g.nodes.length)) := by
  intro h
  refine ACall.of b165 (by simp) ?_
  unfold c165
  refine .seqk fun K1 hK1 => ?_
  refine .reg ?_
  simp
  refine hK1 _ ?_
  clear hK1 K1
  refine .seqreg (fun hh => hh) (fun ee => [(3, bo (inI n g.nodes.length))]) ?_ ?_
  · by_cases h0 : 0 ≤ n <;> by_cases h1 : n < (g.nodes.length : Int) <;> simp [h0, h1, inI]
  try simp only [E_cons, E_nil, reduceIte, Nat.reduceEqDiff]
  refine .ret ?_
  -- leaf 1
  refine ret_d (.inr rfl) rfl (.refl _) rfl (by first | exact OutEq.outer _ | assumption | (simp; done) | (simp; assumption)) ?_
  simp
theorem p166 (x : Edge) (e : Edit) : PCall Tryz.prog 166 [ag (Edge.c x), .dptr (Edit.c e)] (bo (touch e.index x)) := by
  intro h
  refine ACall.of b166 (by simp) ?_
  unfold c166
  refine .seqk fun K1 hK1 => ?_
  refine .reg ?_
  simp
  refine hK1 _ ?_
  clear hK1 K1
  refine .keep [1, 2, 10, 11, 12, 13, 14] ?_
  simp only [keepE, E_cons, E_nil, reduceIte, Nat.reduceEqDiff]
  refine .see (upd _ 2 ⟨_, none⟩) [(2, .dptr (Edge.c x)), (1, .dptr (Edit.c e))] ⟨T.box (k := 3) (cs := Edge.c x) (by simp) (by simp), .refl _, trivial⟩ (Dies.kill _ _ _ _) ?_
  refine .seqreg (fun hh => hh) (fun ee => [(3, bo (touch e.index x))]) ?_ ?_
  · by_cases h0 : x.src = e.index <;> by_cases h1 : x.tgt = e.index <;> simp [h0, h1, touch]
  try simp only [E_cons, E_nil, reduceIte, Nat.reduceEqDiff]
  refine .ret ?_
  -- leaf 1
  refine ret_d (.inr rfl) rfl (.refl _) rfl (by first | exact OutEq.outer _ | assumption | (simp; done) | (simp; assumption)) ?_
  simp
end Go.Abs
set_option linter.unusedVariables false
set_option linter.unusedSimpArgs false
namespace Go.Abs
open Go Go.Proofs

theorem any_cons_t {α : Type} {p : α → Bool} {l : List α} {i : Nat} {x : α} (hx : l[i]? = some x) (hp : p x = true) : l.any p = true := List.any_eq_true.2 ⟨x, List.mem_of_getElem? hx, hp⟩
theorem any_drop {α : Type} (p : α → Bool) (l : List α) (i : Nat) (x : α) (hx : l[i]? = some x) (hp : p x = false) : (l.drop (i + 1)).any p = (l.drop i).any p := by
  rw [drop_cons hx]
  simp [hp]
theorem p97 (g : Graph) : PCall Tryz.prog 97 [ag (Graph.c g)] (int (gErr g)) := by
  intro h
  refine ACall.of b97 (by simp) ?_
  unfold c97
  refine .seqk fun K1 hK1 => ?_
  refine .reg ?_
  simp
  refine hK1 _ ?_
  clear hK1 K1
  refine .keep [1, 10, 11, 12, 13] ?_
  simp only [keepE, E_cons, E_nil, reduceIte, Nat.reduceEqDiff]
  refine .see (upd _ 1 ⟨_, none⟩) [(1, .dptr (Graph.c g))] ⟨T.box (k := 2) (cs := Graph.c g) (by simp) (by simp), trivial⟩ (Dies.kill _ _ _ _) ?_
  refine .seqk fun K2 hK2 => ?_
  refine .seqreg (fun hh => hh) (fun ee => [(1, ee 1), (14, bo (decide ((40 : Int) < g.nodes.length) || decide ((80 : Int) < g.edges.length)))]) ?_ ?_
  · by_cases h0 : (40 : Int) < g.nodes.length <;> by_cases h1 : (80 : Int) < g.edges.length <;> simp [h0, h1, True]
  try simp only [E_cons, E_nil, reduceIte, Nat.reduceEqDiff]
  refine .condk _ rfl (fun hc1 => ?_) (fun hc1 => ?_)
  · try simp at hc1
    refine .seqk fun K3 hK3 => ?_
    refine .reg ?_
    simp
    refine hK3 _ ?_
    clear hK3 K3
    refine .ret ?_
    -- leaf 1
    refine ret_d (.inr rfl) rfl (.refl _) rfl (by first | exact OutEq.outer _ | assumption | (simp; done) | (simp; assumption)) ?_
    simp [gErr, hc1]
  · simp at hc1
    have hn40 : g.nodes.length ≤ 40 := by omega
    have he80 : g.edges.length ≤ 80 := by omega
    refine .skip ?_
    refine hK2 _ ?_
    clear hK2 K2
    refine .seqk fun K4 hK4 => ?_
    refine .seqk fun K5 hK5 => ?_
    refine .reg ?_
    simp
    refine hK5 _ ?_
    clear hK5 K5
    refine .block ?_
    refine .count g.nodes.length (fun i st => (g.nodes.drop i).any (fun t => !inR t 99) = g.nodes.any (fun t => !inR t 99) ∧ ∃ hh, OutEq hh h ∧ st = ⟨E [(3, int i), (1, .dptr (Graph.c g))], hh⟩) 0 (Nat.zero_le _) _ (.cov (h' := upd (outer h) 1 ⟨_, none⟩) (by simp) (.refl _)) ⟨by simp, _, by simp, rfl⟩ ?_
    rintro i s hi1 ⟨hp, hh, hho, rfl⟩ K6 hK6
    refine .seqk fun K7 hK7 => ?_
    refine .seqk fun K8 hK8 => ?_
    refine .reg ?_
    simp
    refine hK8 _ ?_
    clear hK8 K8
    refine .keep [1, 3, 19] ?_
    simp only [keepE, E_cons, E_nil, reduceIte, Nat.reduceEqDiff]
    refine .condk _ rfl (fun hc2 => ?_) (fun hc2 => ?_)
    · simp at hc2
      obtain ⟨x, hx⟩ := get_some hc2
      refine .skip ?_
      refine hK7 _ ?_
      clear hK7 K7
      refine .seqk fun K9 hK9 => ?_
      refine .block ?_
      refine .seqk fun K10 hK10 => ?_
      refine .reg ?_
      refine Sq.cutk 6 fun K11 hK11 => ?_
      simp only [List.take_succ_cons, List.take_zero, List.drop_succ_cons, List.drop_zero]
      simp [hx]
      refine PCall.sq (p155 x) fun h1 he1 => ?_
      simp only [mergeH_eq he1]
      clear he1 h1
      refine hK11 _ ?_
      clear hK11 K11
      simp [hx]
      refine hK10 _ ?_
      clear hK10 K10
      refine .keep [1, 3, 28] ?_
      simp only [keepE, E_cons, E_nil, reduceIte, Nat.reduceEqDiff]
      refine .condk _ rfl (fun hc3 => ?_) (fun hc3 => ?_)
      · simp at hc3
        refine .seqk fun K12 hK12 => ?_
        refine .reg ?_
        simp
        refine hK12 _ ?_
        clear hK12 K12
        refine .ret ?_
        -- leaf 2
        refine ret_d (.inr rfl) rfl (.refl _) rfl (by first | exact OutEq.outer _ | assumption | (simp; done) | (simp; assumption)) ?_
        simp [gErr, hn40, he80, any_cons_t (p := fun t => !inR t 99) hx (by simp [hc3])]; omega
      · simp at hc3
        refine .skip ?_
        refine hK9 _ ?_
        clear hK9 K9
        refine .reg ?_
        simp
        -- loop back, leaf 3
        refine hK6 _ _ (by omega) (Wk.cov ?_ (.refl _)) ⟨?_, _, hho, rfl⟩
        · simp; exact wrap64 (by omega) (by omega)
        · rw [any_drop _ _ _ _ hx (by simpa using hc3)]; exact hp
    · simp at hc2
      have hi : i = g.nodes.length := by omega
      have hnn : g.nodes.any (fun t => !inR t 99) = false := by rw [← hp, hi]; simp
      refine .exit ?_
      try simp only [then', inBlk, if_true, if_false, reduceIte, Nat.reduceEqDiff]
      refine hK4 _ ?_
      clear hK7 hK6 hK4 K7 K6 K4
      refine .seqk fun K13 hK13 => ?_
      refine .seqk fun K14 hK14 => ?_
      refine .reg ?_
      simp
      refine hK14 _ ?_
      clear hK14 K14
      refine .block ?_
      refine .count g.edges.length (fun i st => (g.edges.drop i).any (fun e => !fitsG e g.nodes.length) = g.edges.any (fun e => !fitsG e g.nodes.length) ∧ ∃ hh, OutEq hh h ∧ st = ⟨E [(4, int i), (1, .dptr (Graph.c g))], hh⟩) 0 (Nat.zero_le _) _ (.cov (h' := hh) (by simp) (.refl _)) ⟨by simp, _, hho, rfl⟩ ?_
      rintro i s hi2 ⟨hq, hh2, hho2, rfl⟩ K15 hK15
      refine .seqk fun K16 hK16 => ?_
      refine .seqk fun K17 hK17 => ?_
      refine .reg ?_
      simp
      refine hK17 _ ?_
      clear hK17 K17
      refine .keep [1, 4, 33] ?_
      simp only [keepE, E_cons, E_nil, reduceIte, Nat.reduceEqDiff]
      refine .condk _ rfl (fun hc4 => ?_) (fun hc4 => ?_)
      · simp at hc4
        obtain ⟨x, hx⟩ := get_some hc4
        refine .skip ?_
        refine hK16 _ ?_
        clear hK16 K16
        refine .seqk fun K18 hK18 => ?_
        refine .block ?_
        refine .seqk fun K19 hK19 => ?_
        refine .dreg mixed ?_
        refine Dr.cutk 9 fun K20 hK20 => ?_
        simp only [List.take_succ_cons, List.take_zero, List.drop_succ_cons, List.drop_zero]
        simp [-Bool.exists_bool, hx]
        refine Dr.pcall (p156 x g.nodes.length) ?_
        refine hK20 _ _ ?_
        clear hK20 K20
        try simp [-Bool.exists_bool, hx]
        refine hK19 _ ?_
        clear hK19 K19
        refine .keep [1, 4, 45] ?_
        simp only [keepE, E_cons, E_nil, reduceIte, Nat.reduceEqDiff]
        refine .condk _ rfl (fun hc5 => ?_) (fun hc5 => ?_)
        · simp at hc5
          refine .seqk fun K21 hK21 => ?_
          refine .reg ?_
          simp
          refine hK21 _ ?_
          clear hK21 K21
          refine .ret ?_
          -- leaf 4
          refine ret_d (.inr rfl) rfl (.refl _) rfl (by first | exact OutEq.outer _ | assumption | (simp; done) | (simp; assumption)) ?_
          simp [gErr, hn40, he80, hnn, any_cons_t (p := fun e => !fitsG e g.nodes.length) hx (by simp [hc5])]; omega
        · simp at hc5
          refine .skip ?_
          refine hK18 _ ?_
          clear hK18 K18
          refine .reg ?_
          simp
          -- loop back, leaf 5
          refine hK15 _ _ (by omega) (Wk.cov ?_ (.refl _)) ⟨?_, _, hho2, rfl⟩
          · simp; exact wrap64 (by omega) (by omega)
          · rw [any_drop _ _ _ _ hx (by simpa using hc5)]; exact hq
      · simp at hc4
        have hi : i = g.edges.length := by omega
        have hee : g.edges.any (fun e => !fitsG e g.nodes.length) = false := by rw [← hq, hi]; simp
        refine .exit ?_
        try simp only [then', inBlk, if_true, if_false, reduceIte, Nat.reduceEqDiff]
        refine hK13 _ ?_
        clear hK16 hK15 hK13 K16 K15 K13
        refine .seqk fun K22 hK22 => ?_
        refine .reg ?_
        simp
        refine hK22 _ ?_
        clear hK22 K22
        refine .ret ?_
        -- leaf 6
        refine ret_d (.inr rfl) rfl (.refl _) rfl (by first | exact OutEq.outer _ | assumption | (simp; done) | (simp; assumption)) ?_
        simp [gErr, hnn, hee]; omega
end Go.Abs
set_option linter.unusedVariables false
set_option linter.unusedSimpArgs false
namespace Go.Abs
open Go Go.Proofs

theorem inI_f {n m : Int} (h : inI n m = false) : n < 0 ∨ m ≤ n := by
  simp only [inI, Bool.and_eq_false_iff, decide_eq_false_iff_not] at h
  omega

theorem Dies.kill2 (h : Heap) (b c v u : Nat) (x y : Option Blk) (hne : b ≠ c) : Dies (Go.Abs.upd (Go.Abs.upd h b ⟨v, x⟩) c ⟨u, y⟩) (Go.Abs.upd (Go.Abs.upd h b ⟨v, none⟩) c ⟨u, none⟩) := by
  intro d
  by_cases h1 : d = c
  · subst h1; exact .inr ⟨by rw [upd_same], by rw [upd_same, upd_same]; exact Nat.le_refl _⟩
  · rw [upd_ne _ _ _ _ h1, upd_ne _ _ _ _ h1]
    by_cases h2 : d = b
    · subst h2; exact .inr ⟨by rw [upd_same], by rw [upd_same, upd_same]; exact Nat.le_refl _⟩
    · exact .inl (by rw [upd_ne _ _ _ _ h2, upd_ne _ _ _ _ h2])
theorem p110 (g : Graph) (e : Edit) (n m : Int) : PCall Tryz.prog 110 [ag (Graph.c g), ag (Edit.c e), int n, int m] (int (editErr g e n m)) := by
  intro h
  refine ACall.of b110 (by simp) ?_
  unfold c110
  refine .seqk fun K1 hK1 => ?_
  refine .reg ?_
  simp
  refine hK1 _ ?_
  clear hK1 K1
  refine .keep [2, 3, 4, 5, 20, 21, 22, 23, 37, 38, 39, 40, 49, 50, 51, 52, 53, 79, 80, 81, 82, 83, 84] ?_
  simp only [keepE, E_cons, E_nil, reduceIte, Nat.reduceEqDiff]
  refine .see (upd (upd _ 4 ⟨_, none⟩) 5 ⟨_, none⟩) [(4, .dptr (Graph.c g)), (5, .dptr (Edit.c e)), (2, int n), (3, int m)] ⟨T.box (k := 2) (cs := Graph.c g) (by simp [upd]) (by simp [upd]), T.box (k := 5) (cs := Edit.c e) (by simp [upd]) (by simp [upd]), .refl _, .refl _, trivial⟩ (Dies.kill2 _ 4 5 _ _ _ _ (by decide)) ?_
  refine .seqk fun K2 hK2 => ?_
  refine .reg ?_
  simp
  refine hK2 _ ?_
  clear hK2 K2
  refine .seqk fun K3 hK3 => ?_
  refine .seqk fun K4 hK4 => ?_
  refine .reg ?_
  simp
  refine hK4 _ ?_
  clear hK4 K4
  refine .block ?_
  refine .seqk fun K5 hK5 => ?_
  refine .reg ?_
  simp
  refine hK5 _ ?_
  clear hK5 K5
  refine .condk _ rfl (fun hc1 => ?_) (fun hc1 => ?_)
  · try simp at hc1
    refine .block ?_
    refine .seqreg (fun hh => hh) (fun ee => [(4, ee 4), (15, bo (!inI e.ty n))]) ?_ ?_
    · by_cases h0 : e.ty < 0 <;> by_cases h1 : n ≤ e.ty <;> simp [h0, h1, inI] <;> omega
    try simp only [E_cons, E_nil, reduceIte, Nat.reduceEqDiff]
    refine .condk _ rfl (fun hc2 => ?_) (fun hc2 => ?_)
    · try simp at hc2
      refine .seqk fun K6 hK6 => ?_
      refine .reg ?_
      simp
      refine hK6 _ ?_
      clear hK6 K6
      refine .ret ?_
      -- leaf 1
      refine ret_d (.inr rfl) rfl (.refl _) rfl (by first | exact OutEq.outer _ | assumption | (simp; done) | (simp; assumption)) ?_
      simp_all [editErr]
    · try simp at hc2
      refine .seqk fun K7 hK7 => ?_
      refine .reg ?_
      simp
      refine hK7 _ ?_
      clear hK7 K7
      refine .keep [25] ?_
      simp only [keepE, E_cons, E_nil, reduceIte, Nat.reduceEqDiff]
      refine .condk _ rfl (fun hc3 => ?_) (fun hc3 => ?_)
      · try simp at hc3
        refine .seqk fun K8 hK8 => ?_
        refine .reg ?_
        simp
        refine hK8 _ ?_
        clear hK8 K8
        refine .ret ?_
        -- leaf 2
        refine ret_d (.inr rfl) rfl (.refl _) rfl (by first | exact OutEq.outer _ | assumption | (simp; done) | (simp; assumption)) ?_
        simp_all [editErr]
      · try simp at hc3
        refine .skip ?_
        refine hK3 _ ?_
        clear hK3 K3
        refine .seqk fun K9 hK9 => ?_
        refine .reg ?_
        simp
        refine hK9 _ ?_
        clear hK9 K9
        refine .ret ?_
        -- leaf 3
        refine ret_d (.inr rfl) rfl (.refl _) rfl (by first | exact OutEq.outer _ | assumption | (simp; done) | (simp; assumption)) ?_
        simp_all [editErr]
  · try simp at hc1
    refine .seqk fun K10 hK10 => ?_
    refine .reg ?_
    simp
    refine hK10 _ ?_
    clear hK10 K10
    refine .condk _ rfl (fun hc4 => ?_) (fun hc4 => ?_)
    · try simp at hc4
      refine .block ?_
      refine .seqreg (fun hh => hh) (fun ee => [(4, ee 4), (5, ee 5), (9, ee 9), (32, bo (!inI e.ty m)), (49, ee 49), (50, ee 50), (51, ee 51), (52, ee 52), (53, ee 53)]) ?_ ?_
      · by_cases h0 : e.ty < 0 <;> by_cases h1 : m ≤ e.ty <;> simp [h0, h1, inI] <;> omega
      try simp only [E_cons, E_nil, reduceIte, Nat.reduceEqDiff]
      refine .condk _ rfl (fun hc5 => ?_) (fun hc5 => ?_)
      · try simp at hc5
        refine .seqk fun K11 hK11 => ?_
        refine .reg ?_
        simp
        refine hK11 _ ?_
        clear hK11 K11
        refine .ret ?_
        -- leaf 4
        refine ret_d (.inr rfl) rfl (.refl _) rfl (by first | exact OutEq.outer _ | assumption | (simp; done) | (simp; assumption)) ?_
        simp_all [editErr]
      · try simp at hc5
        refine .seqreg (fun hh => hh) (fun ee => [(4, ee 4), (42, bo (!(inI e.src g.nodes.length && inI e.tgt g.nodes.length)))]) ?_ ?_
        · refine Sq.cutk 4 fun K1 hK1 => ?_
          simp only [List.take_succ_cons, List.take_zero, List.drop_succ_cons, List.drop_zero]
          simp
          refine PCall.sq (p165 e.src g) fun _ he => ?_
          simp only [mergeH_eq he]
          refine hK1 _ ?_
          by_cases h1 : inI e.src g.nodes.length = true
          · refine Sq.cutk 6 fun K2 hK2 => ?_
            simp only [List.take_succ_cons, List.take_zero, List.drop_succ_cons, List.drop_zero]
            simp [h1]
            refine PCall.sq (p165 e.tgt g) fun _ he => ?_
            simp only [mergeH_eq he]
            refine hK2 _ ?_
            simp [h1]
          · simp at h1
            simp [h1]
        try simp only [E_cons, E_nil, reduceIte, Nat.reduceEqDiff]
        refine .condk _ rfl (fun hc6 => ?_) (fun hc6 => ?_)
        · try simp at hc6
          refine .seqk fun K12 hK12 => ?_
          refine .reg ?_
          simp
          refine hK12 _ ?_
          clear hK12 K12
          refine .ret ?_
          -- leaf 5
          refine ret_d (.inr rfl) rfl (.refl _) rfl (by first | exact OutEq.outer _ | assumption | (simp; done) | (simp; assumption)) ?_
          simp_all [editErr]
          intro h1 h2
          rcases hc6 with h3 | h3 <;> simp_all
        · try simp at hc6
          refine .seqk fun K13 hK13 => ?_
          refine .reg ?_
          simp
          refine hK13 _ ?_
          clear hK13 K13
          refine .keep [55] ?_
          simp only [keepE, E_cons, E_nil, reduceIte, Nat.reduceEqDiff]
          refine .condk _ rfl (fun hc7 => ?_) (fun hc7 => ?_)
          · try simp at hc7
            refine .seqk fun K14 hK14 => ?_
            refine .reg ?_
            simp
            refine hK14 _ ?_
            clear hK14 K14
            refine .ret ?_
            -- leaf 6
            refine ret_d (.inr rfl) rfl (.refl _) rfl (by first | exact OutEq.outer _ | assumption | (simp; done) | (simp; assumption)) ?_
            simp_all [editErr]
          · try simp at hc7
            refine .skip ?_
            refine hK3 _ ?_
            clear hK3 K3
            refine .seqk fun K15 hK15 => ?_
            refine .reg ?_
            simp
            refine hK15 _ ?_
            clear hK15 K15
            refine .ret ?_
            -- leaf 7
            refine ret_d (.inr rfl) rfl (.refl _) rfl (by first | exact OutEq.outer _ | assumption | (simp; done) | (simp; assumption)) ?_
            simp_all [editErr]
    · try simp at hc4
      refine .seqk fun K16 hK16 => ?_
      refine .reg ?_
      simp
      refine hK16 _ ?_
      clear hK16 K16
      refine .condk _ rfl (fun hc8 => ?_) (fun hc8 => ?_)
      · try simp at hc8
        refine .block ?_
        refine .seqk fun K17 hK17 => ?_
        refine .reg ?_
        refine Sq.cutk 4 fun K18 hK18 => ?_
        simp only [List.take_succ_cons, List.take_zero, List.drop_succ_cons, List.drop_zero]
        simp
        refine PCall.sq (p165 e.index g) fun h1 he1 => ?_
        simp only [mergeH_eq he1]
        clear he1 h1
        refine hK18 _ ?_
        clear hK18 K18
        simp
        refine hK17 _ ?_
        clear hK17 K17
        refine .keep [4, 5, 62] ?_
        simp only [keepE, E_cons, E_nil, reduceIte, Nat.reduceEqDiff]
        refine .condk _ rfl (fun hc9 => ?_) (fun hc9 => ?_)
        · try simp at hc9
          refine .seqk fun K19 hK19 => ?_
          refine .reg ?_
          simp
          refine hK19 _ ?_
          clear hK19 K19
          refine .ret ?_
          -- leaf 8
          refine ret_d (.inr rfl) rfl (.refl _) rfl (by first | exact OutEq.outer _ | assumption | (simp; done) | (simp; assumption)) ?_
          simp_all [editErr]
        · try simp at hc9
          refine .seqk fun K20 hK20 => ?_
          refine .reg ?_
          refine Sq.cutk 4 fun K21 hK21 => ?_
          simp only [List.take_succ_cons, List.take_zero, List.drop_succ_cons, List.drop_zero]
          simp
          refine PCall.sq (p152 g.edges 166 [.dptr (Edit.c e)] (touch e.index) (fun x _ => p166 x e)) fun h1 he1 => ?_
          simp only [mergeH_eq he1]
          clear he1 h1
          refine hK21 _ ?_
          clear hK21 K21
          simp
          refine hK20 _ ?_
          clear hK20 K20
          refine .keep [68] ?_
          simp only [keepE, E_cons, E_nil, reduceIte, Nat.reduceEqDiff]
          refine .condk _ rfl (fun hc10 => ?_) (fun hc10 => ?_)
          · skip
            refine .seqk fun K22 hK22 => ?_
            refine .reg ?_
            simp
            refine hK22 _ ?_
            clear hK22 K22
            refine .ret ?_
            -- leaf 9
            refine ret_d (.inr rfl) rfl (.refl _) rfl (by first | exact OutEq.outer _ | assumption | (simp; done) | (simp; assumption)) ?_
            simp_all [editErr]
          · skip
            refine .skip ?_
            refine hK3 _ ?_
            clear hK3 K3
            refine .seqk fun K23 hK23 => ?_
            refine .reg ?_
            simp
            refine hK23 _ ?_
            clear hK23 K23
            refine .ret ?_
            -- leaf 10
            refine ret_d (.inr rfl) rfl (.refl _) rfl (by first | exact OutEq.outer _ | assumption | (simp; done) | (simp; assumption)) ?_
            simp_all [editErr]
      · try simp at hc8
        refine .seqk fun K24 hK24 => ?_
        refine .reg ?_
        simp
        refine hK24 _ ?_
        clear hK24 K24
        refine .condk _ rfl (fun hc11 => ?_) (fun hc11 => ?_)
        · try simp at hc11
          refine .seqreg (fun hh => hh) (fun ee => [(85, bo (!inI e.index g.edges.length))]) ?_ ?_
          · by_cases h0 : e.index < 0 <;> by_cases h1 : (g.edges.length : Int) ≤ e.index <;> simp [h0, h1, inI] <;> omega
          try simp only [E_cons, E_nil, reduceIte, Nat.reduceEqDiff]
          refine .condk _ rfl (fun hc12 => ?_) (fun hc12 => ?_)
          · try simp at hc12
            refine .seqk fun K25 hK25 => ?_
            refine .reg ?_
            simp
            refine hK25 _ ?_
            clear hK25 K25
            refine .ret ?_
            -- leaf 11
            refine ret_d (.inr rfl) rfl (.refl _) rfl (by first | exact OutEq.outer _ | assumption | (simp; done) | (simp; assumption)) ?_
            simp_all [editErr]
          · try simp at hc12
            refine .skip ?_
            refine hK3 _ ?_
            clear hK3 K3
            refine .seqk fun K26 hK26 => ?_
            refine .reg ?_
            simp
            refine hK26 _ ?_
            clear hK26 K26
            refine .ret ?_
            -- leaf 12
            refine ret_d (.inr rfl) rfl (.refl _) rfl (by first | exact OutEq.outer _ | assumption | (simp; done) | (simp; assumption)) ?_
            simp_all [editErr]
        · try simp at hc11
          refine .seqk fun K27 hK27 => ?_
          refine .reg ?_
          simp
          refine hK27 _ ?_
          clear hK27 K27
          refine .ret ?_
          -- leaf 13
          refine ret_d (.inr rfl) rfl (.refl _) rfl (by first | exact OutEq.outer _ | assumption | (simp; done) | (simp; assumption)) ?_
          simp_all [editErr]
theorem p74 (g : Graph) (e : Edit) (n m : Int) (hm : g.edges.length ≤ 9223372036854775807) : PCall Tryz.prog 74 [ag (Graph.c g), ag (Edit.c e), int n, int m] (int (editErr g e n m)) := by
  intro h
  refine ACall.lens b74.noExt fun hl => ACall.of b74 (by simp) ?_
  have hla : g.edges.length ≤ 9223372036854775807 := hm
  clear hl
  unfold c74
  refine .seqk fun K1 hK1 => ?_
  refine .reg ?_
  simp
  refine hK1 _ ?_
  clear hK1 K1
  refine .keep [2, 3, 4, 5, 38, 39, 40, 41, 42, 43, 44, 76, 77, 78, 79, 80, 81, 82, 83, 84] ?_
  simp only [keepE, E_cons, E_nil, reduceIte, Nat.reduceEqDiff]
  refine .see (upd (upd _ 4 ⟨_, none⟩) 5 ⟨_, none⟩) [(4, .dptr (Graph.c g)), (5, .dptr (Edit.c e)), (2, int n), (3, int m)] ⟨T.box (k := 2) (cs := Graph.c g) (by simp [upd]) (by simp [upd]), T.box (k := 5) (cs := Edit.c e) (by simp [upd]) (by simp [upd]), .refl _, .refl _, trivial⟩ (Dies.kill2 _ 4 5 _ _ _ _ (by decide)) ?_
  refine .seqk fun K2 hK2 => ?_
  refine .seqk fun K3 hK3 => ?_
  refine .reg ?_
  simp
  refine hK3 _ ?_
  clear hK3 K3
  refine .block ?_
  refine .seqk fun K4 hK4 => ?_
  refine .reg ?_
  simp
  refine hK4 _ ?_
  clear hK4 K4
  refine .condk _ rfl (fun hc1 => ?_) (fun hc1 => ?_)
  · try simp at hc1
    refine .seqk fun K5 hK5 => ?_
    refine .seqk fun K6 hK6 => ?_
    refine .reg ?_
    refine Sq.cutk 4 fun K7 hK7 => ?_
    simp only [List.take_succ_cons, List.take_zero, List.drop_succ_cons, List.drop_zero]
    simp
    refine PCall.sq (p124 e.ty n) fun h1 he1 => ?_
    simp only [mergeH_eq he1]
    clear he1 h1
    refine hK7 _ ?_
    clear hK7 K7
    simp
    refine hK6 _ ?_
    clear hK6 K6
    refine .keep [4, 18] ?_
    simp only [keepE, E_cons, E_nil, reduceIte, Nat.reduceEqDiff]
    refine .condk _ rfl (fun hc2 => ?_) (fun hc2 => ?_)
    · try simp at hc2
      refine .seqk fun K8 hK8 => ?_
      refine .reg ?_
      simp
      refine hK8 _ ?_
      clear hK8 K8
      refine .ret ?_
      -- leaf 1
      refine ret_d (.inr rfl) rfl (.refl _) rfl (by first | exact OutEq.outer _ | assumption | (simp; done) | (simp; assumption)) ?_
      simp_all [editErr]
    · try simp at hc2
      refine .skip ?_
      refine hK5 _ ?_
      clear hK5 K5
      refine .seqk fun K9 hK9 => ?_
      refine .reg ?_
      simp
      refine hK9 _ ?_
      clear hK9 K9
      refine .keep [22] ?_
      simp only [keepE, E_cons, E_nil, reduceIte, Nat.reduceEqDiff]
      refine .condk _ rfl (fun hc3 => ?_) (fun hc3 => ?_)
      · try simp at hc3
        refine .seqk fun K10 hK10 => ?_
        refine .reg ?_
        simp
        refine hK10 _ ?_
        clear hK10 K10
        refine .ret ?_
        -- leaf 2
        refine ret_d (.inr rfl) rfl (.refl _) rfl (by first | exact OutEq.outer _ | assumption | (simp; done) | (simp; assumption)) ?_
        simp_all [editErr]
      · try simp at hc3
        refine .skip ?_
        refine hK2 _ ?_
        clear hK2 K2
        refine .seqk fun K11 hK11 => ?_
        refine .reg ?_
        simp
        refine hK11 _ ?_
        clear hK11 K11
        refine .ret ?_
        -- leaf 3
        refine ret_d (.inr rfl) rfl (.refl _) rfl (by first | exact OutEq.outer _ | assumption | (simp; done) | (simp; assumption)) ?_
        simp_all [editErr]
  · try simp at hc1
    refine .seqk fun K12 hK12 => ?_
    refine .reg ?_
    simp
    refine hK12 _ ?_
    clear hK12 K12
    refine .condk _ rfl (fun hc4 => ?_) (fun hc4 => ?_)
    · try simp at hc4
      refine .seqk fun K13 hK13 => ?_
      refine .seqk fun K14 hK14 => ?_
      refine .reg ?_
      refine Sq.cutk 4 fun K15 hK15 => ?_
      simp only [List.take_succ_cons, List.take_zero, List.drop_succ_cons, List.drop_zero]
      simp
      refine PCall.sq (p124 e.ty m) fun h1 he1 => ?_
      simp only [mergeH_eq he1]
      clear he1 h1
      refine hK15 _ ?_
      clear hK15 K15
      simp
      refine hK14 _ ?_
      clear hK14 K14
      refine .keep [4, 5, 29, 38, 39, 40, 41, 42, 43, 44] ?_
      simp only [keepE, E_cons, E_nil, reduceIte, Nat.reduceEqDiff]
      refine .condk _ rfl (fun hc5 => ?_) (fun hc5 => ?_)
      · try simp at hc5
        refine .seqk fun K16 hK16 => ?_
        refine .reg ?_
        simp
        refine hK16 _ ?_
        clear hK16 K16
        refine .ret ?_
        -- leaf 4
        refine ret_d (.inr rfl) rfl (.refl _) rfl (by first | exact OutEq.outer _ | assumption | (simp; done) | (simp; assumption)) ?_
        simp_all [editErr]
      · try simp at hc5
        refine .skip ?_
        refine hK13 _ ?_
        clear hK13 K13
        refine .seqk fun K17 hK17 => ?_
        refine .seqreg (fun hh => hh) (fun ee => [(4, ee 4), (45, bo (!(inI e.src g.nodes.length && inI e.tgt g.nodes.length)))]) ?_ ?_
        · refine Sq.cutk 6 fun K1 hK1 => ?_
          simp only [List.take_succ_cons, List.take_zero, List.drop_succ_cons, List.drop_zero]
          simp
          refine PCall.sq (p124 e.src g.nodes.length) fun _ he => ?_
          simp only [mergeH_eq he]
          refine hK1 _ ?_
          by_cases h1 : inI e.src g.nodes.length = true
          · refine Sq.cutk 8 fun K2 hK2 => ?_
            simp only [List.take_succ_cons, List.take_zero, List.drop_succ_cons, List.drop_zero]
            simp [h1]
            refine PCall.sq (p124 e.tgt g.nodes.length) fun _ he => ?_
            simp only [mergeH_eq he]
            refine hK2 _ ?_
            simp [h1]
          · simp at h1
            simp [h1]
        try simp only [E_cons, E_nil, reduceIte, Nat.reduceEqDiff]
        refine .condk _ rfl (fun hc6 => ?_) (fun hc6 => ?_)
        · try simp at hc6
          refine .seqk fun K18 hK18 => ?_
          refine .reg ?_
          simp
          refine hK18 _ ?_
          clear hK18 K18
          refine .ret ?_
          -- leaf 5
          refine ret_d (.inr rfl) rfl (.refl _) rfl (by first | exact OutEq.outer _ | assumption | (simp; done) | (simp; assumption)) ?_
          simp_all [editErr]
          intro h1 h2
          rcases hc6 with h3 | h3 <;> simp_all
        · try simp at hc6
          refine .skip ?_
          refine hK17 _ ?_
          clear hK17 K17
          refine .seqk fun K19 hK19 => ?_
          refine .reg ?_
          simp
          refine hK19 _ ?_
          clear hK19 K19
          refine .keep [49] ?_
          simp only [keepE, E_cons, E_nil, reduceIte, Nat.reduceEqDiff]
          refine .condk _ rfl (fun hc7 => ?_) (fun hc7 => ?_)
          · try simp at hc7
            refine .seqk fun K20 hK20 => ?_
            refine .reg ?_
            simp
            refine hK20 _ ?_
            clear hK20 K20
            refine .ret ?_
            -- leaf 6
            refine ret_d (.inr rfl) rfl (.refl _) rfl (by first | exact OutEq.outer _ | assumption | (simp; done) | (simp; assumption)) ?_
            simp_all [editErr]
          · try simp at hc7
            refine .skip ?_
            refine hK2 _ ?_
            clear hK2 K2
            refine .seqk fun K21 hK21 => ?_
            refine .reg ?_
            simp
            refine hK21 _ ?_
            clear hK21 K21
            refine .ret ?_
            -- leaf 7
            refine ret_d (.inr rfl) rfl (.refl _) rfl (by first | exact OutEq.outer _ | assumption | (simp; done) | (simp; assumption)) ?_
            simp_all [editErr]
    · try simp at hc4
      refine .seqk fun K22 hK22 => ?_
      refine .reg ?_
      simp
      refine hK22 _ ?_
      clear hK22 K22
      refine .condk _ rfl (fun hc8 => ?_) (fun hc8 => ?_)
      · try simp at hc8
        refine .seqk fun K23 hK23 => ?_
        refine .seqk fun K24 hK24 => ?_
        refine .reg ?_
        refine Sq.cutk 6 fun K25 hK25 => ?_
        simp only [List.take_succ_cons, List.take_zero, List.drop_succ_cons, List.drop_zero]
        simp
        refine PCall.sq (p124 e.index g.nodes.length) fun h1 he1 => ?_
        simp only [mergeH_eq he1]
        clear he1 h1
        refine hK25 _ ?_
        clear hK25 K25
        simp
        refine hK24 _ ?_
        clear hK24 K24
        refine .keep [4, 5, 58, 76, 77, 78, 79, 80, 81, 82, 83, 84] ?_
        simp only [keepE, E_cons, E_nil, reduceIte, Nat.reduceEqDiff]
        refine .condk _ rfl (fun hc9 => ?_) (fun hc9 => ?_)
        · try simp at hc9
          refine .seqk fun K26 hK26 => ?_
          refine .reg ?_
          simp
          refine hK26 _ ?_
          clear hK26 K26
          refine .ret ?_
          -- leaf 8
          refine ret_d (.inr rfl) rfl (.refl _) rfl (by first | exact OutEq.outer _ | assumption | (simp; done) | (simp; assumption)) ?_
          simp_all [editErr]
        · try simp at hc9
          refine .skip ?_
          refine hK23 _ ?_
          clear hK23 K23
          refine .seqk fun K27 hK27 => ?_
          refine .reg ?_
          simp
          refine hK27 _ ?_
          clear hK27 K27
          refine .block ?_
          refine .count g.edges.length (fun i st => (g.edges.drop i).any (touch e.index) = g.edges.any (touch e.index) ∧ ∃ hh, OutEq hh h ∧ st = ⟨E [(9, int i), (4, .dptr (Graph.c g)), (5, .dptr (Edit.c e))], hh⟩) 0 (Nat.zero_le _) _ (.cov (h' := upd (upd (outer h) 4 ⟨_, none⟩) 5 ⟨_, none⟩) (by simp) (.refl _)) ⟨by simp, _, by simp, rfl⟩ ?_
          rintro i s hi1 ⟨hp, hh, hho, rfl⟩ K28 hK28
          refine .seqk fun K29 hK29 => ?_
          refine .seqk fun K30 hK30 => ?_
          refine .reg ?_
          simp
          refine hK30 _ ?_
          clear hK30 K30
          refine .keep [4, 5, 9, 63, 76, 77, 78, 79, 80, 81, 82, 83, 84] ?_
          simp only [keepE, E_cons, E_nil, reduceIte, Nat.reduceEqDiff]
          refine .condk _ rfl (fun hc10 => ?_) (fun hc10 => ?_)
          · simp at hc10
            obtain ⟨x, hx⟩ := get_some hc10
            refine .skip ?_
            refine hK29 _ ?_
            clear hK29 K29
            refine .seqk fun K31 hK31 => ?_
            refine .block ?_
            refine .seqdreg mixed (fun hh => hh) (fun ee => [(4, ee 4), (5, ee 5), (9, ee 9), (85, bo (touch e.index x))]) ?_ ?_
            · by_cases h1 : x.src = e.index <;> by_cases h2 : x.tgt = e.index <;> simp [hx, h1, h2, touch]
            try simp only [E_cons, E_nil, reduceIte, Nat.reduceEqDiff]
            refine .condk _ rfl (fun hc11 => ?_) (fun hc11 => ?_)
            · skip
              refine .seqk fun K32 hK32 => ?_
              refine .reg ?_
              simp
              refine hK32 _ ?_
              clear hK32 K32
              refine .ret ?_
              -- leaf 9
              refine ret_d (.inr rfl) rfl (.refl _) rfl (by first | exact OutEq.outer _ | assumption | (simp; done) | (simp; assumption)) ?_
              simp [editErr, hc1, hc4, hc8, hc9, any_cons_t (p := touch e.index) hx hc11]
            · skip
              refine .skip ?_
              refine hK31 _ ?_
              clear hK31 K31
              refine .reg ?_
              simp
              -- loop back, leaf 10
              refine hK28 _ _ (by omega) (Wk.cov ?_ (.refl _)) ⟨?_, _, hho, rfl⟩
              · simp; exact wrap64 (by omega) (by omega)
              · rw [any_drop _ _ _ _ hx (by simpa using hc11)]; exact hp
          · simp at hc10
            have hi : i = g.edges.length := by omega
            have hee : g.edges.any (touch e.index) = false := by rw [← hp, hi]; simp
            refine .exit ?_
            try simp only [then', inBlk, if_true, if_false, reduceIte, Nat.reduceEqDiff]
            refine hK2 _ ?_
            clear hK29 hK28 hK2 K29 K28 K2
            refine .seqk fun K33 hK33 => ?_
            refine .reg ?_
            simp
            refine hK33 _ ?_
            clear hK33 K33
            refine .ret ?_
            -- leaf 11
            refine ret_d (.inr rfl) rfl (.refl _) rfl (by first | exact OutEq.outer _ | assumption | (simp; done) | (simp; assumption)) ?_
            simp [editErr, hc1, hc4, hc8, hc9, hee]
      · try simp at hc8
        refine .seqk fun K34 hK34 => ?_
        refine .reg ?_
        simp
        refine hK34 _ ?_
        clear hK34 K34
        refine .condk _ rfl (fun hc12 => ?_) (fun hc12 => ?_)
        · try simp at hc12
          refine .seqk fun K35 hK35 => ?_
          refine .reg ?_
          refine Sq.cutk 6 fun K36 hK36 => ?_
          simp only [List.take_succ_cons, List.take_zero, List.drop_succ_cons, List.drop_zero]
          simp
          refine PCall.sq (p124 e.index g.edges.length) fun h1 he1 => ?_
          simp only [mergeH_eq he1]
          clear he1 h1
          refine hK36 _ ?_
          clear hK36 K36
          simp
          refine hK35 _ ?_
          clear hK35 K35
          refine .keep [94] ?_
          simp only [keepE, E_cons, E_nil, reduceIte, Nat.reduceEqDiff]
          refine .condk _ rfl (fun hc13 => ?_) (fun hc13 => ?_)
          · try simp at hc13
            refine .seqk fun K37 hK37 => ?_
            refine .reg ?_
            simp
            refine hK37 _ ?_
            clear hK37 K37
            refine .ret ?_
            -- leaf 12
            refine ret_d (.inr rfl) rfl (.refl _) rfl (by first | exact OutEq.outer _ | assumption | (simp; done) | (simp; assumption)) ?_
            simp_all [editErr]
          · try simp at hc13
            refine .skip ?_
            refine hK2 _ ?_
            clear hK2 K2
            refine .seqk fun K38 hK38 => ?_
            refine .reg ?_
            simp
            refine hK38 _ ?_
            clear hK38 K38
            refine .ret ?_
            -- leaf 13
            refine ret_d (.inr rfl) rfl (.refl _) rfl (by first | exact OutEq.outer _ | assumption | (simp; done) | (simp; assumption)) ?_
            simp_all [editErr]
        · try simp at hc12
          refine .seqk fun K39 hK39 => ?_
          refine .reg ?_
          simp
          refine hK39 _ ?_
          clear hK39 K39
          refine .ret ?_
          -- leaf 14
          refine ret_d (.inr rfl) rfl (.refl _) rfl (by first | exact OutEq.outer _ | assumption | (simp; done) | (simp; assumption)) ?_
          simp_all [editErr]
end Go.Abs
set_option linter.unusedVariables false
set_option linter.unusedSimpArgs false
namespace Go.Abs
open Go Go.Proofs

def zeroE : Edit := ⟨0, 0, 0, 0, 0⟩
def opp (g : Graph) (e : Edit) : Edit × Int :=
  if gErr g ≠ 0 then (zeroE, gErr g)
  else if editErr g e 100 100 ≠ 0 then (zeroE, editErr g e 100 100)
  else if e.kind = 1 then (⟨3, g.nodes.length, 0, 0, 0⟩, 0)
  else if e.kind = 2 then (⟨4, g.edges.length, 0, 0, 0⟩, 0)
  else if e.kind = 3 then (if e.index = g.nodes.length - 1 then (⟨1, 0, (g.nodes[e.index.toNat]?).getD 0, 0, 0⟩, 0) else (zeroE, 8))
  else if e.kind = 4 then (if e.index = g.edges.length - 1 then (match g.edges[e.index.toNat]? with | some x => (⟨2, 0, x.ty, x.src, x.tgt⟩, 0) | none => (zeroE, 8)) else (zeroE, 8))
  else (zeroE, 8)
theorem Dies.kill23 (h : Heap) (b c d v u : Nat) (x y : Option Blk) (z : HB) (h1 : b ≠ c) (h2 : b ≠ d) (h3 : c ≠ d) :
    Dies (Go.Abs.upd (Go.Abs.upd (Go.Abs.upd h b ⟨v, x⟩) c ⟨u, y⟩) d z) (Go.Abs.upd (Go.Abs.upd (Go.Abs.upd h b ⟨v, none⟩) c ⟨u, none⟩) d z) := by
  intro a
  by_cases e1 : a = d
  · subst e1; exact .inl (by rw [upd_same, upd_same])
  · rw [upd_ne _ _ _ _ e1, upd_ne _ _ _ _ e1]
    by_cases e2 : a = c
    · subst e2; exact .inr ⟨by rw [upd_same], by rw [upd_same, upd_same]; exact Nat.le_refl _⟩
    · rw [upd_ne _ _ _ _ e2, upd_ne _ _ _ _ e2]
      by_cases e3 : a = b
      · subst e3; exact .inr ⟨by rw [upd_same], by rw [upd_same, upd_same]; exact Nat.le_refl _⟩
      · exact .inl (by rw [upd_ne _ _ _ _ e3, upd_ne _ _ _ _ e3])
theorem last_get {g : Graph} {e : Edit} {n m : Int} (hk : e.kind = 3) (h0 : editErr g e n m = 0) : 0 ≤ e.index ∧ ∃ x, g.nodes[e.index.toNat]? = some x := by
  have h1 : inI e.index g.nodes.length = true := by
    cases h : inI e.index g.nodes.length with
    | true => rfl
    | false => simp [editErr, hk, h] at h0
  simp only [inI, Bool.and_eq_true, decide_eq_true_eq] at h1
  exact ⟨h1.1, g.nodes[e.index.toNat]'(by omega), by simp⟩
theorem last_getE {g : Graph} {e : Edit} {n m : Int} (hk : e.kind = 4) (h0 : editErr g e n m = 0) : 0 ≤ e.index ∧ ∃ x, g.edges[e.index.toNat]? = some x := by
  have h1 : inI e.index g.edges.length = true := by
    cases h : inI e.index g.edges.length with
    | true => rfl
    | false => simp [editErr, hk, h] at h0
  simp only [inI, Bool.and_eq_true, decide_eq_true_eq] at h1
  exact ⟨h1.1, g.edges[e.index.toNat]'(by omega), by simp⟩

theorem gErr_len {g : Graph} (h : gErr g = 0) : g.nodes.length ≤ 40 ∧ g.edges.length ≤ 80 := by
  unfold gErr at h
  split at h
  · cases h
  · omega
theorem p55 (g : Graph) (e : Edit) : PCall Tryz.prog 55 [ag (Graph.c g), ag (Edit.c e)] (.tup [ag (Edit.c (opp g e).1), int (opp g e).2]) := by
  intro h
  refine ACall.of b55 (by simp) ?_
  unfold c55
  refine .seqk fun K1 hK1 => ?_
  refine .reg ?_
  simp
  refine hK1 _ ?_
  clear hK1 K1
  refine .keep [2, 3, 4] ?_
  simp only [keepE, E_cons, E_nil, reduceIte, Nat.reduceEqDiff]
  refine .see (upd (upd (upd _ 2 ⟨_, none⟩) 3 ⟨_, none⟩) 4 _) [(2, .dptr (Graph.c g)), (3, .dptr (Edit.c e)), (4, .ptr 4 _ 0 0)] ⟨T.box (k := 2) (cs := Graph.c g) (by simp [upd]) (by simp [upd]), T.box (k := 5) (cs := Edit.c e) (by simp [upd]) (by simp [upd]), .refl _, trivial⟩ (Dies.kill23 _ 2 3 4 _ _ _ _ _ (by decide) (by decide) (by decide)) ?_
  refine .seqk fun K2 hK2 => ?_
  refine .seqk fun K3 hK3 => ?_
  refine .reg ?_
  refine Sq.cutk 2 fun K4 hK4 => ?_
  simp only [List.take_succ_cons, List.take_zero, List.drop_succ_cons, List.drop_zero]
  simp
  refine PCall.sq (p96 g) fun h1 he1 => ?_
  simp only [mergeH_eq he1]
  clear he1 h1
  refine hK4 _ ?_
  clear hK4 K4
  simp
  refine hK3 _ ?_
  clear hK3 K3
  refine .keep [2, 3, 4, 6] ?_
  simp only [keepE, E_cons, E_nil, reduceIte, Nat.reduceEqDiff]
  refine .seqk fun K5 hK5 => ?_
  refine .reg ?_
  simp
  refine hK5 _ ?_
  clear hK5 K5
  refine .condk _ rfl (fun hc1 => ?_) (fun hc1 => ?_)
  · try simp at hc1
    refine .seqk fun K6 hK6 => ?_
    refine .reg ?_
    simp
    refine hK6 _ ?_
    clear hK6 K6
    refine .keep [4, 5] ?_
    simp only [keepE, E_cons, E_nil, reduceIte, Nat.reduceEqDiff]
    refine .ret ?_
    -- leaf 1
    refine ret_d (v := .tup [ag (Edit.c (opp g e).1), int (opp g e).2]) (.inr rfl) ?_ (.refl _) rfl (by first | exact OutEq.outer _ | assumption | (simp; done) | (simp; assumption)) rfl
    simp_all [opp, zeroE]
  · simp at hc1
    have hl : g.nodes.length ≤ 40 ∧ g.edges.length ≤ 80 := gErr_len hc1
    have hwn : IntKind.i64.wrap ((g.nodes.length : Int) - 1) = g.nodes.length - 1 := wrap64 (by omega) (by omega)
    have hwe : IntKind.i64.wrap ((g.edges.length : Int) - 1) = g.edges.length - 1 := wrap64 (by omega) (by omega)
    refine .skip ?_
    refine hK2 _ ?_
    clear hK2 K2
    refine .seqk fun K7 hK7 => ?_
    refine .seqk fun K8 hK8 => ?_
    refine .reg ?_
    refine Sq.cutk 3 fun K9 hK9 => ?_
    simp only [List.take_succ_cons, List.take_zero, List.drop_succ_cons, List.drop_zero]
    simp
    refine PCall.sq (p110 g e 100 100) fun h1 he1 => ?_
    simp only [mergeH_eq he1]
    clear he1 h1
    refine hK9 _ ?_
    clear hK9 K9
    simp
    refine hK8 _ ?_
    clear hK8 K8
    refine .keep [2, 3, 4, 7] ?_
    simp only [keepE, E_cons, E_nil, reduceIte, Nat.reduceEqDiff]
    refine .seqk fun K10 hK10 => ?_
    refine .reg ?_
    simp
    refine hK10 _ ?_
    clear hK10 K10
    refine .condk _ rfl (fun hc2 => ?_) (fun hc2 => ?_)
    · try simp at hc2
      refine .seqk fun K11 hK11 => ?_
      refine .reg ?_
      simp
      refine hK11 _ ?_
      clear hK11 K11
      refine .keep [4, 5] ?_
      simp only [keepE, E_cons, E_nil, reduceIte, Nat.reduceEqDiff]
      refine .ret ?_
      -- leaf 2
      refine ret_d (v := .tup [ag (Edit.c (opp g e).1), int (opp g e).2]) (.inr rfl) ?_ (.refl _) rfl (by first | exact OutEq.outer _ | assumption | (simp; done) | (simp; assumption)) rfl
      simp_all [opp, zeroE]
    · try simp at hc2
      refine .skip ?_
      refine hK7 _ ?_
      clear hK7 K7
      refine .seqk fun K12 hK12 => ?_
      refine .seqk fun K13 hK13 => ?_
      refine .reg ?_
      simp
      refine hK13 _ ?_
      clear hK13 K13
      refine .block ?_
      refine .seqk fun K14 hK14 => ?_
      refine .reg ?_
      simp
      refine hK14 _ ?_
      clear hK14 K14
      refine .condk _ rfl (fun hc3 => ?_) (fun hc3 => ?_)
      · try simp at hc3
        refine .seqk fun K15 hK15 => ?_
        refine .reg ?_
        simp
        refine hK15 _ ?_
        clear hK15 K15
        refine .keep [4, 5] ?_
        simp only [keepE, E_cons, E_nil, reduceIte, Nat.reduceEqDiff]
        refine .ret ?_
        -- leaf 3
        refine ret_d (v := .tup [ag (Edit.c (opp g e).1), int (opp g e).2]) (.inr rfl) ?_ (.refl _) rfl (by first | exact OutEq.outer _ | assumption | (simp; done) | (simp; assumption)) rfl
        simp_all [opp, zeroE]
      · try simp at hc3
        refine .seqk fun K16 hK16 => ?_
        refine .reg ?_
        simp
        refine hK16 _ ?_
        clear hK16 K16
        refine .condk _ rfl (fun hc4 => ?_) (fun hc4 => ?_)
        · try simp at hc4
          refine .seqk fun K17 hK17 => ?_
          refine .reg ?_
          simp
          refine hK17 _ ?_
          clear hK17 K17
          refine .keep [4, 5] ?_
          simp only [keepE, E_cons, E_nil, reduceIte, Nat.reduceEqDiff]
          refine .ret ?_
          -- leaf 4
          refine ret_d (v := .tup [ag (Edit.c (opp g e).1), int (opp g e).2]) (.inr rfl) ?_ (.refl _) rfl (by first | exact OutEq.outer _ | assumption | (simp; done) | (simp; assumption)) rfl
          simp_all [opp, zeroE]
        · try simp at hc4
          refine .seqk fun K18 hK18 => ?_
          refine .reg ?_
          simp
          refine hK18 _ ?_
          clear hK18 K18
          refine .condk _ rfl (fun hc5 => ?_) (fun hc5 => ?_)
          · try simp at hc5
            refine .seqk fun K19 hK19 => ?_
            refine .reg ?_
            simp [hwn]
            refine hK19 _ ?_
            clear hK19 K19
            refine .keep [2, 3, 4, 44] ?_
            simp only [keepE, E_cons, E_nil, reduceIte, Nat.reduceEqDiff]
            refine .condk _ rfl (fun hc6 => ?_) (fun hc6 => ?_)
            · simp at hc6
              obtain ⟨hi0, x, hx⟩ := last_get hc5 hc2
              refine .seqk fun K20 hK20 => ?_
              refine .reg ?_
              simp [hx, hi0]
              refine hK20 _ ?_
              clear hK20 K20
              refine .keep [4, 5] ?_
              simp only [keepE, E_cons, E_nil, reduceIte, Nat.reduceEqDiff]
              refine .ret ?_
              -- leaf 5
              refine ret_d (v := .tup [ag (Edit.c (opp g e).1), int (opp g e).2]) (.inr rfl) ?_ (.refl _) rfl (by first | exact OutEq.outer _ | assumption | (simp; done) | (simp; assumption)) rfl
              simp_all [opp, zeroE]
            · try simp at hc6
              refine .skip ?_
              refine hK12 _ ?_
              clear hK12 K12
              refine .seqk fun K21 hK21 => ?_
              refine .reg ?_
              simp
              refine hK21 _ ?_
              clear hK21 K21
              refine .keep [4, 5] ?_
              simp only [keepE, E_cons, E_nil, reduceIte, Nat.reduceEqDiff]
              refine .ret ?_
              -- leaf 6
              refine ret_d (v := .tup [ag (Edit.c (opp g e).1), int (opp g e).2]) (.inr rfl) ?_ (.refl _) rfl (by first | exact OutEq.outer _ | assumption | (simp; done) | (simp; assumption)) rfl
              simp_all [opp, zeroE]
          · try simp at hc5
            refine .seqk fun K22 hK22 => ?_
            refine .reg ?_
            simp
            refine hK22 _ ?_
            clear hK22 K22
            refine .condk _ rfl (fun hc7 => ?_) (fun hc7 => ?_)
            · try simp at hc7
              refine .seqk fun K23 hK23 => ?_
              refine .reg ?_
              simp [hwe]
              refine hK23 _ ?_
              clear hK23 K23
              refine .keep [2, 3, 4, 60] ?_
              simp only [keepE, E_cons, E_nil, reduceIte, Nat.reduceEqDiff]
              refine .condk _ rfl (fun hc8 => ?_) (fun hc8 => ?_)
              · simp at hc8
                obtain ⟨hi0, x, hx⟩ := last_getE hc7 hc2
                refine .seqk fun K24 hK24 => ?_
                refine .reg ?_
                simp [hx, hi0]
                refine hK24 _ ?_
                clear hK24 K24
                refine .keep [4, 8] ?_
                simp only [keepE, E_cons, E_nil, reduceIte, Nat.reduceEqDiff]
                refine .seqk fun K25 hK25 => ?_
                refine .reg ?_
                simp
                refine hK25 _ ?_
                clear hK25 K25
                refine .keep [4, 5] ?_
                simp only [keepE, E_cons, E_nil, reduceIte, Nat.reduceEqDiff]
                refine .ret ?_
                -- leaf 7
                refine ret_d (v := .tup [ag (Edit.c (opp g e).1), int (opp g e).2]) (.inr rfl) ?_ (.refl _) rfl (by first | exact OutEq.outer _ | assumption | (simp; done) | (simp; assumption)) rfl
                simp_all [opp, zeroE]
              · try simp at hc8
                refine .skip ?_
                refine hK12 _ ?_
                clear hK12 K12
                refine .seqk fun K26 hK26 => ?_
                refine .reg ?_
                simp
                refine hK26 _ ?_
                clear hK26 K26
                refine .keep [4, 5] ?_
                simp only [keepE, E_cons, E_nil, reduceIte, Nat.reduceEqDiff]
                refine .ret ?_
                -- leaf 8
                refine ret_d (v := .tup [ag (Edit.c (opp g e).1), int (opp g e).2]) (.inr rfl) ?_ (.refl _) rfl (by first | exact OutEq.outer _ | assumption | (simp; done) | (simp; assumption)) rfl
                simp_all [opp, zeroE]
            · try simp at hc7
              refine .skip ?_
              refine hK12 _ ?_
              clear hK12 K12
              refine .seqk fun K27 hK27 => ?_
              refine .reg ?_
              simp
              refine hK27 _ ?_
              clear hK27 K27
              refine .keep [4, 5] ?_
              simp only [keepE, E_cons, E_nil, reduceIte, Nat.reduceEqDiff]
              refine .ret ?_
              -- leaf 9
              refine ret_d (v := .tup [ag (Edit.c (opp g e).1), int (opp g e).2]) (.inr rfl) ?_ (.refl _) rfl (by first | exact OutEq.outer _ | assumption | (simp; done) | (simp; assumption)) rfl
              simp_all [opp, zeroE]
theorem p56 (g : Graph) (e : Edit) : PCall Tryz.prog 56 [ag (Graph.c g), ag (Edit.c e)] (.tup [ag (Edit.c (opp g e).1), int (opp g e).2]) := by
  intro h
  refine ACall.of b56 (by simp) ?_
  unfold c56
  refine .seqk fun K1 hK1 => ?_
  refine .reg ?_
  simp
  refine hK1 _ ?_
  clear hK1 K1
  refine .keep [2, 3, 4] ?_
  simp only [keepE, E_cons, E_nil, reduceIte, Nat.reduceEqDiff]
  refine .see (upd (upd (upd _ 2 ⟨_, none⟩) 3 ⟨_, none⟩) 4 _) [(2, .dptr (Graph.c g)), (3, .dptr (Edit.c e)), (4, .ptr 4 _ 0 0)] ⟨T.box (k := 2) (cs := Graph.c g) (by simp [upd]) (by simp [upd]), T.box (k := 5) (cs := Edit.c e) (by simp [upd]) (by simp [upd]), .refl _, trivial⟩ (Dies.kill23 _ 2 3 4 _ _ _ _ _ (by decide) (by decide) (by decide)) ?_
  refine .seqk fun K2 hK2 => ?_
  refine .seqk fun K3 hK3 => ?_
  refine .reg ?_
  refine Sq.cutk 2 fun K4 hK4 => ?_
  simp only [List.take_succ_cons, List.take_zero, List.drop_succ_cons, List.drop_zero]
  simp
  refine PCall.sq (p97 g) fun h1 he1 => ?_
  simp only [mergeH_eq he1]
  clear he1 h1
  refine hK4 _ ?_
  clear hK4 K4
  simp
  refine hK3 _ ?_
  clear hK3 K3
  refine .keep [2, 3, 4, 6] ?_
  simp only [keepE, E_cons, E_nil, reduceIte, Nat.reduceEqDiff]
  refine .seqk fun K5 hK5 => ?_
  refine .reg ?_
  simp
  refine hK5 _ ?_
  clear hK5 K5
  refine .condk _ rfl (fun hc1 => ?_) (fun hc1 => ?_)
  · try simp at hc1
    refine .seqk fun K6 hK6 => ?_
    refine .reg ?_
    simp
    refine hK6 _ ?_
    clear hK6 K6
    refine .keep [4, 5] ?_
    simp only [keepE, E_cons, E_nil, reduceIte, Nat.reduceEqDiff]
    refine .ret ?_
    -- leaf 1
    refine ret_d (v := .tup [ag (Edit.c (opp g e).1), int (opp g e).2]) (.inr rfl) ?_ (.refl _) rfl (by first | exact OutEq.outer _ | assumption | (simp; done) | (simp; assumption)) rfl
    simp_all [opp, zeroE]
  · simp at hc1
    have hl : g.nodes.length ≤ 40 ∧ g.edges.length ≤ 80 := gErr_len hc1
    have hwn : IntKind.i64.wrap ((g.nodes.length : Int) - 1) = g.nodes.length - 1 := wrap64 (by omega) (by omega)
    have hwe : IntKind.i64.wrap ((g.edges.length : Int) - 1) = g.edges.length - 1 := wrap64 (by omega) (by omega)
    refine .skip ?_
    refine hK2 _ ?_
    clear hK2 K2
    refine .seqk fun K7 hK7 => ?_
    refine .seqk fun K8 hK8 => ?_
    refine .reg ?_
    refine Sq.cutk 3 fun K9 hK9 => ?_
    simp only [List.take_succ_cons, List.take_zero, List.drop_succ_cons, List.drop_zero]
    simp
    refine PCall.sq (p74 g e 100 100 (by omega)) fun h1 he1 => ?_
    simp only [mergeH_eq he1]
    clear he1 h1
    refine hK9 _ ?_
    clear hK9 K9
    simp
    refine hK8 _ ?_
    clear hK8 K8
    refine .keep [2, 3, 4, 7] ?_
    simp only [keepE, E_cons, E_nil, reduceIte, Nat.reduceEqDiff]
    refine .seqk fun K10 hK10 => ?_
    refine .reg ?_
    simp
    refine hK10 _ ?_
    clear hK10 K10
    refine .condk _ rfl (fun hc2 => ?_) (fun hc2 => ?_)
    · try simp at hc2
      refine .seqk fun K11 hK11 => ?_
      refine .reg ?_
      simp
      refine hK11 _ ?_
      clear hK11 K11
      refine .keep [4, 5] ?_
      simp only [keepE, E_cons, E_nil, reduceIte, Nat.reduceEqDiff]
      refine .ret ?_
      -- leaf 2
      refine ret_d (v := .tup [ag (Edit.c (opp g e).1), int (opp g e).2]) (.inr rfl) ?_ (.refl _) rfl (by first | exact OutEq.outer _ | assumption | (simp; done) | (simp; assumption)) rfl
      simp_all [opp, zeroE]
    · try simp at hc2
      refine .skip ?_
      refine hK7 _ ?_
      clear hK7 K7
      refine .seqk fun K12 hK12 => ?_
      refine .seqk fun K13 hK13 => ?_
      refine .reg ?_
      simp
      refine hK13 _ ?_
      clear hK13 K13
      refine .block ?_
      refine .seqk fun K14 hK14 => ?_
      refine .reg ?_
      simp
      refine hK14 _ ?_
      clear hK14 K14
      refine .condk _ rfl (fun hc3 => ?_) (fun hc3 => ?_)
      · try simp at hc3
        refine .seqk fun K15 hK15 => ?_
        refine .reg ?_
        simp
        refine hK15 _ ?_
        clear hK15 K15
        refine .keep [4, 5] ?_
        simp only [keepE, E_cons, E_nil, reduceIte, Nat.reduceEqDiff]
        refine .ret ?_
        -- leaf 3
        refine ret_d (v := .tup [ag (Edit.c (opp g e).1), int (opp g e).2]) (.inr rfl) ?_ (.refl _) rfl (by first | exact OutEq.outer _ | assumption | (simp; done) | (simp; assumption)) rfl
        simp_all [opp, zeroE]
      · try simp at hc3
        refine .seqk fun K16 hK16 => ?_
        refine .reg ?_
        simp
        refine hK16 _ ?_
        clear hK16 K16
        refine .condk _ rfl (fun hc4 => ?_) (fun hc4 => ?_)
        · try simp at hc4
          refine .seqk fun K17 hK17 => ?_
          refine .reg ?_
          simp
          refine hK17 _ ?_
          clear hK17 K17
          refine .keep [4, 5] ?_
          simp only [keepE, E_cons, E_nil, reduceIte, Nat.reduceEqDiff]
          refine .ret ?_
          -- leaf 4
          refine ret_d (v := .tup [ag (Edit.c (opp g e).1), int (opp g e).2]) (.inr rfl) ?_ (.refl _) rfl (by first | exact OutEq.outer _ | assumption | (simp; done) | (simp; assumption)) rfl
          simp_all [opp, zeroE]
        · try simp at hc4
          refine .seqk fun K18 hK18 => ?_
          refine .reg ?_
          simp
          refine hK18 _ ?_
          clear hK18 K18
          refine .condk _ rfl (fun hc5 => ?_) (fun hc5 => ?_)
          · try simp at hc5
            refine .seqk fun K19 hK19 => ?_
            refine .reg ?_
            simp [hwn]
            refine hK19 _ ?_
            clear hK19 K19
            refine .keep [2, 3, 4, 44] ?_
            simp only [keepE, E_cons, E_nil, reduceIte, Nat.reduceEqDiff]
            refine .condk _ rfl (fun hc6 => ?_) (fun hc6 => ?_)
            · simp at hc6
              obtain ⟨hi0, x, hx⟩ := last_get hc5 hc2
              refine .seqk fun K20 hK20 => ?_
              refine .reg ?_
              simp [hx, hi0]
              refine hK20 _ ?_
              clear hK20 K20
              refine .keep [4, 5] ?_
              simp only [keepE, E_cons, E_nil, reduceIte, Nat.reduceEqDiff]
              refine .ret ?_
              -- leaf 5
              refine ret_d (v := .tup [ag (Edit.c (opp g e).1), int (opp g e).2]) (.inr rfl) ?_ (.refl _) rfl (by first | exact OutEq.outer _ | assumption | (simp; done) | (simp; assumption)) rfl
              simp_all [opp, zeroE]
            · try simp at hc6
              refine .skip ?_
              refine hK12 _ ?_
              clear hK12 K12
              refine .seqk fun K21 hK21 => ?_
              refine .reg ?_
              simp
              refine hK21 _ ?_
              clear hK21 K21
              refine .keep [4, 5] ?_
              simp only [keepE, E_cons, E_nil, reduceIte, Nat.reduceEqDiff]
              refine .ret ?_
              -- leaf 6
              refine ret_d (v := .tup [ag (Edit.c (opp g e).1), int (opp g e).2]) (.inr rfl) ?_ (.refl _) rfl (by first | exact OutEq.outer _ | assumption | (simp; done) | (simp; assumption)) rfl
              simp_all [opp, zeroE]
          · try simp at hc5
            refine .seqk fun K22 hK22 => ?_
            refine .reg ?_
            simp
            refine hK22 _ ?_
            clear hK22 K22
            refine .condk _ rfl (fun hc7 => ?_) (fun hc7 => ?_)
            · try simp at hc7
              refine .seqk fun K23 hK23 => ?_
              refine .reg ?_
              simp [hwe]
              refine hK23 _ ?_
              clear hK23 K23
              refine .keep [2, 3, 4, 60] ?_
              simp only [keepE, E_cons, E_nil, reduceIte, Nat.reduceEqDiff]
              refine .condk _ rfl (fun hc8 => ?_) (fun hc8 => ?_)
              · simp at hc8
                obtain ⟨hi0, x, hx⟩ := last_getE hc7 hc2
                refine .seqk fun K24 hK24 => ?_
                refine .reg ?_
                simp [hx, hi0]
                refine hK24 _ ?_
                clear hK24 K24
                refine .keep [4, 8] ?_
                simp only [keepE, E_cons, E_nil, reduceIte, Nat.reduceEqDiff]
                refine .seqk fun K25 hK25 => ?_
                refine .reg ?_
                simp
                refine hK25 _ ?_
                clear hK25 K25
                refine .keep [4, 5] ?_
                simp only [keepE, E_cons, E_nil, reduceIte, Nat.reduceEqDiff]
                refine .ret ?_
                -- leaf 7
                refine ret_d (v := .tup [ag (Edit.c (opp g e).1), int (opp g e).2]) (.inr rfl) ?_ (.refl _) rfl (by first | exact OutEq.outer _ | assumption | (simp; done) | (simp; assumption)) rfl
                simp_all [opp, zeroE]
              · try simp at hc8
                refine .skip ?_
                refine hK12 _ ?_
                clear hK12 K12
                refine .seqk fun K26 hK26 => ?_
                refine .reg ?_
                simp
                refine hK26 _ ?_
                clear hK26 K26
                refine .keep [4, 5] ?_
                simp only [keepE, E_cons, E_nil, reduceIte, Nat.reduceEqDiff]
                refine .ret ?_
                -- leaf 8
                refine ret_d (v := .tup [ag (Edit.c (opp g e).1), int (opp g e).2]) (.inr rfl) ?_ (.refl _) rfl (by first | exact OutEq.outer _ | assumption | (simp; done) | (simp; assumption)) rfl
                simp_all [opp, zeroE]
            · try simp at hc7
              refine .skip ?_
              refine hK12 _ ?_
              clear hK12 K12
              refine .seqk fun K27 hK27 => ?_
              refine .reg ?_
              simp
              refine hK27 _ ?_
              clear hK27 K27
              refine .keep [4, 5] ?_
              simp only [keepE, E_cons, E_nil, reduceIte, Nat.reduceEqDiff]
              refine .ret ?_
              -- leaf 9
              refine ret_d (v := .tup [ag (Edit.c (opp g e).1), int (opp g e).2]) (.inr rfl) ?_ (.refl _) rfl (by first | exact OutEq.outer _ | assumption | (simp; done) | (simp; assumption)) rfl
              simp_all [opp, zeroE]
end Go.Abs
set_option linter.unusedVariables false
set_option linter.unusedSimpArgs false
namespace Go.Abs
open Go Go.Proofs

theorem AW.seqdregx {α : Type} {P : Program} {N : Nat} {c : ACode} {Q : AX → St → Prop} {e : Env} {h : Heap} {ops : List GOp} {un : List (Nat × Nat)} (hm : P.follows .mixedOrders = true) (pre : α → Prop) (h' : α → Heap → Heap) (l : α → Env → List (Nat × AV))
    (ho : Dr P ops ⟨e, h⟩ fun s fs => conf un fs = true ∧ ∃ x, pre x ∧ Cov (l x e) s.env ∧ Dies s.h (h' x h)) (hw : ∀ x, pre x → AW P N c Q ⟨E (l x e), h' x h⟩) : AW P N (.seq (.dreg ops un) c) Q ⟨e, h⟩ :=
  .seq (.dreg hm (ho.mono fun s fs ⟨h0, x, h1, h2, h3⟩ => ⟨h0, .weak (Wk.cov (env := s.env) (h := s.h) h2 h3) (hw x h1)⟩))
theorem T.agg2 {h h' : Heap} {src : Nat → Option Nat} {a b c d : AV} (h1 : T h h' src a c) (h2 : T h h' src b d) : T h h' src (.agg [a, b]) (.agg [c, d]) :=
  .agg _ _ rfl fun j x y hx hy => by
    match j with
    | 0 => simp at hx hy; subst hx hy; exact h1
    | 1 => simp at hx hy; subst hx hy; exact h2
    | j + 2 => simp at hx

theorem Dies.kill1 (h : Heap) (b d v : Nat) (x : Option Blk) (z : HB) (h2 : b ≠ d) : Dies (Go.Abs.upd (Go.Abs.upd h b ⟨v, x⟩) d z) (Go.Abs.upd (Go.Abs.upd h b ⟨v, none⟩) d z) := by
  intro a
  by_cases e1 : a = d
  · subst e1; exact .inl (by rw [upd_same, upd_same])
  · rw [upd_ne _ _ _ _ e1, upd_ne _ _ _ _ e1]
    by_cases e3 : a = b
    · subst e3; exact .inr ⟨by rw [upd_same], by rw [upd_same, upd_same]; exact Nat.le_refl _⟩
    · exact .inl (by rw [upd_ne _ _ _ _ e3, upd_ne _ _ _ _ e3])
theorem p41 (g : Graph) (hn : g.nodes.length ≤ 1000000000) (he : g.edges.length ≤ 1000000000) : PCall Tryz.prog 41 [ag (Graph.c g)] (ag (Graph.c g)) := by
  intro h
  refine ACall.of b41 (by simp) ?_
  unfold c41
  refine .seqk fun K1 hK1 => ?_
  refine .reg ?_
  simp
  refine hK1 _ ?_
  clear hK1 K1
  refine .keep [1, 2] ?_
  simp only [keepE, E_cons, E_nil, reduceIte, Nat.reduceEqDiff]
  refine .see (upd (upd _ 1 ⟨_, none⟩) 2 _) [(1, .dptr (Graph.c g)), (2, .ptr 2 _ 0 0)] ⟨T.box (k := 2) (cs := Graph.c g) (by simp [upd]) (by simp [upd]), .refl _, trivial⟩ (Dies.kill1 _ 1 2 _ _ _ (by decide)) ?_
  refine .seqdregx mixed (α := (Nat × Nat) × (Nat × Nat)) (fun x => True) (fun x hh => upd (upd (upd hh 3 ⟨x.1.1, some ⟨1, dl (g.nodes.map I.c)⟩⟩) 7 ⟨x.2.1, some ⟨3, dl (g.edges.map Edge.c)⟩⟩) 2 ⟨(outer h 2).ver + 1, some ⟨2, [[.sl 3 x.1.1 0 g.nodes.length x.1.2, .sl 7 x.2.1 0 g.edges.length x.2.2]]⟩⟩) (fun x ee => [(2, ee 2)]) ?_ (fun x hx => ?_)
  · have q1 : g.nodes.length * 8 ≤ 17592186044416 := by omega
    have q2 : g.nodes.length ≤ 17592186044416 := by omega
    have q3 : g.edges.length * 24 ≤ 17592186044416 := by omega
    have q4 : g.edges.length ≤ 17592186044416 := by omega
    by_cases h1 : g.nodes = [] <;> by_cases h2 : g.edges = []
    · simp [h1, h2, upd, srcOf]
      exact ⟨_, _, _, _, .refl _⟩
    · simp [h1, h2, q3, q4, upd, srcOf]
      exact ⟨_, _, _, _, .refl _⟩
    · simp [h1, h2, q1, q2, upd, srcOf]
      exact ⟨_, _, _, _, .refl _⟩
    · simp [h1, h2, q1, q2, q3, q4, upd, srcOf]
      exact ⟨_, _, _, _, .refl _⟩
  try simp only [E_cons, E_nil, reduceIte, Nat.reduceEqDiff]
  refine .ret ?_
  -- leaf 1
  refine ret_d (v := .agg [.sl 3 x.1.1 0 g.nodes.length x.1.2, .sl 7 x.2.1 0 g.edges.length x.2.2]) (.inr rfl) ?_ (T.agg2 (T.row (xs := g.nodes.map I.c) (k := 1) (by simp) (by simp [upd]) (by simp)) (T.row (xs := g.edges.map Edge.c) (k := 3) (by simp) (by simp [upd]) (by simp))) rfl (by first | exact OutEq.outer _ | assumption | (simp; done) | (simp; assumption)) rfl
  simp [upd]
end Go.Abs
set_option linter.unusedVariables false
set_option linter.unusedSimpArgs false
namespace Go.Abs
open Go Go.Proofs
theorem p14 (g : Graph) (e : Edit) : PCall Tryz.prog 14 [ag (Graph.c g), ag (Edit.c e)] (bo true) := by
  intro h
  refine ACall.of b14 (by simp) ?_
  unfold c14
  refine .seqk fun K1 hK1 => ?_
  refine .reg ?_
  simp
  refine hK1 _ ?_
  clear hK1 K1
  refine .keep [2, 3, 12, 13, 14, 34, 35, 36] ?_
  simp only [keepE, E_cons, E_nil, reduceIte, Nat.reduceEqDiff]
  refine .see (upd (upd _ 2 ⟨_, none⟩) 3 ⟨_, none⟩) [(2, .dptr (Graph.c g)), (3, .dptr (Edit.c e))] ⟨T.box (k := 2) (cs := Graph.c g) (by simp [upd]) (by simp [upd]), T.box (k := 5) (cs := Edit.c e) (by simp [upd]) (by simp [upd]), trivial⟩ (Dies.kill2 _ 2 3 _ _ _ _ (by decide)) ?_
  refine .seqk fun K2 hK2 => ?_
  refine .seqreg (fun hh => hh) (fun ee => [(2, ee 2), (3, ee 3), (15, bo (!fewG g)), (34, ee 34), (35, ee 35), (36, ee 36)]) ?_ ?_
  · refine Sq.cutk 1 fun K1 hK1 => ?_
    simp only [List.take_succ_cons, List.take_zero, List.drop_succ_cons, List.drop_zero]
    simp
    refine PCall.sq p18 fun _ he => ?_
    simp only [mergeH_eq he]
    refine hK1 _ ?_
    refine Sq.cutk 4 fun K2 hK2 => ?_
    simp only [List.take_succ_cons, List.take_zero, List.drop_succ_cons, List.drop_zero]
    simp
    refine PCall.sq (p39 g) fun _ he => ?_
    simp only [mergeH_eq he]
    refine hK2 _ ?_
    simp
  try simp only [E_cons, E_nil, reduceIte, Nat.reduceEqDiff]
  refine .condk _ rfl (fun hc1 => ?_) (fun hc1 => ?_)
  · skip
    refine .seqk fun K3 hK3 => ?_
    refine .reg ?_
    refine Sq.cutk 1 fun K4 hK4 => ?_
    simp only [List.take_succ_cons, List.take_zero, List.drop_succ_cons, List.drop_zero]
    simp
    refine PCall.sq (p18) fun h1 he1 => ?_
    simp only [mergeH_eq he1]
    clear he1 h1
    refine hK4 _ ?_
    clear hK4 K4
    simp
    refine hK3 _ ?_
    clear hK3 K3
    refine .ret ?_
    -- leaf 1
    refine ret_d (.inr rfl) rfl (.refl _) rfl (by first | exact OutEq.outer _ | assumption | (simp; done) | (simp; assumption)) ?_
    simp
  · simp [fewG] at hc1
    have hl : g.nodes.length ≤ 45 ∧ g.edges.length ≤ 90 := by omega
    refine .skip ?_
    refine hK2 _ ?_
    clear hK2 K2
    refine .seqk fun K5 hK5 => ?_
    refine .dreg mixed ?_
    refine Dr.cutk 2 fun K6 hK6 => ?_
    simp only [List.take_succ_cons, List.take_zero, List.drop_succ_cons, List.drop_zero]
    simp [-Bool.exists_bool]
    refine Dr.pcall (p41 g (by omega) (by omega)) ?_
    refine hK6 _ _ ?_
    clear hK6 K6
    refine Dr.cutk 2 fun K7 hK7 => ?_
    simp only [List.take_succ_cons, List.take_zero, List.drop_succ_cons, List.drop_zero]
    simp [-Bool.exists_bool]
    refine Dr.pcall (p55 g e) ?_
    refine hK7 _ _ ?_
    clear hK7 K7
    try simp [-Bool.exists_bool]
    refine hK5 _ ?_
    clear hK5 K5
    refine .keep [2, 3, 5, 6, 34, 35, 36] ?_
    simp only [keepE, E_cons, E_nil, reduceIte, Nat.reduceEqDiff]
    refine .seqk fun K8 hK8 => ?_
    refine .reg ?_
    refine Sq.cutk 3 fun K9 hK9 => ?_
    simp only [List.take_succ_cons, List.take_zero, List.drop_succ_cons, List.drop_zero]
    simp
    refine PCall.sq (p56 g e) fun h1 he1 => ?_
    simp only [mergeH_eq he1]
    clear he1 h1
    refine hK9 _ ?_
    clear hK9 K9
    simp
    refine hK8 _ ?_
    clear hK8 K8
    refine .keep [5, 6, 7, 8, 34, 35, 36] ?_
    simp only [keepE, E_cons, E_nil, reduceIte, Nat.reduceEqDiff]
    refine .seqk fun K10 hK10 => ?_
    refine .reg ?_
    simp
    refine hK10 _ ?_
    clear hK10 K10
    refine .keep [4] ?_
    simp only [keepE, E_cons, E_nil, reduceIte, Nat.reduceEqDiff]
    refine .ret ?_
    -- leaf 2
    refine ret_d (.inr rfl) rfl (.refl _) rfl (by first | exact OutEq.outer _ | assumption | (simp; done) | (simp; assumption)) ?_
    simp
end Go.Abs
