/- Contracts of functions of the program, and what they lean on: a part of the proof that planValid_proved stands; no condition. -/
import Derived.Test.YtklbdeenilokiaaGreatProg
import Derived.Test.YtklbdeenilokiaaGreatQ7M4
import Derived.Test.YtklbdeenilokiaaGreatQ7S1
import Derived.Test.YtklbdeenilokiaaGreatQ7M9
import Derived.Test.YtklbdeenilokiaaGreatQ7B1
import Derived.Test.YtklbdeenilokiaaGreatQ7B2
import Derived.Test.YtklbdeenilokiaaGreatQ7B3
import Derived.Test.YtklbdeenilokiaaGreatQ7B4
import Derived.Test.YtklbdeenilokiaaGreatQ7B5
import Derived.Test.YtklbdeenilokiaaGreatQ7B6
set_option linter.unusedVariables false
set_option linter.unusedSimpArgs false
namespace Go.Abs
open Go Go.Proofs

def inI (n m : Int) : Bool := decide (0 ≤ n) && decide (n < m)
theorem inR_eq (n m : Int) : inR n (m - 1) = inI n m := by
  simp only [inR, inI]
  congr 1
  by_cases h : n < m
  · simp [h]; omega
  · simp [h]; omega
def touch (k : Int) (x : Edge) : Bool := decide (x.src = k) || decide (x.tgt = k)
def fewG (g : Graph) : Bool := decide ((g.nodes.length : Int) ≤ 45) && decide ((g.edges.length : Int) ≤ 90)
def editErr (g : Graph) (e : Edit) (n m : Int) : Int :=
  if e.kind = 1 then (if inI e.ty n = false then 13 else if (g.nodes.length : Int) = 40 then 3 else 0)
  else if e.kind = 2 then (if inI e.ty m = false then 13 else if (inI e.src g.nodes.length && inI e.tgt g.nodes.length) = false then 6 else if (g.edges.length : Int) = 80 then 3 else 0)
  else if e.kind = 3 then (if inI e.index g.nodes.length = false then 6 else if g.edges.any (touch e.index) then 14 else 0)
  else if e.kind = 4 then (if inI e.index g.edges.length = false then 6 else 0)
  else 1
theorem p39 (g : Graph) : PCall Tryz.prog 39 [ag (Graph.c g)] (bo (fewG g)) := by
  intro h
  refine ACall.of b39 (by simp) ?_
  unfold c39
  refine .seqk fun K1 hK1 => ?_
  refine .reg ?_
  simp
  refine hK1 _ ?_
  clear hK1 K1
  refine .keep [1, 8, 9, 10, 11] ?_
  simp only [keepE, E_cons, E_nil, reduceIte, Nat.reduceEqDiff]
  refine .see (upd _ 1 ⟨_, none⟩) [(1, .dptr (Graph.c g))] ⟨T.box (k := 2) (cs := Graph.c g) (by simp) (by simp), trivial⟩ (Dies.kill _ _ _ _) ?_
  refine .seqreg (fun hh => hh) (fun ee => [(2, bo (fewG g))]) ?_ ?_
  · by_cases h0 : (g.nodes.length : Int) ≤ 45 <;> by_cases h1 : (g.edges.length : Int) ≤ 90 <;> simp [h0, h1, fewG]
  try simp only [E_cons, E_nil, reduceIte, Nat.reduceEqDiff]
  refine .ret ?_
  -- leaf 1
  refine ret_d (.inr rfl) rfl (.refl _) rfl (by first | exact OutEq.outer _ | assumption | (simp; done) | (simp; assumption)) ?_
  simp
theorem p124 (n m : Int) : PCall Tryz.prog 124 [int n, int m] (bo (inI n m)) := by
  intro h
  refine ACall.of b124 (by simp) ?_
  unfold c124
  refine .seqk fun K1 hK1 => ?_
  refine .reg ?_
  simp
  refine hK1 _ ?_
  clear hK1 K1
  refine .seqreg (fun hh => hh) (fun ee => [(4, bo (inI n m))]) ?_ ?_
  · by_cases h0 : 0 ≤ n <;> by_cases h1 : n < m <;> simp [h0, h1, inI]
  try simp only [E_cons, E_nil, reduceIte, Nat.reduceEqDiff]
  refine .ret ?_
  -- leaf 1
  refine ret_d (.inr rfl) rfl (.refl _) rfl (by first | exact OutEq.outer _ | assumption | (simp; done) | (simp; assumption)) ?_
  simp
theorem p155 (n : Int) : PCall Tryz.prog 155 [int n] (bo (inR n 99)) := by
  intro h
  refine ACall.of b155 (by simp) ?_
  unfold c155
  refine .seqk fun K1 hK1 => ?_
  refine .reg ?_
  simp
  refine hK1 _ ?_
  clear hK1 K1
  refine .seqreg (fun hh => hh) (fun ee => [(2, bo (inR n 99))]) ?_ ?_
  · by_cases h0 : 0 ≤ n <;> by_cases h1 : n ≤ 99 <;> simp [h0, h1, inR]
  try simp only [E_cons, E_nil, reduceIte, Nat.reduceEqDiff]
  refine .ret ?_
  -- leaf 1
  refine ret_d (.inr rfl) rfl (.refl _) rfl (by first | exact OutEq.outer _ | assumption | (simp; done) | (simp; assumption)) ?_
  simp
theorem p156 (e : Edge) (n : Int) : PCall Tryz.prog 156 [ag (Edge.c e), int n] (bo (fitsG e n)) := by
  intro h
  refine ACall.of b156 (by simp) ?_
  unfold c156
  refine .seqk fun K1 hK1 => ?_
  refine .reg ?_
  simp
  refine hK1 _ ?_
  clear hK1 K1
  refine .keep [1, 2, 9, 10, 11, 14, 15, 16, 17, 20, 21, 22, 25, 26, 27, 28] ?_
  simp only [keepE, E_cons, E_nil, reduceIte, Nat.reduceEqDiff]
  refine .see (upd _ 2 ⟨_, none⟩) [(2, .dptr (Edge.c e)), (1, int n)] ⟨T.box (k := 3) (cs := Edge.c e) (by simp) (by simp), .refl _, trivial⟩ (Dies.kill _ _ _ _) ?_
  refine .seqreg (fun hh => hh) (fun ee => [(4, bo (fitsG e n))]) ?_ ?_
  · refine Sq.cutk 3 fun K1 hK1 => ?_
    simp only [List.take_succ_cons, List.take_zero, List.drop_succ_cons, List.drop_zero]
    simp
    refine PCall.sq (p155 e.ty) fun _ he => ?_
    simp only [mergeH_eq he]
    refine hK1 _ ?_
    by_cases h1 : inR e.ty 99 = true
    · simp only [fitsG, inR_eq]
      by_cases h2 : 0 ≤ e.src <;> by_cases h3 : e.src < n <;> by_cases h4 : 0 ≤ e.tgt <;> by_cases h5 : e.tgt < n <;> simp [h1, h2, h3, h4, h5, inI]
    · simp at h1
      simp [fitsG, h1]
  try simp only [E_cons, E_nil, reduceIte, Nat.reduceEqDiff]
  refine .ret ?_
  -- leaf 1
  refine ret_d (.inr rfl) rfl (.refl _) rfl (by first | exact OutEq.outer _ | assumption | (simp; done) | (simp; assumption)) ?_
  simp
theorem p165 (n : Int) (g : Graph) : PCall Tryz.prog 165 [int n, .dptr (Graph.c g)] (bo (inI n g.nodes.length)) := by
  intro h
  refine ACall.of b165 (by simp) ?_
  unfold c165
  refine .seqk fun K1 hK1 => ?_
  refine .reg ?_
  simp
  refine hK1 _ ?_
  clear hK1 K1
  refine .seqreg (fun hh => hh) (fun ee => [(3, bo (inI n g.nodes.length))]) ?_ ?_
  · by_cases h0 : 0 ≤ n <;> by_cases h1 : n < (g.nodes.length : Int) <;> simp [h0, h1, inI]
  try simp only [E_cons, E_nil, reduceIte, Nat.reduceEqDiff]
  refine .ret ?_
  -- leaf 1
  refine ret_d (.inr rfl) rfl (.refl _) rfl (by first | exact OutEq.outer _ | assumption | (simp; done) | (simp; assumption)) ?_
  simp
theorem p166 (x : Edge) (e : Edit) : PCall Tryz.prog 166 [ag (Edge.c x), .dptr (Edit.c e)] (bo (touch e.index x)) := by
  intro h
  refine ACall.of b166 (by simp) ?_
  unfold c166
  refine .seqk fun K1 hK1 => ?_
  refine .reg ?_
  simp
  refine hK1 _ ?_
  clear hK1 K1
  refine .keep [1, 2, 10, 11, 12, 13, 14] ?_
  simp only [keepE, E_cons, E_nil, reduceIte, Nat.reduceEqDiff]
  refine .see (upd _ 2 ⟨_, none⟩) [(2, .dptr (Edge.c x)), (1, .dptr (Edit.c e))] ⟨T.box (k := 3) (cs := Edge.c x) (by simp) (by simp), .refl _, trivial⟩ (Dies.kill _ _ _ _) ?_
  refine .seqreg (fun hh => hh) (fun ee => [(3, bo (touch e.index x))]) ?_ ?_
  · by_cases h0 : x.src = e.index <;> by_cases h1 : x.tgt = e.index <;> simp [h0, h1, touch]
  try simp only [E_cons, E_nil, reduceIte, Nat.reduceEqDiff]
  refine .ret ?_
  -- leaf 1
  refine ret_d (.inr rfl) rfl (.refl _) rfl (by first | exact OutEq.outer _ | assumption | (simp; done) | (simp; assumption)) ?_
  simp
end Go.Abs
set_option linter.unusedVariables false
set_option linter.unusedSimpArgs false
namespace Go.Abs
open Go Go.Proofs

theorem any_cons_t {α : Type} {p : α → Bool} {l : List α} {i : Nat} {x : α} (hx : l[i]? = some x) (hp : p x = true) : l.any p = true := List.any_eq_true.2 ⟨x, List.mem_of_getElem? hx, hp⟩
theorem any_drop {α : Type} (p : α → Bool) (l : List α) (i : Nat) (x : α) (hx : l[i]? = some x) (hp : p x = false) : (l.drop (i + 1)).any p = (l.drop i).any p := by
  rw [drop_cons hx]
  simp [hp]
theorem p97 (g : Graph) : PCall Tryz.prog 97 [ag (Graph.c g)] (int (gErr g)) := by
  intro h
  refine ACall.of b97 (by simp) ?_
  unfold c97
  refine .seqk fun K1 hK1 => ?_
  refine .reg ?_
  simp
  refine hK1 _ ?_
  clear hK1 K1
  refine .keep [1, 10, 11, 12, 13] ?_
  simp only [keepE, E_cons, E_nil, reduceIte, Nat.reduceEqDiff]
  refine .see (upd _ 1 ⟨_, none⟩) [(1, .dptr (Graph.c g))] ⟨T.box (k := 2) (cs := Graph.c g) (by simp) (by simp), trivial⟩ (Dies.kill _ _ _ _) ?_
  refine .seqk fun K2 hK2 => ?_
  refine .seqreg (fun hh => hh) (fun ee => [(1, ee 1), (14, bo (decide ((40 : Int) < g.nodes.length) || decide ((80 : Int) < g.edges.length)))]) ?_ ?_
  · by_cases h0 : (40 : Int) < g.nodes.length <;> by_cases h1 : (80 : Int) < g.edges.length <;> simp [h0, h1, True]
  try simp only [E_cons, E_nil, reduceIte, Nat.reduceEqDiff]
  refine .condk _ rfl (fun hc1 => ?_) (fun hc1 => ?_)
  · try simp at hc1
    refine .seqk fun K3 hK3 => ?_
    refine .reg ?_
    simp
    refine hK3 _ ?_
    clear hK3 K3
    refine .ret ?_
    -- leaf 1
    refine ret_d (.inr rfl) rfl (.refl _) rfl (by first | exact OutEq.outer _ | assumption | (simp; done) | (simp; assumption)) ?_
    simp [gErr, hc1]
  · simp at hc1
    have hn40 : g.nodes.length ≤ 40 := by omega
    have he80 : g.edges.length ≤ 80 := by omega
    refine .skip ?_
    refine hK2 _ ?_
    clear hK2 K2
    refine .seqk fun K4 hK4 => ?_
    refine .seqk fun K5 hK5 => ?_
    refine .reg ?_
    simp
    refine hK5 _ ?_
    clear hK5 K5
    refine .block ?_
    refine .count g.nodes.length (fun i st => (g.nodes.drop i).any (fun t => !inR t 99) = g.nodes.any (fun t => !inR t 99) ∧ ∃ hh, OutEq hh h ∧ st = ⟨E [(3, int i), (1, .dptr (Graph.c g))], hh⟩) 0 (Nat.zero_le _) _ (.cov (h' := upd (outer h) 1 ⟨_, none⟩) (by simp) (.refl _)) ⟨by simp, _, by simp, rfl⟩ ?_
    rintro i s hi1 ⟨hp, hh, hho, rfl⟩ K6 hK6
    refine .seqk fun K7 hK7 => ?_
    refine .seqk fun K8 hK8 => ?_
    refine .reg ?_
    simp
    refine hK8 _ ?_
    clear hK8 K8
    refine .keep [1, 3, 19] ?_
    simp only [keepE, E_cons, E_nil, reduceIte, Nat.reduceEqDiff]
    refine .condk _ rfl (fun hc2 => ?_) (fun hc2 => ?_)
    · simp at hc2
      obtain ⟨x, hx⟩ := get_some hc2
      refine .skip ?_
      refine hK7 _ ?_
      clear hK7 K7
      refine .seqk fun K9 hK9 => ?_
      refine .block ?_
      refine .seqk fun K10 hK10 => ?_
      refine .reg ?_
      refine Sq.cutk 6 fun K11 hK11 => ?_
      simp only [List.take_succ_cons, List.take_zero, List.drop_succ_cons, List.drop_zero]
      simp [hx]
      refine PCall.sq (p155 x) fun h1 he1 => ?_
      simp only [mergeH_eq he1]
      clear he1 h1
      refine hK11 _ ?_
      clear hK11 K11
      simp [hx]
      refine hK10 _ ?_
      clear hK10 K10
      refine .keep [1, 3, 28] ?_
      simp only [keepE, E_cons, E_nil, reduceIte, Nat.reduceEqDiff]
      refine .condk _ rfl (fun hc3 => ?_) (fun hc3 => ?_)
      · simp at hc3
        refine .seqk fun K12 hK12 => ?_
        refine .reg ?_
        simp
        refine hK12 _ ?_
        clear hK12 K12
        refine .ret ?_
        -- leaf 2
        refine ret_d (.inr rfl) rfl (.refl _) rfl (by first | exact OutEq.outer _ | assumption | (simp; done) | (simp; assumption)) ?_
        simp [gErr, hn40, he80, any_cons_t (p := fun t => !inR t 99) hx (by simp [hc3])]; omega
      · simp at hc3
        refine .skip ?_
        refine hK9 _ ?_
        clear hK9 K9
        refine .reg ?_
        simp
        -- loop back, leaf 3
        refine hK6 _ _ (by omega) (Wk.cov ?_ (.refl _)) ⟨?_, _, hho, rfl⟩
        · simp; exact wrap64 (by omega) (by omega)
        · rw [any_drop _ _ _ _ hx (by simpa using hc3)]; exact hp
    · simp at hc2
      have hi : i = g.nodes.length := by omega
      have hnn : g.nodes.any (fun t => !inR t 99) = false := by rw [← hp, hi]; simp
      refine .exit ?_
      try simp only [then', inBlk, if_true, if_false, reduceIte, Nat.reduceEqDiff]
      refine hK4 _ ?_
      clear hK7 hK6 hK4 K7 K6 K4
      refine .seqk fun K13 hK13 => ?_
      refine .seqk fun K14 hK14 => ?_
      refine .reg ?_
      simp
      refine hK14 _ ?_
      clear hK14 K14
      refine .block ?_
      refine .count g.edges.length (fun i st => (g.edges.drop i).any (fun e => !fitsG e g.nodes.length) = g.edges.any (fun e => !fitsG e g.nodes.length) ∧ ∃ hh, OutEq hh h ∧ st = ⟨E [(4, int i), (1, .dptr (Graph.c g))], hh⟩) 0 (Nat.zero_le _) _ (.cov (h' := hh) (by simp) (.refl _)) ⟨by simp, _, hho, rfl⟩ ?_
      rintro i s hi2 ⟨hq, hh2, hho2, rfl⟩ K15 hK15
      refine .seqk fun K16 hK16 => ?_
      refine .seqk fun K17 hK17 => ?_
      refine .reg ?_
      simp
      refine hK17 _ ?_
      clear hK17 K17
      refine .keep [1, 4, 33] ?_
      simp only [keepE, E_cons, E_nil, reduceIte, Nat.reduceEqDiff]
      refine .condk _ rfl (fun hc4 => ?_) (fun hc4 => ?_)
      · simp at hc4
        obtain ⟨x, hx⟩ := get_some hc4
        refine .skip ?_
        refine hK16 _ ?_
        clear hK16 K16
        refine .seqk fun K18 hK18 => ?_
        refine .block ?_
        refine .seqk fun K19 hK19 => ?_
        refine .dreg mixed ?_
        refine Dr.cutk 9 fun K20 hK20 => ?_
        simp only [List.take_succ_cons, List.take_zero, List.drop_succ_cons, List.drop_zero]
        simp [-Bool.exists_bool, hx]
        refine Dr.pcall (p156 x g.nodes.length) ?_
        refine hK20 _ _ ?_
        clear hK20 K20
        try simp [-Bool.exists_bool, hx]
        refine hK19 _ ?_
        clear hK19 K19
        refine .keep [1, 4, 45] ?_
        simp only [keepE, E_cons, E_nil, reduceIte, Nat.reduceEqDiff]
        refine .condk _ rfl (fun hc5 => ?_) (fun hc5 => ?_)
        · simp at hc5
          refine .seqk fun K21 hK21 => ?_
          refine .reg ?_
          simp
          refine hK21 _ ?_
          clear hK21 K21
          refine .ret ?_
          -- leaf 4
          refine ret_d (.inr rfl) rfl (.refl _) rfl (by first | exact OutEq.outer _ | assumption | (simp; done) | (simp; assumption)) ?_
          simp [gErr, hn40, he80, hnn, any_cons_t (p := fun e => !fitsG e g.nodes.length) hx (by simp [hc5])]; omega
        · simp at hc5
          refine .skip ?_
          refine hK18 _ ?_
          clear hK18 K18
          refine .reg ?_
          simp
          -- loop back, leaf 5
          refine hK15 _ _ (by omega) (Wk.cov ?_ (.refl _)) ⟨?_, _, hho2, rfl⟩
          · simp; exact wrap64 (by omega) (by omega)
          · rw [any_drop _ _ _ _ hx (by simpa using hc5)]; exact hq
      · simp at hc4
        have hi : i = g.edges.length := by omega
        have hee : g.edges.any (fun e => !fitsG e g.nodes.length) = false := by rw [← hq, hi]; simp
        refine .exit ?_
        try simp only [then', inBlk, if_true, if_false, reduceIte, Nat.reduceEqDiff]
        refine hK13 _ ?_
        clear hK16 hK15 hK13 K16 K15 K13
        refine .seqk fun K22 hK22 => ?_
        refine .reg ?_
        simp
        refine hK22 _ ?_
        clear hK22 K22
        refine .ret ?_
        -- leaf 6
        refine ret_d (.inr rfl) rfl (.refl _) rfl (by first | exact OutEq.outer _ | assumption | (simp; done) | (simp; assumption)) ?_
        simp [gErr, hnn, hee]; omega
end Go.Abs
set_option linter.unusedVariables false
set_option linter.unusedSimpArgs false
namespace Go.Abs
open Go Go.Proofs

theorem inI_f {n m : Int} (h : inI n m = false) : n < 0 ∨ m ≤ n := by
  simp only [inI, Bool.and_eq_false_iff, decide_eq_false_iff_not] at h
  omega

theorem Dies.kill2 (h : Heap) (b c v u : Nat) (x y : Option Blk) (hne : b ≠ c) : Dies (Go.Abs.upd (Go.Abs.upd h b ⟨v, x⟩) c ⟨u, y⟩) (Go.Abs.upd (Go.Abs.upd h b ⟨v, none⟩) c ⟨u, none⟩) := by
  intro d
  by_cases h1 : d = c
  · subst h1; exact .inr ⟨by rw [upd_same], by rw [upd_same, upd_same]; exact Nat.le_refl _⟩
  · rw [upd_ne _ _ _ _ h1, upd_ne _ _ _ _ h1]
    by_cases h2 : d = b
    · subst h2; exact .inr ⟨by rw [upd_same], by rw [upd_same, upd_same]; exact Nat.le_refl _⟩
    · exact .inl (by rw [upd_ne _ _ _ _ h2, upd_ne _ _ _ _ h2])
theorem p110 (g : Graph) (e : Edit) (n m : Int) : PCall Tryz.prog 110 [ag (Graph.c g), ag (Edit.c e), int n, int m] (int (editErr g e n m)) := by
  intro h
  refine ACall.of b110 (by simp) ?_
  unfold c110
  refine .seqk fun K1 hK1 => ?_
  refine .reg ?_
  simp
  refine hK1 _ ?_
  clear hK1 K1
  refine .keep [2, 3, 4, 5, 20, 21, 22, 23, 37, 38, 39, 40, 49, 50, 51, 52, 53, 79, 80, 81, 82, 83, 84] ?_
  simp only [keepE, E_cons, E_nil, reduceIte, Nat.reduceEqDiff]
  refine .see (upd (upd _ 4 ⟨_, none⟩) 5 ⟨_, none⟩) [(4, .dptr (Graph.c g)), (5, .dptr (Edit.c e)), (2, int n), (3, int m)] ⟨T.box (k := 2) (cs := Graph.c g) (by simp [upd]) (by simp [upd]), T.box (k := 5) (cs := Edit.c e) (by simp [upd]) (by simp [upd]), .refl _, .refl _, trivial⟩ (Dies.kill2 _ 4 5 _ _ _ _ (by decide)) ?_
  refine .seqk fun K2 hK2 => ?_
  refine .reg ?_
  simp
  refine hK2 _ ?_
  clear hK2 K2
  refine .seqk fun K3 hK3 => ?_
  refine .seqk fun K4 hK4 => ?_
  refine .reg ?_
  simp
  refine hK4 _ ?_
  clear hK4 K4
  refine .block ?_
  refine .seqk fun K5 hK5 => ?_
  refine .reg ?_
  simp
  refine hK5 _ ?_
  clear hK5 K5
  refine .condk _ rfl (fun hc1 => ?_) (fun hc1 => ?_)
  · try simp at hc1
    refine .block ?_
    refine .seqreg (fun hh => hh) (fun ee => [(4, ee 4), (15, bo (!inI e.ty n))]) ?_ ?_
    · by_cases h0 : e.ty < 0 <;> by_cases h1 : n ≤ e.ty <;> simp [h0, h1, inI] <;> omega
    try simp only [E_cons, E_nil, reduceIte, Nat.reduceEqDiff]
    refine .condk _ rfl (fun hc2 => ?_) (fun hc2 => ?_)
    · try simp at hc2
      refine .seqk fun K6 hK6 => ?_
      refine .reg ?_
      simp
      refine hK6 _ ?_
      clear hK6 K6
      refine .ret ?_
      -- leaf 1
      refine ret_d (.inr rfl) rfl (.refl _) rfl (by first | exact OutEq.outer _ | assumption | (simp; done) | (simp; assumption)) ?_
      simp_all [editErr]
    · try simp at hc2
      refine .seqk fun K7 hK7 => ?_
      refine .reg ?_
      simp
      refine hK7 _ ?_
      clear hK7 K7
      refine .keep [25] ?_
      simp only [keepE, E_cons, E_nil, reduceIte, Nat.reduceEqDiff]
      refine .condk _ rfl (fun hc3 => ?_) (fun hc3 => ?_)
      · try simp at hc3
        refine .seqk fun K8 hK8 => ?_
        refine .reg ?_
        simp
        refine hK8 _ ?_
        clear hK8 K8
        refine .ret ?_
        -- leaf 2
        refine ret_d (.inr rfl) rfl (.refl _) rfl (by first | exact OutEq.outer _ | assumption | (simp; done) | (simp; assumption)) ?_
        simp_all [editErr]
      · try simp at hc3
        refine .skip ?_
        refine hK3 _ ?_
        clear hK3 K3
        refine .seqk fun K9 hK9 => ?_
        refine .reg ?_
        simp
        refine hK9 _ ?_
        clear hK9 K9
        refine .ret ?_
        -- leaf 3
        refine ret_d (.inr rfl) rfl (.refl _) rfl (by first | exact OutEq.outer _ | assumption | (simp; done) | (simp; assumption)) ?_
        simp_all [editErr]
  · try simp at hc1
    refine .seqk fun K10 hK10 => ?_
    refine .reg ?_
    simp
    refine hK10 _ ?_
    clear hK10 K10
    refine .condk _ rfl (fun hc4 => ?_) (fun hc4 => ?_)
    · try simp at hc4
      refine .block ?_
      refine .seqreg (fun hh => hh) (fun ee => [(4, ee 4), (5, ee 5), (9, ee 9), (32, bo (!inI e.ty m)), (49, ee 49), (50, ee 50), (51, ee 51), (52, ee 52), (53, ee 53)]) ?_ ?_
      · by_cases h0 : e.ty < 0 <;> by_cases h1 : m ≤ e.ty <;> simp [h0, h1, inI] <;> omega
      try simp only [E_cons, E_nil, reduceIte, Nat.reduceEqDiff]
      refine .condk _ rfl (fun hc5 => ?_) (fun hc5 => ?_)
      · try simp at hc5
        refine .seqk fun K11 hK11 => ?_
        refine .reg ?_
        simp
        refine hK11 _ ?_
        clear hK11 K11
        refine .ret ?_
        -- leaf 4
        refine ret_d (.inr rfl) rfl (.refl _) rfl (by first | exact OutEq.outer _ | assumption | (simp; done) | (simp; assumption)) ?_
        simp_all [editErr]
      · try simp at hc5
        refine .seqreg (fun hh => hh) (fun ee => [(4, ee 4), (42, bo (!(inI e.src g.nodes.length && inI e.tgt g.nodes.length)))]) ?_ ?_
        · refine Sq.cutk 4 fun K1 hK1 => ?_
          simp only [List.take_succ_cons, List.take_zero, List.drop_succ_cons, List.drop_zero]
          simp
          refine PCall.sq (p165 e.src g) fun _ he => ?_
          simp only [mergeH_eq he]
          refine hK1 _ ?_
          by_cases h1 : inI e.src g.nodes.length = true
          · refine Sq.cutk 6 fun K2 hK2 => ?_
            simp only [List.take_succ_cons, List.take_zero, List.drop_succ_cons, List.drop_zero]
            simp [h1]
            refine PCall.sq (p165 e.tgt g) fun _ he => ?_
            simp only [mergeH_eq he]
            refine hK2 _ ?_
            simp [h1]
          · simp at h1
            simp [h1]
        try simp only [E_cons, E_nil, reduceIte, Nat.reduceEqDiff]
        refine .condk _ rfl (fun hc6 => ?_) (fun hc6 => ?_)
        · try simp at hc6
          refine .seqk fun K12 hK12 => ?_
          refine .reg ?_
          simp
          refine hK12 _ ?_
          clear hK12 K12
          refine .ret ?_
          -- leaf 5
          refine ret_d (.inr rfl) rfl (.refl _) rfl (by first | exact OutEq.outer _ | assumption | (simp; done) | (simp; assumption)) ?_
          simp_all [editErr]
          intro h1 h2
          rcases hc6 with h3 | h3 <;> simp_all
        · try simp at hc6
          refine .seqk fun K13 hK13 => ?_
          refine .reg ?_
          simp
          refine hK13 _ ?_
          clear hK13 K13
          refine .keep [55] ?_
          simp only [keepE, E_cons, E_nil, reduceIte, Nat.reduceEqDiff]
          refine .condk _ rfl (fun hc7 => ?_) (fun hc7 => ?_)
          · try simp at hc7
            refine .seqk fun K14 hK14 => ?_
            refine .reg ?_
            simp
            refine hK14 _ ?_
            clear hK14 K14
            refine .ret ?_
            -- leaf 6
            refine ret_d (.inr rfl) rfl (.refl _) rfl (by first | exact OutEq.outer _ | assumption | (simp; done) | (simp; assumption)) ?_
            simp_all [editErr]
          · try simp at hc7
            refine .skip ?_
            refine hK3 _ ?_
            clear hK3 K3
            refine .seqk fun K15 hK15 => ?_
            refine .reg ?_
            simp
            refine hK15 _ ?_
            clear hK15 K15
            refine .ret ?_
            -- leaf 7
            refine ret_d (.inr rfl) rfl (.refl _) rfl (by first | exact OutEq.outer _ | assumption | (simp; done) | (simp; assumption)) ?_
            simp_all [editErr]
    · try simp at hc4
      refine .seqk fun K16 hK16 => ?_
      refine .reg ?_
      simp
      refine hK16 _ ?_
      clear hK16 K16
      refine .condk _ rfl (fun hc8 => ?_) (fun hc8 => ?_)
      · try simp at hc8
        refine .block ?_
        refine .seqk fun K17 hK17 => ?_
        refine .reg ?_
        refine Sq.cutk 4 fun K18 hK18 => ?_
        simp only [List.take_succ_cons, List.take_zero, List.drop_succ_cons, List.drop_zero]
        simp
        refine PCall.sq (p165 e.index g) fun h1 he1 => ?_
        simp only [mergeH_eq he1]
        clear he1 h1
        refine hK18 _ ?_
        clear hK18 K18
        simp
        refine hK17 _ ?_
        clear hK17 K17
        refine .keep [4, 5, 62] ?_
        simp only [keepE, E_cons, E_nil, reduceIte, Nat.reduceEqDiff]
        refine .condk _ rfl (fun hc9 => ?_) (fun hc9 => ?_)
        · try simp at hc9
          refine .seqk fun K19 hK19 => ?_
          refine .reg ?_
          simp
          refine hK19 _ ?_
          clear hK19 K19
          refine .ret ?_
          -- leaf 8
          refine ret_d (.inr rfl) rfl (.refl _) rfl (by first | exact OutEq.outer _ | assumption | (simp; done) | (simp; assumption)) ?_
          simp_all [editErr]
        · try simp at hc9
          refine .seqk fun K20 hK20 => ?_
          refine .reg ?_
          refine Sq.cutk 4 fun K21 hK21 => ?_
          simp only [List.take_succ_cons, List.take_zero, List.drop_succ_cons, List.drop_zero]
          simp
          refine PCall.sq (p152 g.edges 166 [.dptr (Edit.c e)] (touch e.index) (fun x _ => p166 x e)) fun h1 he1 => ?_
          simp only [mergeH_eq he1]
          clear he1 h1
          refine hK21 _ ?_
          clear hK21 K21
          simp
          refine hK20 _ ?_
          clear hK20 K20
          refine .keep [68] ?_
          simp only [keepE, E_cons, E_nil, reduceIte, Nat.reduceEqDiff]
          refine .condk _ rfl (fun hc10 => ?_) (fun hc10 => ?_)
          · skip
            refine .seqk fun K22 hK22 => ?_
            refine .reg ?_
            simp
            refine hK22 _ ?_
            clear hK22 K22
            refine .ret ?_
            -- leaf 9
            refine ret_d (.inr rfl) rfl (.refl _) rfl (by first | exact OutEq.outer _ | assumption | (simp; done) | (simp; assumption)) ?_
            simp_all [editErr]
          · skip
            refine .skip ?_
            refine hK3 _ ?_
            clear hK3 K3
            refine .seqk fun K23 hK23 => ?_
            refine .reg ?_
            simp
            refine hK23 _ ?_
            clear hK23 K23
            refine .ret ?_
            -- leaf 10
            refine ret_d (.inr rfl) rfl (.refl _) rfl (by first | exact OutEq.outer _ | assumption | (simp; done) | (simp; assumption)) ?_
            simp_all [editErr]
      · try simp at hc8
        refine .seqk fun K24 hK24 => ?_
        refine .reg ?_
        simp
        refine hK24 _ ?_
        clear hK24 K24
        refine .condk _ rfl (fun hc11 => ?_) (fun hc11 => ?_)
        · try simp at hc11
          refine .seqreg (fun hh => hh) (fun ee => [(85, bo (!inI e.index g.edges.length))]) ?_ ?_
          · by_cases h0 : e.index < 0 <;> by_cases h1 : (g.edges.length : Int) ≤ e.index <;> simp [h0, h1, inI] <;> omega
          try simp only [E_cons, E_nil, reduceIte, Nat.reduceEqDiff]
          refine .condk _ rfl (fun hc12 => ?_) (fun hc12 => ?_)
          · try simp at hc12
            refine .seqk fun K25 hK25 => ?_
            refine .reg ?_
            simp
            refine hK25 _ ?_
            clear hK25 K25
            refine .ret ?_
            -- leaf 11
            refine ret_d (.inr rfl) rfl (.refl _) rfl (by first | exact OutEq.outer _ | assumption | (simp; done) | (simp; assumption)) ?_
            simp_all [editErr]
          · try simp at hc12
            refine .skip ?_
            refine hK3 _ ?_
            clear hK3 K3
            refine .seqk fun K26 hK26 => ?_
            refine .reg ?_
            simp
            refine hK26 _ ?_
            clear hK26 K26
            refine .ret ?_
            -- leaf 12
            refine ret_d (.inr rfl) rfl (.refl _) rfl (by first | exact OutEq.outer _ | assumption | (simp; done) | (simp; assumption)) ?_
            simp_all [editErr]
        · try simp at hc11
          refine .seqk fun K27 hK27 => ?_
          refine .reg ?_
          simp
          refine hK27 _ ?_
          clear hK27 K27
          refine .ret ?_
          -- leaf 13
          refine ret_d (.inr rfl) rfl (.refl _) rfl (by first | exact OutEq.outer _ | assumption | (simp; done) | (simp; assumption)) ?_
          simp_all [editErr]
theorem p74 (g : Graph) (e : Edit) (n m : Int) (hm : g.edges.length ≤ 9223372036854775807) : PCall Tryz.prog 74 [ag (Graph.c g), ag (Edit.c e), int n, int m] (int (editErr g e n m)) := by
  intro h
  refine ACall.lens b74.noExt fun hl => ACall.of b74 (by simp) ?_
  have hla : g.edges.length ≤ 9223372036854775807 := hm
  clear hl
  unfold c74
  refine .seqk fun K1 hK1 => ?_
  refine .reg ?_
  simp
  refine hK1 _ ?_
  clear hK1 K1
  refine .keep [2, 3, 4, 5, 38, 39, 40, 41, 42, 43, 44, 76, 77, 78, 79, 80, 81, 82, 83, 84] ?_
  simp only [keepE, E_cons, E_nil, reduceIte, Nat.reduceEqDiff]
  refine .see (upd (upd _ 4 ⟨_, none⟩) 5 ⟨_, none⟩) [(4, .dptr (Graph.c g)), (5, .dptr (Edit.c e)), (2, int n), (3, int m)] ⟨T.box (k := 2) (cs := Graph.c g) (by simp [upd]) (by simp [upd]), T.box (k := 5) (cs := Edit.c e) (by simp [upd]) (by simp [upd]), .refl _, .refl _, trivial⟩ (Dies.kill2 _ 4 5 _ _ _ _ (by decide)) ?_
  refine .seqk fun K2 hK2 => ?_
  refine .seqk fun K3 hK3 => ?_
  refine .reg ?_
  simp
  refine hK3 _ ?_
  clear hK3 K3
  refine .block ?_
  refine .seqk fun K4 hK4 => ?_
  refine .reg ?_
  simp
  refine hK4 _ ?_
  clear hK4 K4
  refine .condk _ rfl (fun hc1 => ?_) (fun hc1 => ?_)
  · try simp at hc1
    refine .seqk fun K5 hK5 => ?_
    refine .seqk fun K6 hK6 => ?_
    refine .reg ?_
    refine Sq.cutk 4 fun K7 hK7 => ?_
    simp only [List.take_succ_cons, List.take_zero, List.drop_succ_cons, List.drop_zero]
    simp
    refine PCall.sq (p124 e.ty n) fun h1 he1 => ?_
    simp only [mergeH_eq he1]
    clear he1 h1
    refine hK7 _ ?_
    clear hK7 K7
    simp
    refine hK6 _ ?_
    clear hK6 K6
    refine .keep [4, 18] ?_
    simp only [keepE, E_cons, E_nil, reduceIte, Nat.reduceEqDiff]
    refine .condk _ rfl (fun hc2 => ?_) (fun hc2 => ?_)
    · try simp at hc2
      refine .seqk fun K8 hK8 => ?_
      refine .reg ?_
      simp
      refine hK8 _ ?_
      clear hK8 K8
      refine .ret ?_
      -- leaf 1
      refine ret_d (.inr rfl) rfl (.refl _) rfl (by first | exact OutEq.outer _ | assumption | (simp; done) | (simp; assumption)) ?_
      simp_all [editErr]
    · try simp at hc2
      refine .skip ?_
      refine hK5 _ ?_
      clear hK5 K5
      refine .seqk fun K9 hK9 => ?_
      refine .reg ?_
      simp
      refine hK9 _ ?_
      clear hK9 K9
      refine .keep [22] ?_
      simp only [keepE, E_cons, E_nil, reduceIte, Nat.reduceEqDiff]
      refine .condk _ rfl (fun hc3 => ?_) (fun hc3 => ?_)
      · try simp at hc3
        refine .seqk fun K10 hK10 => ?_
        refine .reg ?_
        simp
        refine hK10 _ ?_
        clear hK10 K10
        refine .ret ?_
        -- leaf 2
        refine ret_d (.inr rfl) rfl (.refl _) rfl (by first | exact OutEq.outer _ | assumption | (simp; done) | (simp; assumption)) ?_
        simp_all [editErr]
      · try simp at hc3
        refine .skip ?_
        refine hK2 _ ?_
        clear hK2 K2
        refine .seqk fun K11 hK11 => ?_
        refine .reg ?_
        simp
        refine hK11 _ ?_
        clear hK11 K11
        refine .ret ?_
        -- leaf 3
        refine ret_d (.inr rfl) rfl (.refl _) rfl (by first | exact OutEq.outer _ | assumption | (simp; done) | (simp; assumption)) ?_
        simp_all [editErr]
  · try simp at hc1
    refine .seqk fun K12 hK12 => ?_
    refine .reg ?_
    simp
    refine hK12 _ ?_
    clear hK12 K12
    refine .condk _ rfl (fun hc4 => ?_) (fun hc4 => ?_)
    · try simp at hc4
      refine .seqk fun K13 hK13 => ?_
      refine .seqk fun K14 hK14 => ?_
      refine .reg ?_
      refine Sq.cutk 4 fun K15 hK15 => ?_
      simp only [List.take_succ_cons, List.take_zero, List.drop_succ_cons, List.drop_zero]
      simp
      refine PCall.sq (p124 e.ty m) fun h1 he1 => ?_
      simp only [mergeH_eq he1]
      clear he1 h1
      refine hK15 _ ?_
      clear hK15 K15
      simp
      refine hK14 _ ?_
      clear hK14 K14
      refine .keep [4, 5, 29, 38, 39, 40, 41, 42, 43, 44] ?_
      simp only [keepE, E_cons, E_nil, reduceIte, Nat.reduceEqDiff]
      refine .condk _ rfl (fun hc5 => ?_) (fun hc5 => ?_)
      · try simp at hc5
        refine .seqk fun K16 hK16 => ?_
        refine .reg ?_
        simp
        refine hK16 _ ?_
        clear hK16 K16
        refine .ret ?_
        -- leaf 4
        refine ret_d (.inr rfl) rfl (.refl _) rfl (by first | exact OutEq.outer _ | assumption | (simp; done) | (simp; assumption)) ?_
        simp_all [editErr]
      · try simp at hc5
        refine .skip ?_
        refine hK13 _ ?_
        clear hK13 K13
        refine .seqk fun K17 hK17 => ?_
        refine .seqreg (fun hh => hh) (fun ee => [(4, ee 4), (45, bo (!(inI e.src g.nodes.length && inI e.tgt g.nodes.length)))]) ?_ ?_
        · refine Sq.cutk 6 fun K1 hK1 => ?_
          simp only [List.take_succ_cons, List.take_zero, List.drop_succ_cons, List.drop_zero]
          simp
          refine PCall.sq (p124 e.src g.nodes.length) fun _ he => ?_
          simp only [mergeH_eq he]
          refine hK1 _ ?_
          by_cases h1 : inI e.src g.nodes.length = true
          · refine Sq.cutk 8 fun K2 hK2 => ?_
            simp only [List.take_succ_cons, List.take_zero, List.drop_succ_cons, List.drop_zero]
            simp [h1]
            refine PCall.sq (p124 e.tgt g.nodes.length) fun _ he => ?_
            simp only [mergeH_eq he]
            refine hK2 _ ?_
            simp [h1]
          · simp at h1
            simp [h1]
        try simp only [E_cons, E_nil, reduceIte, Nat.reduceEqDiff]
        refine .condk _ rfl (fun hc6 => ?_) (fun hc6 => ?_)
        · try simp at hc6
          refine .seqk fun K18 hK18 => ?_
          refine .reg ?_
          simp
          refine hK18 _ ?_
          clear hK18 K18
          refine .ret ?_
          -- leaf 5
          refine ret_d (.inr rfl) rfl (.refl _) rfl (by first | exact OutEq.outer _ | assumption | (simp; done) | (simp; assumption)) ?_
          simp_all [editErr]
          intro h1 h2
          rcases hc6 with h3 | h3 <;> simp_all
        · try simp at hc6
          refine .skip ?_
          refine hK17 _ ?_
          clear hK17 K17
          refine .seqk fun K19 hK19 => ?_
          refine .reg ?_
          simp
          refine hK19 _ ?_
          clear hK19 K19
          refine .keep [49] ?_
          simp only [keepE, E_cons, E_nil, reduceIte, Nat.reduceEqDiff]
          refine .condk _ rfl (fun hc7 => ?_) (fun hc7 => ?_)
          · try simp at hc7
            refine .seqk fun K20 hK20 => ?_
            refine .reg ?_
            simp
            refine hK20 _ ?_
            clear hK20 K20
            refine .ret ?_
            -- leaf 6
            refine ret_d (.inr rfl) rfl (.refl _) rfl (by first | exact OutEq.outer _ | assumption | (simp; done) | (simp; assumption)) ?_
            simp_all [editErr]
          · try simp at hc7
            refine .skip ?_
            refine hK2 _ ?_
            clear hK2 K2
            refine .seqk fun K21 hK21 => ?_
            refine .reg ?_
            simp
            refine hK21 _ ?_
            clear hK21 K21
            refine .ret ?_
            -- leaf 7
            refine ret_d (.inr rfl) rfl (.refl _) rfl (by first | exact OutEq.outer _ | assumption | (simp; done) | (simp; assumption)) ?_
            simp_all [editErr]
    · try simp at hc4
      refine .seqk fun K22 hK22 => ?_
      refine .reg ?_
      simp
      refine hK22 _ ?_
      clear hK22 K22
      refine .condk _ rfl (fun hc8 => ?_) (fun hc8 => ?_)
      · try simp at hc8
        refine .seqk fun K23 hK23 => ?_
        refine .seqk fun K24 hK24 => ?_
        refine .reg ?_
        refine Sq.cutk 6 fun K25 hK25 => ?_
        simp only [List.take_succ_cons, List.take_zero, List.drop_succ_cons, List.drop_zero]
        simp
        refine PCall.sq (p124 e.index g.nodes.length) fun h1 he1 => ?_
        simp only [mergeH_eq he1]
        clear he1 h1
        refine hK25 _ ?_
        clear hK25 K25
        simp
        refine hK24 _ ?_
        clear hK24 K24
        refine .keep [4, 5, 58, 76, 77, 78, 79, 80, 81, 82, 83, 84] ?_
        simp only [keepE, E_cons, E_nil, reduceIte, Nat.reduceEqDiff]
        refine .condk _ rfl (fun hc9 => ?_) (fun hc9 => ?_)
        · try simp at hc9
          refine .seqk fun K26 hK26 => ?_
          refine .reg ?_
          simp
          refine hK26 _ ?_
          clear hK26 K26
          refine .ret ?_
          -- leaf 8
          refine ret_d (.inr rfl) rfl (.refl _) rfl (by first | exact OutEq.outer _ | assumption | (simp; done) | (simp; assumption)) ?_
          simp_all [editErr]
        · try simp at hc9
          refine .skip ?_
          refine hK23 _ ?_
          clear hK23 K23
          refine .seqk fun K27 hK27 => ?_
          refine .reg ?_
          simp
          refine hK27 _ ?_
          clear hK27 K27
          refine .block ?_
          refine .count g.edges.length (fun i st => (g.edges.drop i).any (touch e.index) = g.edges.any (touch e.index) ∧ ∃ hh, OutEq hh h ∧ st = ⟨E [(9, int i), (4, .dptr (Graph.c g)), (5, .dptr (Edit.c e))], hh⟩) 0 (Nat.zero_le _) _ (.cov (h' := upd (upd (outer h) 4 ⟨_, none⟩) 5 ⟨_, none⟩) (by simp) (.refl _)) ⟨by simp, _, by simp, rfl⟩ ?_
          rintro i s hi1 ⟨hp, hh, hho, rfl⟩ K28 hK28
          refine .seqk fun K29 hK29 => ?_
          refine .seqk fun K30 hK30 => ?_
          refine .reg ?_
          simp
          refine hK30 _ ?_
          clear hK30 K30
          refine .keep [4, 5, 9, 63, 76, 77, 78, 79, 80, 81, 82, 83, 84] ?_
          simp only [keepE, E_cons, E_nil, reduceIte, Nat.reduceEqDiff]
          refine .condk _ rfl (fun hc10 => ?_) (fun hc10 => ?_)
          · simp at hc10
            obtain ⟨x, hx⟩ := get_some hc10
            refine .skip ?_
            refine hK29 _ ?_
            clear hK29 K29
            refine .seqk fun K31 hK31 => ?_
            refine .block ?_
            refine .seqdreg mixed (fun hh => hh) (fun ee => [(4, ee 4), (5, ee 5), (9, ee 9), (85, bo (touch e.index x))]) ?_ ?_
            · by_cases h1 : x.src = e.index <;> by_cases h2 : x.tgt = e.index <;> simp [hx, h1, h2, touch]
            try simp only [E_cons, E_nil, reduceIte, Nat.reduceEqDiff]
            refine .condk _ rfl (fun hc11 => ?_) (fun hc11 => ?_)
            · skip
              refine .seqk fun K32 hK32 => ?_
              refine .reg ?_
              simp
              refine hK32 _ ?_
              clear hK32 K32
              refine .ret ?_
              -- leaf 9
              refine ret_d (.inr rfl) rfl (.refl _) rfl (by first | exact OutEq.outer _ | assumption | (simp; done) | (simp; assumption)) ?_
              simp [editErr, hc1, hc4, hc8, hc9, any_cons_t (p := touch e.index) hx hc11]
            · skip
              refine .skip ?_
              refine hK31 _ ?_
              clear hK31 K31
              refine .reg ?_
              simp
              -- loop back, leaf 10
              refine hK28 _ _ (by omega) (Wk.cov ?_ (.refl _)) ⟨?_, _, hho, rfl⟩
              · simp; exact wrap64 (by omega) (by omega)
              · rw [any_drop _ _ _ _ hx (by simpa using hc11)]; exact hp
          · simp at hc10
            have hi : i = g.edges.length := by omega
            have hee : g.edges.any (touch e.index) = false := by rw [← hp, hi]; simp
            refine .exit ?_
            try simp only [then', inBlk, if_true, if_false, reduceIte, Nat.reduceEqDiff]
            refine hK2 _ ?_
            clear hK29 hK28 hK2 K29 K28 K2
            refine .seqk fun K33 hK33 => ?_
            refine .reg ?_
            simp
            refine hK33 _ ?_
            clear hK33 K33
            refine .ret ?_
            -- leaf 11
            refine ret_d (.inr rfl) rfl (.refl _) rfl (by first | exact OutEq.outer _ | assumption | (simp; done) | (simp; assumption)) ?_
            simp [editErr, hc1, hc4, hc8, hc9, hee]
      · try simp at hc8
        refine .seqk fun K34 hK34 => ?_
        refine .reg ?_
        simp
        refine hK34 _ ?_
        clear hK34 K34
        refine .condk _ rfl (fun hc12 => ?_) (fun hc12 => ?_)
        · try simp at hc12
          refine .seqk fun K35 hK35 => ?_
          refine .reg ?_
          refine Sq.cutk 6 fun K36 hK36 => ?_
          simp only [List.take_succ_cons, List.take_zero, List.drop_succ_cons, List.drop_zero]
          simp
          refine PCall.sq (p124 e.index g.edges.length) fun h1 he1 => ?_
          simp only [mergeH_eq he1]
          clear he1 h1
          refine hK36 _ ?_
          clear hK36 K36
          simp
          refine hK35 _ ?_
          clear hK35 K35
          refine .keep [94] ?_
          simp only [keepE, E_cons, E_nil, reduceIte, Nat.reduceEqDiff]
          refine .condk _ rfl (fun hc13 => ?_) (fun hc13 => ?_)
          · try simp at hc13
            refine .seqk fun K37 hK37 => ?_
            refine .reg ?_
            simp
            refine hK37 _ ?_
            clear hK37 K37
            refine .ret ?_
            -- leaf 12
            refine ret_d (.inr rfl) rfl (.refl _) rfl (by first | exact OutEq.outer _ | assumption | (simp; done) | (simp; assumption)) ?_
            simp_all [editErr]
          · try simp at hc13
            refine .skip ?_
            refine hK2 _ ?_
            clear hK2 K2
            refine .seqk fun K38 hK38 => ?_
            refine .reg ?_
            simp
            refine hK38 _ ?_
            clear hK38 K38
            refine .ret ?_
            -- leaf 13
            refine ret_d (.inr rfl) rfl (.refl _) rfl (by first | exact OutEq.outer _ | assumption | (simp; done) | (simp; assumption)) ?_
            simp_all [editErr]
        · try simp at hc12
          refine .seqk fun K39 hK39 => ?_
          refine .reg ?_
          simp
          refine hK39 _ ?_
          clear hK39 K39
          refine .ret ?_
          -- leaf 14
          refine ret_d (.inr rfl) rfl (.refl _) rfl (by first | exact OutEq.outer _ | assumption | (simp; done) | (simp; assumption)) ?_
          simp_all [editErr]
end Go.Abs
set_option linter.unusedVariables false
set_option linter.unusedSimpArgs false
namespace Go.Abs
open Go Go.Proofs

def zeroE : Edit := ⟨0, 0, 0, 0, 0⟩
def opp (g : Graph) (e : Edit) : Edit × Int :=
  if gErr g ≠ 0 then (zeroE, gErr g)
  else if editErr g e 100 100 ≠ 0 then (zeroE, editErr g e 100 100)
  else if e.kind = 1 then (⟨3, g.nodes.length, 0, 0, 0⟩, 0)
  else if e.kind = 2 then (⟨4, g.edges.length, 0, 0, 0⟩, 0)
  else if e.kind = 3 then (if e.index = g.nodes.length - 1 then (⟨1, 0, (g.nodes[e.index.toNat]?).getD 0, 0, 0⟩, 0) else (zeroE, 8))
  else if e.kind = 4 then (if e.index = g.edges.length - 1 then (match g.edges[e.index.toNat]? with | some x => (⟨2, 0, x.ty, x.src, x.tgt⟩, 0) | none => (zeroE, 8)) else (zeroE, 8))
  else (zeroE, 8)
theorem Dies.kill23 (h : Heap) (b c d v u : Nat) (x y : Option Blk) (z : HB) (h1 : b ≠ c) (h2 : b ≠ d) (h3 : c ≠ d) :
    Dies (Go.Abs.upd (Go.Abs.upd (Go.Abs.upd h b ⟨v, x⟩) c ⟨u, y⟩) d z) (Go.Abs.upd (Go.Abs.upd (Go.Abs.upd h b ⟨v, none⟩) c ⟨u, none⟩) d z) := by
  intro a
  by_cases e1 : a = d
  · subst e1; exact .inl (by rw [upd_same, upd_same])
  · rw [upd_ne _ _ _ _ e1, upd_ne _ _ _ _ e1]
    by_cases e2 : a = c
    · subst e2; exact .inr ⟨by rw [upd_same], by rw [upd_same, upd_same]; exact Nat.le_refl _⟩
    · rw [upd_ne _ _ _ _ e2, upd_ne _ _ _ _ e2]
      by_cases e3 : a = b
      · subst e3; exact .inr ⟨by rw [upd_same], by rw [upd_same, upd_same]; exact Nat.le_refl _⟩
      · exact .inl (by rw [upd_ne _ _ _ _ e3, upd_ne _ _ _ _ e3])
theorem last_get {g : Graph} {e : Edit} {n m : Int} (hk : e.kind = 3) (h0 : editErr g e n m = 0) : 0 ≤ e.index ∧ ∃ x, g.nodes[e.index.toNat]? = some x := by
  have h1 : inI e.index g.nodes.length = true := by
    cases h : inI e.index g.nodes.length with
    | true => rfl
    | false => simp [editErr, hk, h] at h0
  simp only [inI, Bool.and_eq_true, decide_eq_true_eq] at h1
  exact ⟨h1.1, g.nodes[e.index.toNat]'(by omega), by simp⟩
theorem last_getE {g : Graph} {e : Edit} {n m : Int} (hk : e.kind = 4) (h0 : editErr g e n m = 0) : 0 ≤ e.index ∧ ∃ x, g.edges[e.index.toNat]? = some x := by
  have h1 : inI e.index g.edges.length = true := by
    cases h : inI e.index g.edges.length with
    | true => rfl
    | false => simp [editErr, hk, h] at h0
  simp only [inI, Bool.and_eq_true, decide_eq_true_eq] at h1
  exact ⟨h1.1, g.edges[e.index.toNat]'(by omega), by simp⟩

theorem gErr_len {g : Graph} (h : gErr g = 0) : g.nodes.length ≤ 40 ∧ g.edges.length ≤ 80 := by
  unfold gErr at h
  split at h
  · cases h
  · omega
theorem p55 (g : Graph) (e : Edit) : PCall Tryz.prog 55 [ag (Graph.c g), ag (Edit.c e)] (.tup [ag (Edit.c (opp g e).1), int (opp g e).2]) := by
  intro h
  refine ACall.of b55 (by simp) ?_
  unfold c55
  refine .seqk fun K1 hK1 => ?_
  refine .reg ?_
  simp
  refine hK1 _ ?_
  clear hK1 K1
  refine .keep [2, 3, 4] ?_
  simp only [keepE, E_cons, E_nil, reduceIte, Nat.reduceEqDiff]
  refine .see (upd (upd (upd _ 2 ⟨_, none⟩) 3 ⟨_, none⟩) 4 _) [(2, .dptr (Graph.c g)), (3, .dptr (Edit.c e)), (4, .ptr 4 _ 0 0)] ⟨T.box (k := 2) (cs := Graph.c g) (by simp [upd]) (by simp [upd]), T.box (k := 5) (cs := Edit.c e) (by simp [upd]) (by simp [upd]), .refl _, trivial⟩ (Dies.kill23 _ 2 3 4 _ _ _ _ _ (by decide) (by decide) (by decide)) ?_
  refine .seqk fun K2 hK2 => ?_
  refine .seqk fun K3 hK3 => ?_
  refine .reg ?_
  refine Sq.cutk 2 fun K4 hK4 => ?_
  simp only [List.take_succ_cons, List.take_zero, List.drop_succ_cons, List.drop_zero]
  simp
  refine PCall.sq (p96 g) fun h1 he1 => ?_
  simp only [mergeH_eq he1]
  clear he1 h1
  refine hK4 _ ?_
  clear hK4 K4
  simp
  refine hK3 _ ?_
  clear hK3 K3
  refine .keep [2, 3, 4, 6] ?_
  simp only [keepE, E_cons, E_nil, reduceIte, Nat.reduceEqDiff]
  refine .seqk fun K5 hK5 => ?_
  refine .reg ?_
  simp
  refine hK5 _ ?_
  clear hK5 K5
  refine .condk _ rfl (fun hc1 => ?_) (fun hc1 => ?_)
  · try simp at hc1
    refine .seqk fun K6 hK6 => ?_
    refine .reg ?_
    simp
    refine hK6 _ ?_
    clear hK6 K6
    refine .keep [4, 5] ?_
    simp only [keepE, E_cons, E_nil, reduceIte, Nat.reduceEqDiff]
    refine .ret ?_
    -- leaf 1
    refine ret_d (v := .tup [ag (Edit.c (opp g e).1), int (opp g e).2]) (.inr rfl) ?_ (.refl _) rfl (by first | exact OutEq.outer _ | assumption | (simp; done) | (simp; assumption)) rfl
    simp_all [opp, zeroE]
  · simp at hc1
    have hl : g.nodes.length ≤ 40 ∧ g.edges.length ≤ 80 := gErr_len hc1
    have hwn : IntKind.i64.wrap ((g.nodes.length : Int) - 1) = g.nodes.length - 1 := wrap64 (by omega) (by omega)
    have hwe : IntKind.i64.wrap ((g.edges.length : Int) - 1) = g.edges.length - 1 := wrap64 (by omega) (by omega)
    refine .skip ?_
    refine hK2 _ ?_
    clear hK2 K2
    refine .seqk fun K7 hK7 => ?_
    refine .seqk fun K8 hK8 => ?_
    refine .reg ?_
    refine Sq.cutk 3 fun K9 hK9 => ?_
    simp only [List.take_succ_cons, List.take_zero, List.drop_succ_cons, List.drop_zero]
    simp
    refine PCall.sq (p110 g e 100 100) fun h1 he1 => ?_
    simp only [mergeH_eq he1]
    clear he1 h1
    refine hK9 _ ?_
    clear hK9 K9
    simp
    refine hK8 _ ?_
    clear hK8 K8
    refine .keep [2, 3, 4, 7] ?_
    simp only [keepE, E_cons, E_nil, reduceIte, Nat.reduceEqDiff]
    refine .seqk fun K10 hK10 => ?_
    refine .reg ?_
    simp
    refine hK10 _ ?_
    clear hK10 K10
    refine .condk _ rfl (fun hc2 => ?_) (fun hc2 => ?_)
    · try simp at hc2
      refine .seqk fun K11 hK11 => ?_
      refine .reg ?_
      simp
      refine hK11 _ ?_
      clear hK11 K11
      refine .keep [4, 5] ?_
      simp only [keepE, E_cons, E_nil, reduceIte, Nat.reduceEqDiff]
      refine .ret ?_
      -- leaf 2
      refine ret_d (v := .tup [ag (Edit.c (opp g e).1), int (opp g e).2]) (.inr rfl) ?_ (.refl _) rfl (by first | exact OutEq.outer _ | assumption | (simp; done) | (simp; assumption)) rfl
      simp_all [opp, zeroE]
    · try simp at hc2
      refine .skip ?_
      refine hK7 _ ?_
      clear hK7 K7
      refine .seqk fun K12 hK12 => ?_
      refine .seqk fun K13 hK13 => ?_
      refine .reg ?_
      simp
      refine hK13 _ ?_
      clear hK13 K13
      refine .block ?_
      refine .seqk fun K14 hK14 => ?_
      refine .reg ?_
      simp
      refine hK14 _ ?_
      clear hK14 K14
      refine .condk _ rfl (fun hc3 => ?_) (fun hc3 => ?_)
      · try simp at hc3
        refine .seqk fun K15 hK15 => ?_
        refine .reg ?_
        simp
        refine hK15 _ ?_
        clear hK15 K15
        refine .keep [4, 5] ?_
        simp only [keepE, E_cons, E_nil, reduceIte, Nat.reduceEqDiff]
        refine .ret ?_
        -- leaf 3
        refine ret_d (v := .tup [ag (Edit.c (opp g e).1), int (opp g e).2]) (.inr rfl) ?_ (.refl _) rfl (by first | exact OutEq.outer _ | assumption | (simp; done) | (simp; assumption)) rfl
        simp_all [opp, zeroE]
      · try simp at hc3
        refine .seqk fun K16 hK16 => ?_
        refine .reg ?_
        simp
        refine hK16 _ ?_
        clear hK16 K16
        refine .condk _ rfl (fun hc4 => ?_) (fun hc4 => ?_)
        · try simp at hc4
          refine .seqk fun K17 hK17 => ?_
          refine .reg ?_
          simp
          refine hK17 _ ?_
          clear hK17 K17
          refine .keep [4, 5] ?_
          simp only [keepE, E_cons, E_nil, reduceIte, Nat.reduceEqDiff]
          refine .ret ?_
          -- leaf 4
          refine ret_d (v := .tup [ag (Edit.c (opp g e).1), int (opp g e).2]) (.inr rfl) ?_ (.refl _) rfl (by first | exact OutEq.outer _ | assumption | (simp; done) | (simp; assumption)) rfl
          simp_all [opp, zeroE]
        · try simp at hc4
          refine .seqk fun K18 hK18 => ?_
          refine .reg ?_
          simp
          refine hK18 _ ?_
          clear hK18 K18
          refine .condk _ rfl (fun hc5 => ?_) (fun hc5 => ?_)
          · try simp at hc5
            refine .seqk fun K19 hK19 => ?_
            refine .reg ?_
            simp [hwn]
            refine hK19 _ ?_
            clear hK19 K19
            refine .keep [2, 3, 4, 44] ?_
            simp only [keepE, E_cons, E_nil, reduceIte, Nat.reduceEqDiff]
            refine .condk _ rfl (fun hc6 => ?_) (fun hc6 => ?_)
            · simp at hc6
              obtain ⟨hi0, x, hx⟩ := last_get hc5 hc2
              refine .seqk fun K20 hK20 => ?_
              refine .reg ?_
              simp [hx, hi0]
              refine hK20 _ ?_
              clear hK20 K20
              refine .keep [4, 5] ?_
              simp only [keepE, E_cons, E_nil, reduceIte, Nat.reduceEqDiff]
              refine .ret ?_
              -- leaf 5
              refine ret_d (v := .tup [ag (Edit.c (opp g e).1), int (opp g e).2]) (.inr rfl) ?_ (.refl _) rfl (by first | exact OutEq.outer _ | assumption | (simp; done) | (simp; assumption)) rfl
              simp_all [opp, zeroE]
            · try simp at hc6
              refine .skip ?_
              refine hK12 _ ?_
              clear hK12 K12
              refine .seqk fun K21 hK21 => ?_
              refine .reg ?_
              simp
              refine hK21 _ ?_
              clear hK21 K21
              refine .keep [4, 5] ?_
              simp only [keepE, E_cons, E_nil, reduceIte, Nat.reduceEqDiff]
              refine .ret ?_
              -- leaf 6
              refine ret_d (v := .tup [ag (Edit.c (opp g e).1), int (opp g e).2]) (.inr rfl) ?_ (.refl _) rfl (by first | exact OutEq.outer _ | assumption | (simp; done) | (simp; assumption)) rfl
              simp_all [opp, zeroE]
          · try simp at hc5
            refine .seqk fun K22 hK22 => ?_
            refine .reg ?_
            simp
            refine hK22 _ ?_
            clear hK22 K22
            refine .condk _ rfl (fun hc7 => ?_) (fun hc7 => ?_)
            · try simp at hc7
              refine .seqk fun K23 hK23 => ?_
              refine .reg ?_
              simp [hwe]
              refine hK23 _ ?_
              clear hK23 K23
              refine .keep [2, 3, 4, 60] ?_
              simp only [keepE, E_cons, E_nil, reduceIte, Nat.reduceEqDiff]
              refine .condk _ rfl (fun hc8 => ?_) (fun hc8 => ?_)
              · simp at hc8
                obtain ⟨hi0, x, hx⟩ := last_getE hc7 hc2
                refine .seqk fun K24 hK24 => ?_
                refine .reg ?_
                simp [hx, hi0]
                refine hK24 _ ?_
                clear hK24 K24
                refine .keep [4, 8] ?_
                simp only [keepE, E_cons, E_nil, reduceIte, Nat.reduceEqDiff]
                refine .seqk fun K25 hK25 => ?_
                refine .reg ?_
                simp
                refine hK25 _ ?_
                clear hK25 K25
                refine .keep [4, 5] ?_
                simp only [keepE, E_cons, E_nil, reduceIte, Nat.reduceEqDiff]
                refine .ret ?_
                -- leaf 7
                refine ret_d (v := .tup [ag (Edit.c (opp g e).1), int (opp g e).2]) (.inr rfl) ?_ (.refl _) rfl (by first | exact OutEq.outer _ | assumption | (simp; done) | (simp; assumption)) rfl
                simp_all [opp, zeroE]
              · try simp at hc8
                refine .skip ?_
                refine hK12 _ ?_
                clear hK12 K12
                refine .seqk fun K26 hK26 => ?_
                refine .reg ?_
                simp
                refine hK26 _ ?_
                clear hK26 K26
                refine .keep [4, 5] ?_
                simp only [keepE, E_cons, E_nil, reduceIte, Nat.reduceEqDiff]
                refine .ret ?_
                -- leaf 8
                refine ret_d (v := .tup [ag (Edit.c (opp g e).1), int (opp g e).2]) (.inr rfl) ?_ (.refl _) rfl (by first | exact OutEq.outer _ | assumption | (simp; done) | (simp; assumption)) rfl
                simp_all [opp, zeroE]
            · try simp at hc7
              refine .skip ?_
              refine hK12 _ ?_
              clear hK12 K12
              refine .seqk fun K27 hK27 => ?_
              refine .reg ?_
              simp
              refine hK27 _ ?_
              clear hK27 K27
              refine .keep [4, 5] ?_
              simp only [keepE, E_cons, E_nil, reduceIte, Nat.reduceEqDiff]
              refine .ret ?_
              -- leaf 9
              refine ret_d (v := .tup [ag (Edit.c (opp g e).1), int (opp g e).2]) (.inr rfl) ?_ (.refl _) rfl (by first | exact OutEq.outer _ | assumption | (simp; done) | (simp; assumption)) rfl
              simp_all [opp, zeroE]
theorem p56 (g : Graph) (e : Edit) : PCall Tryz.prog 56 [ag (Graph.c g), ag (Edit.c e)] (.tup [ag (Edit.c (opp g e).1), int (opp g e).2]) := by
  intro h
  refine ACall.of b56 (by simp) ?_
  unfold c56
  refine .seqk fun K1 hK1 => ?_
  refine .reg ?_
  simp
  refine hK1 _ ?_
  clear hK1 K1
  refine .keep [2, 3, 4] ?_
  simp only [keepE, E_cons, E_nil, reduceIte, Nat.reduceEqDiff]
  refine .see (upd (upd (upd _ 2 ⟨_, none⟩) 3 ⟨_, none⟩) 4 _) [(2, .dptr (Graph.c g)), (3, .dptr (Edit.c e)), (4, .ptr 4 _ 0 0)] ⟨T.box (k := 2) (cs := Graph.c g) (by simp [upd]) (by simp [upd]), T.box (k := 5) (cs := Edit.c e) (by simp [upd]) (by simp [upd]), .refl _, trivial⟩ (Dies.kill23 _ 2 3 4 _ _ _ _ _ (by decide) (by decide) (by decide)) ?_
  refine .seqk fun K2 hK2 => ?_
  refine .seqk fun K3 hK3 => ?_
  refine .reg ?_
  refine Sq.cutk 2 fun K4 hK4 => ?_
  simp only [List.take_succ_cons, List.take_zero, List.drop_succ_cons, List.drop_zero]
  simp
  refine PCall.sq (p97 g) fun h1 he1 => ?_
  simp only [mergeH_eq he1]
  clear he1 h1
  refine hK4 _ ?_
  clear hK4 K4
  simp
  refine hK3 _ ?_
  clear hK3 K3
  refine .keep [2, 3, 4, 6] ?_
  simp only [keepE, E_cons, E_nil, reduceIte, Nat.reduceEqDiff]
  refine .seqk fun K5 hK5 => ?_
  refine .reg ?_
  simp
  refine hK5 _ ?_
  clear hK5 K5
  refine .condk _ rfl (fun hc1 => ?_) (fun hc1 => ?_)
  · try simp at hc1
    refine .seqk fun K6 hK6 => ?_
    refine .reg ?_
    simp
    refine hK6 _ ?_
    clear hK6 K6
    refine .keep [4, 5] ?_
    simp only [keepE, E_cons, E_nil, reduceIte, Nat.reduceEqDiff]
    refine .ret ?_
    -- leaf 1
    refine ret_d (v := .tup [ag (Edit.c (opp g e).1), int (opp g e).2]) (.inr rfl) ?_ (.refl _) rfl (by first | exact OutEq.outer _ | assumption | (simp; done) | (simp; assumption)) rfl
    simp_all [opp, zeroE]
  · simp at hc1
    have hl : g.nodes.length ≤ 40 ∧ g.edges.length ≤ 80 := gErr_len hc1
    have hwn : IntKind.i64.wrap ((g.nodes.length : Int) - 1) = g.nodes.length - 1 := wrap64 (by omega) (by omega)
    have hwe : IntKind.i64.wrap ((g.edges.length : Int) - 1) = g.edges.length - 1 := wrap64 (by omega) (by omega)
    refine .skip ?_
    refine hK2 _ ?_
    clear hK2 K2
    refine .seqk fun K7 hK7 => ?_
    refine .seqk fun K8 hK8 => ?_
    refine .reg ?_
    refine Sq.cutk 3 fun K9 hK9 => ?_
    simp only [List.take_succ_cons, List.take_zero, List.drop_succ_cons, List.drop_zero]
    simp
    refine PCall.sq (p74 g e 100 100 (by omega)) fun h1 he1 => ?_
    simp only [mergeH_eq he1]
    clear he1 h1
    refine hK9 _ ?_
    clear hK9 K9
    simp
    refine hK8 _ ?_
    clear hK8 K8
    refine .keep [2, 3, 4, 7] ?_
    simp only [keepE, E_cons, E_nil, reduceIte, Nat.reduceEqDiff]
    refine .seqk fun K10 hK10 => ?_
    refine .reg ?_
    simp
    refine hK10 _ ?_
    clear hK10 K10
    refine .condk _ rfl (fun hc2 => ?_) (fun hc2 => ?_)
    · try simp at hc2
      refine .seqk fun K11 hK11 => ?_
      refine .reg ?_
      simp
      refine hK11 _ ?_
      clear hK11 K11
      refine .keep [4, 5] ?_
      simp only [keepE, E_cons, E_nil, reduceIte, Nat.reduceEqDiff]
      refine .ret ?_
      -- leaf 2
      refine ret_d (v := .tup [ag (Edit.c (opp g e).1), int (opp g e).2]) (.inr rfl) ?_ (.refl _) rfl (by first | exact OutEq.outer _ | assumption | (simp; done) | (simp; assumption)) rfl
      simp_all [opp, zeroE]
    · try simp at hc2
      refine .skip ?_
      refine hK7 _ ?_
      clear hK7 K7
      refine .seqk fun K12 hK12 => ?_
      refine .seqk fun K13 hK13 => ?_
      refine .reg ?_
      simp
      refine hK13 _ ?_
      clear hK13 K13
      refine .block ?_
      refine .seqk fun K14 hK14 => ?_
      refine .reg ?_
      simp
      refine hK14 _ ?_
      clear hK14 K14
      refine .condk _ rfl (fun hc3 => ?_) (fun hc3 => ?_)
      · try simp at hc3
        refine .seqk fun K15 hK15 => ?_
        refine .reg ?_
        simp
        refine hK15 _ ?_
        clear hK15 K15
        refine .keep [4, 5] ?_
        simp only [keepE, E_cons, E_nil, reduceIte, Nat.reduceEqDiff]
        refine .ret ?_
        -- leaf 3
        refine ret_d (v := .tup [ag (Edit.c (opp g e).1), int (opp g e).2]) (.inr rfl) ?_ (.refl _) rfl (by first | exact OutEq.outer _ | assumption | (simp; done) | (simp; assumption)) rfl
        simp_all [opp, zeroE]
      · try simp at hc3
        refine .seqk fun K16 hK16 => ?_
        refine .reg ?_
        simp
        refine hK16 _ ?_
        clear hK16 K16
        refine .condk _ rfl (fun hc4 => ?_) (fun hc4 => ?_)
        · try simp at hc4
          refine .seqk fun K17 hK17 => ?_
          refine .reg ?_
          simp
          refine hK17 _ ?_
          clear hK17 K17
          refine .keep [4, 5] ?_
          simp only [keepE, E_cons, E_nil, reduceIte, Nat.reduceEqDiff]
          refine .ret ?_
          -- leaf 4
          refine ret_d (v := .tup [ag (Edit.c (opp g e).1), int (opp g e).2]) (.inr rfl) ?_ (.refl _) rfl (by first | exact OutEq.outer _ | assumption | (simp; done) | (simp; assumption)) rfl
          simp_all [opp, zeroE]
        · try simp at hc4
          refine .seqk fun K18 hK18 => ?_
          refine .reg ?_
          simp
          refine hK18 _ ?_
          clear hK18 K18
          refine .condk _ rfl (fun hc5 => ?_) (fun hc5 => ?_)
          · try simp at hc5
            refine .seqk fun K19 hK19 => ?_
            refine .reg ?_
            simp [hwn]
            refine hK19 _ ?_
            clear hK19 K19
            refine .keep [2, 3, 4, 44] ?_
            simp only [keepE, E_cons, E_nil, reduceIte, Nat.reduceEqDiff]
            refine .condk _ rfl (fun hc6 => ?_) (fun hc6 => ?_)
            · simp at hc6
              obtain ⟨hi0, x, hx⟩ := last_get hc5 hc2
              refine .seqk fun K20 hK20 => ?_
              refine .reg ?_
              simp [hx, hi0]
              refine hK20 _ ?_
              clear hK20 K20
              refine .keep [4, 5] ?_
              simp only [keepE, E_cons, E_nil, reduceIte, Nat.reduceEqDiff]
              refine .ret ?_
              -- leaf 5
              refine ret_d (v := .tup [ag (Edit.c (opp g e).1), int (opp g e).2]) (.inr rfl) ?_ (.refl _) rfl (by first | exact OutEq.outer _ | assumption | (simp; done) | (simp; assumption)) rfl
              simp_all [opp, zeroE]
            · try simp at hc6
              refine .skip ?_
              refine hK12 _ ?_
              clear hK12 K12
              refine .seqk fun K21 hK21 => ?_
              refine .reg ?_
              simp
              refine hK21 _ ?_
              clear hK21 K21
              refine .keep [4, 5] ?_
              simp only [keepE, E_cons, E_nil, reduceIte, Nat.reduceEqDiff]
              refine .ret ?_
              -- leaf 6
              refine ret_d (v := .tup [ag (Edit.c (opp g e).1), int (opp g e).2]) (.inr rfl) ?_ (.refl _) rfl (by first | exact OutEq.outer _ | assumption | (simp; done) | (simp; assumption)) rfl
              simp_all [opp, zeroE]
          · try simp at hc5
            refine .seqk fun K22 hK22 => ?_
            refine .reg ?_
            simp
            refine hK22 _ ?_
            clear hK22 K22
            refine .condk _ rfl (fun hc7 => ?_) (fun hc7 => ?_)
            · try simp at hc7
              refine .seqk fun K23 hK23 => ?_
              refine .reg ?_
              simp [hwe]
              refine hK23 _ ?_
              clear hK23 K23
              refine .keep [2, 3, 4, 60] ?_
              simp only [keepE, E_cons, E_nil, reduceIte, Nat.reduceEqDiff]
              refine .condk _ rfl (fun hc8 => ?_) (fun hc8 => ?_)
              · simp at hc8
                obtain ⟨hi0, x, hx⟩ := last_getE hc7 hc2
                refine .seqk fun K24 hK24 => ?_
                refine .reg ?_
                simp [hx, hi0]
                refine hK24 _ ?_
                clear hK24 K24
                refine .keep [4, 8] ?_
                simp only [keepE, E_cons, E_nil, reduceIte, Nat.reduceEqDiff]
                refine .seqk fun K25 hK25 => ?_
                refine .reg ?_
                simp
                refine hK25 _ ?_
                clear hK25 K25
                refine .keep [4, 5] ?_
                simp only [keepE, E_cons, E_nil, reduceIte, Nat.reduceEqDiff]
                refine .ret ?_
                -- leaf 7
                refine ret_d (v := .tup [ag (Edit.c (opp g e).1), int (opp g e).2]) (.inr rfl) ?_ (.refl _) rfl (by first | exact OutEq.outer _ | assumption | (simp; done) | (simp; assumption)) rfl
                simp_all [opp, zeroE]
              · try simp at hc8
                refine .skip ?_
                refine hK12 _ ?_
                clear hK12 K12
                refine .seqk fun K26 hK26 => ?_
                refine .reg ?_
                simp
                refine hK26 _ ?_
                clear hK26 K26
                refine .keep [4, 5] ?_
                simp only [keepE, E_cons, E_nil, reduceIte, Nat.reduceEqDiff]
                refine .ret ?_
                -- leaf 8
                refine ret_d (v := .tup [ag (Edit.c (opp g e).1), int (opp g e).2]) (.inr rfl) ?_ (.refl _) rfl (by first | exact OutEq.outer _ | assumption | (simp; done) | (simp; assumption)) rfl
                simp_all [opp, zeroE]
            · try simp at hc7
              refine .skip ?_
              refine hK12 _ ?_
              clear hK12 K12
              refine .seqk fun K27 hK27 => ?_
              refine .reg ?_
              simp
              refine hK27 _ ?_
              clear hK27 K27
              refine .keep [4, 5] ?_
              simp only [keepE, E_cons, E_nil, reduceIte, Nat.reduceEqDiff]
              refine .ret ?_
              -- leaf 9
              refine ret_d (v := .tup [ag (Edit.c (opp g e).1), int (opp g e).2]) (.inr rfl) ?_ (.refl _) rfl (by first | exact OutEq.outer _ | assumption | (simp; done) | (simp; assumption)) rfl
              simp_all [opp, zeroE]
end Go.Abs
set_option linter.unusedVariables false
set_option linter.unusedSimpArgs false
namespace Go.Abs
open Go Go.Proofs

theorem AW.seqdregx {α : Type} {P : Program} {N : Nat} {c : ACode} {Q : AX → St → Prop} {e : Env} {h : Heap} {ops : List GOp} {un : List (Nat × Nat)} (hm : P.follows .mixedOrders = true) (pre : α → Prop) (h' : α → Heap → Heap) (l : α → Env → List (Nat × AV))
    (ho : Dr P ops ⟨e, h⟩ fun s fs => conf un fs = true ∧ ∃ x, pre x ∧ Cov (l x e) s.env ∧ Dies s.h (h' x h)) (hw : ∀ x, pre x → AW P N c Q ⟨E (l x e), h' x h⟩) : AW P N (.seq (.dreg ops un) c) Q ⟨e, h⟩ :=
  .seq (.dreg hm (ho.mono fun s fs ⟨h0, x, h1, h2, h3⟩ => ⟨h0, .weak (Wk.cov (env := s.env) (h := s.h) h2 h3) (hw x h1)⟩))
theorem T.agg2 {h h' : Heap} {src : Nat → Option Nat} {a b c d : AV} (h1 : T h h' src a c) (h2 : T h h' src b d) : T h h' src (.agg [a, b]) (.agg [c, d]) :=
  .agg _ _ rfl fun j x y hx hy => by
    match j with
    | 0 => simp at hx hy; subst hx hy; exact h1
    | 1 => simp at hx hy; subst hx hy; exact h2
    | j + 2 => simp at hx

theorem Dies.kill1 (h : Heap) (b d v : Nat) (x : Option Blk) (z : HB) (h2 : b ≠ d) : Dies (Go.Abs.upd (Go.Abs.upd h b ⟨v, x⟩) d z) (Go.Abs.upd (Go.Abs.upd h b ⟨v, none⟩) d z) := by
  intro a
  by_cases e1 : a = d
  · subst e1; exact .inl (by rw [upd_same, upd_same])
  · rw [upd_ne _ _ _ _ e1, upd_ne _ _ _ _ e1]
    by_cases e3 : a = b
    · subst e3; exact .inr ⟨by rw [upd_same], by rw [upd_same, upd_same]; exact Nat.le_refl _⟩
    · exact .inl (by rw [upd_ne _ _ _ _ e3, upd_ne _ _ _ _ e3])
theorem p41 (g : Graph) (hn : g.nodes.length ≤ 1000000000) (he : g.edges.length ≤ 1000000000) : PCall Tryz.prog 41 [ag (Graph.c g)] (ag (Graph.c g)) := by
  intro h
  refine ACall.of b41 (by simp) ?_
  unfold c41
  refine .seqk fun K1 hK1 => ?_
  refine .reg ?_
  simp
  refine hK1 _ ?_
  clear hK1 K1
  refine .keep [1, 2] ?_
  simp only [keepE, E_cons, E_nil, reduceIte, Nat.reduceEqDiff]
  refine .see (upd (upd _ 1 ⟨_, none⟩) 2 _) [(1, .dptr (Graph.c g)), (2, .ptr 2 _ 0 0)] ⟨T.box (k := 2) (cs := Graph.c g) (by simp [upd]) (by simp [upd]), .refl _, trivial⟩ (Dies.kill1 _ 1 2 _ _ _ (by decide)) ?_
  refine .seqdregx mixed (α := (Nat × Nat) × (Nat × Nat)) (fun x => True) (fun x hh => upd (upd (upd hh 3 ⟨x.1.1, some ⟨1, dl (g.nodes.map I.c)⟩⟩) 7 ⟨x.2.1, some ⟨3, dl (g.edges.map Edge.c)⟩⟩) 2 ⟨(outer h 2).ver + 1, some ⟨2, [[.sl 3 x.1.1 0 g.nodes.length x.1.2, .sl 7 x.2.1 0 g.edges.length x.2.2]]⟩⟩) (fun x ee => [(2, ee 2)]) ?_ (fun x hx => ?_)
  · have q1 : g.nodes.length * 8 ≤ 17592186044416 := by omega
    have q2 : g.nodes.length ≤ 17592186044416 := by omega
    have q3 : g.edges.length * 24 ≤ 17592186044416 := by omega
    have q4 : g.edges.length ≤ 17592186044416 := by omega
    by_cases h1 : g.nodes = [] <;> by_cases h2 : g.edges = []
    · simp [h1, h2, upd, srcOf]
      exact ⟨_, _, _, _, .refl _⟩
    · simp [h1, h2, q3, q4, upd, srcOf]
      exact ⟨_, _, _, _, .refl _⟩
    · simp [h1, h2, q1, q2, upd, srcOf]
      exact ⟨_, _, _, _, .refl _⟩
    · simp [h1, h2, q1, q2, q3, q4, upd, srcOf]
      exact ⟨_, _, _, _, .refl _⟩
  try simp only [E_cons, E_nil, reduceIte, Nat.reduceEqDiff]
  refine .ret ?_
  -- leaf 1
  refine ret_d (v := .agg [.sl 3 x.1.1 0 g.nodes.length x.1.2, .sl 7 x.2.1 0 g.edges.length x.2.2]) (.inr rfl) ?_ (T.agg2 (T.row (xs := g.nodes.map I.c) (k := 1) (by simp) (by simp [upd]) (by simp)) (T.row (xs := g.edges.map Edge.c) (k := 3) (by simp) (by simp [upd]) (by simp))) rfl (by first | exact OutEq.outer _ | assumption | (simp; done) | (simp; assumption)) rfl
  simp [upd]
end Go.Abs
set_option linter.unusedVariables false
set_option linter.unusedSimpArgs false
namespace Go.Abs
open Go Go.Proofs

theorem part_def (n : Int) : part n = (letter n || digit n || decide (n = 95)) := rfl
def pairsD : List ByteArray := [⟨#[45, 62]⟩, ⟨#[60, 61]⟩, ⟨#[62, 61]⟩, ⟨#[61, 61]⟩, ⟨#[33, 61]⟩]
def pairI (s : ByteArray) : Bool := decide ((2 : Int) ≤ (strL s).length) && pairsD.any (fun x => (s.extract 0 2).toList == x.toList)
def c279 : ACode := (.seq (.reg [⟨(some 2), none, (.mov (.c (.d (.bool false))))⟩]) (.seq (.reg [⟨(some 3), none, (.mov (.t 0))⟩, ⟨(some 4), none, (.call 277 [(.t 3)])⟩, ⟨(some 5), none, (.mov (.t 4))⟩, ⟨(some 6), (some (5, false)), (.mov (.t 0))⟩, ⟨(some 7), (some (5, false)), (.call 280 [(.t 6)])⟩, ⟨(some 8), none, (.pick (.t 5) (.c (.d (.bool true))) (.t 7))⟩, ⟨(some 9), none, (.mov (.t 8))⟩, ⟨(some 10), (some (9, false)), (.mov (.t 0))⟩, ⟨(some 11), (some (9, false)), (.bin .eql (.t 10) (.c (.d (.int .u8 95))))⟩, ⟨(some 12), none, (.pick (.t 9) (.c (.d (.bool true))) (.t 11))⟩, ⟨(some 2), none, (.mov (.t 12))⟩]) .ret))
theorem b279 : Body Tryz.prog 279 13 c279 [.tmp 2] := Body.of Tryz.f279 Tryz.func279 (by decide +kernel) (by decide +kernel) Tryz.ntmps279 (by decide +kernel) (by decide +kernel)
theorem p279 (n : Int) : PCall Tryz.prog 279 [.d (.int .u8 n)] (bo (part n)) := by
  intro h
  refine ACall.of b279 (by simp) ?_
  unfold c279
  refine .seqk fun K1 hK1 => ?_
  refine .reg ?_
  simp
  refine hK1 _ ?_
  clear hK1 K1
  refine .seqreg (fun hh => hh) (fun ee => [(2, bo (part n))]) ?_ ?_
  · refine Sq.cutk 2 fun K1 hK1 => ?_
    simp only [List.take_succ_cons, List.take_zero, List.drop_succ_cons, List.drop_zero]
    simp
    refine PCall.sq (p277 n) fun _ he => ?_
    simp only [mergeH_eq he]
    refine hK1 _ ?_
    by_cases h1 : letter n = true
    · simp [h1, part]
    · simp at h1
      refine Sq.cutk 3 fun K2 hK2 => ?_
      simp only [List.take_succ_cons, List.take_zero, List.drop_succ_cons, List.drop_zero]
      simp [h1]
      refine PCall.sq (p280 n) fun _ he => ?_
      simp only [mergeH_eq he]
      refine hK2 _ ?_
      by_cases h2 : digit n = true
      · simp [h1, h2, part]
      · simp at h2
        by_cases h3 : n = 95
        · subst h3; simp [h1, h2, part]
        · simp [h1, h2, h3, part]
  try simp only [E_cons, E_nil, reduceIte, Nat.reduceEqDiff]
  refine .ret ?_
  -- leaf 1
  refine ret_d (.inr rfl) rfl (.refl _) rfl (by first | exact OutEq.outer _ | assumption | (simp; done) | (simp; assumption)) ?_
  simp
def c282 : ACode := (.seq (.reg [⟨(some 2), none, (.mov (.c (.d (.bool false))))⟩]) (.seq (.reg [⟨(some 3), none, (.mov (.t 0))⟩, ⟨(some 4), none, (.len true (.t 3))⟩, ⟨(some 5), none, (.bin .geq (.t 4) (.c (.d (.int .i64 2))))⟩, ⟨(some 6), none, (.mov (.t 5))⟩, ⟨(some 7), (some (6, true)), (.lit 1 5 [(.d (.str ⟨⟨[]⟩⟩))] [(0, (.c (.d (.str ⟨⟨[45, 62]⟩⟩)))), (1, (.c (.d (.str ⟨⟨[60, 61]⟩⟩)))), (2, (.c (.d (.str ⟨⟨[62, 61]⟩⟩)))), (3, (.c (.d (.str ⟨⟨[61, 61]⟩⟩)))), (4, (.c (.d (.str ⟨⟨[33, 61]⟩⟩))))])⟩, ⟨(some 8), (some (6, true)), (.mov (.t 0))⟩, ⟨(some 9), (some (6, true)), (.slice 0 (.t 8) none (some (.c (.d (.int .i64 2)))) none)⟩, ⟨(some 10), (some (6, true)), (.call 276 [(.t 7), (.t 9)])⟩, ⟨(some 11), none, (.pick (.t 6) (.t 10) (.c (.d (.bool false))))⟩, ⟨(some 2), none, (.mov (.t 11))⟩]) .ret))
theorem b282 : Body Tryz.prog 282 12 c282 [.tmp 2] := Body.of Tryz.f282 Tryz.func282 (by decide +kernel) (by decide +kernel) Tryz.ntmps282 (by decide +kernel) (by decide +kernel)
theorem p282 (s : ByteArray) : PCall Tryz.prog 282 [stri s] (bo (pairI s)) := by
  intro h
  refine ACall.of b282 (by simp) ?_
  unfold c282
  refine .seqk fun K1 hK1 => ?_
  refine .reg ?_
  simp
  refine hK1 _ ?_
  clear hK1 K1
  refine .seqregS (fun hh => upd hh 7 ⟨(hh 7).ver + 1, none⟩) (fun ee => [(2, bo (pairI s))]) ?_ ?_
  · by_cases h2 : (2 : Int) ≤ (strL s).length
    · have h3 : 2 ≤ (strL s).length := by omega
      refine SQ.cut 5 fun K1 hK1 => ?_
      simp only [List.take_succ_cons, List.take_zero, List.drop_succ_cons, List.drop_zero]
      refine .of ?_
      simp [h2, h3]
      refine hK1 _ ?_
      refine SQ.see (upd _ 7 ⟨_, none⟩) [(6, bo true), (0, stri s), (7, sl (pairsD.map S.c))] ⟨.refl _, .refl _, T.rowD (k := 1) (pairsD.map S.c) (by simp; rfl) (by simp) rfl, trivial⟩ (Dies.kill _ _ _ _) ?_
      refine .of ?_
      refine Sq.cutk 3 fun K2 hK2 => ?_
      simp only [List.take_succ_cons, List.take_zero, List.drop_succ_cons, List.drop_zero]
      simp [h2, h3]
      refine PCall.sq (p276 pairsD (s.extract 0 2)) fun _ he => ?_
      simp only [mergeH_eq he]
      refine hK2 _ ?_
      simp [pairI, h2]
    · have h3 : ¬ 2 ≤ (strL s).length := by omega
      refine .of ?_
      simp [h2, h3, pairI]
      exact Dies.bump _ _ _ (by omega)
  try simp only [E_cons, E_nil, reduceIte, Nat.reduceEqDiff]
  refine .ret ?_
  -- leaf 1
  refine ret_d (.inr rfl) rfl (.refl _) rfl (by first | exact OutEq.outer _ | assumption | (simp; done) | (simp; assumption)) ?_
  simp
end Go.Abs
set_option linter.unusedVariables false
set_option linter.unusedSimpArgs false
namespace Go.Abs
open Go Go.Proofs

def quotedI (l : List UInt8) : Int × Int :=
  if l[1 + runB quotable (l.drop 1)]? ≠ some 34 then (0, 2) else if (60 : Int) < runB quotable (l.drop 1) then (0, 3) else (runB quotable (l.drop 1) + 2, 0)
def c281 : ACode := (.seq (.reg [⟨(some 2), none, (.mov (.c (.d (.int .i64 0))))⟩, ⟨(some 3), none, (.mov (.c (.d (.int .i64 0))))⟩]) (.seq (.reg [⟨(some 5), none, (.mov (.t 0))⟩, ⟨(some 6), none, (.slice 0 (.t 5) (some (.c (.d (.int .i64 1)))) none none)⟩, ⟨(some 7), none, (.call 278 [(.t 6), (.c (.fn 285 []))])⟩, ⟨(some 4), none, (.mov (.t 7))⟩]) (.seq (.seq (.reg [⟨(some 8), none, (.mov (.t 4))⟩, ⟨(some 9), none, (.bin .add (.c (.d (.int .i64 1))) (.t 8))⟩, ⟨(some 10), none, (.mov (.t 0))⟩, ⟨(some 11), none, (.len true (.t 10))⟩, ⟨(some 12), none, (.bin .eql (.t 9) (.t 11))⟩, ⟨(some 13), none, (.mov (.t 12))⟩, ⟨(some 14), (some (13, false)), (.mov (.t 0))⟩, ⟨(some 15), (some (13, false)), (.mov (.t 4))⟩, ⟨(some 16), (some (13, false)), (.bin .add (.c (.d (.int .i64 1))) (.t 15))⟩, ⟨(some 17), (some (13, false)), (.sidx (.t 14) (.t 16))⟩, ⟨(some 18), (some (13, false)), (.bin .neq (.t 17) (.c (.d (.int .u8 34))))⟩, ⟨(some 19), none, (.pick (.t 13) (.c (.d (.bool true))) (.t 18))⟩]) (.cond (.t 19) (.seq (.reg [⟨(some 2), none, (.mov (.c (.d (.int .i64 0))))⟩, ⟨(some 3), none, (.mov (.c (.d (.int .i64 2))))⟩]) .ret) .skip)) (.seq (.seq (.reg [⟨(some 20), none, (.mov (.t 4))⟩, ⟨(some 21), none, (.bin .gtr (.t 20) (.c (.d (.int .i64 60))))⟩]) (.cond (.t 21) (.seq (.reg [⟨(some 2), none, (.mov (.c (.d (.int .i64 0))))⟩, ⟨(some 3), none, (.mov (.c (.d (.int .i64 3))))⟩]) .ret) .skip)) (.seq (.reg [⟨(some 22), none, (.mov (.t 4))⟩, ⟨(some 23), none, (.bin .add (.t 22) (.c (.d (.int .i64 2))))⟩, ⟨(some 2), none, (.mov (.t 23))⟩, ⟨(some 3), none, (.mov (.c (.d (.int .i64 0))))⟩]) .ret)))))
theorem b281 : Body Tryz.prog 281 24 c281 [.tmp 2, .tmp 3] := Body.of Tryz.f281 Tryz.func281 (by decide +kernel) (by decide +kernel) Tryz.ntmps281 (by decide +kernel) (by decide +kernel)
theorem p281 (s : ByteArray) (hm : (strL s).length ≤ 140737488355328) (h0 : 1 ≤ (strL s).length) : PCall Tryz.prog 281 [stri s] (.tup [int (quotedI (strL s)).1, int (quotedI (strL s)).2]) := by
  intro h
  refine ACall.of b281 (by simp) ?_
  unfold c281
  have hI : (1 : Int) ≤ (strL s).length := by omega
  obtain ⟨n, hn⟩ : ∃ n, n = runB quotable ((strL s).drop 1) := ⟨_, rfl⟩
  have hnl : n ≤ (strL s).length - 1 := by rw [hn]; exact Nat.le_trans (runB_le _ _) (by simp)
  have hx0 : strL (s.extract 1 (strL s).length) = (strL s).drop 1 := by rw [strL_extract, List.take_of_length_le (Nat.le_refl _)]
  have hq : quotedI (strL s) = if (strL s)[1 + n]? ≠ some 34 then (0, 2) else if (60 : Int) < n then (0, 3) else ((n : Int) + 2, 0) := by rw [hn]; rfl
  have hw1 : IntKind.i64.wrap (1 + (n : Int)) = 1 + (n : Int) := wrap64 (by omega) (by omega)
  have ht : (1 + (n : Int)).toNat = 1 + n := by omega
  have hp : (0 : Int) ≤ 1 + (n : Int) := by omega
  have hw2 : IntKind.i64.wrap ((n : Int) + 2) = (n : Int) + 2 := wrap64 (by omega) (by omega)
  refine .seqk fun K1 hK1 => ?_
  refine .reg ?_
  simp
  refine hK1 _ ?_
  clear hK1 K1
  refine .seqk fun K2 hK2 => ?_
  refine .reg ?_
  refine Sq.cutk 3 fun K3 hK3 => ?_
  simp only [List.take_succ_cons, List.take_zero, List.drop_succ_cons, List.drop_zero]
  simp [hI]
  refine PCall.sq (p278 (s.extract 1 (strL s).length) 285 [] quotable (by rw [hx0]; simp; omega) p285) fun h1 he1 => ?_
  simp only [mergeH_eq he1]
  clear he1 h1
  refine hK3 _ ?_
  clear hK3 K3
  simp [hI]
  rw [hx0, ← hn]
  refine hK2 _ ?_
  clear hK2 K2
  refine .keep [0, 4, 14, 15, 16, 17, 18] ?_
  simp only [keepE, E_cons, E_nil, reduceIte, Nat.reduceEqDiff]
  refine .seqk fun K4 hK4 => ?_
  refine .seqreg (fun hh => hh) (fun ee => [(4, ee 4), (19, bo (decide ((strL s)[1 + n]? ≠ some 34)))]) ?_ ?_
  · by_cases he : 1 + n = (strL s).length
    · have hx : (strL s)[1 + n]? = none := by rw [he]; simp
      have he2 : 1 + (n : Int) = ((strL s).length : Int) := by omega
      have hw3 : IntKind.i64.wrap ((strL s).length : Int) = ((strL s).length : Int) := wrap64 (by omega) (by omega)
      simp [hw1, hw3, he2, hx]
    · have hlt : 1 + n < (strL s).length := by omega
      obtain ⟨c, hx⟩ := get_some hlt
      obtain ⟨hlt', hc⟩ := strL_get hx
      have he2 : ¬ 1 + (n : Int) = ((strL s).length : Int) := by omega
      have h34 : ((c.toNat : Int) = 34) ↔ c = 34 := u8_eq c 34 (by omega)
      by_cases h35 : c = 34 <;> simp [hw1, he2, hx, hc, ht, hp, h34, h35]
  try simp only [E_cons, E_nil, reduceIte, Nat.reduceEqDiff]
  refine .condk _ rfl (fun hc1 => ?_) (fun hc1 => ?_)
  · skip
    refine .seqk fun K5 hK5 => ?_
    refine .reg ?_
    simp
    refine hK5 _ ?_
    clear hK5 K5
    refine .ret ?_
    -- leaf 1
    refine ret_d (.inr rfl) rfl (.refl _) rfl (by first | exact OutEq.outer _ | assumption | (simp; done) | (simp; assumption)) ?_
    simp at hc1
    simp [hq, hc1]
  · skip
    refine .skip ?_
    refine hK4 _ ?_
    clear hK4 K4
    refine .seqk fun K6 hK6 => ?_
    refine .seqk fun K7 hK7 => ?_
    refine .reg ?_
    simp
    refine hK7 _ ?_
    clear hK7 K7
    refine .condk _ rfl (fun hc2 => ?_) (fun hc2 => ?_)
    · skip
      refine .seqk fun K8 hK8 => ?_
      refine .reg ?_
      simp
      refine hK8 _ ?_
      clear hK8 K8
      refine .ret ?_
      -- leaf 2
      refine ret_d (.inr rfl) rfl (.refl _) rfl (by first | exact OutEq.outer _ | assumption | (simp; done) | (simp; assumption)) ?_
      simp at hc1 hc2
      simp [hq, hc1, hc2]
    · skip
      refine .skip ?_
      refine hK6 _ ?_
      clear hK6 K6
      refine .seqk fun K9 hK9 => ?_
      refine .reg ?_
      simp
      refine hK9 _ ?_
      clear hK9 K9
      refine .keep [2, 3] ?_
      simp only [keepE, E_cons, E_nil, reduceIte, Nat.reduceEqDiff]
      refine .ret ?_
      -- leaf 3
      refine ret_d (.inr rfl) rfl (.refl _) rfl (by first | exact OutEq.outer _ | assumption | (simp; done) | (simp; assumption)) ?_
      simp at hc1 hc2
      have hc3 : ¬ (60 : Int) < n := by omega
      simp [hq, hc1, hc3, hw2]
end Go.Abs
set_option linter.unusedVariables false
set_option linter.unusedSimpArgs false
namespace Go.Abs
open Go Go.Proofs

def singles : ByteArray := ⟨#[123, 125, 40, 41, 91, 93, 44, 59, 58, 61, 43, 45, 42, 60, 62, 33, 38, 124, 46, 63]⟩
def nextC (s : ByteArray) (c : UInt8) : Int × Int × Int :=
  if letter c.toNat = true then (if (20 : Int) < runB part (strL s) then (0, 0, 3) else (1, runB part (strL s), 0))
  else if digit c.toNat = true then (if (9 : Int) < runB digit (strL s) then (0, 0, 3) else (2, runB digit (strL s), 0))
  else if (c.toNat : Int) = 34 then (3, (quotedI (strL s)).1, (quotedI (strL s)).2)
  else if pairI s = true then (4, 2, 0)
  else if 0 ≤ Lib.indexByte (strL singles) (c.toNat : Int).toNat.toUInt8 then (4, 1, 0)
  else (0, 0, 2)
def c274 : ACode := (.seq (.reg [⟨(some 2), none, (.mov (.c (.d (.int .i64 0))))⟩, ⟨(some 3), none, (.mov (.c (.d (.int .i64 0))))⟩, ⟨(some 4), none, (.mov (.c (.d (.int .i64 0))))⟩]) (.seq (.reg [⟨(some 10), none, (.mov (.t 0))⟩, ⟨(some 11), none, (.sidx (.t 10) (.c (.d (.int .i64 0))))⟩, ⟨(some 5), none, (.mov (.t 11))⟩]) (.seq (.block 0 (.seq (.reg [⟨(some 13), none, (.mov (.t 5))⟩, ⟨(some 14), none, (.call 277 [(.t 13)])⟩, ⟨(some 12), none, (.mov (.t 14))⟩]) (.cond (.t 12) (.seq (.reg [⟨(some 15), none, (.mov (.t 0))⟩, ⟨(some 16), none, (.call 278 [(.t 15), (.c (.fn 279 []))])⟩, ⟨(some 6), none, (.mov (.t 16))⟩]) (.seq (.seq (.reg [⟨(some 17), none, (.mov (.t 6))⟩, ⟨(some 18), none, (.bin .gtr (.t 17) (.c (.d (.int .i64 20))))⟩]) (.cond (.t 18) (.seq (.reg [⟨(some 2), none, (.mov (.c (.d (.int .i64 0))))⟩, ⟨(some 3), none, (.mov (.c (.d (.int .i64 0))))⟩, ⟨(some 4), none, (.mov (.c (.d (.int .i64 3))))⟩]) .ret) .skip)) (.seq (.reg [⟨(some 19), none, (.mov (.t 6))⟩, ⟨(some 2), none, (.mov (.c (.d (.int .i64 1))))⟩, ⟨(some 3), none, (.mov (.t 19))⟩, ⟨(some 4), none, (.mov (.c (.d (.int .i64 0))))⟩]) .ret))) (.seq (.reg [⟨(some 21), none, (.mov (.t 5))⟩, ⟨(some 22), none, (.call 280 [(.t 21)])⟩, ⟨(some 20), none, (.mov (.t 22))⟩]) (.cond (.t 20) (.seq (.reg [⟨(some 23), none, (.mov (.t 0))⟩, ⟨(some 24), none, (.call 278 [(.t 23), (.c (.fn 280 []))])⟩, ⟨(some 7), none, (.mov (.t 24))⟩]) (.seq (.seq (.reg [⟨(some 25), none, (.mov (.t 7))⟩, ⟨(some 26), none, (.bin .gtr (.t 25) (.c (.d (.int .i64 9))))⟩]) (.cond (.t 26) (.seq (.reg [⟨(some 2), none, (.mov (.c (.d (.int .i64 0))))⟩, ⟨(some 3), none, (.mov (.c (.d (.int .i64 0))))⟩, ⟨(some 4), none, (.mov (.c (.d (.int .i64 3))))⟩]) .ret) .skip)) (.seq (.reg [⟨(some 27), none, (.mov (.t 7))⟩, ⟨(some 2), none, (.mov (.c (.d (.int .i64 2))))⟩, ⟨(some 3), none, (.mov (.t 27))⟩, ⟨(some 4), none, (.mov (.c (.d (.int .i64 0))))⟩]) .ret))) (.seq (.reg [⟨(some 29), none, (.mov (.t 5))⟩, ⟨(some 30), none, (.bin .eql (.t 29) (.c (.d (.int .u8 34))))⟩, ⟨(some 28), none, (.mov (.t 30))⟩]) (.cond (.t 28) (.seq (.reg [⟨(some 32), none, (.mov (.t 0))⟩, ⟨(some 33), none, (.call 281 [(.t 32)])⟩, ⟨(some 31), none, (.mov (.t 33))⟩, ⟨(some 34), none, (.ext (.t 31) 0)⟩, ⟨(some 35), none, (.ext (.t 31) 1)⟩, ⟨(some 8), none, (.mov (.t 34))⟩, ⟨(some 9), none, (.mov (.t 35))⟩]) (.seq (.reg [⟨(some 36), none, (.mov (.t 8))⟩, ⟨(some 37), none, (.mov (.t 9))⟩, ⟨(some 2), none, (.mov (.c (.d (.int .i64 3))))⟩, ⟨(some 3), none, (.mov (.t 36))⟩, ⟨(some 4), none, (.mov (.t 37))⟩]) .ret)) (.seq (.reg [⟨(some 39), none, (.mov (.t 0))⟩, ⟨(some 40), none, (.call 282 [(.t 39)])⟩, ⟨(some 38), none, (.mov (.t 40))⟩]) (.cond (.t 38) (.seq (.reg [⟨(some 2), none, (.mov (.c (.d (.int .i64 4))))⟩, ⟨(some 3), none, (.mov (.c (.d (.int .i64 2))))⟩, ⟨(some 4), none, (.mov (.c (.d (.int .i64 0))))⟩]) .ret) (.seq (.reg [⟨(some 42), none, (.mov (.t 5))⟩, ⟨(some 43), none, (.call 283 [(.c (.d (.str ⟨⟨[123, 125, 40, 41, 91, 93, 44, 59, 58, 61, 43, 45, 42, 60, 62, 33, 38, 124, 46, 63]⟩⟩))), (.t 42)])⟩, ⟨(some 44), none, (.bin .geq (.t 43) (.c (.d (.int .i64 0))))⟩, ⟨(some 41), none, (.mov (.t 44))⟩]) (.cond (.t 41) (.seq (.reg [⟨(some 2), none, (.mov (.c (.d (.int .i64 4))))⟩, ⟨(some 3), none, (.mov (.c (.d (.int .i64 1))))⟩, ⟨(some 4), none, (.mov (.c (.d (.int .i64 0))))⟩]) .ret) .skip))))))))))) (.seq (.reg [⟨(some 2), none, (.mov (.c (.d (.int .i64 0))))⟩, ⟨(some 3), none, (.mov (.c (.d (.int .i64 0))))⟩, ⟨(some 4), none, (.mov (.c (.d (.int .i64 2))))⟩]) .ret))))
theorem b274 : Body Tryz.prog 274 45 c274 [.tmp 2, .tmp 3, .tmp 4] := Body.of Tryz.f274 Tryz.func274 (by decide +kernel) (by decide +kernel) Tryz.ntmps274 (by decide +kernel) (by decide +kernel)
theorem p274 (s : ByteArray) (c : UInt8) (hm : (strL s).length ≤ 140737488355328) (hx : (strL s)[0]? = some c) : PCall Tryz.prog 274 [stri s] (.tup [int (nextC s c).1, int (nextC s c).2.1, int (nextC s c).2.2]) := by
  intro h
  refine ACall.of b274 (by simp) ?_
  unfold c274
  have h0 : 1 ≤ (strL s).length := by have := (List.getElem?_eq_some_iff.1 hx).1; omega
  obtain ⟨hlt', hc⟩ := strL_get hx
  refine .seqk fun K1 hK1 => ?_
  refine .reg ?_
  simp
  refine hK1 _ ?_
  clear hK1 K1
  refine .keep [0] ?_
  simp only [keepE, E_cons, E_nil, reduceIte, Nat.reduceEqDiff]
  refine .seqk fun K2 hK2 => ?_
  refine .reg ?_
  simp [hx]
  refine hK2 _ ?_
  clear hK2 K2
  refine .keep [0, 5] ?_
  simp only [keepE, E_cons, E_nil, reduceIte, Nat.reduceEqDiff]
  refine .seqk fun K3 hK3 => ?_
  refine .block ?_
  refine .seqk fun K4 hK4 => ?_
  refine .reg ?_
  refine Sq.cutk 2 fun K5 hK5 => ?_
  simp only [List.take_succ_cons, List.take_zero, List.drop_succ_cons, List.drop_zero]
  simp
  refine PCall.sq (p277 _) fun h1 he1 => ?_
  simp only [mergeH_eq he1]
  clear he1 h1
  refine hK5 _ ?_
  clear hK5 K5
  simp
  refine hK4 _ ?_
  clear hK4 K4
  refine .keep [0, 5, 12] ?_
  simp only [keepE, E_cons, E_nil, reduceIte, Nat.reduceEqDiff]
  refine .condk _ rfl (fun hc1 => ?_) (fun hc1 => ?_)
  · skip
    refine .seqk fun K6 hK6 => ?_
    refine .reg ?_
    refine Sq.cutk 2 fun K7 hK7 => ?_
    simp only [List.take_succ_cons, List.take_zero, List.drop_succ_cons, List.drop_zero]
    simp
    refine PCall.sq (p278 s 279 [] part hm p279) fun h1 he1 => ?_
    simp only [mergeH_eq he1]
    clear he1 h1
    refine hK7 _ ?_
    clear hK7 K7
    simp
    refine hK6 _ ?_
    clear hK6 K6
    refine .keep [6] ?_
    simp only [keepE, E_cons, E_nil, reduceIte, Nat.reduceEqDiff]
    refine .seqk fun K8 hK8 => ?_
    refine .seqk fun K9 hK9 => ?_
    refine .reg ?_
    simp
    refine hK9 _ ?_
    clear hK9 K9
    refine .condk _ rfl (fun hc2 => ?_) (fun hc2 => ?_)
    · simp at hc2
      refine .seqk fun K10 hK10 => ?_
      refine .reg ?_
      simp
      refine hK10 _ ?_
      clear hK10 K10
      refine .keep [2, 3, 4] ?_
      simp only [keepE, E_cons, E_nil, reduceIte, Nat.reduceEqDiff]
      refine .ret ?_
      -- leaf 1
      refine ret_d (.inr rfl) rfl (.refl _) rfl (by first | exact OutEq.outer _ | assumption | (simp; done) | (simp; assumption)) ?_
      simp [nextC, hc1, hc2]
    · try simp at hc2
      refine .skip ?_
      refine hK8 _ ?_
      clear hK8 K8
      refine .seqk fun K11 hK11 => ?_
      refine .reg ?_
      simp
      refine hK11 _ ?_
      clear hK11 K11
      refine .keep [2, 3, 4] ?_
      simp only [keepE, E_cons, E_nil, reduceIte, Nat.reduceEqDiff]
      refine .ret ?_
      -- leaf 2
      refine ret_d (.inr rfl) rfl (.refl _) rfl (by first | exact OutEq.outer _ | assumption | (simp; done) | (simp; assumption)) ?_
      simp [nextC, hc1, Int.not_lt.2 hc2]
  · try simp at hc1
    refine .seqk fun K12 hK12 => ?_
    refine .reg ?_
    refine Sq.cutk 2 fun K13 hK13 => ?_
    simp only [List.take_succ_cons, List.take_zero, List.drop_succ_cons, List.drop_zero]
    simp
    refine PCall.sq (p280 _) fun h1 he1 => ?_
    simp only [mergeH_eq he1]
    clear he1 h1
    refine hK13 _ ?_
    clear hK13 K13
    simp
    refine hK12 _ ?_
    clear hK12 K12
    refine .keep [0, 5, 20] ?_
    simp only [keepE, E_cons, E_nil, reduceIte, Nat.reduceEqDiff]
    refine .condk _ rfl (fun hc3 => ?_) (fun hc3 => ?_)
    · try simp at hc3
      refine .seqk fun K14 hK14 => ?_
      refine .reg ?_
      refine Sq.cutk 2 fun K15 hK15 => ?_
      simp only [List.take_succ_cons, List.take_zero, List.drop_succ_cons, List.drop_zero]
      simp
      refine PCall.sq (p278 s 280 [] digit hm p280) fun h1 he1 => ?_
      simp only [mergeH_eq he1]
      clear he1 h1
      refine hK15 _ ?_
      clear hK15 K15
      simp
      refine hK14 _ ?_
      clear hK14 K14
      refine .keep [7] ?_
      simp only [keepE, E_cons, E_nil, reduceIte, Nat.reduceEqDiff]
      refine .seqk fun K16 hK16 => ?_
      refine .seqk fun K17 hK17 => ?_
      refine .reg ?_
      simp
      refine hK17 _ ?_
      clear hK17 K17
      refine .condk _ rfl (fun hc4 => ?_) (fun hc4 => ?_)
      · try simp at hc4
        refine .seqk fun K18 hK18 => ?_
        refine .reg ?_
        simp
        refine hK18 _ ?_
        clear hK18 K18
        refine .keep [2, 3, 4] ?_
        simp only [keepE, E_cons, E_nil, reduceIte, Nat.reduceEqDiff]
        refine .ret ?_
        -- leaf 3
        refine ret_d (.inr rfl) rfl (.refl _) rfl (by first | exact OutEq.outer _ | assumption | (simp; done) | (simp; assumption)) ?_
        simp [nextC, hc1, hc3, hc4]
      · try simp at hc4
        refine .skip ?_
        refine hK16 _ ?_
        clear hK16 K16
        refine .seqk fun K19 hK19 => ?_
        refine .reg ?_
        simp
        refine hK19 _ ?_
        clear hK19 K19
        refine .keep [2, 3, 4] ?_
        simp only [keepE, E_cons, E_nil, reduceIte, Nat.reduceEqDiff]
        refine .ret ?_
        -- leaf 4
        refine ret_d (.inr rfl) rfl (.refl _) rfl (by first | exact OutEq.outer _ | assumption | (simp; done) | (simp; assumption)) ?_
        simp [nextC, hc1, hc3, Int.not_lt.2 hc4]
    · try simp at hc3
      refine .seqk fun K20 hK20 => ?_
      refine .reg ?_
      simp
      refine hK20 _ ?_
      clear hK20 K20
      refine .keep [0, 5, 28] ?_
      simp only [keepE, E_cons, E_nil, reduceIte, Nat.reduceEqDiff]
      refine .condk _ rfl (fun hc5 => ?_) (fun hc5 => ?_)
      · try simp at hc5
        refine .seqk fun K21 hK21 => ?_
        refine .reg ?_
        refine Sq.cutk 2 fun K22 hK22 => ?_
        simp only [List.take_succ_cons, List.take_zero, List.drop_succ_cons, List.drop_zero]
        simp
        refine PCall.sq (p281 s hm h0) fun h1 he1 => ?_
        simp only [mergeH_eq he1]
        clear he1 h1
        refine hK22 _ ?_
        clear hK22 K22
        simp
        refine hK21 _ ?_
        clear hK21 K21
        refine .keep [8, 9] ?_
        simp only [keepE, E_cons, E_nil, reduceIte, Nat.reduceEqDiff]
        refine .seqk fun K23 hK23 => ?_
        refine .reg ?_
        simp
        refine hK23 _ ?_
        clear hK23 K23
        refine .keep [2, 3, 4] ?_
        simp only [keepE, E_cons, E_nil, reduceIte, Nat.reduceEqDiff]
        refine .ret ?_
        -- leaf 5
        refine ret_d (.inr rfl) rfl (.refl _) rfl (by first | exact OutEq.outer _ | assumption | (simp; done) | (simp; assumption)) ?_
        rw [hc5] at hc1 hc3
        simp [nextC, hc1, hc3, hc5]
      · try simp at hc5
        refine .seqk fun K24 hK24 => ?_
        refine .reg ?_
        refine Sq.cutk 2 fun K25 hK25 => ?_
        simp only [List.take_succ_cons, List.take_zero, List.drop_succ_cons, List.drop_zero]
        simp
        refine PCall.sq (p282 s) fun h1 he1 => ?_
        simp only [mergeH_eq he1]
        clear he1 h1
        refine hK25 _ ?_
        clear hK25 K25
        simp
        refine hK24 _ ?_
        clear hK24 K24
        refine .keep [5, 38] ?_
        simp only [keepE, E_cons, E_nil, reduceIte, Nat.reduceEqDiff]
        refine .condk _ rfl (fun hc6 => ?_) (fun hc6 => ?_)
        · try simp at hc6
          refine .seqk fun K26 hK26 => ?_
          refine .reg ?_
          simp
          refine hK26 _ ?_
          clear hK26 K26
          refine .keep [2, 3, 4] ?_
          simp only [keepE, E_cons, E_nil, reduceIte, Nat.reduceEqDiff]
          refine .ret ?_
          -- leaf 6
          refine ret_d (.inr rfl) rfl (.refl _) rfl (by first | exact OutEq.outer _ | assumption | (simp; done) | (simp; assumption)) ?_
          simp [nextC, hc1, hc3, hc5, hc6]
        · try simp at hc6
          refine .seqk fun K27 hK27 => ?_
          refine .reg ?_
          refine Sq.cutk 2 fun K28 hK28 => ?_
          simp only [List.take_succ_cons, List.take_zero, List.drop_succ_cons, List.drop_zero]
          simp
          refine PCall.sq (p283 singles _) fun h1 he1 => ?_
          simp only [mergeH_eq he1]
          clear he1 h1
          refine hK28 _ ?_
          clear hK28 K28
          simp
          refine hK27 _ ?_
          clear hK27 K27
          refine .keep [41] ?_
          simp only [keepE, E_cons, E_nil, reduceIte, Nat.reduceEqDiff]
          refine .condk _ rfl (fun hc7 => ?_) (fun hc7 => ?_)
          · simp at hc7
            refine .seqk fun K29 hK29 => ?_
            refine .reg ?_
            simp
            refine hK29 _ ?_
            clear hK29 K29
            refine .keep [2, 3, 4] ?_
            simp only [keepE, E_cons, E_nil, reduceIte, Nat.reduceEqDiff]
            refine .ret ?_
            -- leaf 7
            refine ret_d (.inr rfl) rfl (.refl _) rfl (by first | exact OutEq.outer _ | assumption | (simp; done) | (simp; assumption)) ?_
            simp [nextC, hc1, hc3, hc5, hc6, hc7]
          · simp at hc7
            refine .skip ?_
            refine hK3 _ ?_
            clear hK3 K3
            refine .seqk fun K30 hK30 => ?_
            refine .reg ?_
            simp
            refine hK30 _ ?_
            clear hK30 K30
            refine .keep [2, 3, 4] ?_
            simp only [keepE, E_cons, E_nil, reduceIte, Nat.reduceEqDiff]
            refine .ret ?_
            -- leaf 8
            refine ret_d (.inr rfl) rfl (.refl _) rfl (by first | exact OutEq.outer _ | assumption | (simp; done) | (simp; assumption)) ?_
            simp [nextC, hc1, hc3, hc5, hc6, Int.not_le.2 hc7]
end Go.Abs
set_option linter.unusedVariables false
set_option linter.unusedSimpArgs false
namespace Go.Abs
open Go Go.Proofs

def wholeI (s : ByteArray) : Bool := match (strL s)[0]? with
  | none => false
  | some c => decide ((nextC s c).2.2 = 0) && decide ((nextC s c).1 = 1) && decide ((nextC s c).2.1 = (strL s).length)
theorem toList_strL (s : ByteArray) : s.toList = strL s := by
  exact ByteArray.toList_eq s
def c262 : ACode := (.seq (.reg [⟨(some 1), none, (.box 3 (.t 0))⟩, ⟨(some 2), none, (.mov (.c (.d (.str ⟨⟨[]⟩⟩))))⟩, ⟨(some 3), none, (.mov (.c (.d (.bool false))))⟩]) (.seq (.reg [⟨(some 8), none, (.addr 1 (.t 1))⟩, ⟨(some 9), none, (.load none (.t 8))⟩, ⟨(some 4), none, (.mov (.t 9))⟩]) (.seq (.seq (.reg [⟨(some 10), none, (.addr 0 (.t 1))⟩, ⟨(some 11), none, (.load none (.t 10))⟩, ⟨(some 12), none, (.bin .eql (.t 11) (.c (.d (.int .i64 3))))⟩]) (.cond (.t 12) (.reg [⟨(some 13), none, (.mov (.t 4))⟩, ⟨(some 14), none, (.bin .add (.c (.d (.str ⟨⟨[34]⟩⟩))) (.t 13))⟩, ⟨(some 15), none, (.bin .add (.t 14) (.c (.d (.str ⟨⟨[34]⟩⟩))))⟩, ⟨(some 4), none, (.mov (.t 15))⟩]) .skip)) (.seq (.seq (.reg [⟨(some 16), none, (.mov (.t 4))⟩, ⟨(some 17), none, (.bin .eql (.t 16) (.c (.d (.str ⟨⟨[]⟩⟩))))⟩]) (.cond (.t 17) (.seq (.reg [⟨(some 2), none, (.mov (.c (.d (.str ⟨⟨[]⟩⟩))))⟩, ⟨(some 3), none, (.mov (.c (.d (.bool false))))⟩]) .ret) .skip)) (.seq (.reg [⟨(some 19), none, (.mov (.t 4))⟩, ⟨(some 20), none, (.call 274 [(.t 19)])⟩, ⟨(some 18), none, (.mov (.t 20))⟩, ⟨(some 21), none, (.ext (.t 18) 0)⟩, ⟨(some 22), none, (.ext (.t 18) 1)⟩, ⟨(some 23), none, (.ext (.t 18) 2)⟩, ⟨(some 5), none, (.mov (.t 21))⟩, ⟨(some 6), none, (.mov (.t 22))⟩, ⟨(some 7), none, (.mov (.t 23))⟩]) (.seq (.reg [⟨(some 24), none, (.mov (.t 4))⟩, ⟨(some 25), none, (.mov (.t 7))⟩, ⟨(some 26), none, (.bin .eql (.t 25) (.c (.d (.int .i64 0))))⟩, ⟨(some 27), none, (.mov (.t 26))⟩, ⟨(some 28), (some (27, true)), (.mov (.t 5))⟩, ⟨(some 29), (some (27, true)), (.addr 0 (.t 1))⟩, ⟨(some 30), (some (27, true)), (.load none (.t 29))⟩, ⟨(some 31), (some (27, true)), (.bin .eql (.t 28) (.t 30))⟩, ⟨(some 32), none, (.pick (.t 27) (.t 31) (.c (.d (.bool false))))⟩, ⟨(some 33), none, (.mov (.t 32))⟩, ⟨(some 34), (some (33, true)), (.mov (.t 6))⟩, ⟨(some 35), (some (33, true)), (.mov (.t 4))⟩, ⟨(some 36), (some (33, true)), (.len true (.t 35))⟩, ⟨(some 37), (some (33, true)), (.bin .eql (.t 34) (.t 36))⟩, ⟨(some 38), none, (.pick (.t 33) (.t 37) (.c (.d (.bool false))))⟩, ⟨(some 2), none, (.mov (.t 24))⟩, ⟨(some 3), none, (.mov (.t 38))⟩]) .ret))))))
theorem b262 : Body Tryz.prog 262 39 c262 [.tmp 2, .tmp 3] := Body.of Tryz.f262 Tryz.func262 (by decide +kernel) (by decide +kernel) Tryz.ntmps262 (by decide +kernel) (by decide +kernel)
theorem p262 (s : ByteArray) (hm : (strL s).length ≤ 140737488355328) : PCall Tryz.prog 262 [.agg [int 1, stri s, int 0]] (.tup [stri s, bo (wholeI s)]) := by
  intro h
  refine ACall.of b262 (by simp) ?_
  unfold c262
  refine .seqk fun K1 hK1 => ?_
  refine .reg ?_
  simp
  refine hK1 _ ?_
  clear hK1 K1
  refine .keep [1, 28, 29, 30, 31, 34, 35, 36, 37] ?_
  simp only [keepE, E_cons, E_nil, reduceIte, Nat.reduceEqDiff]
  refine .seqk fun K2 hK2 => ?_
  refine .reg ?_
  simp
  refine hK2 _ ?_
  clear hK2 K2
  refine .keep [1, 4, 28, 29, 30, 31, 34, 35, 36, 37] ?_
  simp only [keepE, E_cons, E_nil, reduceIte, Nat.reduceEqDiff]
  refine .seqk fun K3 hK3 => ?_
  refine .seqk fun K4 hK4 => ?_
  refine .reg ?_
  simp
  refine hK4 _ ?_
  clear hK4 K4
  refine .keep [1, 4, 12, 28, 29, 30, 31, 34, 35, 36, 37] ?_
  simp only [keepE, E_cons, E_nil, reduceIte, Nat.reduceEqDiff]
  refine .condk _ rfl (fun hc1 => ?_) (fun hc1 => ?_)
  · cases hc1
  · skip
    refine .skip ?_
    refine hK3 _ ?_
    clear hK3 K3
    refine .seqk fun K5 hK5 => ?_
    refine .seqk fun K6 hK6 => ?_
    refine .reg ?_
    simp [toList_strL]
    refine hK6 _ ?_
    clear hK6 K6
    refine .condk _ rfl (fun hc2 => ?_) (fun hc2 => ?_)
    · have hs : strL s = [] := by simpa [toList_strL, strL] using hc2
      have hs2 : s = ⟨#[]⟩ := by
        cases s with | mk d => simp [strL] at hs; rw [hs]
      refine .seqk fun K7 hK7 => ?_
      refine .reg ?_
      simp
      refine hK7 _ ?_
      clear hK7 K7
      refine .ret ?_
      -- leaf 1
      refine ret_d (.inr rfl) rfl (.refl _) rfl (by first | exact OutEq.outer _ | assumption | (simp; done) | (simp; assumption)) ?_
      subst hs2
      rfl
    · have hne : strL s ≠ [] := by intro e; simp [toList_strL, e, strL] at hc2; exact hc2 (by simpa [strL] using e)
      obtain ⟨c, hx⟩ : ∃ c, (strL s)[0]? = some c := get_some (List.length_pos_iff.2 hne)
      refine .skip ?_
      refine hK5 _ ?_
      clear hK5 K5
      refine .seqk fun K8 hK8 => ?_
      refine .reg ?_
      refine Sq.cutk 2 fun K9 hK9 => ?_
      simp only [List.take_succ_cons, List.take_zero, List.drop_succ_cons, List.drop_zero]
      simp
      refine PCall.sq (p274 s c hm hx) fun h1 he1 => ?_
      simp only [mergeH_eq he1]
      clear he1 h1
      refine hK9 _ ?_
      clear hK9 K9
      simp
      refine hK8 _ ?_
      clear hK8 K8
      refine .keep [1, 4, 5, 6, 7, 28, 29, 30, 31, 34, 35, 36, 37] ?_
      simp only [keepE, E_cons, E_nil, reduceIte, Nat.reduceEqDiff]
      refine .seqreg (fun hh => hh) (fun ee => [(2, stri s), (3, bo (wholeI s))]) ?_ ?_
      · by_cases h0 : (nextC s c).2.2 = 0 <;> by_cases h1 : (nextC s c).1 = 1 <;> by_cases h2 : (nextC s c).2.1 = (strL s).length <;> simp [h0, h1, h2, wholeI, hx]
      try simp only [E_cons, E_nil, reduceIte, Nat.reduceEqDiff]
      refine .ret ?_
      -- leaf 2
      refine ret_d (.inr rfl) rfl (.refl _) rfl (by first | exact OutEq.outer _ | assumption | (simp; done) | (simp; assumption)) ?_
      simp
def c247 : ACode := (.seq (.reg [⟨(some 2), none, (.mov (.c (.d (.bool false))))⟩]) (.seq (.reg [⟨(some 6), none, (.mov (.t 0))⟩, ⟨(some 7), none, (.build [(.d (.int .i64 0)), (.d (.str ⟨⟨[]⟩⟩)), (.d (.int .i64 0))] [(0, (1, (.c (.d (.int .i64 1))))), (1, (1, (.t 6)))])⟩, ⟨(some 8), none, (.call 262 [(.t 7)])⟩, ⟨(some 5), none, (.mov (.t 8))⟩, ⟨(some 9), none, (.ext (.t 5) 0)⟩, ⟨(some 10), none, (.ext (.t 5) 1)⟩, ⟨(some 3), none, (.mov (.t 9))⟩, ⟨(some 4), none, (.mov (.t 10))⟩]) (.seq (.reg [⟨(some 11), none, (.mov (.t 4))⟩, ⟨(some 2), none, (.mov (.t 11))⟩]) .ret)))
theorem b247 : Body Tryz.prog 247 12 c247 [.tmp 2] := Body.of Tryz.f247 Tryz.func247 (by decide +kernel) (by decide +kernel) Tryz.ntmps247 (by decide +kernel) (by decide +kernel)
theorem p247 (s : ByteArray) (hm : (strL s).length ≤ 140737488355328) : PCall Tryz.prog 247 [stri s] (bo (wholeI s)) := by
  intro h
  refine ACall.of b247 (by simp) ?_
  unfold c247
  refine .seqk fun K1 hK1 => ?_
  refine .reg ?_
  simp
  refine hK1 _ ?_
  clear hK1 K1
  refine .seqk fun K2 hK2 => ?_
  refine .reg ?_
  refine Sq.cutk 3 fun K3 hK3 => ?_
  simp only [List.take_succ_cons, List.take_zero, List.drop_succ_cons, List.drop_zero]
  simp
  refine PCall.sq (p262 s hm) fun h1 he1 => ?_
  simp only [mergeH_eq he1]
  clear he1 h1
  refine hK3 _ ?_
  clear hK3 K3
  simp
  refine hK2 _ ?_
  clear hK2 K2
  refine .keep [4] ?_
  simp only [keepE, E_cons, E_nil, reduceIte, Nat.reduceEqDiff]
  refine .seqk fun K4 hK4 => ?_
  refine .reg ?_
  simp
  refine hK4 _ ?_
  clear hK4 K4
  refine .ret ?_
  -- leaf 1
  refine ret_d (.inr rfl) rfl (.refl _) rfl (by first | exact OutEq.outer _ | assumption | (simp; done) | (simp; assumption)) ?_
  rfl
end Go.Abs
set_option linter.unusedVariables false
set_option linter.unusedSimpArgs false
namespace Go.Abs
open Go Go.Proofs

def runP (dg : Bool) (n : Int) : Bool := digit n || (!dg && (letter n || decide (n = 95)))
theorem runP_true : runP true = digit := by funext n; simp [runP]
theorem runP_false : runP false = part := by
  funext n
  simp only [runP, part, Bool.not_false, Bool.true_and]
  cases digit n <;> cases letter n <;> rfl
theorem wrapN {n : Nat} (h : n < 9223372036854775808) : IntKind.i64.wrap (n : Int) = n := wrap64 (by omega) (by omega)
def c269 : ACode := (.seq (.reg [⟨(some 2), none, (.mov (.c (.d (.bool false))))⟩]) (.seq (.reg [⟨(some 3), none, (.mov (.t 0))⟩, ⟨(some 4), none, (.bin .geq (.t 3) (.c (.d (.int .u8 97))))⟩, ⟨(some 5), none, (.mov (.t 4))⟩, ⟨(some 6), (some (5, true)), (.mov (.t 0))⟩, ⟨(some 7), (some (5, true)), (.bin .leq (.t 6) (.c (.d (.int .u8 122))))⟩, ⟨(some 8), none, (.pick (.t 5) (.t 7) (.c (.d (.bool false))))⟩, ⟨(some 9), none, (.mov (.t 8))⟩, ⟨(some 10), (some (9, false)), (.mov (.t 0))⟩, ⟨(some 11), (some (9, false)), (.bin .geq (.t 10) (.c (.d (.int .u8 65))))⟩, ⟨(some 12), (some (9, false)), (.mov (.t 11))⟩, ⟨(some 13), (some (12, true)), (.mov (.t 0))⟩, ⟨(some 14), (some (12, true)), (.bin .leq (.t 13) (.c (.d (.int .u8 90))))⟩, ⟨(some 15), (some (9, false)), (.pick (.t 12) (.t 14) (.c (.d (.bool false))))⟩, ⟨(some 16), none, (.pick (.t 9) (.c (.d (.bool true))) (.t 15))⟩, ⟨(some 2), none, (.mov (.t 16))⟩]) .ret))
theorem b269 : Body Tryz.prog 269 17 c269 [.tmp 2] := Body.of Tryz.f269 Tryz.func269 (by decide +kernel) (by decide +kernel) Tryz.ntmps269 (by decide +kernel) (by decide +kernel)
theorem p269 (n : Int) : PCall Tryz.prog 269 [.d (.int .u8 n)] (bo (letter n)) := by
  intro h
  refine ACall.of b269 (by simp) ?_
  unfold c269
  refine .seqk fun K1 hK1 => ?_
  refine .reg ?_
  simp
  refine hK1 _ ?_
  clear hK1 K1
  refine .seqreg (fun hh => hh) (fun ee => [(2, bo (letter n))]) ?_ ?_
  · by_cases h0 : 97 ≤ n <;> by_cases h1 : n ≤ 122 <;> by_cases h2 : 65 ≤ n <;> by_cases h3 : n ≤ 90 <;> simp [h0, h1, h2, h3, letter]
  try simp only [E_cons, E_nil, reduceIte, Nat.reduceEqDiff]
  refine .ret ?_
  -- leaf 1
  refine ret_d (.inr rfl) rfl (.refl _) rfl (by first | exact OutEq.outer _ | assumption | (simp; done) | (simp; assumption)) ?_
  simp
def c270 : ACode := (.seq (.reg [⟨(some 2), none, (.mov (.c (.d (.bool false))))⟩]) (.seq (.reg [⟨(some 3), none, (.mov (.t 0))⟩, ⟨(some 4), none, (.bin .geq (.t 3) (.c (.d (.int .u8 48))))⟩, ⟨(some 5), none, (.mov (.t 4))⟩, ⟨(some 6), (some (5, true)), (.mov (.t 0))⟩, ⟨(some 7), (some (5, true)), (.bin .leq (.t 6) (.c (.d (.int .u8 57))))⟩, ⟨(some 8), none, (.pick (.t 5) (.t 7) (.c (.d (.bool false))))⟩, ⟨(some 2), none, (.mov (.t 8))⟩]) .ret))
theorem b270 : Body Tryz.prog 270 9 c270 [.tmp 2] := Body.of Tryz.f270 Tryz.func270 (by decide +kernel) (by decide +kernel) Tryz.ntmps270 (by decide +kernel) (by decide +kernel)
theorem p270 (n : Int) : PCall Tryz.prog 270 [.d (.int .u8 n)] (bo (digit n)) := by
  intro h
  refine ACall.of b270 (by simp) ?_
  unfold c270
  refine .seqk fun K1 hK1 => ?_
  refine .reg ?_
  simp
  refine hK1 _ ?_
  clear hK1 K1
  refine .seqreg (fun hh => hh) (fun ee => [(2, bo (digit n))]) ?_ ?_
  · by_cases h0 : 48 ≤ n <;> by_cases h1 : n ≤ 57 <;> simp [h0, h1, digit]
  try simp only [E_cons, E_nil, reduceIte, Nat.reduceEqDiff]
  refine .ret ?_
  -- leaf 1
  refine ret_d (.inr rfl) rfl (.refl _) rfl (by first | exact OutEq.outer _ | assumption | (simp; done) | (simp; assumption)) ?_
  simp
def c271 : ACode := (.seq (.reg [⟨(some 6), none, (.mov (.c (.d (.int .i64 0))))⟩]) (.seq (.reg [⟨(some 7), none, (.mov (.c (.d (.int .i64 0))))⟩]) (.seq (.block 0 (.loop (.seq (.seq (.reg [⟨(some 8), none, (.mov (.t 1))⟩, ⟨(some 9), none, (.mov (.t 7))⟩, ⟨(some 10), none, (.bin .add (.t 8) (.t 9))⟩, ⟨(some 11), none, (.mov (.t 0))⟩, ⟨(some 12), none, (.len true (.t 11))⟩, ⟨(some 13), none, (.bin .lss (.t 10) (.t 12))⟩, ⟨(some 14), none, (.mov (.t 13))⟩, ⟨(some 15), (some (14, true)), (.mov (.t 0))⟩, ⟨(some 16), (some (14, true)), (.mov (.t 1))⟩, ⟨(some 17), (some (14, true)), (.mov (.t 7))⟩, ⟨(some 18), (some (14, true)), (.bin .add (.t 16) (.t 17))⟩, ⟨(some 19), (some (14, true)), (.sidx (.t 15) (.t 18))⟩, ⟨(some 20), (some (14, true)), (.call 270 [(.t 19)])⟩, ⟨(some 21), (some (14, true)), (.mov (.t 20))⟩, ⟨(some 22), (some (21, false)), (.mov (.t 2))⟩, ⟨(some 23), (some (21, false)), (.not (.t 22))⟩, ⟨(some 24), (some (21, false)), (.mov (.t 23))⟩, ⟨(some 25), (some (24, true)), (.mov (.t 0))⟩, ⟨(some 26), (some (24, true)), (.mov (.t 1))⟩, ⟨(some 27), (some (24, true)), (.mov (.t 7))⟩, ⟨(some 28), (some (24, true)), (.bin .add (.t 26) (.t 27))⟩, ⟨(some 29), (some (24, true)), (.sidx (.t 25) (.t 28))⟩, ⟨(some 30), (some (24, true)), (.call 269 [(.t 29)])⟩, ⟨(some 31), (some (24, true)), (.mov (.t 30))⟩, ⟨(some 32), (some (31, false)), (.mov (.t 0))⟩, ⟨(some 33), (some (31, false)), (.mov (.t 1))⟩, ⟨(some 34), (some (31, false)), (.mov (.t 7))⟩, ⟨(some 35), (some (31, false)), (.bin .add (.t 33) (.t 34))⟩, ⟨(some 36), (some (31, false)), (.sidx (.t 32) (.t 35))⟩, ⟨(some 37), (some (31, false)), (.bin .eql (.t 36) (.c (.d (.int .u8 95))))⟩, ⟨(some 38), (some (24, true)), (.pick (.t 31) (.c (.d (.bool true))) (.t 37))⟩, ⟨(some 39), (some (21, false)), (.pick (.t 24) (.t 38) (.c (.d (.bool false))))⟩, ⟨(some 40), (some (14, true)), (.pick (.t 21) (.c (.d (.bool true))) (.t 39))⟩, ⟨(some 41), none, (.pick (.t 14) (.t 40) (.c (.d (.bool false))))⟩]) (.cond (.t 41) .skip (.exit 0))) (.block 1 (.reg [⟨(some 42), none, (.mov (.t 7))⟩, ⟨(some 43), none, (.bin .add (.t 42) (.c (.d (.int .i64 1))))⟩, ⟨(some 7), none, (.mov (.t 43))⟩]))))) (.seq (.reg [⟨(some 44), none, (.mov (.t 7))⟩, ⟨(some 6), none, (.mov (.t 44))⟩]) .ret))))
theorem b271 : Body Tryz.prog 271 45 c271 [.tmp 6] := Body.of Tryz.f271 Tryz.func271 (by decide +kernel) (by decide +kernel) Tryz.ntmps271 (by decide +kernel) (by decide +kernel)
theorem p271 (s : ByteArray) (dg : Bool) (hm : (strL s).length ≤ 140737488355328) : PCall Tryz.prog 271 [stri s, int 0, bo dg] (int (runB (runP dg) (strL s))) := by
  intro h
  refine ACall.of b271 (by simp) ?_
  unfold c271
  refine .seqk fun K1 hK1 => ?_
  refine .reg ?_
  simp
  refine hK1 _ ?_
  clear hK1 K1
  refine .seqk fun K2 hK2 => ?_
  refine .reg ?_
  simp
  refine hK2 _ ?_
  clear hK2 K2
  refine .seqk fun K3 hK3 => ?_
  refine .block ?_
  refine .count (strL s).length (fun i st => i + runB (runP dg) ((strL s).drop i) = runB (runP dg) (strL s) ∧ st = ⟨E [(7, int i), (0, stri s), (1, int 0), (2, bo dg)], outer h⟩) 0 (Nat.zero_le _) _ (.cov (h' := outer h) (by simp) (.refl _)) ⟨by simp, rfl⟩ ?_
  rintro i s hi1 ⟨hp, rfl⟩ K4 hK4
  refine .seqk fun K5 hK5 => ?_
  refine .seqreg (fun hh => hh) (fun ee => [(0, ee 0), (1, ee 1), (2, ee 2), (7, ee 7), (41, bo (match (strL s)[i]? with | some c => runP dg c.toNat | none => false))]) ?_ ?_
  · have hwi : IntKind.i64.wrap (i : Int) = i := wrapN (by omega)
    cases hx : (strL s)[i]? with
    | none =>
      have hlt : ¬ i < (strL s).length := by simpa using hx
      simp [hlt, hwi]
    | some c =>
      have hlt : i < (strL s).length := (List.getElem?_eq_some_iff.1 hx).1
      obtain ⟨hlt', hc⟩ := strL_get hx
      refine Sq.cutk 13 fun K1 hK1 => ?_
      simp only [List.take_succ_cons, List.take_zero, List.drop_succ_cons, List.drop_zero]
      simp [hlt, hwi, hc]
      refine PCall.sq (p270 _) fun h1 he => ?_
      simp only [mergeH_eq he]
      refine hK1 _ ?_
      by_cases hd : digit c.toNat = true
      · simp [hlt, hd, runP]
      · simp at hd
        cases dg with
        | true => simp [hlt, hd, runP]
        | false =>
          refine Sq.cutk 10 fun K2 hK2 => ?_
          simp only [List.take_succ_cons, List.take_zero, List.drop_succ_cons, List.drop_zero]
          simp [hlt, hwi, hc, hd]
          refine PCall.sq (p269 _) fun h1 he => ?_
          simp only [mergeH_eq he]
          refine hK2 _ ?_
          by_cases hl : letter c.toNat = true
          · simp [hlt, hd, hl, runP]
          · simp at hl
            by_cases h95 : (c.toNat : Int) = 95
            · have hl95 : letter 95 = false := rfl
              have hd95 : digit 95 = false := rfl
              simp [hlt, hwi, hc, hd, hl, h95, runP, hl95, hd95]
            · simp [hlt, hwi, hc, hd, hl, h95, runP]
  try simp only [E_cons, E_nil, reduceIte, Nat.reduceEqDiff]
  refine .condk _ rfl (fun hc1 => ?_) (fun hc1 => ?_)
  · obtain ⟨c, hx, hpc⟩ : ∃ c, (strL s)[i]? = some c ∧ runP dg c.toNat = true := by
      cases hx : (strL s)[i]? with
      | none => simp [hx] at hc1
      | some c => exact ⟨c, rfl, by simpa [hx] using hc1⟩
    have hlt : i < (strL s).length := (List.getElem?_eq_some_iff.1 hx).1
    refine .skip ?_
    refine hK5 _ ?_
    clear hK5 K5
    refine .block ?_
    refine .reg ?_
    simp
    -- loop back, leaf 1
    refine hK4 _ _ (by omega) (Wk.cov (h' := outer h) (by simp; exact wrap64 (by omega) (by omega)) (.refl _)) ⟨?_, rfl⟩
    rw [← hp, drop_cons hx]
    simp [runB, hpc]
    omega
  · have h0 : runB (runP dg) ((strL s).drop i) = 0 := by
      cases hx : (strL s)[i]? with
      | none => rw [List.drop_eq_nil_of_le (by simpa using hx)]; rfl
      | some c =>
        simp [hx] at hc1
        rw [drop_cons hx]
        simp [runB, hc1]
    refine .exit ?_
    try simp only [then', inBlk, if_true, if_false, reduceIte, Nat.reduceEqDiff]
    refine hK3 _ ?_
    clear hK5 hK4 hK3 K5 K4 K3
    refine .seqk fun K6 hK6 => ?_
    refine .reg ?_
    simp
    refine hK6 _ ?_
    clear hK6 K6
    refine .ret ?_
    -- leaf 2
    refine ret_d (.inr rfl) rfl (.refl _) rfl (by first | exact OutEq.outer _ | assumption | (simp; done) | (simp; assumption)) ?_
    simp; omega
end Go.Abs
set_option linter.unusedVariables false
set_option linter.unusedSimpArgs false
namespace Go.Abs
open Go Go.Proofs

def quotedR (l : List UInt8) : Int := if l[1 + runB quotable (l.drop 1)]? = some 34 then (runB quotable (l.drop 1) : Int) + 2 else 0
def c272 : ACode := (.seq (.reg [⟨(some 4), none, (.mov (.c (.d (.int .i64 0))))⟩]) (.seq (.seq (.reg [⟨(some 5), none, (.mov (.c (.d (.int .i64 1))))⟩]) (.block 0 (.loop (.seq (.seq (.reg [⟨(some 7), none, (.mov (.t 1))⟩, ⟨(some 8), none, (.mov (.t 5))⟩, ⟨(some 9), none, (.bin .add (.t 7) (.t 8))⟩, ⟨(some 10), none, (.mov (.t 0))⟩, ⟨(some 11), none, (.len true (.t 10))⟩, ⟨(some 12), none, (.bin .lss (.t 9) (.t 11))⟩]) (.cond (.t 12) .skip (.exit 0))) (.seq (.block 1 (.seq (.reg [⟨(some 15), none, (.mov (.t 0))⟩, ⟨(some 16), none, (.mov (.t 1))⟩, ⟨(some 17), none, (.mov (.t 5))⟩, ⟨(some 18), none, (.bin .add (.t 16) (.t 17))⟩, ⟨(some 19), none, (.sidx (.t 15) (.t 18))⟩, ⟨(some 6), none, (.mov (.t 19))⟩]) (.seq (.seq (.reg [⟨(some 20), none, (.mov (.t 6))⟩, ⟨(some 21), none, (.bin .eql (.t 20) (.c (.d (.int .u8 34))))⟩]) (.cond (.t 21) (.seq (.reg [⟨(some 22), none, (.mov (.t 5))⟩, ⟨(some 23), none, (.bin .add (.t 22) (.c (.d (.int .i64 1))))⟩, ⟨(some 4), none, (.mov (.t 23))⟩]) .ret) .skip)) (.seq (.reg [⟨(some 24), none, (.mov (.t 6))⟩, ⟨(some 25), none, (.bin .lss (.t 24) (.c (.d (.int .u8 32))))⟩, ⟨(some 26), none, (.mov (.t 25))⟩, ⟨(some 27), (some (26, false)), (.mov (.t 6))⟩, ⟨(some 28), (some (26, false)), (.bin .gtr (.t 27) (.c (.d (.int .u8 126))))⟩, ⟨(some 29), none, (.pick (.t 26) (.c (.d (.bool true))) (.t 28))⟩]) (.cond (.t 29) (.seq (.reg [⟨(some 4), none, (.mov (.c (.d (.int .i64 0))))⟩]) .ret) .skip))))) (.reg [⟨(some 13), none, (.mov (.t 5))⟩, ⟨(some 14), none, (.bin .add (.t 13) (.c (.d (.int .i64 1))))⟩, ⟨(some 5), none, (.mov (.t 14))⟩])))))) (.seq (.reg [⟨(some 4), none, (.mov (.c (.d (.int .i64 0))))⟩]) .ret)))
theorem b272 : Body Tryz.prog 272 30 c272 [.tmp 4] := Body.of Tryz.f272 Tryz.func272 (by decide +kernel) (by decide +kernel) Tryz.ntmps272 (by decide +kernel) (by decide +kernel)
theorem p272 (s : ByteArray) (hm : (strL s).length ≤ 140737488355328) (h0 : 1 ≤ (strL s).length) : PCall Tryz.prog 272 [stri s, int 0] (int (quotedR (strL s))) := by
  intro h
  refine ACall.of b272 (by simp) ?_
  unfold c272
  refine .seqk fun K1 hK1 => ?_
  refine .reg ?_
  simp
  refine hK1 _ ?_
  clear hK1 K1
  refine .seqk fun K2 hK2 => ?_
  refine .seqk fun K3 hK3 => ?_
  refine .reg ?_
  simp
  refine hK3 _ ?_
  clear hK3 K3
  refine .block ?_
  refine .count (strL s).length (fun i st => 1 ≤ i ∧ i + runB quotable ((strL s).drop i) = 1 + runB quotable ((strL s).drop 1) ∧ st = ⟨E [(5, int i), (0, stri s), (1, int 0)], outer h⟩) 1 (h0) _ (.cov (h' := outer h) (by simp) (.refl _)) ⟨Nat.le_refl _, rfl, rfl⟩ ?_
  rintro i s hi1 ⟨h1i, hp, rfl⟩ K4 hK4
  refine .seqk fun K5 hK5 => ?_
  refine .seqk fun K6 hK6 => ?_
  have hwi : IntKind.i64.wrap (i : Int) = i := wrapN (by omega)
  have hwi1 : IntKind.i64.wrap ((i : Int) + 1) = i + 1 := wrap64 (by omega) (by omega)
  refine .reg ?_
  simp [hwi]
  refine hK6 _ ?_
  clear hK6 K6
  refine .keep [0, 1, 5, 12, 27, 28] ?_
  simp only [keepE, E_cons, E_nil, reduceIte, Nat.reduceEqDiff]
  refine .condk _ rfl (fun hc1 => ?_) (fun hc1 => ?_)
  · simp at hc1
    obtain ⟨c, hx⟩ := get_some hc1
    obtain ⟨hlt2, hc⟩ := strL_get hx
    refine .skip ?_
    refine hK5 _ ?_
    clear hK5 K5
    refine .seqk fun K7 hK7 => ?_
    refine .block ?_
    refine .seqk fun K8 hK8 => ?_
    refine .reg ?_
    simp [hwi, hx]
    refine hK8 _ ?_
    clear hK8 K8
    refine .keep [0, 1, 5, 6, 27, 28] ?_
    simp only [keepE, E_cons, E_nil, reduceIte, Nat.reduceEqDiff]
    refine .seqk fun K9 hK9 => ?_
    refine .seqk fun K10 hK10 => ?_
    refine .reg ?_
    simp
    refine hK10 _ ?_
    clear hK10 K10
    refine .condk _ rfl (fun hc2 => ?_) (fun hc2 => ?_)
    · have h34 : ((c.toNat : Int) = 34) := by simpa using hc2
      have hcc : c = 34 := (u8_eq c 34 (by omega)).1 h34
      have hr : runB quotable ((strL s).drop i) = 0 := by rw [drop_cons hx]; simp [runB, quotable, h34]
      refine .seqk fun K11 hK11 => ?_
      refine .reg ?_
      simp [hwi1]
      refine hK11 _ ?_
      clear hK11 K11
      refine .keep [4] ?_
      simp only [keepE, E_cons, E_nil, reduceIte, Nat.reduceEqDiff]
      refine .ret ?_
      -- leaf 1
      refine ret_d (.inr rfl) rfl (.refl _) rfl (by first | exact OutEq.outer _ | assumption | (simp; done) | (simp; assumption)) ?_
      rw [hr] at hp
      have hn : runB quotable ((strL s).drop 1) = i - 1 := by omega
      have h1 : 1 + (i - 1) = i := by omega
      rw [quotedR, hn, h1, hx, if_pos (by rw [hcc])]
      simp
      omega
    · have h34 : ¬ ((c.toNat : Int) = 34) := by simpa using hc2
      have hcc : ¬ c = 34 := fun e => h34 ((u8_eq c 34 (by omega)).2 e)
      refine .skip ?_
      refine hK9 _ ?_
      clear hK9 K9
      refine .seqreg (fun hh => hh) (fun ee => [(0, ee 0), (1, ee 1), (5, ee 5), (29, bo (decide (((c.toNat : Int) < 32) ∨ (126 < (c.toNat : Int)))))]) ?_ ?_
      · by_cases h1 : (c.toNat : Int) < 32 <;> by_cases h2 : 126 < (c.toNat : Int) <;> simp [h1, h2]
      try simp only [E_cons, E_nil, reduceIte, Nat.reduceEqDiff]
      refine .condk _ rfl (fun hc3 => ?_) (fun hc3 => ?_)
      · have hbad : (c.toNat : Int) < 32 ∨ 126 < (c.toNat : Int) := by simpa using hc3
        have hr : runB quotable ((strL s).drop i) = 0 := by
          rw [drop_cons hx]
          have : quotable (c.toNat : Int) = false := by simp [quotable]; omega
          simp [runB, this]
        refine .seqk fun K12 hK12 => ?_
        refine .reg ?_
        simp
        refine hK12 _ ?_
        clear hK12 K12
        refine .ret ?_
        -- leaf 2
        refine ret_d (.inr rfl) rfl (.refl _) rfl (by first | exact OutEq.outer _ | assumption | (simp; done) | (simp; assumption)) ?_
        rw [hr] at hp
        have hn : runB quotable ((strL s).drop 1) = i - 1 := by omega
        have h1 : 1 + (i - 1) = i := by omega
        rw [quotedR, hn, h1, hx, if_neg (by simpa using hcc)]
        rfl
      · have hok : ¬ ((c.toNat : Int) < 32 ∨ 126 < (c.toNat : Int)) := by simpa using hc3
        have hqt : quotable (c.toNat : Int) = true := by simp [quotable, h34]; omega
        refine .skip ?_
        refine hK7 _ ?_
        clear hK7 K7
        refine .reg ?_
        simp
        -- loop back, leaf 3
        refine hK4 _ _ (by omega) (Wk.cov (h' := outer h) (by simp; exact wrap64 (by omega) (by omega)) (.refl _)) ⟨by omega, ?_, rfl⟩
        rw [← hp, drop_cons hx]
        simp [runB, hqt]
        omega
  · simp at hc1
    have hr : runB quotable ((strL s).drop i) = 0 := by rw [drop_nil hc1]; rfl
    refine .exit ?_
    try simp only [then', inBlk, if_true, if_false, reduceIte, Nat.reduceEqDiff]
    refine hK2 _ ?_
    clear hK5 hK4 hK2 K5 K4 K2
    refine .seqk fun K13 hK13 => ?_
    refine .reg ?_
    simp
    refine hK13 _ ?_
    clear hK13 K13
    refine .ret ?_
    -- leaf 4
    refine ret_d (.inr rfl) rfl (.refl _) rfl (by first | exact OutEq.outer _ | assumption | (simp; done) | (simp; assumption)) ?_
    rw [hr] at hp
    have hn : runB quotable ((strL s).drop 1) = i - 1 := by omega
    have h1 : 1 + (i - 1) = i := by omega
    rw [quotedR, hn, h1, List.getElem?_eq_none hc1, if_neg (by simp)]
    rfl
end Go.Abs
set_option linter.unusedVariables false
set_option linter.unusedSimpArgs false
namespace Go.Abs
open Go Go.Proofs

def signsD : List ByteArray := [⟨#[45, 62]⟩, ⟨#[60, 61]⟩, ⟨#[62, 61]⟩, ⟨#[61, 61]⟩, ⟨#[33, 61]⟩, ⟨#[123]⟩, ⟨#[125]⟩, ⟨#[40]⟩, ⟨#[41]⟩, ⟨#[91]⟩, ⟨#[93]⟩, ⟨#[44]⟩, ⟨#[59]⟩, ⟨#[58]⟩, ⟨#[61]⟩, ⟨#[43]⟩, ⟨#[45]⟩, ⟨#[42]⟩, ⟨#[60]⟩, ⟨#[62]⟩, ⟨#[33]⟩, ⟨#[38]⟩, ⟨#[124]⟩, ⟨#[46]⟩, ⟨#[63]⟩]
def isSign (s x : ByteArray) : Bool := decide (((strL x).length : Int) ≤ (strL s).length) && ((s.extract 0 (strL x).length).toList == x.toList)
def c273 : ACode := (.seq (.reg [⟨(some 0), none, (.mov (.c (.d .nil)))⟩]) (.seq (.reg [⟨(some 1), none, (.lit 1 25 [(.d (.str ⟨⟨[]⟩⟩))] [(0, (.c (.d (.str ⟨⟨[45, 62]⟩⟩)))), (1, (.c (.d (.str ⟨⟨[60, 61]⟩⟩)))), (2, (.c (.d (.str ⟨⟨[62, 61]⟩⟩)))), (3, (.c (.d (.str ⟨⟨[61, 61]⟩⟩)))), (4, (.c (.d (.str ⟨⟨[33, 61]⟩⟩)))), (5, (.c (.d (.str ⟨⟨[123]⟩⟩)))), (6, (.c (.d (.str ⟨⟨[125]⟩⟩)))), (7, (.c (.d (.str ⟨⟨[40]⟩⟩)))), (8, (.c (.d (.str ⟨⟨[41]⟩⟩)))), (9, (.c (.d (.str ⟨⟨[91]⟩⟩)))), (10, (.c (.d (.str ⟨⟨[93]⟩⟩)))), (11, (.c (.d (.str ⟨⟨[44]⟩⟩)))), (12, (.c (.d (.str ⟨⟨[59]⟩⟩)))), (13, (.c (.d (.str ⟨⟨[58]⟩⟩)))), (14, (.c (.d (.str ⟨⟨[61]⟩⟩)))), (15, (.c (.d (.str ⟨⟨[43]⟩⟩)))), (16, (.c (.d (.str ⟨⟨[45]⟩⟩)))), (17, (.c (.d (.str ⟨⟨[42]⟩⟩)))), (18, (.c (.d (.str ⟨⟨[60]⟩⟩)))), (19, (.c (.d (.str ⟨⟨[62]⟩⟩)))), (20, (.c (.d (.str ⟨⟨[33]⟩⟩)))), (21, (.c (.d (.str ⟨⟨[38]⟩⟩)))), (22, (.c (.d (.str ⟨⟨[124]⟩⟩)))), (23, (.c (.d (.str ⟨⟨[46]⟩⟩)))), (24, (.c (.d (.str ⟨⟨[63]⟩⟩))))])⟩, ⟨(some 0), none, (.mov (.t 1))⟩]) .ret))
theorem b273 : Body Tryz.prog 273 2 c273 [.tmp 0] := Body.of Tryz.f273 Tryz.func273 (by decide +kernel) (by decide +kernel) Tryz.ntmps273 (by decide +kernel) (by decide +kernel)
theorem p273  : PCall Tryz.prog 273 [] (sl (signsD.map S.c)) := by
  intro h
  refine ACall.of b273 (by simp) ?_
  unfold c273
  refine .seqk fun K1 hK1 => ?_
  refine .reg ?_
  simp
  refine hK1 _ ?_
  clear hK1 K1
  refine .seqk fun K2 hK2 => ?_
  refine .reg ?_
  simp
  refine hK2 _ ?_
  clear hK2 K2
  refine .ret ?_
  -- leaf 1
  refine ret_d (.inr rfl) rfl (T.rowD (k := 1) (signsD.map S.c) (by simp; rfl) (by simp [outer]) rfl) rfl (by first | exact OutEq.outer _ | assumption | (simp; done) | (simp; assumption)) ?_
  rfl
end Go.Abs
