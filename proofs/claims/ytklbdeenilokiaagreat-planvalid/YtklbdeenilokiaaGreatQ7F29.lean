/- Contracts of functions of the program, and what they lean on: a part of the proof that planValid_proved stands; no condition. -/
import Derived.Test.YtklbdeenilokiaaGreatProg
import Derived.Test.YtklbdeenilokiaaGreatQ7F28
import Derived.Test.YtklbdeenilokiaaGreatQ7A3
import Derived.Test.YtklbdeenilokiaaGreatQ7M9
set_option linter.unusedVariables false
set_option linter.unusedSimpArgs false
namespace Go.Abs
open Go Go.Proofs

def upT (n i : Nat) : List Bool := (List.range n).map fun j => decide (j < i)
theorem upT_get (n i j : Nat) : (upT n i)[j]? = if j < n then some (decide (j < i)) else none := by
  simp only [upT, List.getElem?_map]
  split
  · rename_i h; rw [List.getElem?_range h]; rfl
  · rename_i h; rw [List.getElem?_eq_none (by simpa using h)]; rfl
theorem upT_set {n i : Nat} (h : i < n) : (upT n i).set i true = upT n (i + 1) := by
  refine List.ext_getElem? fun j => ?_
  rw [List.getElem?_set, upT_get, upT_get]
  have hl : (upT n i).length = n := by simp [upT]
  rw [hl]
  by_cases hj : i = j
  · subst hj; simp [h]
  · rw [if_neg hj]
    by_cases h2 : j < n
    · have : (j < i + 1) ↔ j < i := by omega
      simp [h2, this]
    · simp [h2]
theorem upT_0 (n : Nat) : upT n 0 = List.replicate n false := by
  refine List.ext_getElem? fun j => ?_
  rw [upT_get, List.getElem?_replicate]
  simp
theorem upT_n (n : Nat) : upT n n = List.replicate n true := by
  refine List.ext_getElem? fun j => ?_
  rw [upT_get, List.getElem?_replicate]
  by_cases h : j < n <;> simp [h]
theorem plan_nodes (g : Graph) (L : List Oprn) : ∀ d i, i + d = g.nodes.length → planE g ⟨upT g.nodes.length i, List.replicate g.edges.length false⟩ ((List.range' i d).map (fun (i : Nat) => (⟨1, (i : Int)⟩ : Oprn)) ++ L) = planE g ⟨List.replicate g.nodes.length true, List.replicate g.edges.length false⟩ L
  | 0, i, h => by
    obtain rfl : i = g.nodes.length := by omega
    simp [upT_n]
  | d + 1, i, h => by
    rw [List.range'_succ]
    simp only [List.map_cons, List.cons_append]
    have hi : i < g.nodes.length := by omega
    have hs : stepE g ⟨upT g.nodes.length i, List.replicate g.edges.length false⟩ ⟨1, (i : Int)⟩ = 0 := by
      simp [stepE, inI, endK, upT_get, hi]
    have ha : afterK g ⟨upT g.nodes.length i, List.replicate g.edges.length false⟩ ⟨1, (i : Int)⟩ = ⟨upT g.nodes.length (i + 1), List.replicate g.edges.length false⟩ := by
      simp [afterK, upT_set hi]
    rw [planE, if_neg (by simp [hs]), ha]
    exact plan_nodes g L d (i + 1) (by omega)
theorem setT (n i : Nat) : (List.replicate n true).set i true = List.replicate n true := by
  refine List.ext_getElem? fun j => ?_
  rw [List.getElem?_set, List.getElem?_replicate, List.length_replicate]
  by_cases hj : i = j
  · subst hj; simp
  · simp [hj]
theorem plan_edges {g : Graph} (hv : gErr g = 0) : ∀ d i, i + d = g.edges.length → planE g ⟨List.replicate g.nodes.length true, upT g.edges.length i⟩ ((List.range' i d).map (fun (i : Nat) => (⟨3, (i : Int)⟩ : Oprn))) = 0
  | 0, i, h => by
    obtain rfl : i = g.edges.length := by omega
    simp [upT_n, planE, allK]
  | d + 1, i, h => by
    rw [List.range'_succ]
    simp only [List.map_cons]
    have hi : i < g.edges.length := by omega
    obtain ⟨x, hx⟩ : ∃ x, g.edges[i]? = some x := ⟨_, List.getElem?_eq_getElem hi⟩
    obtain ⟨i1, i2⟩ := gErr_edge hv (List.mem_of_getElem? hx)
    simp only [inI, Bool.and_eq_true, decide_eq_true_eq] at i1 i2
    have k1 : x.src.toNat < g.nodes.length := by omega
    have k2 : x.tgt.toNat < g.nodes.length := by omega
    have hxe : g.edges[i] = x := (List.getElem?_eq_some_iff.1 hx).2
    have hs : stepE g ⟨List.replicate g.nodes.length true, upT g.edges.length i⟩ ⟨3, (i : Int)⟩ = 0 := by
      simp [stepE, inI, endK, upT_get, hi, hx, hxe, List.getElem?_replicate, k1, k2]
    have ha : afterK g ⟨List.replicate g.nodes.length true, upT g.edges.length i⟩ ⟨3, (i : Int)⟩ = ⟨List.replicate g.nodes.length true, upT g.edges.length (i + 1)⟩ := by
      simp [afterK, upT_set hi, hx, hxe, setT]
    rw [planE, if_neg (by simp [hs]), ha]
    exact plan_edges hv d (i + 1) (by omega)
theorem plain_ok {g : Graph} (hv : gErr g = 0) : planV g (plainL g) = 0 := by
  have h1 := plan_nodes g ((List.range g.edges.length).map (fun (i : Nat) => (⟨3, (i : Int)⟩ : Oprn))) g.nodes.length 0 (by omega)
  have h2 := plan_edges hv g.edges.length 0 (by omega)
  rw [upT_0] at h1 h2
  rw [← List.range_eq_range'] at h1 h2
  simp only [planV, hv, ne_eq, not_true_eq_false, if_false, freshK, plainL]
  rw [h1, h2]
theorem p43 (g : Graph) (l : List Oprn) (hm : l.length ≤ 9223372036854775807) : PCall Tryz.prog 43 [ag (Graph.c g), sl (l.map Oprn.c)] (int (planV g l)) := by
  intro h
  refine ACall.of b43 (by simp) ?_
  unfold c43
  refine .seqk fun K1 hK1 => ?_
  refine .reg ?_
  simp
  refine hK1 _ ?_
  clear hK1 K1
  refine .keep [1, 2] ?_
  simp only [keepE, E_cons, E_nil, reduceIte, Nat.reduceEqDiff]
  refine .see (upd _ 2 ⟨_, none⟩) [(1, sl (l.map Oprn.c)), (2, .dptr (Graph.c g))] ⟨.refl _, T.box (k := 2) (cs := Graph.c g) (by simp [upd]) (by simp [upd]), trivial⟩ (Dies.up (Dies.refl _) (.inr ⟨rfl, Nat.le_refl _⟩)) ?_
  refine .seqk fun K2 hK2 => ?_
  refine .seqk fun K3 hK3 => ?_
  refine .reg ?_
  refine Sq.cutk 2 fun K4 hK4 => ?_
  simp only [List.take_succ_cons, List.take_zero, List.drop_succ_cons, List.drop_zero]
  simp
  refine PCall.sq (p96 g) fun h1 he1 => ?_
  simp only [mergeH_eq he1]
  clear he1 h1
  refine hK4 _ ?_
  clear hK4 K4
  simp
  refine hK3 _ ?_
  clear hK3 K3
  refine .keep [1, 2, 5] ?_
  simp only [keepE, E_cons, E_nil, reduceIte, Nat.reduceEqDiff]
  refine .seqk fun K5 hK5 => ?_
  refine .reg ?_
  simp
  refine hK5 _ ?_
  clear hK5 K5
  refine .condk _ rfl (fun hc1 => ?_) (fun hc1 => ?_)
  · simp at hc1
    refine .seqk fun K6 hK6 => ?_
    refine .reg ?_
    simp
    refine hK6 _ ?_
    clear hK6 K6
    refine .ret ?_
    -- leaf 1
    refine ret_d (.inr rfl) rfl (.refl _) rfl (by first | exact OutEq.outer _ | assumption | (simp; done) | (simp; assumption)) ?_
    simp [planV, hc1]
  · simp at hc1
    refine .skip ?_
    refine hK2 _ ?_
    clear hK2 K2
    refine .seqk fun K7 hK7 => ?_
    refine .reg ?_
    refine Sq.cutk 3 fun K8 hK8 => ?_
    simp only [List.take_succ_cons, List.take_zero, List.drop_succ_cons, List.drop_zero]
    simp
    refine PCall.sq (p85 g l hc1 hm) fun h1 he1 => ?_
    simp only [mergeH_eq he1]
    clear he1 h1
    refine hK8 _ ?_
    clear hK8 K8
    simp
    refine hK7 _ ?_
    clear hK7 K7
    refine .keep [4] ?_
    simp only [keepE, E_cons, E_nil, reduceIte, Nat.reduceEqDiff]
    refine .ret ?_
    -- leaf 2
    refine ret_d (.inr rfl) rfl (.refl _) rfl (by first | exact OutEq.outer _ | assumption | (simp; done) | (simp; assumption)) ?_
    simp [planV, hc1]
theorem p7 (g : Graph) (l : List Oprn) (hm : l.length ≤ 9223372036854775807) : PCall Tryz.prog 7 [ag (Graph.c g), sl (l.map Oprn.c)] (bo true) := by
  intro h
  refine ACall.of b7 (by simp) ?_
  unfold c7
  refine .seqk fun K1 hK1 => ?_
  refine .reg ?_
  simp
  refine hK1 _ ?_
  clear hK1 K1
  refine .keep [1, 2, 12, 13, 14, 17, 18, 19] ?_
  simp only [keepE, E_cons, E_nil, reduceIte, Nat.reduceEqDiff]
  refine .see (upd _ 2 ⟨_, none⟩) [(1, sl (l.map Oprn.c)), (2, .dptr (Graph.c g))] ⟨.refl _, T.box (k := 2) (cs := Graph.c g) (by simp [upd]) (by simp [upd]), trivial⟩ (Dies.up (Dies.refl _) (.inr ⟨rfl, Nat.le_refl _⟩)) ?_
  refine .seqk fun K2 hK2 => ?_
  refine .seqreg (fun hh => hh) (fun ee => [(1, ee 1), (2, ee 2), (20, bo (!fewG g || decide (150 < l.length)))]) ?_ ?_
  · refine Sq.cutk 1 fun K1 hK1 => ?_
    simp only [List.take_succ_cons, List.take_zero, List.drop_succ_cons, List.drop_zero]
    simp
    refine PCall.sq p34 fun _ he => ?_
    simp only [mergeH_eq he]
    refine hK1 _ ?_
    refine Sq.cutk 4 fun K2 hK2 => ?_
    simp only [List.take_succ_cons, List.take_zero, List.drop_succ_cons, List.drop_zero]
    simp
    refine PCall.sq (p39 g) fun _ he => ?_
    simp only [mergeH_eq he]
    refine hK2 _ ?_
    cases fewG g <;> simp <;> omega
  try simp only [E_cons, E_nil, reduceIte, Nat.reduceEqDiff]
  refine .condk _ rfl (fun hc1 => ?_) (fun hc1 => ?_)
  · skip
    refine .seqk fun K3 hK3 => ?_
    refine .reg ?_
    refine Sq.cutk 1 fun K4 hK4 => ?_
    simp only [List.take_succ_cons, List.take_zero, List.drop_succ_cons, List.drop_zero]
    simp
    refine PCall.sq (p34) fun h1 he1 => ?_
    simp only [mergeH_eq he1]
    clear he1 h1
    refine hK4 _ ?_
    clear hK4 K4
    simp
    refine hK3 _ ?_
    clear hK3 K3
    refine .ret ?_
    -- leaf 1
    refine ret_d (.inr rfl) rfl (.refl _) rfl (by first | exact OutEq.outer _ | assumption | (simp; done) | (simp; assumption)) ?_
    simp
  · simp [fewG] at hc1
    have hl : g.nodes.length ≤ 45 ∧ g.edges.length ≤ 90 ∧ l.length ≤ 150 := by omega
    have hpl : (plainR g).1.length ≤ 1000000 := by unfold plainR; split <;> simp [plain_eq, pre3_len]; omega
    refine .skip ?_
    refine hK2 _ ?_
    clear hK2 K2
    refine .seqk fun K5 hK5 => ?_
    refine .reg ?_
    refine Sq.cutk 2 fun K6 hK6 => ?_
    simp only [List.take_succ_cons, List.take_zero, List.drop_succ_cons, List.drop_zero]
    simp
    refine PCall.sq (p41 g (by omega) (by omega)) fun h1 he1 => ?_
    simp only [mergeH_eq he1]
    clear he1 h1
    refine hK6 _ ?_
    clear hK6 K6
    refine Sq.cutk 1 fun K7 hK7 => ?_
    simp only [List.take_succ_cons, List.take_zero, List.drop_succ_cons, List.drop_zero]
    simp
    refine PCall.sq (p40 g) fun h1 he1 => ?_
    simp only [mergeH_eq he1]
    clear he1 h1
    refine hK7 _ ?_
    clear hK7 K7
    simp
    refine hK5 _ ?_
    clear hK5 K5
    refine .keep [1, 2, 5, 6] ?_
    simp only [keepE, E_cons, E_nil, reduceIte, Nat.reduceEqDiff]
    refine .seqk fun K8 hK8 => ?_
    refine .reg ?_
    refine Sq.cutk 2 fun K9 hK9 => ?_
    simp only [List.take_succ_cons, List.take_zero, List.drop_succ_cons, List.drop_zero]
    simp
    refine PCall.sq (p42 g) fun h1 he1 => ?_
    simp only [mergeH_eq he1]
    clear he1 h1
    refine hK9 _ ?_
    clear hK9 K9
    simp
    refine hK8 _ ?_
    clear hK8 K8
    refine .keep [1, 2, 5, 6, 7, 8] ?_
    simp only [keepE, E_cons, E_nil, reduceIte, Nat.reduceEqDiff]
    refine .seqdreg mixed (fun hh => hh) (fun ee => [(4, bo true)]) ?_ ?_
    · by_cases hv : gErr g = 0
      · refine Dr.cutk 2 fun K1 hK1 => ?_
        simp only [List.take_succ_cons, List.take_zero, List.drop_succ_cons, List.drop_zero]
        simp [-Bool.exists_bool, plainR, hv]
        refine Dr.pcall (p41 g (by omega) (by omega)) ?_
        refine hK1 _ _ ?_
        refine Dr.cutk 2 fun K2 hK2 => ?_
        simp only [List.take_succ_cons, List.take_zero, List.drop_succ_cons, List.drop_zero]
        simp [-Bool.exists_bool, plainR, hv]
        refine Dr.pcall (p44 l (by omega)) ?_
        refine hK2 _ _ ?_
        refine Dr.cutk 1 fun K3 hK3 => ?_
        simp only [List.take_succ_cons, List.take_zero, List.drop_succ_cons, List.drop_zero]
        simp [-Bool.exists_bool, plainR, hv]
        refine Dr.pcall (p43 g l hm) ?_
        refine hK3 _ _ ?_
        refine Dr.cutk 3 fun K4 hK4 => ?_
        simp only [List.take_succ_cons, List.take_zero, List.drop_succ_cons, List.drop_zero]
        simp [-Bool.exists_bool, plainR, hv]
        refine Dr.pcall (p45 g l hm) ?_
        refine hK4 _ _ ?_
        refine Dr.cutk 5 fun K5 hK5 => ?_
        simp only [List.take_succ_cons, List.take_zero, List.drop_succ_cons, List.drop_zero]
        simp [-Bool.exists_bool, plainR, hv, eqO_refl]
        refine Dr.pcall (p46 (plainL g) (plainL g) (by simp [plain_eq, pre3_len]; omega)) ?_
        refine hK5 _ _ ?_
        refine Dr.cutk 13 fun K6 hK6 => ?_
        simp only [List.take_succ_cons, List.take_zero, List.drop_succ_cons, List.drop_zero]
        simp [-Bool.exists_bool, plainR, hv, eqO_refl]
        refine Dr.pcall (p43 g (plainL g) (by simp [plain_eq, pre3_len]; omega)) ?_
        refine hK6 _ _ ?_
        simp [-Bool.exists_bool, plain_ok hv, eqO_refl]
      · refine Dr.cutk 2 fun K1 hK1 => ?_
        simp only [List.take_succ_cons, List.take_zero, List.drop_succ_cons, List.drop_zero]
        simp [-Bool.exists_bool, plainR, hv]
        refine Dr.pcall (p41 g (by omega) (by omega)) ?_
        refine hK1 _ _ ?_
        refine Dr.cutk 2 fun K2 hK2 => ?_
        simp only [List.take_succ_cons, List.take_zero, List.drop_succ_cons, List.drop_zero]
        simp [-Bool.exists_bool, plainR, hv]
        refine Dr.pcall (p44 l (by omega)) ?_
        refine hK2 _ _ ?_
        refine Dr.cutk 1 fun K3 hK3 => ?_
        simp only [List.take_succ_cons, List.take_zero, List.drop_succ_cons, List.drop_zero]
        simp [-Bool.exists_bool, plainR, hv]
        refine Dr.pcall (p43 g l hm) ?_
        refine hK3 _ _ ?_
        refine Dr.cutk 3 fun K4 hK4 => ?_
        simp only [List.take_succ_cons, List.take_zero, List.drop_succ_cons, List.drop_zero]
        simp [-Bool.exists_bool, plainR, hv]
        refine Dr.pcall (p45 g l hm) ?_
        refine hK4 _ _ ?_
        refine Dr.cutk 5 fun K5 hK5 => ?_
        simp only [List.take_succ_cons, List.take_zero, List.drop_succ_cons, List.drop_zero]
        simp [-Bool.exists_bool, plainR, hv, eqO_refl]
        refine Dr.pcall (p46 [] [] (by simp)) ?_
        refine hK5 _ _ ?_
        simp [-Bool.exists_bool, hv, eqO_refl]
    try simp only [E_cons, E_nil, reduceIte, Nat.reduceEqDiff]
    refine .ret ?_
    -- leaf 2
    refine ret_d (.inr rfl) rfl (.refl _) rfl (by first | exact OutEq.outer _ | assumption | (simp; done) | (simp; assumption)) ?_
    simp

theorem p7L (g : Graph) (l : List Oprn) : PCall Tryz.prog 7 [ag (Graph.c g), sl (l.map Oprn.c)] (bo true) := fun h =>
  ACall.lens b7.noExt fun hl => p7 g l (by
    have hm := len_of hl (List.mem_cons_of_mem _ (List.mem_cons_self ..))
    simpa only [List.length_map, maxL] using hm) h
end Go.Abs
