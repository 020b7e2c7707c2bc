/- PlanCost returns true for every type graph, statistic, pattern and row of operations, and leaves them as they were; no condition. -/
import Derived.Test.YtklbdeenilokiaaGreatRows
import Derived.ProofKit
import Derived.OpenShut
import Derived.ShutString
import Derived.ChangeOld
import Derived.Below
import Derived.SizedLaws
import Derived.Test.YtklbdeenilokiaaGreatQ16G2
import Derived.Test.YtklbdeenilokiaaGreatQ16G4
import Derived.Test.YtklbdeenilokiaaGreatQ16F49
set_option linter.unusedVariables false
namespace Go.Proofs.YtklbdeenilokiaaGreat.cost
open Go.ChangeShapes Go.WideShapes Go.ChangeAt Go.RowKit Go.Abs
theorem own : ownKnob Tryz.prog.godebug = none := by kernel_rfl
theorem laidOut : laidOutB Tryz.prog = true := by kernel_rfl
theorem shape81 : shq Tryz.prog 8 81 = some [.sl [.int .i64, .int .i64]] := by kernel_rfl
theorem shape119 : shq Tryz.prog 8 119 = some [.sl [.str, .int .i64, .bool, .sl [.str, .int .i64, .int .i64, .sl [.str]]], .sl [.str, .int .i64, .int .i64, .int .i64, .int .i64, .int .i64, .int .i64], .sl [.int .i64, .int .i64, .int .i64, .int .i64], .sl [.int .i64, .int .i64, .int .i64, .int .i64], .sl [.int .i64], .sl [.int .i64, .int .i64, .int .i64]] := by kernel_rfl
set_option maxRecDepth 100000 in
theorem lifted (os : Os) (started : os.Started) (H : Type) (enc : TypeId × Value → H) :
    ReturnsInHanded {} Tryz.checked os 16 .any (Rows.planCostSpec.pre6 enc Tryz.prog Tryz.f16 Rows.planCostRow.domain false) (Rows.planCostSpec.post enc Tryz.prog Tryz.f16 false true false false) := by
  refine returnsInHanded_of_change_sized (C := Tryz.checked) own started (by kernel_rfl) Tryz.func16
    (ChangeSpec.witness6 (enc := enc) (C := Tryz.checked) false ⟨#[], #[.agg #[.slice none 0 0, .slice none 0 0, .slice none 0 0, .slice none 0 0, .slice none 0 0, .slice none 0 0], .slice none 0 0], []⟩ 8 (by kernel_rfl) (by kernel_rfl) (by kernel_rfl) (by kernel_rfl)) ?_
  intro W base args ds gs before hval0 hW hcnd hsz _
  have hval : ∀ (j : Nat) t v, Tryz.f16.params[j]? = some t → args[j]? = some v → Value.okWide Tryz.prog W .any base t v := hval0
  have hW' := hW
  obtain ⟨p, q, hA0, hV, rfl, hfz, hnd⟩ := hW
  have hA : DataW.TrodAll enc Tryz.prog W 0 (fun _ => true) true Tryz.f16.params.toList args.toList ds p := hA0
  rw [Tryz.params16] at hA hval
  obtain ⟨v0, vs0, d0, ds0, p0, q0, hargs, rfl, rfl, h0, r0⟩ := trodAll_cons hA
  obtain ⟨v1, vs1, d1, ds1, p1, q1, rfl, rfl, rfl, h1, r1⟩ := trodAll_cons r0
  obtain ⟨rfl, rfl, rfl⟩ := trodAll_nil r1
  obtain rfl : args = #[v0, v1] := by cases args; simp_all
  obtain ⟨rfl, rfl⟩ := trodVars_none hV
  have k0 := h0
  have k1 := h1
  have lt0 : ∀ x ∈ p0, x.block < W.heap.size := by obtain ⟨m, hm⟩ := k0; exact DataW.trod_lt m _ _ _ hm
  have lt1 : ∀ x ∈ p1, x.block < W.heap.size := by obtain ⟨m, hm⟩ := k1; exact DataW.trod_lt m _ _ _ hm
  obtain ⟨a0, rfl, _⟩ := okWide_struct Tryz.underlying119 (hval 0 119 v0 rfl rfl)
  obtain ⟨a1, n1, c1, rfl⟩ := okWide_slice Tryz.underlying81 (hval 1 81 v1 rfl rfl)
  obtain ⟨m0, e0⟩ := h0
  obtain ⟨m1, e1⟩ := h1
  have hz0 : ∀ k ∈ d0.weights Tryz.prog 119, k ≤ reachBytes := fun k hk => by
    have := List.all_eq_true.1 hsz k (DataW.weights_mem_each (j := 0) (t := 119) (d := d0) (by rw [Tryz.params16]; rfl) rfl k hk)
    simpa using this
  obtain ⟨ds0, o0, w0⟩ := RE.agg (vs := a0) (readS 8 m0 119 _ _ _ shape119 e0 hz0)
  have hz1 : ∀ k ∈ d1.weights Tryz.prog 81, k ≤ reachBytes := fun k hk => by
    have := List.all_eq_true.1 hsz k (DataW.weights_mem_each (j := 1) (t := 81) (d := d1) (by rw [Tryz.params16]; rfl) rfl k hk)
    simpa using this
  obtain ⟨ds1, o1, w1⟩ := RE.single (readS 8 m1 81 _ _ _ shape81 e1 hz1)
  obtain ⟨t, s, g, rfl, ht⟩ := priced_of o0
  obtain ⟨l, rfl⟩ := ops_of o1.1
  clear hA0 hval0
  refine (law_calls (p16L t ht s g l) #[.agg a0, .slice a1 n1 c1] W rfl fun j c v hc hv => ?_).mono fun e W' ⟨he, bel⟩ => ?_
  · match j with
    | 0 => simp at hc hv; subst hc hv; exact w0
    | 1 => simp at hc hv; subst hc hv; exact w1
    | j + 2 => simp at hc
  · subst he
    exact ⟨_, rfl, _, _, _, [], _, [], hW', trodAll_mk1 (shut_bool Tryz.underlying4 _), (trodAll_cons_mk (Below.trod laidOut (by kernel_rfl) (of_decide_eq_true (by kernel_rfl)) k0 bel lt0) (trodAll_cons_mk (Below.trod laidOut (by kernel_rfl) (of_decide_eq_true (by kernel_rfl)) k1 bel lt1) trodAll_mk0)), rfl, bel.frame _, fun h => by cases h⟩
theorem named : Tryz.pinned.checked.prog.funcNamed Rows.planCostRow.func = some 16 := by kernel_rfl
set_option maxHeartbeats 20000000 in
theorem facts : joinedFacts Tryz.pinned.checked.prog 16 Tryz.f16 Rows.planCostSpec Rows.planCostRow = true := by
  unfold joinedFacts
  simp only [Bool.and_eq_true]
  repeat' apply And.intro
  all_goals (as_aux_lemma => kernel_rfl)
theorem inst : Tryz.f16.isInstance Tryz.pinned.checked.prog Rows.planCostRow.origin Rows.planCostRow.targs := of_decide_eq_true (by kernel_rfl)
theorem wrap : Tryz.f16.isWrapper Tryz.pinned.checked.prog Rows.planCostRow.wrapper Rows.planCostRow.mainSum := by unfold Func.isWrapper; first | (rw [if_pos (by decide +kernel)]; kernel_rfl) | (rw [if_neg (by decide +kernel)]; exact ⟨rfl, rfl⟩)
theorem over : Rows.planCostRow.holds Tryz.pinned (OpenSpec.ofChange Rows.planCostSpec) :=
  OpenClaim.holds_of_wide 16 Tryz.f16 rfl rfl rfl rfl rfl rfl rfl ⟨rfl, rfl, rfl, rfl, rfl⟩ rfl rfl rfl rfl rfl named Tryz.func16 facts inst wrap
    (fun os started H enc _ => lifted os started H enc)
end Go.Proofs.YtklbdeenilokiaaGreat.cost
namespace Go.Proofs.YtklbdeenilokiaaGreat
theorem planCost_proved : Rows.PlanCostSaid := cost.over
#print axioms planCost_proved
end Go.Proofs.YtklbdeenilokiaaGreat
