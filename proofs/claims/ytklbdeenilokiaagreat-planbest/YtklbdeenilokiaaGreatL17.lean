/- PlanBest returns true for every type graph, statistic, pattern and row of bytes, and leaves them as they were; no condition. -/
import Derived.Test.YtklbdeenilokiaaGreatRows
import Derived.ProofKit
import Derived.OpenShut
import Derived.ShutString
import Derived.ChangeOld
import Derived.Below
import Derived.SizedLaws
import Derived.Test.YtklbdeenilokiaaGreatQ17G2
import Derived.Test.YtklbdeenilokiaaGreatQ17G4
import Derived.Test.YtklbdeenilokiaaGreatQ17G5
import Derived.Test.YtklbdeenilokiaaGreatQ17M27
set_option linter.unusedVariables false
namespace Go.Proofs.YtklbdeenilokiaaGreat.best
open Go.ChangeShapes Go.WideShapes Go.ChangeAt Go.RowKit Go.Abs
theorem own : ownKnob Tryz.prog.godebug = none := by kernel_rfl
theorem laidOut : laidOutB Tryz.prog = true := by kernel_rfl
theorem shape57 : shq Tryz.prog 8 57 = some [.sl [.int .u8]] := by kernel_rfl
theorem shape119 : shq Tryz.prog 8 119 = some [.sl [.str, .int .i64, .bool, .sl [.str, .int .i64, .int .i64, .sl [.str]]], .sl [.str, .int .i64, .int .i64, .int .i64, .int .i64, .int .i64, .int .i64], .sl [.int .i64, .int .i64, .int .i64, .int .i64], .sl [.int .i64, .int .i64, .int .i64, .int .i64], .sl [.int .i64], .sl [.int .i64, .int .i64, .int .i64]] := by kernel_rfl
set_option maxRecDepth 100000 in
theorem lifted (os : Os) (started : os.Started) (H : Type) (enc : TypeId × Value → H) :
    ReturnsInHanded {} Tryz.checked os 17 .any (Rows.planBestSpec.pre6 enc Tryz.prog Tryz.f17 Rows.planBestRow.domain false) (Rows.planBestSpec.post enc Tryz.prog Tryz.f17 false true false false) := by
  refine returnsInHanded_of_change_sized (C := Tryz.checked) own started (by kernel_rfl) Tryz.func17
    (ChangeSpec.witness6 (enc := enc) (C := Tryz.checked) false ⟨#[], #[.agg #[.slice none 0 0, .slice none 0 0, .slice none 0 0, .slice none 0 0, .slice none 0 0, .slice none 0 0], .slice none 0 0], []⟩ 8 (by kernel_rfl) (by kernel_rfl) (by kernel_rfl) (by kernel_rfl)) ?_
  intro W base args ds gs before hval0 hW hcnd hsz _
  have hval : ∀ (j : Nat) t v, Tryz.f17.params[j]? = some t → args[j]? = some v → Value.okWide Tryz.prog W .any base t v := hval0
  have hW' := hW
  obtain ⟨p, q, hA0, hV, rfl, hfz, hnd⟩ := hW
  have hA : DataW.TrodAll enc Tryz.prog W 0 (fun _ => true) true Tryz.f17.params.toList args.toList ds p := hA0
  rw [Tryz.params17] at hA hval
  obtain ⟨v0, vs0, d0, ds0, p0, q0, hargs, rfl, rfl, h0, r0⟩ := trodAll_cons hA
  obtain ⟨v1, vs1, d1, ds1, p1, q1, rfl, rfl, rfl, h1, r1⟩ := trodAll_cons r0
  obtain ⟨rfl, rfl, rfl⟩ := trodAll_nil r1
  obtain rfl : args = #[v0, v1] := by cases args; simp_all
  obtain ⟨rfl, rfl⟩ := trodVars_none hV
  have k0 := h0
  have k1 := h1
  have lt0 : ∀ x ∈ p0, x.block < W.heap.size := by obtain ⟨m, hm⟩ := k0; exact DataW.trod_lt m _ _ _ hm
  have lt1 : ∀ x ∈ p1, x.block < W.heap.size := by obtain ⟨m, hm⟩ := k1; exact DataW.trod_lt m _ _ _ hm
  obtain ⟨a0, rfl, _⟩ := okWide_struct Tryz.underlying119 (hval 0 119 v0 rfl rfl)
  obtain ⟨a1, n1, c1, rfl⟩ := okWide_slice Tryz.underlying57 (hval 1 57 v1 rfl rfl)
  obtain ⟨m0, e0⟩ := h0
  obtain ⟨m1, e1⟩ := h1
  have hz0 : ∀ k ∈ d0.weights Tryz.prog 119, k ≤ reachBytes := fun k hk => by
    have := List.all_eq_true.1 hsz k (DataW.weights_mem_each (j := 0) (t := 119) (d := d0) (by rw [Tryz.params17]; rfl) rfl k hk)
    simpa using this
  obtain ⟨ds0, o0, w0⟩ := RE.agg (vs := a0) (readS 8 m0 119 _ _ _ shape119 e0 hz0)
  have hz1 : ∀ k ∈ d1.weights Tryz.prog 57, k ≤ reachBytes := fun k hk => by
    have := List.all_eq_true.1 hsz k (DataW.weights_mem_each (j := 1) (t := 57) (d := d1) (by rw [Tryz.params17]; rfl) rfl k hk)
    simpa using this
  obtain ⟨ds1, o1, w1⟩ := RE.single (readS 8 m1 57 _ _ _ shape57 e1 hz1)
  obtain ⟨t, s, g, rfl, ht⟩ := priced_of o0
  obtain ⟨rem, rfl, hr⟩ := rem_of o1.1
  clear hA0 hval0
  refine (law_calls (p17 t ht s g rem hr) #[.agg a0, .slice a1 n1 c1] W rfl fun j c v hc hv => ?_).mono fun e W' ⟨he, bel⟩ => ?_
  · match j with
    | 0 => simp at hc hv; subst hc hv; exact w0
    | 1 => simp at hc hv; subst hc hv; exact w1
    | j + 2 => simp at hc
  · subst he
    exact ⟨_, rfl, _, _, _, [], _, [], hW', trodAll_mk1 (shut_bool Tryz.underlying4 _), (trodAll_cons_mk (Below.trod laidOut (by kernel_rfl) (of_decide_eq_true (by kernel_rfl)) k0 bel lt0) (trodAll_cons_mk (Below.trod laidOut (by kernel_rfl) (of_decide_eq_true (by kernel_rfl)) k1 bel lt1) trodAll_mk0)), rfl, bel.frame _, fun h => by cases h⟩
theorem named : Tryz.pinned.checked.prog.funcNamed Rows.planBestRow.func = some 17 := by kernel_rfl
set_option maxHeartbeats 20000000 in
theorem facts : joinedFacts Tryz.pinned.checked.prog 17 Tryz.f17 Rows.planBestSpec Rows.planBestRow = true := by
  unfold joinedFacts
  simp only [Bool.and_eq_true]
  repeat' apply And.intro
  all_goals (as_aux_lemma => kernel_rfl)
theorem inst : Tryz.f17.isInstance Tryz.pinned.checked.prog Rows.planBestRow.origin Rows.planBestRow.targs := of_decide_eq_true (by kernel_rfl)
theorem wrap : Tryz.f17.isWrapper Tryz.pinned.checked.prog Rows.planBestRow.wrapper Rows.planBestRow.mainSum := by unfold Func.isWrapper; first | (rw [if_pos (by decide +kernel)]; kernel_rfl) | (rw [if_neg (by decide +kernel)]; exact ⟨rfl, rfl⟩)
theorem over : Rows.planBestRow.holds Tryz.pinned (OpenSpec.ofChange Rows.planBestSpec) :=
  OpenClaim.holds_of_wide 17 Tryz.f17 rfl rfl rfl rfl rfl rfl rfl ⟨rfl, rfl, rfl, rfl, rfl⟩ rfl rfl rfl rfl rfl named Tryz.func17 facts inst wrap
    (fun os started H enc _ => lifted os started H enc)
end Go.Proofs.YtklbdeenilokiaaGreat.best
namespace Go.Proofs.YtklbdeenilokiaaGreat
theorem planBest_proved : Rows.PlanBestSaid := best.over
#print axioms planBest_proved
end Go.Proofs.YtklbdeenilokiaaGreat
