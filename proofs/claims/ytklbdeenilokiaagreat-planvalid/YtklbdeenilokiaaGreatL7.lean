/- PlanValid returns true for every graph and every row of operations, and leaves both as they were; no condition. -/
import Derived.Test.YtklbdeenilokiaaGreatRows
import Derived.ProofKit
import Derived.OpenShut
import Derived.ShutString
import Derived.ChangeOld
import Derived.Below
import Derived.Test.YtklbdeenilokiaaGreatQ7G2
import Derived.Test.YtklbdeenilokiaaGreatQ7F29
set_option linter.unusedVariables false
namespace Go.Proofs.YtklbdeenilokiaaGreat.valid
open Go.ChangeShapes Go.WideShapes Go.ChangeAt Go.RowKit Go.Abs

theorem own : ownKnob Tryz.prog.godebug = none := by kernel_rfl
theorem laidOut : laidOutB Tryz.prog = true := by kernel_rfl
theorem shape30 : shp Tryz.prog 8 30 = some [.sl [.int .i64], .sl [.int .i64, .int .i64, .int .i64]] := by kernel_rfl
theorem shape81 : shp Tryz.prog 8 81 = some [.sl [.int .i64, .int .i64]] := by kernel_rfl

set_option maxRecDepth 100000 in
theorem lifted (os : Os) (started : os.Started) (H : Type) (enc : TypeId × Value → H) :
    ReturnsInHanded {} Tryz.checked os 7 .any (Rows.planValidSpec.pre6 enc Tryz.prog Tryz.f7 Rows.planValidRow.domain false) (Rows.planValidSpec.post enc Tryz.prog Tryz.f7 false true false false) := by
  refine returnsInHanded_of_change (C := Tryz.checked) own started (by kernel_rfl) Tryz.func7
    (ChangeSpec.witness6 (enc := enc) (C := Tryz.checked) false ⟨#[], #[.agg #[.slice none 0 0, .slice none 0 0], .slice none 0 0], []⟩ 8 (by kernel_rfl) (by kernel_rfl) (by kernel_rfl) (by kernel_rfl)) ?_
  intro W base args ds gs before hval0 hW hcnd _
  have hval : ∀ (j : Nat) t v, Tryz.f7.params[j]? = some t → args[j]? = some v → Value.okWide Tryz.prog W .any base t v := hval0
  have hW' := hW
  obtain ⟨p, q, hA0, hV, rfl, hfz, hnd⟩ := hW
  have hA : DataW.TrodAll enc Tryz.prog W 0 (fun _ => true) true Tryz.f7.params.toList args.toList ds p := hA0
  rw [Tryz.params7] at hA hval
  obtain ⟨v0, vs0, d0, ds0, p0, q0, hargs, rfl, rfl, h0, r0⟩ := trodAll_cons hA
  obtain ⟨v1, vs1, d1, ds1, p1, q1, rfl, rfl, rfl, h1, r1⟩ := trodAll_cons r0
  obtain ⟨rfl, rfl, rfl⟩ := trodAll_nil r1
  obtain rfl : args = #[v0, v1] := by cases args; simp_all
  obtain ⟨rfl, rfl⟩ := trodVars_none hV
  have k0 := h0
  have k1 := h1
  have lt0 : ∀ x ∈ p0, x.block < W.heap.size := by obtain ⟨m, hm⟩ := k0; exact DataW.trod_lt m _ _ _ hm
  have lt1 : ∀ x ∈ p1, x.block < W.heap.size := by obtain ⟨m, hm⟩ := k1; exact DataW.trod_lt m _ _ _ hm
  obtain ⟨a0, rfl, _⟩ := okWide_struct Tryz.underlying30 (hval 0 30 v0 rfl rfl)
  obtain ⟨a1, n1, c1, rfl⟩ := okWide_slice Tryz.underlying81 (hval 1 81 v1 rfl rfl)
  obtain ⟨m0, e0⟩ := h0
  obtain ⟨m1, e1⟩ := h1
  obtain ⟨ds0, o0, w0⟩ := RD.agg (vs := a0) (read 8 m0 30 _ _ _ shape30 e0)
  obtain ⟨ds1, o1, w1⟩ := RD.single (read 8 m1 81 _ _ _ shape81 e1)
  obtain ⟨g, rfl⟩ := graph_of o0
  obtain ⟨l, rfl⟩ := ops_of o1
  clear hA0 hval0
  refine (law_calls (p7L g l) #[.agg a0, .slice a1 n1 c1] W rfl fun j c v hc hv => ?_).mono fun e W' ⟨he, bel⟩ => ?_
  · match j with
    | 0 => simp at hc hv; subst hc hv; exact w0
    | 1 => simp at hc hv; subst hc hv; exact w1
    | j + 2 => simp at hc
  · subst he
    exact ⟨_, rfl, _, _, _, [], _, [], hW', trodAll_mk1 (shut_bool Tryz.underlying4 _), (trodAll_cons_mk (Below.trod laidOut (by kernel_rfl) (of_decide_eq_true (by kernel_rfl)) k0 bel lt0) (trodAll_cons_mk (Below.trod laidOut (by kernel_rfl) (of_decide_eq_true (by kernel_rfl)) k1 bel lt1) trodAll_mk0)), rfl, bel.frame _, fun h => by cases h⟩

theorem named : Tryz.pinned.checked.prog.funcNamed Rows.planValidRow.func = some 7 := by kernel_rfl
set_option maxHeartbeats 20000000 in
theorem facts : joinedFacts Tryz.pinned.checked.prog 7 Tryz.f7 Rows.planValidSpec Rows.planValidRow = true := by
  unfold joinedFacts
  simp only [Bool.and_eq_true]
  repeat' apply And.intro
  all_goals (as_aux_lemma => kernel_rfl)
theorem inst : Tryz.f7.isInstance Tryz.pinned.checked.prog Rows.planValidRow.origin Rows.planValidRow.targs := of_decide_eq_true (by kernel_rfl)
theorem wrap : Tryz.f7.isWrapper Tryz.pinned.checked.prog Rows.planValidRow.wrapper Rows.planValidRow.mainSum := by unfold Func.isWrapper; first | (rw [if_pos (by decide +kernel)]; kernel_rfl) | (rw [if_neg (by decide +kernel)]; exact ⟨rfl, rfl⟩)
theorem over : Rows.planValidRow.holds Tryz.pinned (OpenSpec.ofChange Rows.planValidSpec) :=
  OpenClaim.holds_of_wide 7 Tryz.f7 rfl rfl rfl rfl rfl rfl rfl ⟨rfl, rfl, rfl, rfl, rfl⟩ rfl rfl rfl rfl rfl named Tryz.func7 facts inst wrap
    (fun os started H enc _ => lifted os started H enc)

end Go.Proofs.YtklbdeenilokiaaGreat.valid

namespace Go.Proofs.YtklbdeenilokiaaGreat
theorem planValid_proved : Rows.PlanValidSaid := valid.over
#print axioms planValid_proved
end Go.Proofs.YtklbdeenilokiaaGreat
