/- IncrementalOpposite returns true for every graph and every edit, and leaves both as they were; no condition. -/
import Derived.Test.YtklbdeenilokiaaGreatRows
import Derived.ProofKit
import Derived.OpenShut
import Derived.ShutString
import Derived.ChangeOld
import Derived.Below
import Derived.Test.YtklbdeenilokiaaGreatQ14G1
import Derived.Test.YtklbdeenilokiaaGreatQ14M18
set_option linter.unusedVariables false
namespace Go.Abs
open Go Go.Proofs

theorem graph_of {ds : List D} (h : OfL [.sl [.int .i64], .sl [.int .i64, .int .i64, .int .i64]] ds) : ∃ g : Graph, ds = Graph.c g := by
  obtain ⟨d1, ds1, rfl, h1, h2⟩ := h.cons
  obtain ⟨d2, ds2, rfl, h3, h4⟩ := h2.cons
  cases h4.nil
  obtain ⟨xs, rfl, hx⟩ := of_sl h1
  obtain ⟨ys, rfl, hy⟩ := of_sl h3
  obtain ⟨ns, rfl, _⟩ := all_map (f := I.c) (p := fun _ => True) xs fun x hx' => by
    obtain ⟨a, as1, rfl, h5, h6⟩ := (hx x hx').cons
    cases h6.nil
    obtain ⟨n, rfl, _⟩ := of_int h5
    exact ⟨n, rfl, trivial⟩
  obtain ⟨es, rfl, _⟩ := all_map (f := Edge.c) (p := fun _ => True) ys fun y hy' => by
    obtain ⟨a, as1, rfl, h5, h6⟩ := (hy y hy').cons
    obtain ⟨b, bs, rfl, h7, h8⟩ := h6.cons
    obtain ⟨c, cs, rfl, h9, h10⟩ := h8.cons
    cases h10.nil
    obtain ⟨n, rfl, _⟩ := of_int h5
    obtain ⟨m, rfl, _⟩ := of_int h7
    obtain ⟨k, rfl, _⟩ := of_int h9
    exact ⟨⟨n, m, k⟩, rfl, trivial⟩
  exact ⟨⟨ns, es⟩, rfl⟩

theorem edit_of {ds : List D} (h : OfL [.int .i64, .int .i64, .int .i64, .int .i64, .int .i64] ds) : ∃ e : Edit, ds = Edit.c e := by
  obtain ⟨a, as1, rfl, h1, h2⟩ := h.cons
  obtain ⟨b, bs, rfl, h3, h4⟩ := h2.cons
  obtain ⟨c, cs, rfl, h5, h6⟩ := h4.cons
  obtain ⟨d, ds, rfl, h7, h8⟩ := h6.cons
  obtain ⟨e, es, rfl, h9, h10⟩ := h8.cons
  cases h10.nil
  obtain ⟨n1, rfl, _⟩ := of_int h1
  obtain ⟨n2, rfl, _⟩ := of_int h3
  obtain ⟨n3, rfl, _⟩ := of_int h5
  obtain ⟨n4, rfl, _⟩ := of_int h7
  obtain ⟨n5, rfl, _⟩ := of_int h9
  exact ⟨⟨n1, n2, n3, n4, n5⟩, rfl⟩
end Go.Abs

namespace Go.Proofs.YtklbdeenilokiaaGreat.opposite
open Go.ChangeShapes Go.WideShapes Go.ChangeAt Go.RowKit Go.Abs

theorem own : ownKnob Tryz.prog.godebug = none := by kernel_rfl
theorem laidOut : laidOutB Tryz.prog = true := by kernel_rfl
theorem shape30 : shp Tryz.prog 8 30 = some [.sl [.int .i64], .sl [.int .i64, .int .i64, .int .i64]] := by kernel_rfl
theorem shape47 : shp Tryz.prog 8 47 = some [.int .i64, .int .i64, .int .i64, .int .i64, .int .i64] := by kernel_rfl

set_option maxRecDepth 100000 in
theorem lifted (os : Os) (started : os.Started) (H : Type) (enc : TypeId × Value → H) :
    ReturnsInHanded {} Tryz.checked os 14 .any (Rows.incrementalOppositeSpec.pre6 enc Tryz.prog Tryz.f14 Rows.incrementalOppositeRow.domain false) (Rows.incrementalOppositeSpec.post enc Tryz.prog Tryz.f14 false true false false) := by
  refine returnsInHanded_of_change (C := Tryz.checked) own started (by kernel_rfl) Tryz.func14
    (ChangeSpec.witness6 (enc := enc) (C := Tryz.checked) false ⟨#[], #[.agg #[.slice none 0 0, .slice none 0 0], .agg #[.int .i64 0, .int .i64 0, .int .i64 0, .int .i64 0, .int .i64 0]], []⟩ 8 (by kernel_rfl) (by kernel_rfl) (by kernel_rfl) (by kernel_rfl)) ?_
  intro W base args ds gs before hval0 hW hcnd _
  have hval : ∀ (j : Nat) t v, Tryz.f14.params[j]? = some t → args[j]? = some v → Value.okWide Tryz.prog W .any base t v := hval0
  have hW' := hW
  obtain ⟨p, q, hA0, hV, rfl, hfz, hnd⟩ := hW
  have hA : DataW.TrodAll enc Tryz.prog W 0 (fun _ => true) true Tryz.f14.params.toList args.toList ds p := hA0
  rw [Tryz.params14] at hA hval
  obtain ⟨v0, vs0, d0, ds0, p0, q0, hargs, rfl, rfl, h0, r0⟩ := trodAll_cons hA
  obtain ⟨v1, vs1, d1, ds1, p1, q1, rfl, rfl, rfl, h1, r1⟩ := trodAll_cons r0
  obtain ⟨rfl, rfl, rfl⟩ := trodAll_nil r1
  obtain rfl : args = #[v0, v1] := by cases args; simp_all
  obtain ⟨rfl, rfl⟩ := trodVars_none hV
  have k0 := h0
  have k1 := h1
  have lt0 : ∀ x ∈ p0, x.block < W.heap.size := by obtain ⟨m, hm⟩ := k0; exact DataW.trod_lt m _ _ _ hm
  have lt1 : ∀ x ∈ p1, x.block < W.heap.size := by obtain ⟨m, hm⟩ := k1; exact DataW.trod_lt m _ _ _ hm
  obtain ⟨a0, rfl, _⟩ := okWide_struct Tryz.underlying30 (hval 0 30 v0 rfl rfl)
  obtain ⟨a1, rfl, _⟩ := okWide_struct Tryz.underlying47 (hval 1 47 v1 rfl rfl)
  obtain ⟨m0, e0⟩ := h0
  obtain ⟨m1, e1⟩ := h1
  obtain ⟨ds0, o0, w0⟩ := RD.agg (vs := a0) (read 8 m0 30 _ _ _ shape30 e0)
  obtain ⟨ds1, o1, w1⟩ := RD.agg (vs := a1) (read 8 m1 47 _ _ _ shape47 e1)
  obtain ⟨g, rfl⟩ := graph_of o0
  obtain ⟨e, rfl⟩ := edit_of o1
  clear hA0 hval0
  refine (law_calls (p14 g e) #[.agg a0, .agg a1] W rfl fun j c v hc hv => ?_).mono fun e W' ⟨he, bel⟩ => ?_
  · match j with
    | 0 => simp at hc hv; subst hc hv; exact w0
    | 1 => simp at hc hv; subst hc hv; exact w1
    | j + 2 => simp at hc
  · subst he
    exact ⟨_, rfl, _, _, _, [], _, [], hW', trodAll_mk1 (shut_bool Tryz.underlying4 _), (trodAll_cons_mk (Below.trod laidOut (by kernel_rfl) (of_decide_eq_true (by kernel_rfl)) k0 bel lt0) (trodAll_cons_mk (Below.trod laidOut (by kernel_rfl) (of_decide_eq_true (by kernel_rfl)) k1 bel lt1) trodAll_mk0)), rfl, bel.frame _, fun h => by cases h⟩

theorem named : Tryz.pinned.checked.prog.funcNamed Rows.incrementalOppositeRow.func = some 14 := by kernel_rfl
set_option maxHeartbeats 20000000 in
theorem facts : joinedFacts Tryz.pinned.checked.prog 14 Tryz.f14 Rows.incrementalOppositeSpec Rows.incrementalOppositeRow = true := by
  unfold joinedFacts
  simp only [Bool.and_eq_true]
  repeat' apply And.intro
  all_goals (as_aux_lemma => kernel_rfl)
theorem inst : Tryz.f14.isInstance Tryz.pinned.checked.prog Rows.incrementalOppositeRow.origin Rows.incrementalOppositeRow.targs := of_decide_eq_true (by kernel_rfl)
theorem wrap : Tryz.f14.isWrapper Tryz.pinned.checked.prog Rows.incrementalOppositeRow.wrapper Rows.incrementalOppositeRow.mainSum := by unfold Func.isWrapper; first | (rw [if_pos (by decide +kernel)]; kernel_rfl) | (rw [if_neg (by decide +kernel)]; exact ⟨rfl, rfl⟩)
theorem over : Rows.incrementalOppositeRow.holds Tryz.pinned (OpenSpec.ofChange Rows.incrementalOppositeSpec) :=
  OpenClaim.holds_of_wide 14 Tryz.f14 rfl rfl rfl rfl rfl rfl rfl ⟨rfl, rfl, rfl, rfl, rfl⟩ rfl rfl rfl rfl rfl named Tryz.func14 facts inst wrap
    (fun os started H enc _ => lifted os started H enc)

end Go.Proofs.YtklbdeenilokiaaGreat.opposite

namespace Go.Proofs.YtklbdeenilokiaaGreat
theorem incrementalOpposite_proved : Rows.IncrementalOppositeSaid := opposite.over
#print axioms incrementalOpposite_proved
end Go.Proofs.YtklbdeenilokiaaGreat
