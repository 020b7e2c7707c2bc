/- Contracts of functions of the program, and what they lean on: a part of the proof that planMade_proved stands; no condition. -/
import Derived.Test.YtklbdeenilokiaaGreatQ12G1
import Derived.Test.YtklbdeenilokiaaGreatQ12T1
import Derived.Test.YtklbdeenilokiaaGreatQ12M19
set_option linter.unusedVariables false
set_option linter.unusedSimpArgs false
namespace Go.Abs
open Go.RowKit
theorem byte_of {d : D} (h : Ty.Of (.int .u8) d) : ∃ n, d = .int .u8 n ∧ byteI n := by
 obtain ⟨n, rfl, hw⟩ := of_int h
 refine ⟨n, rfl, ?_⟩
 simp [Lit.wf, IntKind.signed, IntKind.bits] at hw
 have h1 : IntKind.u8.min = 0 := rfl
 have h2 : IntKind.u8.max = 255 := rfl
 unfold byteI
 omega
theorem rem_of {d : D} (h : Ty.Of (.sl [.int .u8]) d) : ∃ s : List Int, d = .slice (s.map U8.c) ∧ ∀ n ∈ s, byteI n := by
 obtain ⟨xs, rfl, hx⟩ := of_sl h
 obtain ⟨l, rfl, hl⟩ := all_map (f := U8.c) (p := byteI) xs fun x hx' => by
  obtain ⟨a, as1, rfl, h5, h6⟩ := (hx x hx').cons
  cases h6.nil
  obtain ⟨n, rfl, hn⟩ := byte_of h5
  exact ⟨n, rfl, hn⟩
 exact ⟨l, rfl, hl⟩
theorem dedge_of {ds : List D} (h : OfL [.int .u8, .int .u8, .int .u8] ds) : ∃ e : DEdge, ds = DEdge.c e ∧ byteI e.ty ∧ byteI e.src ∧ byteI e.tgt := by
 obtain ⟨d1, r1, rfl, h1, q1⟩ := h.cons
 obtain ⟨d2, r2, rfl, h2, q2⟩ := q1.cons
 obtain ⟨d3, r3, rfl, h3, q3⟩ := q2.cons
 obtain rfl := q3.nil
 obtain ⟨a, rfl, ha⟩ := byte_of h1
 obtain ⟨b, rfl, hb⟩ := byte_of h2
 obtain ⟨c, rfl, hc⟩ := byte_of h3
 exact ⟨⟨a, b, c⟩, rfl, ha, hb, hc⟩
theorem draft_of2 {a b : D} (h1 : Ty.Of (.sl [.int .u8]) a) (h2 : Ty.Of (.sl [.int .u8, .int .u8, .int .u8]) b) : ∃ d : Draft, [a, b] = Draft.c d ∧ d.ok := by
 obtain ⟨s, rfl, hs⟩ := rem_of h1
 obtain ⟨xs, rfl, hx⟩ := of_sl h2
 obtain ⟨l, rfl, hl⟩ := all_map (f := DEdge.c) xs fun x hx' => dedge_of (hx x hx')
 exact ⟨⟨s, l⟩, rfl, hs, hl⟩
theorem draft_of {ds : List D} (h : OfL [.sl [.int .u8], .sl [.int .u8, .int .u8, .int .u8]] ds) : ∃ d : Draft, d.ok ∧ ds = Draft.c d := by
 obtain ⟨d1, r1, rfl, h1, q1⟩ := h.cons
 obtain ⟨d2, r2, rfl, h2, q2⟩ := q1.cons
 obtain rfl := q2.nil
 obtain ⟨d, e, hd⟩ := draft_of2 h1 h2
 exact ⟨d, hd, e⟩
end Go.Abs
