/- Contracts of functions of the program, and what they lean on: a part of the proof that planBest_proved stands; no condition. -/
import Derived.Test.YtklbdeenilokiaaGreatQ17G2
import Derived.Test.YtklbdeenilokiaaGreatQ17M25
set_option linter.unusedVariables false
set_option linter.unusedSimpArgs false
namespace Go.Abs
open Go.RowKit
theorem byte_of {d : D} (h : Ty.Of (.int .u8) d) : ∃ n, d = .int .u8 n ∧ byteI n := by
 obtain ⟨n, rfl, hw⟩ := of_int h
 refine ⟨n, rfl, ?_⟩
 simp [Lit.wf, IntKind.signed, IntKind.bits] at hw
 have h1 : IntKind.u8.min = 0 := rfl
 have h2 : IntKind.u8.max = 255 := rfl
 unfold byteI
 omega
theorem rem_of {d : D} (h : Ty.Of (.sl [.int .u8]) d) : ∃ s : List Int, d = .slice (s.map U8.c) ∧ ∀ n ∈ s, byteI n := by
 obtain ⟨xs, rfl, hx⟩ := of_sl h
 obtain ⟨l, rfl, hl⟩ := all_map (f := U8.c) (p := byteI) xs fun x hx' => by
  obtain ⟨a, as1, rfl, h5, h6⟩ := (hx x hx').cons
  cases h6.nil
  obtain ⟨n, rfl, hn⟩ := byte_of h5
  exact ⟨n, rfl, hn⟩
 exact ⟨l, rfl, hl⟩
end Go.Abs
