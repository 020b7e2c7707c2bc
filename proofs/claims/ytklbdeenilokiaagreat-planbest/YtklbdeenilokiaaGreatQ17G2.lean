/- Contracts of functions of the program, and what they lean on: a part of the proof that planBest_proved stands; no condition. -/
import Derived.Test.YtklbdeenilokiaaGreatQ17G1
import Derived.Test.YtklbdeenilokiaaGreatQ17T1
/- What the laws' arguments read as. -/
set_option linter.unusedVariables false
namespace Go.Abs
open Go
theorem graph_of {ds : List D} (h : OfL [.sl [.int .i64], .sl [.int .i64, .int .i64, .int .i64]] ds) : ∃ g : Graph, ds = Graph.c g := by
 obtain ⟨d1, ds1, rfl, h1, h2⟩ := h.cons
 obtain ⟨d2, ds2, rfl, h3, h4⟩ := h2.cons
 cases h4.nil
 obtain ⟨xs, rfl, hx⟩ := of_sl h1
 obtain ⟨ys, rfl, hy⟩ := of_sl h3
 obtain ⟨ns, rfl, _⟩ := all_map (f := I.c) (p := fun _ => True) xs fun x hx' => by
  obtain ⟨a, as1, rfl, h5, h6⟩ := (hx x hx').cons
  cases h6.nil
  obtain ⟨n, rfl, _⟩ := of_int h5
  exact ⟨n, rfl, trivial⟩
 obtain ⟨es, rfl, _⟩ := all_map (f := Edge.c) (p := fun _ => True) ys fun y hy' => by
  obtain ⟨a, as1, rfl, h5, h6⟩ := (hy y hy').cons
  obtain ⟨b, bs, rfl, h7, h8⟩ := h6.cons
  obtain ⟨c, cs, rfl, h9, h10⟩ := h8.cons
  cases h10.nil
  obtain ⟨n, rfl, _⟩ := of_int h5
  obtain ⟨m, rfl, _⟩ := of_int h7
  obtain ⟨k, rfl, _⟩ := of_int h9
  exact ⟨⟨n, m, k⟩, rfl, trivial⟩
 exact ⟨⟨ns, es⟩, rfl⟩
end Go.Abs
