/- Contracts of functions of the program, and what they lean on: a part of the proof that planBest_proved stands; no condition. -/
import Derived.Test.YtklbdeenilokiaaGreatQ17G3
import Derived.Test.YtklbdeenilokiaaGreatQ17F48
set_option linter.unusedVariables false
set_option linter.unusedSimpArgs false
namespace Go.Abs
open Go.RowKit
abbrev tI : Ty := .int .i64
abbrev tA : List Ty := [.str, tI, tI, .sl [.str]]
abbrev tN : List Ty := [.str, tI, .bool, .sl tA]
abbrev tE : List Ty := [.str, tI, tI, tI, tI, tI, tI]
abbrev tC : List Ty := [tI, tI, tI, tI]
theorem all_map2 {α β : Type} {f : α → β} {p : α → Prop} (xs : List β) (h : ∀ x ∈ xs, ∃ a, x = f a ∧ p a) : ∃ l : List α, xs = l.map f ∧ ∀ a ∈ l, p a := all_map xs h
theorem str_sm {s : ByteArray} (h : D.sm (.str s)) : (strL s).length ≤ 140737488355328 := by
 have h1 : s.size ≤ 140737488355328 := h
 rwa [size_strL] at h1
theorem attr_of {ds : List D} (h : OfL tA ds) (hs : ∀ d ∈ ds, D.sm d) : ∃ a : Attr, ds = Attr.c a ∧ ((strL a.name).length ≤ 140737488355328 ∧ a.names.length ≤ 140737488355328 ∧ ∀ s ∈ a.names, (strL s).length ≤ 140737488355328) := by
 obtain ⟨d1, r1, rfl, h1, q1⟩ := h.cons
 obtain ⟨d2, r2, rfl, h2, q2⟩ := q1.cons
 obtain ⟨d3, r3, rfl, h3, q3⟩ := q2.cons
 obtain ⟨d4, r4, rfl, h4, q4⟩ := q3.cons
 obtain rfl := q4.nil
 obtain ⟨s, rfl, _⟩ := of_str h1
 obtain ⟨a, rfl, _⟩ := of_int h2
 obtain ⟨b, rfl, _⟩ := of_int h3
 obtain ⟨xs, rfl, hx⟩ := of_sl h4
 obtain ⟨k1, k2⟩ := D.sm_slice.1 (hs (.slice xs) (by simp))
 obtain ⟨l, rfl, hl⟩ := all_map2 (f := S.c) (p := fun s => (strL s).length ≤ 140737488355328) xs (fun x hx0 => by
  obtain ⟨d, r, rfl, hd, hr⟩ := (hx x hx0).cons
  obtain rfl := hr.nil
  obtain ⟨s, rfl, _⟩ := of_str hd
  exact ⟨s, rfl, str_sm (k2 _ hx0 (.str s) (by simp))⟩)
 exact ⟨⟨s, a, b, l⟩, rfl, str_sm (hs (.str s) (by simp)), by simpa using k1, hl⟩
theorem node_of {ds : List D} (h : OfL tN ds) (hs : ∀ d ∈ ds, D.sm d) : ∃ n : NodeType, ds = NodeType.c n ∧ ((strL n.name).length ≤ 140737488355328 ∧ n.attrs.length ≤ 140737488355328 ∧ ∀ a ∈ n.attrs, (strL a.name).length ≤ 140737488355328 ∧ a.names.length ≤ 140737488355328 ∧ ∀ s ∈ a.names, (strL s).length ≤ 140737488355328) := by
 obtain ⟨d1, r1, rfl, h1, q1⟩ := h.cons
 obtain ⟨d2, r2, rfl, h2, q2⟩ := q1.cons
 obtain ⟨d3, r3, rfl, h3, q3⟩ := q2.cons
 obtain ⟨d4, r4, rfl, h4, q4⟩ := q3.cons
 obtain rfl := q4.nil
 obtain ⟨s, rfl, _⟩ := of_str h1
 obtain ⟨a, rfl, _⟩ := of_int h2
 obtain ⟨b, rfl⟩ := of_bool h3
 obtain ⟨xs, rfl, hx⟩ := of_sl h4
 obtain ⟨k1, k2⟩ := D.sm_slice.1 (hs (.slice xs) (by simp))
 obtain ⟨l, rfl, hl⟩ := all_map2 (f := Attr.c) xs (fun x hx0 => attr_of (hx x hx0) (k2 x hx0))
 exact ⟨⟨s, a, b, l⟩, rfl, str_sm (hs (.str s) (by simp)), by simpa using k1, hl⟩
theorem edge_of {ds : List D} (h : OfL tE ds) (hs : ∀ d ∈ ds, D.sm d) : ∃ n : EdgeType, ds = EdgeType.c n ∧ (strL n.name).length ≤ 140737488355328 := by
 obtain ⟨d1, r1, rfl, h1, q1⟩ := h.cons
 obtain ⟨d2, r2, rfl, h2, q2⟩ := q1.cons
 obtain ⟨d3, r3, rfl, h3, q3⟩ := q2.cons
 obtain ⟨d4, r4, rfl, h4, q4⟩ := q3.cons
 obtain ⟨d5, r5, rfl, h5, q5⟩ := q4.cons
 obtain ⟨d6, r6, rfl, h6, q6⟩ := q5.cons
 obtain ⟨d7, r7, rfl, h7, q7⟩ := q6.cons
 obtain rfl := q7.nil
 obtain ⟨s, rfl, _⟩ := of_str h1
 obtain ⟨a, rfl, _⟩ := of_int h2
 obtain ⟨b, rfl, _⟩ := of_int h3
 obtain ⟨c, rfl, _⟩ := of_int h4
 obtain ⟨d, rfl, _⟩ := of_int h5
 obtain ⟨e, rfl, _⟩ := of_int h6
 obtain ⟨f, rfl, _⟩ := of_int h7
 exact ⟨⟨s, a, b, c, d, e, f⟩, rfl, str_sm (hs (.str s) (by simp))⟩
theorem types_of {a b : D} (h1 : Ty.Of (.sl tN) a) (h2 : Ty.Of (.sl tE) b) (k1 : D.sm a) (k2 : D.sm b) : ∃ t : Types, [a, b] = Types.c t ∧ smT t := by
 obtain ⟨xs, rfl, hx⟩ := of_sl h1
 obtain ⟨ys, rfl, hy⟩ := of_sl h2
 obtain ⟨m1, m2⟩ := D.sm_slice.1 k1
 obtain ⟨m3, m4⟩ := D.sm_slice.1 k2
 obtain ⟨l, rfl, hl⟩ := all_map2 (f := NodeType.c) xs (fun x hx0 => node_of (hx x hx0) (m2 x hx0))
 obtain ⟨m, rfl, hm⟩ := all_map2 (f := EdgeType.c) ys (fun x hx0 => edge_of (hy x hx0) (m4 x hx0))
 exact ⟨⟨l, m⟩, rfl, by simpa using m1, by simpa using m3, hl, hm⟩
theorem count_of {ds : List D} (h : OfL tC ds) : ∃ c : Count, ds = Count.c c := by
 obtain ⟨d1, r1, rfl, h1, q1⟩ := h.cons
 obtain ⟨d2, r2, rfl, h2, q2⟩ := q1.cons
 obtain ⟨d3, r3, rfl, h3, q3⟩ := q2.cons
 obtain ⟨d4, r4, rfl, h4, q4⟩ := q3.cons
 obtain rfl := q4.nil
 obtain ⟨a, rfl, _⟩ := of_int h1
 obtain ⟨b, rfl, _⟩ := of_int h2
 obtain ⟨c, rfl, _⟩ := of_int h3
 obtain ⟨d, rfl, _⟩ := of_int h4
 exact ⟨⟨a, b, c, d⟩, rfl⟩
theorem stat_of {a b : D} (h1 : Ty.Of (.sl tC) a) (h2 : Ty.Of (.sl tC) b) : ∃ s : Stat, [a, b] = Stat.c s := by
 obtain ⟨xs, rfl, hx⟩ := of_sl h1
 obtain ⟨ys, rfl, hy⟩ := of_sl h2
 obtain ⟨l, rfl, _⟩ := all_map2 (f := Count.c) (p := fun _ => True) xs (fun x hx0 => by obtain ⟨c, e⟩ := count_of (hx x hx0); exact ⟨c, e, trivial⟩)
 obtain ⟨m, rfl, _⟩ := all_map2 (f := Count.c) (p := fun _ => True) ys (fun x hx0 => by obtain ⟨c, e⟩ := count_of (hy x hx0); exact ⟨c, e, trivial⟩)
 exact ⟨⟨l, m⟩, rfl⟩
theorem graph_of2 {a b : D} (h1 : Ty.Of (.sl [tI]) a) (h2 : Ty.Of (.sl [tI, tI, tI]) b) : ∃ g : Graph, [a, b] = Graph.c g :=
 graph_of ⟨rfl, fun j t d ht hd => by
  match j with
  | 0 => simp at ht hd; subst ht hd; exact h1
  | 1 => simp at ht hd; subst ht hd; exact h2
  | j + 2 => simp at ht⟩
theorem priced_of {ds : List D} (h : OfL [.sl tN, .sl tE, .sl tC, .sl tC, .sl [tI], .sl [tI, tI, tI]] ds ∧ ∀ d ∈ ds, D.sm d) : ∃ (t : Types) (s : Stat) (g : Graph), ds = Types.c t ++ Stat.c s ++ Graph.c g ∧ smT t := by
 obtain ⟨h, hs⟩ := h
 obtain ⟨d1, r1, rfl, h1, q1⟩ := h.cons
 obtain ⟨d2, r2, rfl, h2, q2⟩ := q1.cons
 obtain ⟨d3, r3, rfl, h3, q3⟩ := q2.cons
 obtain ⟨d4, r4, rfl, h4, q4⟩ := q3.cons
 obtain ⟨d5, r5, rfl, h5, q5⟩ := q4.cons
 obtain ⟨d6, r6, rfl, h6, q6⟩ := q5.cons
 obtain rfl := q6.nil
 obtain ⟨t, e1, ht⟩ := types_of h1 h2 (hs d1 (by simp)) (hs d2 (by simp))
 obtain ⟨s, e2⟩ := stat_of h3 h4
 obtain ⟨g, e3⟩ := graph_of2 h5 h6
 exact ⟨t, s, g, by rw [← e1, ← e2, ← e3]; rfl, ht⟩
end Go.Abs
