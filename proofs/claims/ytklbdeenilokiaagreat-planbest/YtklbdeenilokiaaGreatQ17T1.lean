/- Contracts of functions of the program, and what they lean on: a part of the proof that planBest_proved stands; no condition. -/
import Derived.Test.YtklbdeenilokiaaGreatQ17M3
/- The program's types as data. -/
set_option linter.unusedVariables false
namespace Go.Abs
def I.c (n : Int) : List D := [.int .i64 n]
def S.c (s : ByteArray) : List D := [.str s]
def Bo.c (b : Bool) : List D := [.bool b]
@[reducible] def ints (l : List Int) : D := .slice (l.map I.c)
structure Attr where
 name : ByteArray
 low : Int
 high : Int
 names : List ByteArray
def Attr.c (x : Attr) : List D := [.str x.name, .int .i64 x.low, .int .i64 x.high, .slice (x.names.map S.c)]
structure NodeType where
 name : ByteArray
 parent : Int
 abst : Bool
 attrs : List Attr
def NodeType.c (x : NodeType) : List D := [.str x.name, .int .i64 x.parent, .bool x.abst, .slice (x.attrs.map Attr.c)]
structure EdgeType where
 name : ByteArray
 src : Int
 tgt : Int
 ol : Int
 oh : Int
 il : Int
 ih : Int
def EdgeType.c (x : EdgeType) : List D := [.str x.name, .int .i64 x.src, .int .i64 x.tgt, .int .i64 x.ol, .int .i64 x.oh, .int .i64 x.il, .int .i64 x.ih]
structure Types where
 nodes : List NodeType
 edges : List EdgeType
def Types.c (x : Types) : List D := [.slice (x.nodes.map NodeType.c), .slice (x.edges.map EdgeType.c)]
structure Edge where
 ty : Int
 src : Int
 tgt : Int
 deriving DecidableEq
def Edge.c (x : Edge) : List D := [.int .i64 x.ty, .int .i64 x.src, .int .i64 x.tgt]
structure Graph where
 nodes : List Int
 edges : List Edge
 deriving DecidableEq
def Graph.c (x : Graph) : List D := [ints x.nodes, .slice (x.edges.map Edge.c)]
structure Morph where
 nodes : List Int
 edges : List Int
 deriving DecidableEq
def Morph.c (x : Morph) : List D := [ints x.nodes, ints x.edges]
structure Edit where
 kind : Int
 index : Int
 ty : Int
 src : Int
 tgt : Int
 deriving DecidableEq
def Edit.c (x : Edit) : List D := [.int .i64 x.kind, .int .i64 x.index, .int .i64 x.ty, .int .i64 x.src, .int .i64 x.tgt]
structure Watch where
 pats : List Graph
 graph : Graph
 inj : Bool
 mats : List (List Morph)
 deriving DecidableEq
def Ms.c (l : List Morph) : List D := [.slice (l.map Morph.c)]
def Watch.c (x : Watch) : List D := [.slice (x.pats.map Graph.c), ints x.graph.nodes, .slice (x.graph.edges.map Edge.c), .bool x.inj, .slice (x.mats.map Ms.c)]
structure Delta where
 new : List Morph
 gone : List Morph
 deriving DecidableEq
def Delta.c (x : Delta) : List D := [.slice (x.new.map Morph.c), .slice (x.gone.map Morph.c)]
structure Oprn where
 kind : Int
 el : Int
 deriving DecidableEq
def Oprn.c (x : Oprn) : List D := [.int .i64 x.kind, .int .i64 x.el]
structure Count where
 ty : Int
 src : Int
 tgt : Int
 num : Int
 deriving DecidableEq
def Count.c (x : Count) : List D := [.int .i64 x.ty, .int .i64 x.src, .int .i64 x.tgt, .int .i64 x.num]
structure Stat where
 nodes : List Count
 edges : List Count
 deriving DecidableEq
def Stat.c (x : Stat) : List D := [.slice (x.nodes.map Count.c), .slice (x.edges.map Count.c)]
attribute [simp] I.c S.c Bo.c Attr.c NodeType.c EdgeType.c Types.c Edge.c Graph.c Morph.c Edit.c Ms.c Watch.c Delta.c Oprn.c Count.c Stat.c
/-- A structure as a value. -/
@[reducible] def ag (l : List D) : AV := .agg (l.map .d)
@[reducible] def sl (l : List (List D)) : AV := .d (.slice l)
@[reducible] def int (n : Int) : AV := .d (.int .i64 n)
@[reducible] def bo (b : Bool) : AV := .d (.bool b)
@[reducible] def stri (s : ByteArray) : AV := .d (.str s)
theorem len_of {xs : List (List D)} {args : List AV} (h : ∀ x ∈ args, AV.lens x) (hm : AV.d (.slice xs) ∈ args) : xs.length ≤ 9223372036854775807 := by
 have := h _ hm
 simpa [maxL] using (D.lens_slice.1 this).1
end Go.Abs
namespace Go.Abs
/-- The strL of a string. -/
def strL (s : ByteArray) : List UInt8 := s.data.toList
theorem getElem?_strL (s : ByteArray) (i : Nat) : s[i]? = (strL s)[i]? := by
 by_cases h : i < s.size
 ·have h2 : i < s.data.toList.length := by simpa using h
  rw [getElem?_pos s i h, strL, List.getElem?_eq_getElem h2]
  rfl
 ·have h2 : ¬ i < s.data.toList.length := by simpa using h
  rw [getElem?_neg s i h, strL, List.getElem?_eq_none (by simpa using h2)]
theorem size_strL (s : ByteArray) : s.size = (strL s).length := by show s.data.size = s.data.toList.length; simp
attribute [simp] getElem?_strL size_strL
theorem strL_get {s : ByteArray} {i : Nat} {c : UInt8} (h : (strL s)[i]? = some c) : ∃ hlt : i < s.size, s[i] = c := by
 rw [← getElem?_strL] at h
 exact getElem?_eq_some_iff.1 h
def runB (p : Int → Bool) (l : List UInt8) : Nat := (l.takeWhile fun c => p c.toNat).length
theorem runB_le (p : Int → Bool) (l : List UInt8) : runB p l ≤ l.length := by
 unfold runB
 induction l with
 | nil => simp
 | cons c l ih => simp only [List.takeWhile_cons]; split <;> simp; exact ih
end Go.Abs
namespace Go.Abs
theorem drop_cons {α : Type} {l : List α} {i : Nat} {x : α} (h : l[i]? = some x) : l.drop i = x :: l.drop (i + 1) := by
 obtain ⟨hi, e⟩ := List.getElem?_eq_some_iff.1 h
 rw [List.drop_eq_getElem_cons hi, e]
theorem drop_nil {α : Type} {l : List α} {i : Nat} (h : l.length ≤ i) : l.drop i = [] := List.drop_eq_nil_of_le h
theorem get_some {α : Type} {l : List α} {i : Nat} (h : i < l.length) : ∃ x, l[i]? = some x := ⟨l[i], by simp [h]⟩
/-- The index of the first element of a kind, or -1. -/
def idxF {α : Type} (p : α → Bool) : List α → Nat → Int
 | [], _ => -1
 | x :: l, n => if p x then n else idxF p l (n + 1)
theorem idxF_ge {α : Type} (p : α → Bool) : ∀ (l : List α) (n : Nat), decide (0 ≤ idxF p l n) = l.any p
 | [], n => rfl
 | x :: l, n => by
  simp only [idxF, List.any_cons]
  split
  ·rename_i h; simp [h]
  ·rename_i h; simp at h; rw [idxF_ge p l (n + 1), h]; rfl
end Go.Abs
namespace Go.Abs
/-- Two lists agree, element by element. -/
def eqBy {α β : Type} (p : α → β → Bool) : List α → List β → Bool
 | [], [] => true
 | x :: l, y :: m => p x y && eqBy p l m
 | _, _ => false
theorem eqBy_len {α β : Type} (p : α → β → Bool) : ∀ (l : List α) (m : List β), eqBy p l m = true → l.length = m.length
 | [], [], _ => rfl
 | x :: l, y :: m, h => by simp [eqBy] at h; simp [eqBy_len p l m h.2]
 | [], _ :: _, h => by simp [eqBy] at h
 | _ :: _, [], h => by simp [eqBy] at h
end Go.Abs
namespace Go.Abs
theorem strL_extract (s : ByteArray) (a b : Nat) : strL (s.extract a b) = ((strL s).take b).drop a := by
 simp only [strL, ByteArray.data_extract, Array.toList_extract, List.extract_eq_take_drop]
 rw [List.drop_take]
end Go.Abs
