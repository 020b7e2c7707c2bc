/- Contracts of functions of the program, and what they lean on: a part of the proof that planBest_proved stands; no condition. -/
import Derived.Orders
import Derived.Laws.CopyRow
import Derived.Laws.AppendOwn
import Derived.Laws.Cells
import Derived.Laws.Sem
import Derived.Laws.World
import Derived.WalkKit
import Derived.Laws.StructEq
/- An abstract machine for the fragment of the language that this program uses: data, abstract values and heaps, and what it means that they stand for values and memory. -/
set_option linter.unusedVariables false
namespace Go.Abs
/-- Data: what never changes any more. One cell each; a slice is the list of its elements, an element the list of its cells. -/
inductive D where
 | int (k : IntKind) (n : Int)
 | bool (b : Bool)
 | str (s : ByteArray)
 | nil
 | slice (xs : List (List D))
 deriving Inhabited
/-- Abstract values. A reference names a block and the block's version. -/
inductive AV where
 | d (x : D)
 | ptr (b ver i o : Nat)
 | dptr (cs : List D)
 | sl (b ver i n cap : Nat)
 | empty
 | agg (cs : List AV)
 | fn (f : FuncId) (caps : List AV)
 | tup (vs : List AV)
 | undef
 deriving Inhabited
structure Blk where
 k : Nat
 elems : List (List AV)
structure HB where
 ver : Nat
 live : Option Blk
abbrev Env := Nat → AV
abbrev Heap := Nat → HB
def maxL : Nat := 9223372036854775807
/-- Where a living block lies: its block of memory (none: nowhere yet), the cells of an element, the cells of the whole. -/
structure Bd where
 loc : Option Nat
 k : Nat
 sz : Nat
abbrev Pl := Nat → Nat × Option Bd
def place (h : Heap) (ι : Nat → Bd) : Pl := fun b => ((h b).ver, if (h b).live.isSome then some (ι b) else none)
def Own (G : Pl) (n : Nat) : Prop := ∃ b bd, (G b).2 = some bd ∧ bd.loc = some n
def Forb (X : Nat → Prop) (G : Pl) (n : Nat) : Prop := X n ∨ Own G n
/-- A datum stands for a value; it lies outside of what is forbidden. -/
inductive DR (w : World) (F : Nat → Prop) : D → Value → Prop
 | int (k n) : DR w F (.int k n) (.int k n)
 | bool (b) : DR w F (.bool b) (.bool b)
 | str (s) : DR w F (.str s) (.string s)
 | nil : DR w F .nil (.slice none 0 0)
 | none (a c) : DR w F (.slice []) (.slice a 0 c)
 | slice (xs : List (List D)) (k blk off c : Nat) (vs : Nat → Nat → Value) (hc : xs.length ≤ c) (hm : xs.length ≤ maxL) (hk : 0 < k) (hF : ¬ F blk) (hlt : blk < w.heap.size)
   (hl : ∀ x ∈ xs, x.length = k) (hcell : ∀ i j, i < xs.length → j < k → w.cell? ⟨blk, off + (i * k + j), Option.none⟩ = some (vs i j))
   (hr : ∀ (i j : Nat) x d, xs[i]? = some x → x[j]? = some d → DR w F d (vs i j)) : DR w F (.slice xs) (.slice (some ⟨blk, off, Option.none⟩) xs.length c)
inductive VR (w : World) (F : Nat → Prop) (G : Pl) : AV → Value → Prop
 | d (x v) (h : DR w F x v) : VR w F G (.d x) v
 | ptrX (b ver i o : Nat) (a : Option Addr) (h : ver < (G b).1 ∨ (ver = (G b).1 ∧ (G b).2 = none)) : VR w F G (.ptr b ver i o) (.pointer a)
 | ptr (b ver i o n k sz) (h : G b = (ver, some ⟨some n, k, sz⟩)) : VR w F G (.ptr b ver i o) (.pointer (some ⟨n, i * k + o, none⟩))
 | dptr (cs : List D) (blk off : Nat) (vs : Nat → Value) (hF : cs ≠ [] → ¬ F blk ∧ blk < w.heap.size) (hcell : ∀ (j : Nat) d, cs[j]? = some d → w.cell? ⟨blk, off + j, none⟩ = some (vs j))
   (hr : ∀ (j : Nat) d, cs[j]? = some d → DR w F d (vs j)) : VR w F G (.dptr cs) (.pointer (some ⟨blk, off, none⟩))
 | slX (b ver i n cap : Nat) (a : Option Addr) (m c : Nat) (h : ver < (G b).1 ∨ (ver = (G b).1 ∧ (G b).2 = none)) : VR w F G (.sl b ver i n cap) (.slice a m c)
 | slN (b ver k sz a) (h : G b = (ver, some ⟨none, k, sz⟩)) : VR w F G (.sl b ver 0 0 0) (.slice a 0 0)
 | sl (b ver i n cap nb k sz a c) (h : G b = (ver, some ⟨some nb, k, sz⟩)) (hn : n ≤ c) (hc : cap ≤ c) (hm : n ≤ maxL ∧ cap ≤ maxL) (ha : c = 0 ∨ a = some ⟨nb, i * k, none⟩) (hs : (i + c) * k ≤ sz) :
   VR w F G (.sl b ver i n cap) (.slice a n c)
 | empty (a) : VR w F G .empty (.slice a 0 0)
 | agg (cs : List AV) (vs : Array Value) (hl : vs.size = cs.length) (h1 : ∀ v ∈ vs, v.oneCell' = true) (hr : ∀ (j : Nat) c v, cs[j]? = some c → vs[j]? = some v → VR w F G c v) : VR w F G (.agg cs) (.agg vs)
 | fn (f) (caps : List AV) (vs : Array Value) (hl : vs.size = caps.length) (hr : ∀ (j : Nat) c v, caps[j]? = some c → vs[j]? = some v → VR w F G c v) : VR w F G (.fn f caps) (.func (.func f) #[] vs)
 | tup (cs : List AV) (vs : Array Value) (hl : vs.size = cs.length) (hr : ∀ (j : Nat) c v, cs[j]? = some c → vs[j]? = some v → VR w F G c v) : VR w F G (.tup cs) (.tuple vs)
 | undef (v) : VR w F G .undef v
/-- What a living block of the abstract heap says of memory. -/
def BlkRel (w : World) (F : Nat → Prop) (G : Pl) (bd : Bd) (blk : Blk) : Prop :=
 blk.k = bd.k ∧ 0 < bd.k ∧ match bd.loc with
 | none => blk.elems = []
 | some n => ∃ cs e, w.heap[n]? = some (.cells cs e (0, 0)) ∧ cs.size = bd.sz ∧ (∀ x ∈ blk.elems, x.length = bd.k) ∧
   (∀ (i : Nat) x (j : Nat) a, blk.elems[i]? = some x → x[j]? = some a → ∃ v, cs[i * bd.k + j]? = some v ∧ v.oneCell' = true ∧ VR w F G a v)
structure HRel (w : World) (X : Nat → Prop) (ι : Nat → Bd) (h : Heap) : Prop where
 blks : ∀ b blk, (h b).live = some blk → BlkRel w (Forb X (place h ι)) (place h ι) (ι b) blk
 inj : ∀ b b' n, (h b).live.isSome = true → (h b').live.isSome = true → (ι b).loc = some n → (ι b').loc = some n → b = b'
 notX : ∀ n, Own (place h ι) n → ¬ X n
 xlt : ∀ n, X n → n < w.heap.size
/-- From one placed heap to a later one. -/
structure Evo (w : World) (G : Pl) (w' : World) (G' : Pl) : Prop where
 size : w.heap.size ≤ w'.heap.size
 keep : ∀ n, n < w.heap.size → ¬ Own G n → w'.heap[n]? = w.heap[n]?
 own : ∀ n, n < w.heap.size → Own G' n → Own G n
 gle : ∀ b, G' b = G b ∨ (G b).1 < (G' b).1 ∨ ((G' b).1 = (G b).1 ∧ (G' b).2 = none)
 os : w'.os = w.os
 tape : w'.tape = w.tape
 output : w'.output = w.output
theorem Evo.refl (w : World) (G : Pl) : Evo w G w G :=
 ⟨Nat.le_refl _, fun _ _ _ => rfl, fun _ _ h => h, fun _ => .inl rfl, rfl, rfl, rfl⟩
theorem Evo.trans {w w' w'' : World} {G G' G'' : Pl} (h : Evo w G w' G') (h' : Evo w' G' w'' G'') : Evo w G w'' G'' where
 size := Nat.le_trans h.size h'.size
 keep n hn ho := (h'.keep n (Nat.lt_of_lt_of_le hn h.size) (fun o => ho (h.own n hn o))).trans (h.keep n hn ho)
 own n hn o := h.own n hn (h'.own n (Nat.lt_of_lt_of_le hn h.size) o)
 gle b := by
  rcases h.gle b with e | e | ⟨e, e2⟩ <;> rcases h'.gle b with f | f | ⟨f, f2⟩
  ·exact .inl (f.trans e)
  ·exact .inr (.inl (by rw [← e]; exact f))
  ·exact .inr (.inr ⟨by rw [f, e], f2⟩)
  ·exact .inr (.inl (by rw [f]; exact e))
  ·exact .inr (.inl (Nat.lt_trans e f))
  ·exact .inr (.inl (by rw [f]; exact e))
  ·exact .inr (.inr ⟨by rw [f, e], by rw [f]; exact e2⟩)
  ·exact .inr (.inl (by rw [← e]; exact f))
  ·exact .inr (.inr ⟨by rw [f, e], f2⟩)
 os := h'.os.trans h.os
 tape := h'.tape.trans h.tape
 output := h'.output.trans h.output
theorem cell?_of_heap {w w' : World} {n : Nat} (h : w'.heap[n]? = w.heap[n]?) (o : Nat) (s : Option Nat) : w'.cell? ⟨n, o, s⟩ = w.cell? ⟨n, o, s⟩ := by
 simp [World.cell?, h]
theorem DR.mono {w w' : World} {F F' : Nat → Prop} (hs : w.heap.size ≤ w'.heap.size) (hk : ∀ n, n < w.heap.size → ¬ F n → ¬ F' n ∧ w'.heap[n]? = w.heap[n]?)
  {x : D} {v : Value} (h : DR w F x v) : DR w' F' x v := by
 induction h with
 | int => exact .int _ _
 | bool => exact .bool _
 | str => exact .str _
 | nil => exact .nil
 | none => exact .none _ _
 | slice xs k blk off c vs hc hm hk0 hF hlt hl hcell hr ih =>
  obtain ⟨h1, h2⟩ := hk blk hlt hF
  exact .slice xs k blk off c vs hc hm hk0 h1 (Nat.lt_of_lt_of_le hlt hs) hl (fun i j hi hj => by rw [cell?_of_heap h2]; exact hcell i j hi hj) ih
theorem VR.mono {w w' : World} {F F' : Nat → Prop} {G G' : Pl} (hs : w.heap.size ≤ w'.heap.size) (hk : ∀ n, n < w.heap.size → ¬ F n → ¬ F' n ∧ w'.heap[n]? = w.heap[n]?)
  (hg : ∀ b, G' b = G b ∨ (G b).1 < (G' b).1 ∨ ((G' b).1 = (G b).1 ∧ (G' b).2 = none))
  {x : AV} {v : Value} (h : VR w F G x v) : VR w' F' G' x v := by
 have dead : ∀ b ver, (ver < (G b).1 ∨ (ver = (G b).1 ∧ (G b).2 = none)) → (ver < (G' b).1 ∨ (ver = (G' b).1 ∧ (G' b).2 = none)) := by
  intro b ver h
  rcases hg b with e | e | ⟨e, e2⟩
  ·rw [e]; exact h
  ·rcases h with h | ⟨h, _⟩
   ·exact .inl (Nat.lt_trans h e)
   ·exact .inl (by rw [h]; exact e)
  ·rcases h with h | ⟨h, _⟩
   ·exact .inl (by rw [e]; exact h)
   ·exact .inr ⟨by rw [e]; exact h, e2⟩
 have alive : ∀ b ver bd, G b = (ver, some bd) → G' b = (ver, some bd) ∨ (ver < (G' b).1 ∨ (ver = (G' b).1 ∧ (G' b).2 = none)) := by
  intro b ver bd h
  rcases hg b with e | e | ⟨e, e2⟩
  ·exact .inl (by rw [e]; exact h)
  ·exact .inr (.inl (by rw [h] at e; exact e))
  ·exact .inr (.inr ⟨by rw [e, h], e2⟩)
 induction h with
 | d x v h => exact .d _ _ (h.mono hs hk)
 | ptrX b ver i o a h => exact .ptrX _ _ _ _ _ (dead _ _ h)
 | ptr b ver i o n k sz h =>
  rcases alive _ _ _ h with h | h
  ·exact .ptr _ _ _ _ _ _ _ h
  ·exact .ptrX _ _ _ _ _ h
 | dptr cs blk off vs hF hcell hr =>
  refine .dptr cs blk off vs (fun h => ?_) (fun j d hj => ?_) (fun j d hj => (hr j d hj).mono hs hk)
  ·obtain ⟨h1, h2⟩ := hF h
   exact ⟨(hk _ h2 h1).1, Nat.lt_of_lt_of_le h2 hs⟩
  ·have hne : cs ≠ [] := by rintro rfl; simp at hj
   obtain ⟨h1, h2⟩ := hF hne
   rw [cell?_of_heap (hk _ h2 h1).2]
   exact hcell j d hj
 | slX b ver i n cap a m c h => exact .slX _ _ _ _ _ _ _ _ (dead _ _ h)
 | slN b ver k sz a h =>
  rcases alive _ _ _ h with h | h
  ·exact .slN _ _ _ _ _ h
  ·exact .slX _ _ _ _ _ _ _ _ h
 | sl b ver i n cap nb k sz a c h hn hc hm ha hs' =>
  rcases alive _ _ _ h with h | h
  ·exact .sl _ _ _ _ _ _ _ _ _ _ h hn hc hm ha hs'
  ·exact .slX _ _ _ _ _ _ _ _ h
 | empty a => exact .empty _
 | agg cs vs hl h1 hr ih => exact .agg _ _ hl h1 ih
 | fn f caps vs hl hr ih => exact .fn _ _ _ hl ih
 | tup cs vs hl hr ih => exact .tup _ _ hl ih
 | undef v => exact .undef _
theorem Evo.forb {w w' : World} {G G' : Pl} (h : Evo w G w' G') (X : Nat → Prop) : ∀ n, n < w.heap.size → ¬ Forb X G n → ¬ Forb X G' n ∧ w'.heap[n]? = w.heap[n]? := by
 intro n hn hF
 refine ⟨fun h' => hF ?_, h.keep n hn (fun o => hF (.inr o))⟩
 rcases h' with h' | h'
 ·exact .inl h'
 ·exact .inr (h.own n hn h')
theorem VR.evo {w w' : World} {X : Nat → Prop} {G G' : Pl} (h : Evo w G w' G') {x : AV} {v : Value} (hv : VR w (Forb X G) G x v) : VR w' (Forb X G') G' x v :=
 hv.mono h.size (h.forb X) h.gle
end Go.Abs
/- The abstract machine's operations and code, and the translation of the program's operations and code into them. -/
set_option linter.unusedVariables false
namespace Go.Abs
mutual
def decD : (a b : D) → Decidable (a = b)
 | .int k n, .int k' n' => if h : k = k' ∧ n = n' then isTrue (by rw [h.1, h.2]) else isFalse (by intro e; cases e; exact h ⟨rfl, rfl⟩)
 | .bool x, .bool y => if h : x = y then isTrue (by rw [h]) else isFalse (by intro e; cases e; exact h rfl)
 | .str x, .str y => if h : x.data = y.data then isTrue (by cases x; cases y; simp at h; rw [h]) else isFalse (by intro e; cases e; exact h rfl)
 | .nil, .nil => isTrue rfl
 | .slice x, .slice y => match decDss x y with
  | isTrue h => isTrue (by rw [h])
  | isFalse h => isFalse (by intro e; cases e; exact h rfl)
 | .int .., .bool _ | .int .., .str _ | .int .., .nil | .int .., .slice _ => isFalse (by intro e; cases e)
 | .bool _, .int .. | .bool _, .str _ | .bool _, .nil | .bool _, .slice _ => isFalse (by intro e; cases e)
 | .str _, .int .. | .str _, .bool _ | .str _, .nil | .str _, .slice _ => isFalse (by intro e; cases e)
 | .nil, .int .. | .nil, .bool _ | .nil, .str _ | .nil, .slice _ => isFalse (by intro e; cases e)
 | .slice _, .int .. | .slice _, .bool _ | .slice _, .str _ | .slice _, .nil => isFalse (by intro e; cases e)
def decDs : (a b : List D) → Decidable (a = b)
 | [], [] => isTrue rfl
 | [], _ :: _ => isFalse (by intro e; cases e)
 | _ :: _, [] => isFalse (by intro e; cases e)
 | x :: xs, y :: ys => match decD x y with
  | isTrue h => match decDs xs ys with
   | isTrue h' => isTrue (by rw [h, h'])
   | isFalse h' => isFalse (by intro e; cases e; exact h' rfl)
  | isFalse h => isFalse (by intro e; cases e; exact h rfl)
def decDss : (a b : List (List D)) → Decidable (a = b)
 | [], [] => isTrue rfl
 | [], _ :: _ => isFalse (by intro e; cases e)
 | _ :: _, [] => isFalse (by intro e; cases e)
 | x :: xs, y :: ys => match decDs x y with
  | isTrue h => match decDss xs ys with
   | isTrue h' => isTrue (by rw [h, h'])
   | isFalse h' => isFalse (by intro e; cases e; exact h' rfl)
  | isFalse h => isFalse (by intro e; cases e; exact h rfl)
end
instance : DecidableEq D := decD
mutual
def decAV : (a b : AV) → Decidable (a = b)
 | .d x, .d x' => if h : x = x' then isTrue (by simp only [h]) else isFalse (by intro e; cases e; simp at h)
 | .ptr b v i o, .ptr b' v' i' o' => if h : b = b' ∧ v = v' ∧ i = i' ∧ o = o' then isTrue (by simp only [h]) else isFalse (by intro e; cases e; simp at h)
 | .dptr c, .dptr c' => if h : c = c' then isTrue (by simp only [h]) else isFalse (by intro e; cases e; simp at h)
 | .sl b v i n c, .sl b' v' i' n' c' => if h : b = b' ∧ v = v' ∧ i = i' ∧ n = n' ∧ c = c' then isTrue (by simp only [h]) else isFalse (by intro e; cases e; simp at h)
 | .empty, .empty => isTrue rfl
 | .agg c, .agg c' => match decAVs c c' with
  | isTrue h => isTrue (by rw [h])
  | isFalse h => isFalse (by intro e; cases e; exact h rfl)
 | .fn f c, .fn f' c' => match decAVs c c' with
  | isTrue h => if h2 : f = f' then isTrue (by rw [h, h2]) else isFalse (by intro e; cases e; exact h2 rfl)
  | isFalse h => isFalse (by intro e; cases e; exact h rfl)
 | .tup c, .tup c' => match decAVs c c' with
  | isTrue h => isTrue (by rw [h])
  | isFalse h => isFalse (by intro e; cases e; exact h rfl)
 | .undef, .undef => isTrue rfl
 | .d _, .ptr _ _ _ _ => isFalse (by intro e; cases e)
 | .d _, .dptr _ => isFalse (by intro e; cases e)
 | .d _, .sl _ _ _ _ _ => isFalse (by intro e; cases e)
 | .d _, .empty => isFalse (by intro e; cases e)
 | .d _, .agg _ => isFalse (by intro e; cases e)
 | .d _, .fn _ _ => isFalse (by intro e; cases e)
 | .d _, .tup _ => isFalse (by intro e; cases e)
 | .d _, .undef => isFalse (by intro e; cases e)
 | .ptr _ _ _ _, .d _ => isFalse (by intro e; cases e)
 | .ptr _ _ _ _, .dptr _ => isFalse (by intro e; cases e)
 | .ptr _ _ _ _, .sl _ _ _ _ _ => isFalse (by intro e; cases e)
 | .ptr _ _ _ _, .empty => isFalse (by intro e; cases e)
 | .ptr _ _ _ _, .agg _ => isFalse (by intro e; cases e)
 | .ptr _ _ _ _, .fn _ _ => isFalse (by intro e; cases e)
 | .ptr _ _ _ _, .tup _ => isFalse (by intro e; cases e)
 | .ptr _ _ _ _, .undef => isFalse (by intro e; cases e)
 | .dptr _, .d _ => isFalse (by intro e; cases e)
 | .dptr _, .ptr _ _ _ _ => isFalse (by intro e; cases e)
 | .dptr _, .sl _ _ _ _ _ => isFalse (by intro e; cases e)
 | .dptr _, .empty => isFalse (by intro e; cases e)
 | .dptr _, .agg _ => isFalse (by intro e; cases e)
 | .dptr _, .fn _ _ => isFalse (by intro e; cases e)
 | .dptr _, .tup _ => isFalse (by intro e; cases e)
 | .dptr _, .undef => isFalse (by intro e; cases e)
 | .sl _ _ _ _ _, .d _ => isFalse (by intro e; cases e)
 | .sl _ _ _ _ _, .ptr _ _ _ _ => isFalse (by intro e; cases e)
 | .sl _ _ _ _ _, .dptr _ => isFalse (by intro e; cases e)
 | .sl _ _ _ _ _, .empty => isFalse (by intro e; cases e)
 | .sl _ _ _ _ _, .agg _ => isFalse (by intro e; cases e)
 | .sl _ _ _ _ _, .fn _ _ => isFalse (by intro e; cases e)
 | .sl _ _ _ _ _, .tup _ => isFalse (by intro e; cases e)
 | .sl _ _ _ _ _, .undef => isFalse (by intro e; cases e)
 | .empty, .d _ => isFalse (by intro e; cases e)
 | .empty, .ptr _ _ _ _ => isFalse (by intro e; cases e)
 | .empty, .dptr _ => isFalse (by intro e; cases e)
 | .empty, .sl _ _ _ _ _ => isFalse (by intro e; cases e)
 | .empty, .agg _ => isFalse (by intro e; cases e)
 | .empty, .fn _ _ => isFalse (by intro e; cases e)
 | .empty, .tup _ => isFalse (by intro e; cases e)
 | .empty, .undef => isFalse (by intro e; cases e)
 | .agg _, .d _ => isFalse (by intro e; cases e)
 | .agg _, .ptr _ _ _ _ => isFalse (by intro e; cases e)
 | .agg _, .dptr _ => isFalse (by intro e; cases e)
 | .agg _, .sl _ _ _ _ _ => isFalse (by intro e; cases e)
 | .agg _, .empty => isFalse (by intro e; cases e)
 | .agg _, .fn _ _ => isFalse (by intro e; cases e)
 | .agg _, .tup _ => isFalse (by intro e; cases e)
 | .agg _, .undef => isFalse (by intro e; cases e)
 | .fn _ _, .d _ => isFalse (by intro e; cases e)
 | .fn _ _, .ptr _ _ _ _ => isFalse (by intro e; cases e)
 | .fn _ _, .dptr _ => isFalse (by intro e; cases e)
 | .fn _ _, .sl _ _ _ _ _ => isFalse (by intro e; cases e)
 | .fn _ _, .empty => isFalse (by intro e; cases e)
 | .fn _ _, .agg _ => isFalse (by intro e; cases e)
 | .fn _ _, .tup _ => isFalse (by intro e; cases e)
 | .fn _ _, .undef => isFalse (by intro e; cases e)
 | .tup _, .d _ => isFalse (by intro e; cases e)
 | .tup _, .ptr _ _ _ _ => isFalse (by intro e; cases e)
 | .tup _, .dptr _ => isFalse (by intro e; cases e)
 | .tup _, .sl _ _ _ _ _ => isFalse (by intro e; cases e)
 | .tup _, .empty => isFalse (by intro e; cases e)
 | .tup _, .agg _ => isFalse (by intro e; cases e)
 | .tup _, .fn _ _ => isFalse (by intro e; cases e)
 | .tup _, .undef => isFalse (by intro e; cases e)
 | .undef, .d _ => isFalse (by intro e; cases e)
 | .undef, .ptr _ _ _ _ => isFalse (by intro e; cases e)
 | .undef, .dptr _ => isFalse (by intro e; cases e)
 | .undef, .sl _ _ _ _ _ => isFalse (by intro e; cases e)
 | .undef, .empty => isFalse (by intro e; cases e)
 | .undef, .agg _ => isFalse (by intro e; cases e)
 | .undef, .fn _ _ => isFalse (by intro e; cases e)
 | .undef, .tup _ => isFalse (by intro e; cases e)
def decAVs : (a b : List AV) → Decidable (a = b)
 | [], [] => isTrue rfl
 | [], _ :: _ => isFalse (by intro e; cases e)
 | _ :: _, [] => isFalse (by intro e; cases e)
 | x :: xs, y :: ys => match decAV x y with
  | isTrue h => match decAVs xs ys with
   | isTrue h' => isTrue (by rw [h, h'])
   | isFalse h' => isFalse (by intro e; cases e; exact h' rfl)
  | isFalse h => isFalse (by intro e; cases e; exact h rfl)
end
instance : DecidableEq AV := decAV
inductive AArg where
 | t (n : Nat)
 | c (v : AV)
 deriving Inhabited, DecidableEq
def AArg.ev (env : Env) : AArg → AV
 | .t n => env n
 | .c v => v
inductive AOp where
 | mov (x : AArg)
 | pick (c a b : AArg)
 | alloc (zs : List AV)
 | box (k : Nat) (x : AArg)
 | build (zs : List AV) (parts : List (Nat × Nat × AArg))
 | lit (k len : Nat) (zs : List AV) (parts : List (Nat × AArg))
 | load (ag : Option Nat) (a : AArg)
 | store (k : Nat) (a x : AArg)
 | chk (x : AArg)
 | bin (op : BinOp) (x y : AArg)
 | eqb (neg : Bool) (x y : AArg)
 | eqn (neg : Bool) (x y : AArg)
 | eqs (neg : Bool) (ks : List Nat) (x y : AArg)
 | not (x : AArg)
 | conv (k : IntKind) (x : AArg)
 | func (f : FuncId) (caps : List AArg)
 | make (k bytes : Nat) (zs : List AV) (l c : AArg)
 | slice (k : Nat) (x : AArg) (lo hi mx : Option AArg)
 | addr (o : Nat) (x : AArg)
 | idx (k : Nat) (x i : AArg)
 | sidx (x i : AArg)
 | ext (x : AArg) (i : Nat)
 | len (str : Bool) (x : AArg)
 | mm (mx : Bool) (xs : List AArg)
 | app (k bytes : Nat) (s x : AArg)
 | copy (k : Nat) (d s : AArg)
 | clear (k : Nat) (zs : List AV) (s : AArg)
 | capn (x : AArg)
 | appz (k bytes : Nat) (zs : List AV) (s n : AArg)
 | call (f : FuncId) (args : List AArg)
 | callv (f : AArg) (args : List AArg)
 | bad
 deriving Inhabited, DecidableEq
structure GOp where
 dst : Option Nat
 g : Option (Nat × Bool)
 op : AOp
 deriving Inhabited, DecidableEq
inductive ACode where
 | skip
 | reg (ops : List GOp)
 | dreg (ops : List GOp) (un : List (Nat × Nat))
 | seq (a b : ACode)
 | cond (c : AArg) (a b : ACode)
 | block (id : Nat) (c : ACode)
 | loop (c : ACode)
 | exit (id : Nat)
 | ret
 | bad
 deriving Inhabited, DecidableEq
structure St where
 env : Env
 h : Heap
def upd {α : Type} (f : Nat → α) (t : Nat) (v : α) : Nat → α := fun s => if s = t then v else f s
theorem upd_same {α : Type} (f : Nat → α) (t : Nat) (v : α) : upd f t v t = v := by simp [upd]
theorem upd_ne {α : Type} (f : Nat → α) (t s : Nat) (v : α) (h : s ≠ t) : upd f t v s = f s := by simp [upd, h]
def updo {α : Type} (f : Nat → α) : Option Nat → α → Nat → α
 | some t, v => upd f t v
 | none, _ => f
/-- What an operation does: its value, the block that it writes, the blocks on which it leans. -/
structure Eff where
 v : AV
 w : Option (Nat × HB)
 rd : List Nat
def St.put (s : St) (dst : Option Nat) (e : Eff) : St :=
 { env := updo s.env dst e.v, h := match e.w with | some (b, x) => upd s.h b x | none => s.h }
def cellsOf : AV → List AV
 | .agg cs => cs
 | v => [v]
def isCell : AV → Bool
 | .d _ | .ptr .. | .dptr _ | .sl .. | .empty | .fn .. => true
 | _ => false
def getBlk (h : Heap) (b ver : Nat) : Option Blk := if (h b).ver = ver then (h b).live else none
def spl : List AV → Nat → List AV → List AV
 | x, _, [] => x
 | x, o, c :: cs => spl (x.set o c) (o + 1) cs
def fillA : List AV → List (Nat × Nat × AV) → Option (List AV)
 | cs, [] => some cs
 | cs, (o, n, v) :: rest =>
  if (cellsOf v).length = n ∧ o + n ≤ cs.length ∧ (cellsOf v).all isCell then fillA (spl cs o (cellsOf v)) rest else none
def dl (xs : List (List D)) : List (List AV) := xs.map (·.map .d)
/-- The elements of a slice. -/
def elemsOf (h : Heap) : AV → Option (List (List AV))
 | .d .nil => some []
 | .d (.slice xs) => some (dl xs)
 | .empty => some []
 | .sl b ver i n _ => (getBlk h b ver).bind fun blk => if i + n ≤ blk.elems.length then some ((blk.elems.drop i).take n) else none
 | _ => none
def srcOf : AV → List Nat
 | .sl b .. => [b]
 | _ => []
def binI (op : BinOp) (k : IntKind) (a b : Int) : Option D :=
 match op with
 | .add => some (.int k (k.wrap (a + b)))
 | .sub => some (.int k (k.wrap (a - b)))
 | .mul => some (.int k (k.wrap (a * b)))
 | .quo => if b = 0 then none else some (.int k (k.wrap (a.tdiv b)))
 | .rem => if b = 0 then none else some (.int k (a.tmod b))
 | .eql => some (.bool (a == b))
 | .neq => some (.bool (a != b))
 | .lss => some (.bool (a < b))
 | .leq => some (.bool (a ≤ b))
 | .gtr => some (.bool (a > b))
 | .geq => some (.bool (a ≥ b))
 | _ => none
def binS (op : BinOp) (a b : ByteArray) : Option D :=
 match op with
 | .add => if a.size + b.size ≤ 140737488355328 then some (.str (a ++ b)) else none
 | .eql => some (.bool (a.toList == b.toList))
 | .neq => some (.bool !(a.toList == b.toList))
 | _ => none
def bin (op : BinOp) : AV → AV → Option D
 | .d (.int k a), .d (.int k' b) => if k = k' then binI op k a b else none
 | .d (.str a), .d (.str b) => binS op a b
 | _, _ => none
def eqD : Nat → D → D → Option Bool
 | 0, .int k a, .int k' b => if k = k' then some (a == b) else none
 | 1, .bool a, .bool b => some (a == b)
 | 2, .str a, .str b => some (a.toList == b.toList)
 | _, _, _ => none
def eqCells : List Nat → List AV → List AV → Option Bool
 | [], [], [] => some true
 | k :: ks, .d a :: als, .d b :: bs => (eqD k a b).bind fun x => (eqCells ks als bs).bind fun y => some (x && y)
 | _, _, _ => none
def isNilSl : AV → Option Bool
 | .d .nil => some true
 | .d (.slice (_ :: _)) => some false
 | _ => none
def intOfA : AV → Option Int
 | .d (.int _ n) => some n
 | _ => none
def boundOf (env : Env) (dflt : Nat) (most : Nat) : Option AArg → Option Nat
 | none => some dflt
 | some x => (intOfA (x.ev env)).bind fun n => if 0 ≤ n ∧ n ≤ most then some n.toNat else none
def mm2 (mx : Bool) : D → D → Option D
 | .int k x, .int k' y => if k = k' then some (.int k (if mx then (if y > x then y else x) else (if y < x then y else x))) else none
 | _, _ => none
def mmA (mx : Bool) : List AV → Option D
 | [.d x, .d y] => mm2 mx x y
 | _ => none
/-- All elements have so many cells. -/
def allLen (src : List (List AV)) (k : Nat) : Bool := src.all (·.length = k)
def exec (op : AOp) (dst : Nat) (env : Env) (h : Heap) : Option Eff :=
 let new (blk : Blk) (v : Nat → AV) : Option Eff := some ⟨v ((h dst).ver + 1), some (dst, ⟨(h dst).ver + 1, some blk⟩), [dst]⟩
 match op with
 | .mov x => some ⟨x.ev env, none, []⟩
 | .pick c a b => match c.ev env with
  | .d (.bool t) => some ⟨if t then a.ev env else b.ev env, none, []⟩
  | _ => none
 | .alloc zs => new ⟨zs.length, [zs]⟩ fun v => .ptr dst v 0 0
 | .box k x => if (cellsOf (x.ev env)).length = k ∧ (cellsOf (x.ev env)).all isCell then new ⟨k, [cellsOf (x.ev env)]⟩ fun v => .ptr dst v 0 0 else none
 | .build zs parts => (fillA zs (parts.map fun p => (p.1, p.2.1, p.2.2.ev env))).bind fun cs => some ⟨.agg cs, none, []⟩
 | .lit k len zs parts =>
  if parts.length = len ∧ (parts.map (·.1)) = List.range len ∧ parts.all (fun p => (cellsOf (p.2.ev env)).length = k ∧ (cellsOf (p.2.ev env)).all isCell) then
   new ⟨k, parts.map fun p => cellsOf (p.2.ev env)⟩ fun v => .sl dst v 0 len len
  else none
 | .load ag a => match a.ev env with
  | .ptr b ver i o => (getBlk h b ver).bind fun blk => (blk.elems[i]?).bind fun x => match ag with
   | none => (x[o]?).bind fun v => some ⟨v, none, [b]⟩
   | some n => if o + n ≤ x.length then some ⟨.agg ((x.drop o).take n), none, [b]⟩ else none
  | .dptr cs => match ag with
   | none => (cs[0]?).bind fun v => some ⟨.d v, none, []⟩
   | some n => if n ≤ cs.length then some ⟨.agg ((cs.take n).map .d), none, []⟩ else none
  | _ => none
 | .store k a x => match a.ev env with
  | .ptr b ver i o => (getBlk h b ver).bind fun blk => (blk.elems[i]?).bind fun y =>
   if (cellsOf (x.ev env)).length = k ∧ (cellsOf (x.ev env)).all isCell ∧ o + k ≤ y.length then
    some ⟨.undef, some (b, ⟨ver, some ⟨blk.k, blk.elems.set i (spl y o (cellsOf (x.ev env)))⟩⟩), [b]⟩
   else none
  | _ => none
 | .chk x => match x.ev env with
  | .ptr b ver i o => if (getBlk h b ver).isSome then some ⟨.ptr b ver i o, none, [b]⟩ else none
  | .dptr cs => some ⟨.dptr cs, none, []⟩
  | .fn f caps => some ⟨.fn f caps, none, []⟩
  | _ => none
 | .bin op x y => (bin op (x.ev env) (y.ev env)).bind fun d => some ⟨.d d, none, []⟩
 | .eqb neg x y => match x.ev env, y.ev env with
  | .d (.bool a), .d (.bool b) => some ⟨.d (.bool (if neg then !(a == b) else a == b)), none, []⟩
  | _, _ => none
 | .eqn neg x y => match y.ev env with
  | .d .nil => match x.ev env with
   | .sl b ver _ n _ => (getBlk h b ver).bind fun _ => if 0 < n then some ⟨.d (.bool neg), none, [b]⟩ else none
   | v => (isNilSl v).bind fun r => some ⟨.d (.bool (if neg then !r else r)), none, []⟩
  | _ => none
 | .eqs neg ks x y => match x.ev env, y.ev env with
  | .agg a, .agg b => (eqCells ks a b).bind fun r => some ⟨.d (.bool (if neg then !r else r)), none, []⟩
  | _, _ => none
 | .not x => match x.ev env with
  | .d (.bool b) => some ⟨.d (.bool !b), none, []⟩
  | _ => none
 | .conv k x => match x.ev env with
  | .d (.int _ n) => some ⟨.d (.int k (k.wrap n)), none, []⟩
  | _ => none
 | .func f caps => some ⟨.fn f (caps.map (·.ev env)), none, []⟩
 | .make k bytes zs l c => match intOfA (l.ev env), intOfA (c.ev env) with
  | some l, some c => if 0 ≤ l ∧ l ≤ c ∧ c * bytes ≤ 140737488355328 ∧ c ≤ 140737488355328 ∧ zs.length = k then
    new ⟨k, List.replicate c.toNat zs⟩ fun v => .sl dst v 0 l.toNat c.toNat else none
  | _, _ => none
 | .slice 0 x lo hi mx => match x.ev env with
  | .d (.str s) => if mx.isSome then none else (boundOf env s.size s.size hi).bind fun hi => (boundOf env 0 hi lo).bind fun lo => some ⟨.d (.str (s.extract lo hi)), none, []⟩
  | _ => none
 | .slice (k + 1) x lo hi mx => match x.ev env, mx with
  | .d (.slice xs), none => (boundOf env xs.length xs.length hi).bind fun hi => (boundOf env 0 hi lo).bind fun lo =>
    if xs.all (·.length = k + 1) then some ⟨.d (.slice ((xs.take hi).drop lo)), none, []⟩ else none
  | .d (.slice xs), some m => (boundOf env 0 0 (some m)).bind fun _ => (boundOf env 0 0 hi).bind fun hi => (boundOf env 0 hi lo).bind fun _ => some ⟨.empty, none, []⟩
  | .d .nil, none => (boundOf env 0 0 hi).bind fun hi => (boundOf env 0 hi lo).bind fun _ => some ⟨.d .nil, none, []⟩
  | .d .nil, some m => (boundOf env 0 0 (some m)).bind fun _ => (boundOf env 0 0 hi).bind fun hi => (boundOf env 0 hi lo).bind fun _ => some ⟨.empty, none, []⟩
  | .sl b ver i n cap, none => (getBlk h b ver).bind fun blk => if blk.k = k + 1 then
    (boundOf env n (max n cap) hi).bind fun hi => (boundOf env 0 hi lo).bind fun lo => some ⟨.sl b ver (i + lo) (hi - lo) (max hi cap - lo), none, [b]⟩ else none
  | .sl b ver i n cap, some m => (getBlk h b ver).bind fun blk => if blk.k = k + 1 then
    (boundOf env 0 (max n cap) (some m)).bind fun m => (boundOf env n m hi).bind fun hi => (boundOf env 0 hi lo).bind fun lo =>
     some ⟨if m = 0 then .empty else .sl b ver (i + lo) (hi - lo) (m - lo), none, [b]⟩ else none
  | _, _ => none
 | .addr o x => match x.ev env with
  | .ptr b ver i o' => if (getBlk h b ver).isSome then some ⟨.ptr b ver i (o' + o), none, [b]⟩ else none
  | .dptr cs => if o ≤ cs.length then some ⟨.dptr (cs.drop o), none, []⟩ else none
  | _ => none
 | .idx k x i => match x.ev env, intOfA (i.ev env) with
  | .d (.slice xs), some i => if 0 ≤ i then (xs[i.toNat]?).bind fun cs => if cs.length = k then some ⟨.dptr cs, none, []⟩ else none else none
  | .sl b ver j n _, some i => (getBlk h b ver).bind fun blk => if 0 ≤ i ∧ i < n ∧ blk.k = k then some ⟨.ptr b ver (j + i.toNat) 0, none, [b]⟩ else none
  | _, _ => none
 | .sidx x i => match x.ev env, intOfA (i.ev env) with
  | .d (.str s), some i => if 0 ≤ i then (s[i.toNat]?).bind fun c => some ⟨.d (.int .u8 c.toNat), none, []⟩ else none
  | _, _ => none
 | .ext x i => match x.ev env with
  | .tup vs => (vs[i]?).bind fun v => some ⟨v, none, []⟩
  | _ => none
 | .len st x => match x.ev env with
  | .d (.str s) => if st then some ⟨.d (.int .i64 s.size), none, []⟩ else none
  | v => if st then none else match v with
  | .d .nil => some ⟨.d (.int .i64 0), none, []⟩
  | .d (.slice xs) => some ⟨.d (.int .i64 xs.length), none, []⟩
  | .empty => some ⟨.d (.int .i64 0), none, []⟩
  | .sl b ver _ n _ => if (getBlk h b ver).isSome then some ⟨.d (.int .i64 n), none, [b]⟩ else none
  | _ => none
 | .mm mx xs => (mmA mx (xs.map (·.ev env))).bind fun d => some ⟨.d d, none, []⟩
 | .app k bytes s x => (elemsOf h (x.ev env)).bind fun src => if allLen src k = false then none else match s.ev env with
  | .d .nil => if src.length * bytes ≤ 17592186044416 ∧ src.length ≤ 17592186044416 then
    some ⟨.sl dst ((h dst).ver + 1) 0 src.length src.length, some (dst, ⟨(h dst).ver + 1, some ⟨k, src⟩⟩), dst :: srcOf (x.ev env)⟩ else none
  | .empty => if src.length * bytes ≤ 17592186044416 ∧ src.length ≤ 17592186044416 then
    some ⟨.sl dst ((h dst).ver + 1) 0 src.length src.length, some (dst, ⟨(h dst).ver + 1, some ⟨k, src⟩⟩), dst :: srcOf (x.ev env)⟩ else none
  | .sl b ver 0 n cap => (getBlk h b ver).bind fun blk =>
    if (n + src.length) * bytes ≤ 17592186044416 ∧ n + src.length ≤ 17592186044416 ∧ n ≤ blk.elems.length ∧ blk.k = k then
     if n + src.length ≤ cap ∧ n + src.length ≤ blk.elems.length then
      some ⟨.sl b ver 0 (n + src.length) cap, some (b, ⟨ver, some ⟨k, blk.elems.take n ++ src ++ blk.elems.drop (n + src.length)⟩⟩), b :: srcOf (x.ev env)⟩
     else some ⟨.sl b (ver + 1) 0 (n + src.length) (n + src.length), some (b, ⟨ver + 1, some ⟨k, blk.elems.take n ++ src⟩⟩), b :: srcOf (x.ev env)⟩
    else none
  | _ => none
 | .copy k d s => (elemsOf h (s.ev env)).bind fun src => match d.ev env with
  | .sl b ver i n cap => (getBlk h b ver).bind fun blk =>
    if allLen src k = true ∧ blk.k = k ∧ i + n ≤ blk.elems.length then
     some ⟨.d (.int .i64 ((min src.length n : Nat) : Int)), some (b, ⟨ver, some ⟨blk.k, blk.elems.take i ++ src.take (min src.length n) ++ blk.elems.drop (i + min src.length n)⟩⟩), b :: srcOf (s.ev env)⟩
    else none
  | _ => none
 | .clear k zs s => match s.ev env with
  | .sl b ver i n cap => (getBlk h b ver).bind fun blk =>
    if i + n ≤ blk.elems.length ∧ blk.k = k ∧ zs.length = k then
     some ⟨.undef, some (b, ⟨ver, some ⟨k, blk.elems.take i ++ List.replicate n zs ++ blk.elems.drop (i + n)⟩⟩), [b]⟩
    else none
  | _ => none
 | .capn x => match x.ev env with
  | .d .nil => some ⟨.d (.int .i64 0), none, []⟩
  | _ => none
 | .appz k bytes zs s n => match s.ev env, intOfA (n.ev env) with
  | .d .nil, some m => if 0 < m ∧ m * bytes ≤ 17592186044416 ∧ m ≤ 17592186044416 ∧ zs.length = k then new ⟨k, List.replicate m.toNat zs⟩ fun v => .sl dst v 0 m.toNat m.toNat else none
  | _, _ => none
 | .call .. | .callv .. | .bad => none
/-! ### The translation -/
def avCell : Value → AV
 | .int k n => .d (.int k n)
 | .bool b => .d (.bool b)
 | .string s => .d (.str s)
 | .slice none 0 0 => .d .nil
 | _ => .undef
def avOf : Value → AV
 | .agg cs => if cs.all (·.oneCell') then .agg (cs.toList.map avCell) else .undef
 | v => avCell v
def arg : Operand → AArg
 | .tmp t => .t t
 | .const v => .c (avOf v)
 | .global _ => .c .undef
 | .func f => .c (.fn f [])
def isAggT (P : Program) (t : TypeId) : Bool := match P.underlying t with
 | some (.struct _) | some (.array ..) => true
 | _ => false
def zeroOf (P : Program) (t : TypeId) : Option (List AV) :=
 (P.info? t).bind fun i => i.zero.bind fun z => if z.cells.size = i.size ∧ 0 < i.size ∧ z.cells.all (·.oneCell') then some (z.cells.toList.map avCell) else none
def sizeT (P : Program) (t : TypeId) : Nat := P.cellsOf t
def flatField (P : Program) (f : Field) (j : Nat) : Option Nat := if f.name != "_" && f.offset == j && sizeT P f.type == 1 then match P.underlying f.type with
 | some (.int _) => some 0
 | some .bool => some 1
 | some .string => some 2
 | _ => none
 else none
def flatFields (P : Program) : List Field → Nat → Option (List Nat)
 | [], _ => some []
 | f :: fs, j => (flatField P f j).bind fun k => (flatFields P fs (j + 1)).bind fun ks => some (k :: ks)
def noExt (P : Program) (f : FuncId) : Bool := match P.funcs[f]? with
 | some fn => fn.body.isSome && fn.name != "runtime.NumGoroutine"
 | none => false
def isSliceT (P : Program) (t : TypeId) : Option TypeId := match P.underlying t with
 | some (.slice e) => some e
 | _ => none
def bytesT (P : Program) (t : TypeId) : Nat := P.bytesOf t
def compBin (P : Program) (op : BinOp) (t : TypeId) (x y : Operand) : AOp :=
 match P.underlying t with
 | some (.int _) => (match op with | .shl | .shr => .bad | _ => .bin op (arg x) (arg y))
 | some .string => .bin op (arg x) (arg y)
 | some .bool => (match op with | .eql => .eqb false (arg x) (arg y) | .neq => .eqb true (arg x) (arg y) | _ => .bad)
 | some (.slice _) => (match op with | .eql => .eqn false (arg x) (arg y) | .neq => .eqn true (arg x) (arg y) | _ => .bad)
 | some (.struct fs) => if !P.stoodInHeld t && !P.eqGuardType P.depth t then match flatFields P fs.toList 0 with
   | some ks => (match op with | .eql => .eqs false ks (arg x) (arg y) | .neq => .eqs true ks (arg x) (arg y) | _ => .bad)
   | none => .bad
  else .bad
 | _ => .bad
def compCall (P : Program) (c : Call) : AOp :=
 match c.callee with
 | .value (.func f) => if noExt P f then .call f (c.args.toList.map arg) else .bad
 | .value x => .callv (arg x) (c.args.toList.map arg)
 | .invoke .. => .bad
 | .builtin b => match b, c.args.toList, c.argTypes.toList with
  | .len, [x], [t] => (match P.underlying t with | some .string => .len true (arg x) | some (.slice _) => .len false (arg x) | _ => .bad)
  | .append, [s, x], [t, u] => (match isSliceT P t, P.underlying u with
   | some e, some (.slice _) => if (zeroOf P e).isSome then .app (sizeT P e) (bytesT P e) (arg s) (arg x) else .bad
   | some e, some (.int _) => (match zeroOf P e with | some zs => .appz (sizeT P e) (bytesT P e) zs (arg s) (arg x) | none => .bad)
   | _, _ => .bad)
  | .cap, [x], [t] => (match isSliceT P t with | some _ => .capn (arg x) | none => .bad)
  | .min, xs, _ => .mm false (xs.map arg)
  | .max, xs, _ => .mm true (xs.map arg)
  | .copy, [d, s], [t, _] => (match isSliceT P t with | some e => if 0 < sizeT P e && (P.info? e).isSome then .copy (sizeT P e) (arg d) (arg s) else .bad | none => .bad)
  | .clear, [s], [t] => (match isSliceT P t with
   | some e => (match zeroOf P e with | some zs => .clear (sizeT P e) zs (arg s) | none => .bad)
   | none => .bad)
  | _, _, _ => .bad
def compOp (P : Program) (o : Oper) : AOp :=
 match o.op with
 | .move x | .assign x => .mov (arg x)
 | .pick c a b => .pick (arg c) (arg a) (arg b)
 | .alloc t => match zeroOf P t, o.dst with | some zs, some _ => .alloc zs | _, _ => .bad
 | .box t x => if 0 < sizeT P t && o.dst.isSome then .box (sizeT P t) (arg x) else .bad
 | .build t parts => match P.underlying t, zeroOf P t with
  | some (.struct fs), some zs => if fs.all (fun f => (P.info? f.type).isSome) && parts.all (fun p => p.1 < fs.size) then
    .build zs (parts.toList.map fun p => (((fs[p.1]?).map (·.offset)).getD 0, sizeT P (((fs[p.1]?).map (·.type)).getD 0), arg p.2)) else .bad
  | some (.array _ e), some zs => if (P.info? e).isSome then .build zs (parts.toList.map fun p => (p.1 * sizeT P e, sizeT P e, arg p.2)) else .bad
  | _, _ => .bad
 | .buildSlice t len parts => match isSliceT P t, o.dst with
  | some e, some _ => (match zeroOf P e with
   | some zs => if len * sizeT P e ≤ 16777216 then .lit (sizeT P e) len zs (parts.toList.map fun p => (p.1, arg p.2)) else .bad
   | none => .bad)
  | _, _ => .bad
 | .load t a => if (P.underlying t).isSome && (P.info? t).isSome then .load (if isAggT P t then some (sizeT P t) else none) (arg a) else .bad
 | .store t a x => if (P.info? t).isSome && o.dst.isNone then .store (sizeT P t) (arg a) (arg x) else .bad
 | .nilCheck x => .chk (arg x)
 | .binOp op t x y _ => compBin P op t x y
 | .unOp .not _ x => .not (arg x)
 | .convert src dst x => match P.underlying src, P.underlying dst with
  | some _, some (.int k) => .conv k (arg x)
  | _, _ => .bad
 | .makeFunc (.func f) first caps => if first.size = 0 then .func f (caps.toList.map arg) else .bad
 | .makeSlice t l c => match isSliceT P t, o.dst with
  | some e, some _ => (match zeroOf P e with
   | some zs => .make (sizeT P e) (bytesT P e) zs (arg l) (arg c)
   | none => .bad)
  | _, _ => .bad
 | .slice t x lo hi mx => match P.underlying t with
  | some .string => .slice 0 (arg x) (lo.map arg) (hi.map arg) (mx.map arg)
  | some (.slice e) => if 0 < sizeT P e && (P.info? e).isSome && (mx.isNone || hi.isSome) then .slice (sizeT P e) (arg x) (lo.map arg) (hi.map arg) (mx.map arg) else .bad
  | _ => .bad
 | .fieldAddr t x f => match P.underlying t with
  | some (.struct fs) => (match fs[f]? with
   | some fd => if 0 < sizeT P fd.type && (P.info? fd.type).isSome then .addr fd.offset (arg x) else .bad
   | none => .bad)
  | _ => .bad
 | .indexAddr t x i => match P.underlying t, i with
  | some (.slice e), i => if 0 < sizeT P e && (P.info? e).isSome then .idx (sizeT P e) (arg x) (arg i) else .bad
  | some (.array len e), .const (.int _ n) => if 0 ≤ n && n < len && (P.info? e).isSome then .addr (n.toNat * sizeT P e) (arg x) else .bad
  | _, _ => .bad
 | .index t x i => match P.underlying t with
  | some .string => .sidx (arg x) (arg i)
  | _ => .bad
 | .extract x i => .ext (arg x) i
 | .call c => compCall P c
 | _ => .bad
def gOK (N : Nat) (ops : Array Oper) (o : Oper) : Bool :=
 (match o.guard with | some (j, _) => ((ops[j]?).bind (·.dst)).isSome | none => true) && (match o.dst with | some d => d < N | none => true)
def compG (P : Program) (N : Nat) (ops : Array Oper) (o : Oper) : GOp :=
 if gOK N ops o then { dst := o.dst, g := o.guard.map fun p => ((((ops[p.1]?).bind (·.dst)).getD 0), p.2), op := compOp P o }
 else { dst := o.dst, g := none, op := .bad }
def predsOf (o : Oper) : List Nat := (o.after.toList.filter (Region.binds .any)).map (·.on)
def befOK (l : List Oper) (B : Array Nat) : Bool :=
 (List.range l.length).all fun j => match l[j]? with
  | none => true
  | some o => (predsOf o).all (· < j) && (List.range l.length).all fun i => !(B.getD j 0).testBit i || (predsOf o).any fun e => e == i || (B.getD e 0).testBit i
def pairs (n : Nat) : List (Nat × Nat) := (List.range n).flatMap fun j => (List.range j).map fun i => (i, j)
end Go.Abs
/- What one operation of the abstract machine does is what the program's operation does in memory. First part: how a placed heap is changed. -/
set_option linter.unusedVariables false
namespace Go.Abs
theorem place_upd (h : Heap) (ι : Nat → Bd) (b : Nat) (hb : HB) (bd : Bd) : place (upd h b hb) (upd ι b bd) = upd (place h ι) b (hb.ver, if hb.live.isSome then some bd else none) := by
 funext c
 by_cases hc : c = b
 ·subst hc; simp [place, upd]
 ·simp [place, upd, hc]
theorem own_iff {h : Heap} {ι : Nat → Bd} {n : Nat} : Own (place h ι) n ↔ ∃ b, (h b).live.isSome = true ∧ (ι b).loc = some n := by
 constructor
 ·rintro ⟨b, bd, hb, hl⟩
  simp only [place] at hb
  split at hb
  ·rename_i hs; cases hb; exact ⟨b, hs, hl⟩
  ·cases hb
 ·rintro ⟨b, hs, hl⟩
  exact ⟨b, ι b, by simp [place, hs], hl⟩
theorem HRel.lt {w : World} {X : Nat → Prop} {ι : Nat → Bd} {h : Heap} (hr : HRel w X ι h) {n : Nat} (ho : Own (place h ι) n) : n < w.heap.size := by
 obtain ⟨b, hs, hl⟩ := own_iff.1 ho
 obtain ⟨blk, hb⟩ := Option.isSome_iff_exists.1 hs
 obtain ⟨_, _, h3⟩ := hr.blks b blk hb
 rw [hl] at h3
 obtain ⟨cs, e, h4, _⟩ := h3
 exact (Array.getElem?_eq_some_iff.1 h4).1
section
variable {w w1 : World} {X : Nat → Prop} {ι : Nat → Bd} {h : Heap}
theorem upd_evo (hr : HRel w X ι h) (b : Nat) (hb : HB) (bd : Bd) (hsz : w.heap.size ≤ w1.heap.size) (hos : w1.os = w.os) (htape : w1.tape = w.tape) (hout : w1.output = w.output)
  (hver : (hb.ver = (h b).ver ∧ (hb.live.isSome = true → (h b).live.isSome = true ∧ bd = ι b)) ∨ (h b).ver < hb.ver)
  (hkeep : ∀ n, n < w.heap.size → w1.heap[n]? = w.heap[n]? ∨ ((h b).live.isSome = true ∧ (ι b).loc = some n))
  (hnew : ∀ n, hb.live.isSome = true → bd.loc = some n → ((h b).live.isSome = true ∧ (ι b).loc = some n) ∨ w.heap.size ≤ n) :
  Evo w (place h ι) w1 (place (upd h b hb) (upd ι b bd)) where
 size := hsz
 keep n hn ho := by
  rcases hkeep n hn with e | ⟨e1, e2⟩
  ·exact e
  ·exact absurd (own_iff.2 ⟨b, e1, e2⟩) ho
 own n hn ho := by
  obtain ⟨c, hs, hl⟩ := own_iff.1 ho
  by_cases e : c = b
  ·subst e
   simp [upd] at hs hl
   rcases hnew n hs hl with ⟨h1, h2⟩ | h1
   ·exact own_iff.2 ⟨c, h1, h2⟩
   ·omega
  ·simp [upd, e] at hs hl
   exact own_iff.2 ⟨c, hs, hl⟩
 gle c := by
  rw [place_upd]
  by_cases e : c = b
  ·subst e
   simp only [upd_same]
   rcases hver with ⟨h1, h2⟩ | h1
   ·by_cases hl : hb.live.isSome = true
    ·obtain ⟨h3, h4⟩ := h2 hl
     exact .inl (by simp [place, hl, h1, h3, h4])
    ·exact .inr (.inr ⟨by simp [place, h1], by simp [hl]⟩)
   ·exact .inr (.inl (by simp [place, h1]))
  ·exact .inl (by simp [upd, e])
 os := hos
 tape := htape
 output := hout
theorem upd_rel (hr : HRel w X ι h) (b : Nat) (hb : HB) (bd : Bd) (hev : Evo w (place h ι) w1 (place (upd h b hb) (upd ι b bd)))
  (hkeep : ∀ n, n < w.heap.size → w1.heap[n]? = w.heap[n]? ∨ ((h b).live.isSome = true ∧ (ι b).loc = some n))
  (hnew : ∀ n, hb.live.isSome = true → bd.loc = some n → ((h b).live.isSome = true ∧ (ι b).loc = some n) ∨ w.heap.size ≤ n)
  (hblk : ∀ blk, hb.live = some blk → BlkRel w1 (Forb X (place (upd h b hb) (upd ι b bd))) (place (upd h b hb) (upd ι b bd)) bd blk) : HRel w1 X (upd ι b bd) (upd h b hb) where
 blks c blk hc := by
  by_cases e : c = b
  ·subst e
   simp only [upd_same] at hc ⊢
   exact hblk blk hc
  ·rw [upd_ne _ _ _ _ e] at hc ⊢
   obtain ⟨h1, h2, h3⟩ := hr.blks c blk hc
   refine ⟨h1, h2, ?_⟩
   cases hl : (ι c).loc with
   | none => rw [hl] at h3; exact h3
   | some n =>
    rw [hl] at h3
    obtain ⟨cs, t, h4, h5, h6, h7⟩ := h3
    have hn : n < w.heap.size := (Array.getElem?_eq_some_iff.1 h4).1
    have hsame : w1.heap[n]? = w.heap[n]? := by
     rcases hkeep n hn with e' | ⟨e1, e2⟩
     ·exact e'
     ·exact absurd (hr.inj c b n (by simp [hc]) e1 hl e2) e
    refine ⟨cs, t, by rw [hsame]; exact h4, h5, h6, fun i x j a hi hj => ?_⟩
    obtain ⟨v, h8, h9, h10⟩ := h7 i x j a hi hj
    exact ⟨v, h8, h9, h10.evo hev⟩
 inj c c' n hc hc' hl hl' := by
  by_cases e : c = b <;> by_cases e' : c' = b
  ·rw [e, e']
  ·subst e
   rw [upd_same] at hc hl
   rw [upd_ne _ _ _ _ e'] at hc' hl'
   have hn : n < w.heap.size := hr.lt (own_iff.2 ⟨c', hc', hl'⟩)
   rcases hnew n hc hl with ⟨h1, h2⟩ | h1
   ·exact hr.inj _ _ n h1 hc' h2 hl'
   ·omega
  ·subst e'
   rw [upd_same] at hc' hl'
   rw [upd_ne _ _ _ _ e] at hc hl
   have hn : n < w.heap.size := hr.lt (own_iff.2 ⟨c, hc, hl⟩)
   rcases hnew n hc' hl' with ⟨h1, h2⟩ | h1
   ·exact hr.inj _ _ n hc h1 hl h2
   ·omega
  ·rw [upd_ne _ _ _ _ e] at hc hl
   rw [upd_ne _ _ _ _ e'] at hc' hl'
   exact hr.inj _ _ n hc hc' hl hl'
 notX n ho hx := by
  have hn := hr.xlt n hx
  exact hr.notX n (hev.own n hn ho) hx
 xlt n hx := Nat.lt_of_lt_of_le (hr.xlt n hx) hev.size
/-- A new block, or a block in a new place. -/
theorem new_ok (hr : HRel w X ι h) (b : Nat) (blk : Blk) (cs : Array Value) (t : TypeId) (ver : Nat) (hver : (h b).ver < ver) (hheap : w1.heap = w.heap.push (.cells cs t)) (hos : w1.os = w.os) (htape : w1.tape = w.tape)
  (hout : w1.output = w.output) (hk : 0 < blk.k) (hlen : ∀ x ∈ blk.elems, x.length = blk.k)
  (hcells : ∀ (i : Nat) x (j : Nat) a, blk.elems[i]? = some x → x[j]? = some a → ∃ v, cs[i * blk.k + j]? = some v ∧ v.oneCell' = true ∧ VR w (Forb X (place h ι)) (place h ι) a v) :
  HRel w1 X (upd ι b ⟨some w.heap.size, blk.k, cs.size⟩) (upd h b ⟨ver, some blk⟩) ∧
   Evo w (place h ι) w1 (place (upd h b ⟨ver, some blk⟩) (upd ι b ⟨some w.heap.size, blk.k, cs.size⟩)) ∧
   place (upd h b ⟨ver, some blk⟩) (upd ι b ⟨some w.heap.size, blk.k, cs.size⟩) b = (ver, some ⟨some w.heap.size, blk.k, cs.size⟩) := by
 have hkeep : ∀ n, n < w.heap.size → w1.heap[n]? = w.heap[n]? ∨ ((h b).live.isSome = true ∧ (ι b).loc = some n) := by
  intro n hn
  refine .inl ?_
  rw [hheap, Array.getElem?_push, if_neg (by omega)]
 have hnew : ∀ n, ((⟨ver, some blk⟩ : HB).live).isSome = true → (⟨some w.heap.size, blk.k, cs.size⟩ : Bd).loc = some n → ((h b).live.isSome = true ∧ (ι b).loc = some n) ∨ w.heap.size ≤ n := by
  intro n _ hn
  simp at hn
  exact .inr (by omega)
 have hev := upd_evo (w1 := w1) hr b ⟨ver, some blk⟩ ⟨some w.heap.size, blk.k, cs.size⟩ (by rw [hheap]; simp) hos htape hout (.inr hver) hkeep hnew
 refine ⟨upd_rel hr b _ _ hev hkeep hnew ?_, hev, by rw [place_upd]; simp [upd]⟩
 intro blk' hb
 simp at hb
 subst hb
 refine ⟨rfl, hk, cs, t, by rw [hheap]; simp, rfl, hlen, fun i x j a hi hj => ?_⟩
 obtain ⟨v, h1, h2, h3⟩ := hcells i x j a hi hj
 exact ⟨v, h1, h2, h3.evo hev⟩
/-- A row that lies nowhere yet. -/
theorem nil_ok (hr : HRel w X ι h) (b : Nat) (k : Nat) (ver : Nat) (hver : (h b).ver < ver) (hk : 0 < k) :
  HRel w X (upd ι b ⟨none, k, 0⟩) (upd h b ⟨ver, some ⟨k, []⟩⟩) ∧
   Evo w (place h ι) w (place (upd h b ⟨ver, some ⟨k, []⟩⟩) (upd ι b ⟨none, k, 0⟩)) ∧
   place (upd h b ⟨ver, some ⟨k, []⟩⟩) (upd ι b ⟨none, k, 0⟩) b = (ver, some ⟨none, k, 0⟩) := by
 have hkeep : ∀ n, n < w.heap.size → w.heap[n]? = w.heap[n]? ∨ ((h b).live.isSome = true ∧ (ι b).loc = some n) := fun n _ => .inl rfl
 have hnew : ∀ n, ((⟨ver, some ⟨k, []⟩⟩ : HB).live).isSome = true → (⟨none, k, 0⟩ : Bd).loc = some n → ((h b).live.isSome = true ∧ (ι b).loc = some n) ∨ w.heap.size ≤ n := by
  intro n _ hn
  simp at hn
 have hev := upd_evo (w1 := w) hr b ⟨ver, some ⟨k, []⟩⟩ ⟨none, k, 0⟩ (Nat.le_refl _) rfl rfl rfl (.inr hver) hkeep hnew
 refine ⟨upd_rel hr b _ _ hev hkeep hnew ?_, hev, by rw [place_upd]; simp [upd]⟩
 intro blk' hb
 simp at hb
 subst hb
 exact ⟨rfl, hk, rfl⟩
/-- A living block is written in its place. -/
theorem write_ok (hr : HRel w X ι h) (b : Nat) (blk blk' : Blk) (hb : (h b).live = some blk) (n : Nat) (hl : (ι b).loc = some n) (cs cs' : Array Value) (t : TypeId) (hcs : w.heap[n]? = some (.cells cs t (0, 0)))
  (hsz : cs'.size = cs.size) (hw1 : w1 = w.setRow n cs') (hk : blk'.k = blk.k) (hlen : ∀ x ∈ blk'.elems, x.length = blk'.k)
  (hcells : ∀ (i : Nat) x (j : Nat) a, blk'.elems[i]? = some x → x[j]? = some a → ∃ v, cs'[i * blk'.k + j]? = some v ∧ v.oneCell' = true ∧ VR w (Forb X (place h ι)) (place h ι) a v) :
  HRel w1 X ι (upd h b ⟨(h b).ver, some blk'⟩) ∧ Evo w (place h ι) w1 (place (upd h b ⟨(h b).ver, some blk'⟩) ι) ∧ place (upd h b ⟨(h b).ver, some blk'⟩) ι = place h ι := by
 obtain ⟨h1, h2, h3⟩ := hr.blks b blk hb
 rw [hl] at h3
 obtain ⟨cs0, t0, h4, h5, h6, h7⟩ := h3
 rw [hcs] at h4
 simp only [Option.some.injEq, Obj.cells.injEq] at h4
 obtain ⟨rfl, rfl, _⟩ := h4
 have hι : upd ι b (ι b) = ι := by funext c; by_cases e : c = b <;> simp [upd, e]
 have hrow : w1.heap[n]? = some (.cells cs' t (0, 0)) := by rw [hw1]; exact setRow_heap w n cs cs' t _ hcs
 have hkeep : ∀ m, m < w.heap.size → w1.heap[m]? = w.heap[m]? ∨ ((h b).live.isSome = true ∧ (ι b).loc = some m) := by
  intro m hm
  by_cases e : m = n
  ·subst e; exact .inr ⟨by simp [hb], hl⟩
  ·refine .inl ?_
   rw [hw1]; exact setRow_other w n m cs' e
 have hnew : ∀ m, ((⟨(h b).ver, some blk'⟩ : HB).live).isSome = true → (ι b).loc = some m → ((h b).live.isSome = true ∧ (ι b).loc = some m) ∨ w.heap.size ≤ m := fun m _ hm => .inl ⟨by simp [hb], hm⟩
 have hev := upd_evo (w1 := w1) hr b ⟨(h b).ver, some blk'⟩ (ι b) (by rw [hw1]; simp [World.setRow]) (by rw [hw1]; rfl) (by rw [hw1]; rfl) (by rw [hw1]; rfl) (.inl ⟨rfl, fun _ => ⟨by simp [hb], rfl⟩⟩) hkeep hnew
 rw [hι] at hev
 have hrel := upd_rel (w1 := w1) hr b ⟨(h b).ver, some blk'⟩ (ι b) (by rw [hι]; exact hev) hkeep hnew ?_
 ·rw [hι] at hrel
  refine ⟨hrel, hev, ?_⟩
  funext c
  by_cases e : c = b
  ·subst e; simp [place, upd, hb]
  ·simp [place, upd, e]
 ·intro blk0 h0
  simp at h0
  subst h0
  rw [hι]
  refine ⟨by rw [hk]; exact h1, h2, ?_⟩
  rw [hl]
  refine ⟨cs', t, hrow, by rw [hsz]; exact h5, fun x hx => by rw [hlen x hx, hk, h1], fun i x j a hi hj => ?_⟩
  obtain ⟨v, h8, h9, h10⟩ := hcells i x j a hi hj
  rw [hk, h1] at h8
  exact ⟨v, h8, h9, h10.evo hev⟩
end
end Go.Abs
/- What one operation of the abstract machine does is what the program's operation does in memory. Second part: the operations that leave memory alone. -/
set_option linter.unusedVariables false
set_option linter.unusedSimpArgs false
namespace Go.Abs
def hOf (h : Heap) (e : Eff) : Heap := match e.w with | some (b, x) => upd h b x | none => h
def OpOK (P : Program) (o : Oper) (X : Nat → Prop) (ι : Nat → Bd) (h : Heap) (a : Act) (w : World) (e : Eff) : Prop :=
 ∃ r w' ι', ((execOp a.eval o).run P w = .ok (.value r) w' ∨ ((execOp a.eval o).run P w = .ok .skip w' ∧ o.dst = none)) ∧ HRel w' X ι' (hOf h e) ∧
  VR w' (Forb X (place (hOf h e) ι')) (place (hOf h e) ι') e.v r ∧ Evo w (place h ι) w' (place (hOf h e) ι')
section
variable {P : Program} {o : Oper} {X : Nat → Prop} {ι : Nat → Bd} {h : Heap} {a : Act} {w : World} {e : Eff}
theorem pure_OK {r : Value} (hr : HRel w X ι h) (he : e.w = none) (hrun : (execOp a.eval o).run P w = .ok (.value r) w) (hv : VR w (Forb X (place h ι)) (place h ι) e.v r) :
  OpOK P o X ι h a w e := by
 have hh : hOf h e = h := by simp [hOf, he]
 exact ⟨r, w, ι, .inl hrun, by rw [hh]; exact hr, by rw [hh]; exact hv, by rw [hh]; exact Evo.refl _ _⟩
theorem avCell_ok (F : Nat → Prop) (G : Pl) (v : Value) : VR w F G (avCell v) v := by
 unfold avCell
 split
 ·exact .d _ _ (.int _ _)
 ·exact .d _ _ (.bool _)
 ·exact .d _ _ (.str _)
 ·exact .d _ _ .nil
 ·exact .undef _
theorem avOf_ok (F : Nat → Prop) (G : Pl) (v : Value) : VR w F G (avOf v) v := by
 unfold avOf
 split
 ·rename_i cs
  split
  ·rename_i h1
   refine .agg _ _ (by simp) (fun v hv => ?_) (fun j c v hc hv => ?_)
   ·exact Array.all_eq_true_iff_forall_mem.1 h1 v hv
   ·simp only [List.getElem?_map, Array.getElem?_toList, hv, Option.map_some, Option.some.injEq] at hc
    subst hc
    exact avCell_ok F G v
  ·exact .undef _
 ·exact avCell_ok F G _
def EnvOK (w : World) (F : Nat → Prop) (G : Pl) (env : Env) (a : Act) : Prop := ∀ t, VR w F G (env t) (a.tmps.getD t undef)
theorem arg_ok {F : Nat → Prop} {G : Pl} {env : Env} (he : EnvOK w F G env a) (x : Operand) : VR w F G ((arg x).ev env) (a.eval x) := by
 cases x with
 | tmp t => exact he t
 | const v => exact avOf_ok F G v
 | global g => exact .undef _
 | func f => exact .fn _ _ _ rfl (fun j c v hc => by simp at hc)
theorem exec_value {s : Sem Value} {v : Value} {w' : World} (hs : s.run P w = .ok v w') : (do pure (Next.value (← s)) : Sem Next).run P w = .ok (.value v) w' := by
 simp [Sem.run_bind, hs]
theorem DR.one {F : Nat → Prop} {x : D} {v : Value} (hv : DR w F x v) : v.oneCell' = true := by cases hv <;> rfl
theorem VR.one {F : Nat → Prop} {G : Pl} {x : AV} {v : Value} (hc : isCell x = true) (hv : VR w F G x v) : v.oneCell' = true := by
 cases hv <;> first | rfl | (simp [isCell] at hc; done) | (rename_i h; exact h.one)
theorem cells_of_one {v : Value} (h : v.oneCell' = true) : v.cells = #[v] := by cases v <;> first | rfl | (simp [Value.oneCell'] at h)
theorem cellsOf_not_agg {x : AV} (h : ∀ cs, x ≠ .agg cs) : cellsOf x = [x] := by
 cases x <;> first | rfl | exact absurd rfl (h _)
/-- The cells of an abstract value are those of the value. -/
theorem cells_ok {F : Nat → Prop} {G : Pl} {x : AV} {v : Value} (hv : VR w F G x v) (hc : (cellsOf x).all isCell = true) :
  v.cells.size = (cellsOf x).length ∧ ∀ (j : Nat) c, (cellsOf x)[j]? = some c → ∃ u, v.cells[j]? = some u ∧ u.oneCell' = true ∧ VR w F G c u := by
 by_cases hx : ∃ cs, x = .agg cs
 ·obtain ⟨cs, rfl⟩ := hx
  cases hv with
  | agg cs vs hl h1 hr =>
   refine ⟨hl, fun j c hj => ?_⟩
   have hlt : j < cs.length := (List.getElem?_eq_some_iff.1 hj).1
   have hv : vs[j]? = some vs[j] := by simp [hl, hlt]
   exact ⟨_, hv, h1 _ (by simp), hr j c _ hj hv⟩
 ·have hx' := cellsOf_not_agg (fun cs e => hx ⟨cs, e⟩)
  rw [hx'] at hc ⊢
  simp at hc
  have h1 := hv.one hc
  rw [cells_of_one h1]
  refine ⟨rfl, fun j c hj => ?_⟩
  cases j with
  | succ j => simp at hj
  | zero =>
   simp at hj
   subst hj
   exact ⟨v, rfl, h1, hv⟩
theorem so_mov {x : Operand} (hr : HRel w X ι h) {env : Env} (he : EnvOK w (Forb X (place h ι)) (place h ι) env a) (dst : Nat) (hop : o.op = .move x ∨ o.op = .assign x) (hx : exec (.mov (arg x)) dst env h = some e) :
  OpOK P o X ι h a w e := by
 simp [exec] at hx
 subst hx
 refine pure_OK hr rfl (r := a.eval x) ?_ (arg_ok he x)
 rcases hop with hop | hop <;> simp [execOp, hop]
theorem so_pick {c x y : Operand} (hr : HRel w X ι h) {env : Env} (he : EnvOK w (Forb X (place h ι)) (place h ι) env a) (dst : Nat) (hop : o.op = .pick c x y)
  (hx : exec (.pick (arg c) (arg x) (arg y)) dst env h = some e) : OpOK P o X ι h a w e := by
 have hc := arg_ok he c
 simp only [exec] at hx
 split at hx
 ·rename_i t ht
  rw [ht] at hc
  cases hc with
  | d _ _ hd =>
   generalize hv : a.eval c = vc at hd
   cases hd
   simp at hx
   subst hx
   refine pure_OK hr rfl (r := if t then a.eval x else a.eval y) ?_ ?_
   ·simp [execOp, hop, hv, asBool]
   ·cases t
    ·exact arg_ok he y
    ·exact arg_ok he x
 ·cases hx
theorem VR.int_inv {F : Nat → Prop} {G : Pl} {k : IntKind} {n : Int} {v : Value} (h : VR w F G (.d (.int k n)) v) : v = .int k n := by
 cases h with | d _ _ hd => cases hd; rfl
theorem VR.bool_inv {F : Nat → Prop} {G : Pl} {b : Bool} {v : Value} (h : VR w F G (.d (.bool b)) v) : v = .bool b := by
 cases h with | d _ _ hd => cases hd; rfl
theorem VR.str_inv {F : Nat → Prop} {G : Pl} {s : ByteArray} {v : Value} (h : VR w F G (.d (.str s)) v) : v = .string s := by
 cases h with | d _ _ hd => cases hd; rfl
theorem VR.nil_inv {F : Nat → Prop} {G : Pl} {v : Value} (h : VR w F G (.d .nil) v) : v = .slice none 0 0 := by
 cases h with | d _ _ hd => cases hd; rfl
theorem so_not {x : Operand} (hr : HRel w X ι h) {env : Env} (he : EnvOK w (Forb X (place h ι)) (place h ι) env a) (dst : Nat) (t : TypeId) (hop : o.op = .unOp .not t x)
  (hx : exec (.not (arg x)) dst env h = some e) : OpOK P o X ι h a w e := by
 have hc := arg_ok he x
 simp only [exec] at hx
 split at hx
 ·rename_i b hb
  rw [hb] at hc
  have hv := hc.bool_inv
  simp at hx
  subst hx
  refine pure_OK hr rfl (r := .bool !b) ?_ (.d _ _ (.bool _))
  simp [execOp, hop, hv, Op.unary]
 ·cases hx
theorem intOfA_ok {F : Nat → Prop} {G : Pl} {x : AV} {v : Value} {n : Int} (h : VR w F G x v) (hi : intOfA x = some n) : ∃ k, v = .int k n := by
 unfold intOfA at hi
 split at hi
 ·simp at hi; subst hi; exact ⟨_, h.int_inv⟩
 ·cases hi
theorem so_conv {x : Operand} (hr : HRel w X ι h) {env : Env} (he : EnvOK w (Forb X (place h ι)) (place h ι) env a) (dst : Nat) (src dt : TypeId) (ds : TypeDesc) (k : IntKind) (hop : o.op = .convert src dt x)
  (h1 : P.underlying src = some ds) (h2 : P.underlying dt = some (.int k)) (hx : exec (.conv k (arg x)) dst env h = some e) : OpOK P o X ι h a w e := by
 have hc := arg_ok he x
 simp only [exec] at hx
 split at hx
 ·rename_i k' n hb
  rw [hb] at hc
  have hv := hc.int_inv
  simp at hx
  subst hx
  refine pure_OK hr rfl (r := .int k (k.wrap n)) ?_ (.d _ _ (.int _ _))
  simp [execOp, hop, hv, convert, run_underlying h1, run_underlying h2, Conv.intToInt]
 ·cases hx
theorem binI_ok {op : BinOp} {k : IntKind} {m n : Int} {d : D} (t : TypeId) (h : binI op k m n = some d) : ∃ v, (binOp op t (.int k m) (.int k n)).run P w = .ok v w ∧ ∀ F, DR w F d v := by
  cases op <;> simp only [binI] at h <;> try (cases h; done)
  all_goals first
    | (simp at h; subst h; exact ⟨_, (by simp [binOp, Op.intArith, Op.intCmp]; rfl), fun F => by first | exact .int _ _ | exact .bool _⟩)
    | (split at h
       · cases h
       · rename_i hb
         simp at h; subst h
         exact ⟨_, (by simp [binOp, Op.intDiv, hb]; try rfl), fun F => .int _ _⟩)
theorem eqGuard_int {op : BinOp} {t : TypeId} {x y : Operand} {u v : Value} (h : u.oneCell' = true) (hi : u ≠ .nilIface) : (eqGuard op t x y u v).run P w = .ok () w := by
 unfold eqGuard
 cases u <;> first | exact absurd rfl hi | (simp [Value.oneCell'] at h; done) | (cases op <;> rfl)
theorem binS_ok {op : BinOp} {m n : ByteArray} {d : D} (t : TypeId) (h : binS op m n = some d) : ∃ v, (binOp op t (.string m) (.string n)).run P w = .ok v w ∧ ∀ F, DR w F d v := by
 cases op <;> simp only [binS] at h <;> try (cases h; done)
 ·split at h
  ·rename_i hb
   simp at h; subst h
   refine ⟨_, ?_, fun F => .str _⟩
   have hle : ¬ (((m.size + n.size : Nat) : Int) > IntKind.i64.max) := by
    simp [maxL, IntKind.max, IntKind.signed, IntKind.bits] at hb ⊢
    omega
   simp only [binOp, Op.stringOp, if_neg hle]
   rfl
  ·cases h
 all_goals (simp at h; subst h; exact ⟨_, (by simp [binOp, Op.stringOp]; try rfl), fun F => .bool _⟩)
theorem so_bin {op : BinOp} {x y : Operand} (hr : HRel w X ι h) {env : Env} (he : EnvOK w (Forb X (place h ι)) (place h ι) env a) (dst : Nat) (t u : TypeId) (hop : o.op = .binOp op t x y u)
  (hx : exec (.bin op (arg x) (arg y)) dst env h = some e) : OpOK P o X ι h a w e := by
 have hc := arg_ok he x
 have hd := arg_ok he y
 simp only [exec, Option.bind_eq_some_iff] at hx
 obtain ⟨d, hd1, hx⟩ := hx
 simp at hx
 subst hx
 have key : ∀ v1 v2, a.eval x = v1 → a.eval y = v2 → v1.oneCell' = true → v1 ≠ .nilIface → (∃ v, (binOp op t v1 v2).run P w = .ok v w ∧ ∀ F, DR w F d v) → OpOK P o X ι h a w ⟨.d d, none, []⟩ := by
  rintro v1 v2 e1 e2 h1 h2 ⟨v, h3, h4⟩
  refine pure_OK hr rfl (r := v) ?_ (.d _ _ (h4 _))
  simp [execOp, hop, e1, e2, Sem.run_bind, eqGuard_int h1 h2, h3]
 unfold bin at hd1
 split at hd1
 ·rename_i k m k' n h1 h2
  rw [h1] at hc
  rw [h2] at hd
  split at hd1
  ·rename_i hk
   subst hk
   exact key _ _ hc.int_inv hd.int_inv rfl (by simp) (binI_ok t hd1)
  ·cases hd1
 ·rename_i m n h1 h2
  rw [h1] at hc
  rw [h2] at hd
  exact key _ _ hc.str_inv hd.str_inv rfl (by simp) (binS_ok t hd1)
 ·cases hd1
theorem equal_bool {t : TypeId} (ht : P.underlying t = some .bool) (m n : Bool) : (Op.equal t (.bool m) (.bool n)).run P w = .ok (m == n) w := by
 show (Op.equalIn (9999 + 1) t (.bool m) (.bool n)).run P w = _
 rw [Op.equalIn]
 simp [run_underlying ht]
theorem equal_slice_nil {t E : TypeId} (ht : P.underlying t = some (.slice E)) (A : Option Addr) (n c : Nat) : (Op.equal t (.slice A n c) (.slice none 0 0)).run P w = .ok A.isNone w := by
 show (Op.equalIn (9999 + 1) t (.slice A n c) (.slice none 0 0)).run P w = _
 rw [Op.equalIn]
 cases A <;> simp [run_underlying ht]
theorem so_eqb {op : BinOp} {neg : Bool} {x y : Operand} (hr : HRel w X ι h) {env : Env} (he : EnvOK w (Forb X (place h ι)) (place h ι) env a) (dst : Nat) (t u : TypeId) (hop : o.op = .binOp op t x y u)
  (hn : (op = .eql ∧ neg = false) ∨ (op = .neq ∧ neg = true)) (ht : P.underlying t = some .bool) (hx : exec (.eqb neg (arg x) (arg y)) dst env h = some e) : OpOK P o X ι h a w e := by
 have hc := arg_ok he x
 have hd := arg_ok he y
 simp only [exec] at hx
 split at hx
 ·rename_i m n h1 h2
  rw [h1] at hc
  rw [h2] at hd
  have hc := hc.bool_inv
  have hd := hd.bool_inv
  simp at hx
  subst hx
  refine pure_OK hr rfl (r := .bool (if neg = true then !(m == n) else m == n)) ?_ (.d _ _ (.bool _))
  rcases hn with ⟨rfl, rfl⟩ | ⟨rfl, rfl⟩ <;>
   simp [execOp, hop, hc, hd, Sem.run_bind, eqGuard_int (P := P) (w := w) (u := .bool m) rfl (by simp), binOp, equal_bool ht]
 ·cases hx
theorem live_place {b ver : Nat} {blk : Blk} (hb : getBlk h b ver = some blk) : place h ι b = (ver, some (ι b)) ∧ (h b).live = some blk ∧ (h b).ver = ver := by
 unfold getBlk at hb
 split at hb
 ·rename_i hv
  exact ⟨by simp [place, hv, hb], hb, hv⟩
 ·cases hb
theorem so_eqn {op : BinOp} {neg : Bool} {x y : Operand} (hr : HRel w X ι h) {env : Env} (he : EnvOK w (Forb X (place h ι)) (place h ι) env a) (dst : Nat) (t u E : TypeId) (hop : o.op = .binOp op t x y u)
  (hn : (op = .eql ∧ neg = false) ∨ (op = .neq ∧ neg = true)) (ht : P.underlying t = some (.slice E)) (hx : exec (.eqn neg (arg x) (arg y)) dst env h = some e) : OpOK P o X ι h a w e := by
 have hc := arg_ok he x
 have hd := arg_ok he y
 simp only [exec] at hx
 split at hx
 ·rename_i h2
  rw [h2] at hd
  have hd := hd.nil_inv
  have fin : ∀ r : Bool, e.w = none → e.v = .d (.bool (if neg then !r else r)) → (∃ A n c, a.eval x = .slice A n c ∧ A.isNone = r) → OpOK P o X ι h a w e := by
   intro r hw hev hv
   obtain ⟨A, n, c, hv, hA⟩ := hv
   refine pure_OK hr hw (r := .bool (if neg = true then !r else r)) ?_ (by rw [hev]; exact .d _ _ (.bool _))
   rcases hn with ⟨rfl, rfl⟩ | ⟨rfl, rfl⟩ <;> cases A <;> simp at hA <;> subst hA <;>
    simp [execOp, hop, hv, hd, Sem.run_bind, eqGuard_int (P := P) (w := w) (u := .slice _ _ _) rfl (by simp), binOp, equal_slice_nil ht]
  split at hx
  ·rename_i b ver i n cap h1
   rw [h1] at hc
   simp only [Option.bind_eq_some_iff] at hx
   obtain ⟨blk, hb, hx⟩ := hx
   split at hx
   ·rename_i h0
    simp only [Option.some.injEq] at hx
    subst hx
    refine fin false rfl (by cases neg <;> rfl) ?_
    obtain ⟨hp, hlv, hver⟩ := live_place (ι := ι) hb
    generalize a.eval x = vx at hc
    cases hc with
    | slX _ _ _ _ _ a' m c' hd' => rw [hp] at hd'; simp at hd'
    | slN => omega
    | sl _ _ _ _ _ nb k sz a' c' hg h1' h2' h3' h4' h5' =>
     rcases h4' with h4' | h4'
     ·omega
     ·exact ⟨_, _, _, rfl, by rw [h4']; rfl⟩
   ·cases hx
  ·simp only [Option.bind_eq_some_iff] at hx
   obtain ⟨r, hr1, hx⟩ := hx
   simp only [Option.some.injEq] at hx
   subst hx
   refine fin r rfl rfl ?_
   unfold isNilSl at hr1
   split at hr1
   ·rename_i h1
    rw [h1] at hc
    simp at hr1
    exact ⟨none, 0, 0, hc.nil_inv, by simp [hr1]⟩
   ·rename_i z zs h1
    rw [h1] at hc
    simp at hr1
    cases hc with | d _ _ hd' =>
    generalize a.eval x = vx at hd'
    cases hd' with
    | slice xs k blk off c vs => exact ⟨_, _, _, rfl, by simp [hr1]⟩
   ·cases hr1
 ·cases hx
theorem eqD_ok {F F' : Nat → Prop} {x y : D} {u v : Value} {r : Bool} {f : Field} {j k : Nat} (d : Nat) (hx : DR w F x u) (hy : DR w F' y v) (hk : flatField P f j = some k) (hr : eqD k x y = some r) :
  (Op.equalIn (d + 1) f.type u v).run P w = .ok r w := by
 unfold flatField at hk
 split at hk
 ·split at hk <;> simp at hk <;> subst hk <;> (rename_i ht; unfold eqD at hr; split at hr) <;> first | (cases hr; done) | contradiction | skip
  ·rename_i h0
   cases hx; cases hy
   split at hr
   ·rename_i hkk
    subst hkk
    simp at hr
    subst hr
    exact run_equalIn_int w d f.type _ _ _ _ ht
   ·cases hr
  ·cases hx; cases hy
   simp at hr
   subst hr
   exact run_equalIn_bool w d f.type _ _ ht
  ·cases hx; cases hy
   simp at hr
   subst hr
   exact run_equalIn_string w d f.type _ _ ht
 ·cases hk
theorem part_flat {f : Field} {j k : Nat} (hk : flatField P f j = some k) {cs : Array Value} {u : Value} (hu : cs[j]? = some u) : f.name ≠ "_" ∧ (part f.type cs f.offset).run P w = .ok u w := by
 unfold flatField at hk
 split at hk
 ·rename_i hc
  simp only [Bool.and_eq_true, bne_iff_ne, beq_iff_eq, ne_eq] at hc
  obtain ⟨⟨h1, h2⟩, _⟩ := hc
  refine ⟨h1, ?_⟩
  rw [h2]
  split at hk <;> first | (cases hk; done) | (rename_i ht; simp [part, isAgg, run_underlying ht, hu])
 ·cases hk
theorem eqCells_ok {F : Nat → Prop} {G : Pl} (d : Nat) {cs ds : List AV} {xs ys : Array Value} (hx : ∀ (j : Nat) c, cs[j]? = some c → ∃ u, xs[j]? = some u ∧ VR w F G c u) (hy : ∀ (j : Nat) c, ds[j]? = some c → ∃ u, ys[j]? = some u ∧ VR w F G c u) :
  ∀ (fs : List Field) (j : Nat) (ks : List Nat) (r : Bool), flatFields P fs j = some ks → eqCells ks (cs.drop j) (ds.drop j) = some r → (Op.eqFields (d + 1) xs ys fs).run P w = .ok r w := by
 intro fs
 induction fs with
 | nil =>
  intro j ks r hf he
  simp [flatFields] at hf
  subst hf
  cases h1 : cs.drop j <;> cases h2 : ds.drop j <;> simp [h1, h2, eqCells] at he
  subst he
  simp [Op.eqFields]
 | cons f fs ih =>
  intro j ks r hf he
  simp only [flatFields, Option.bind_eq_some_iff] at hf
  obtain ⟨k, hk, ks', hks, hh⟩ := hf
  simp at hh
  subst hh
  cases h1 : cs.drop j with
  | nil => simp [h1, eqCells] at he
  | cons a als =>
   cases h2 : ds.drop j with
   | nil => cases a <;> simp [h1, h2, eqCells] at he
   | cons b bs =>
    rw [h1, h2] at he
    cases a with
    | d x =>
     cases b with
     | d y =>
      simp only [eqCells, Option.bind_eq_some_iff] at he
      obtain ⟨p, hp, q, hq, hh⟩ := he
      simp at hh
      have ha : cs[j]? = some (.d x) := by
       have := congrArg (·[0]?) h1; simpa using this
      have hb : ds[j]? = some (.d y) := by
       have := congrArg (·[0]?) h2; simpa using this
      have ha' : cs.drop (j + 1) = als := by
       have := congrArg (List.drop 1) h1
       simpa [List.drop_drop] using this
      have hb' : ds.drop (j + 1) = bs := by
       have := congrArg (List.drop 1) h2
       simpa [List.drop_drop] using this
      obtain ⟨u, hu, hru⟩ := hx j _ ha
      obtain ⟨v, hv, hrv⟩ := hy j _ hb
      obtain ⟨hn, pu⟩ := part_flat (P := P) (w := w) hk hu
      obtain ⟨_, pv⟩ := part_flat (P := P) (w := w) hk hv
      have heq : (Op.equalIn (d + 1) f.type u v).run P w = .ok p w := by
       cases hru with | d _ _ hdu => cases hrv with | d _ _ hdv => exact eqD_ok d hdu hdv hk hp
      have hrest := ih (j + 1) ks' q hks (by rw [ha', hb']; exact hq)
      subst hh
      simp only [Op.eqFields, ne_eq, hn, not_false_eq_true, if_true, Sem.run_bind, pu, pv, Result.andThen_ok, heq]
      cases p <;> simp [hrest]
     | _ => simp [eqCells] at he
    | _ => simp [eqCells] at he
theorem so_eqs {op : BinOp} {neg : Bool} {x y : Operand} (hr : HRel w X ι h) {env : Env} (he : EnvOK w (Forb X (place h ι)) (place h ι) env a) (dst : Nat) (t u : TypeId) (fs : Array Field) (ks : List Nat) (hop : o.op = .binOp op t x y u)
  (hn : (op = .eql ∧ neg = false) ∨ (op = .neq ∧ neg = true)) (ht : P.underlying t = some (.struct fs)) (hs : P.stoodInHeld t = false) (hg : P.eqGuardType P.depth t = false) (hf : flatFields P fs.toList 0 = some ks)
  (hx : exec (.eqs neg ks (arg x) (arg y)) dst env h = some e) : OpOK P o X ι h a w e := by
 have hc := arg_ok he x
 have hd := arg_ok he y
 simp only [exec] at hx
 split at hx
 ·rename_i cs ds h1 h2
  rw [h1] at hc
  rw [h2] at hd
  simp only [Option.bind_eq_some_iff] at hx
  obtain ⟨r, hr1, hx⟩ := hx
  simp at hx
  subst hx
  generalize hvx : a.eval x = vx at hc
  generalize hvy : a.eval y = vy at hd
  cases hc with
  | agg _ xs hl1 _ hrx =>
   cases hd with
   | agg _ ys hl2 _ hry =>
    have hfo : P.fieldsOf t = fs := by simp [Program.fieldsOf, ht]
    have hst : P.underlying t = some (.struct (P.fieldsOf t)) := by rw [hfo]; exact ht
    have gx : ∀ {als : List AV} {zs : Array Value}, zs.size = als.length → (∀ (j : Nat) c v, als[j]? = some c → zs[j]? = some v → VR w (Forb X (place h ι)) (place h ι) c v) →
      ∀ (j : Nat) c, als[j]? = some c → ∃ u, zs[j]? = some u ∧ VR w (Forb X (place h ι)) (place h ι) c u := by
     intro als zs hl hr j c hj
     have hlt : j < als.length := (List.getElem?_eq_some_iff.1 hj).1
     have hz : zs[j]? = some zs[j] := by simp [hl, hlt]
     exact ⟨_, hz, hr j c _ hj hz⟩
    have hrun := eqCells_ok (P := P) (w := w) 9998 (gx hl1 hrx) (gx hl2 hry) fs.toList 0 ks r hf (by simpa using hr1)
    have heq : (Op.equalIn 10000 t (.agg xs) (.agg ys)).run P w = .ok r w := by
     rw [show (10000 : Nat) = 9999 + 1 from rfl, run_equalIn_struct w 9999 t xs ys hst hs, hfo]
     exact hrun
    refine pure_OK hr rfl (r := .bool (if neg = true then !r else r)) ?_ (.d _ _ (.bool _))
    rcases hn with ⟨rfl, rfl⟩ | ⟨rfl, rfl⟩
    ·simp [execOp, hop, hvx, hvy, Sem.run_bind, run_eqGuard_agg (P := P) w .eql t x y xs ys hg, run_eql_struct, heq]
    ·simp [execOp, hop, hvx, hvy, Sem.run_bind, run_eqGuard_agg (P := P) w .neq t x y xs ys hg, run_neq_struct, heq]
 ·cases hx
end
end Go.Abs
/- What one operation of the abstract machine does is what the program's operation does in memory. Third part: reading operations. -/
set_option linter.unusedVariables false
set_option linter.unusedSimpArgs false
namespace Go.Abs
section
variable {P : Program} {o : Oper} {X : Nat → Prop} {ι : Nat → Bd} {h : Heap} {a : Act} {w : World} {e : Eff}
theorem VR.ptr_inv {F : Nat → Prop} {b ver i o : Nat} {v : Value} {blk : Blk} (hv : VR w F (place h ι) (.ptr b ver i o) v) (hb : getBlk h b ver = some blk) :
  ∃ n, (ι b).loc = some n ∧ v = .pointer (some ⟨n, i * (ι b).k + o, none⟩) := by
 obtain ⟨hp, _, _⟩ := live_place (ι := ι) hb
 cases hv with
 | ptrX _ _ _ _ a hh => rw [hp] at hh; simp at hh
 | ptr _ _ _ _ n k sz hh =>
  rw [hp] at hh
  simp only [Prod.mk.injEq, Option.some.injEq, true_and] at hh
  exact ⟨n, by rw [hh], by rw [hh]⟩
theorem VR.sl_inv {F : Nat → Prop} {b ver i n cap : Nat} {v : Value} {blk : Blk} (hv : VR w F (place h ι) (.sl b ver i n cap) v) (hb : getBlk h b ver = some blk) :
  ((ι b).loc = none ∧ i = 0 ∧ n = 0 ∧ cap = 0 ∧ ∃ A, v = .slice A 0 0) ∨
  ∃ nb c A, (ι b).loc = some nb ∧ v = .slice A n c ∧ n ≤ c ∧ cap ≤ c ∧ (n ≤ maxL ∧ cap ≤ maxL) ∧ (c = 0 ∨ A = some ⟨nb, i * (ι b).k, none⟩) ∧ (i + c) * (ι b).k ≤ (ι b).sz := by
 obtain ⟨hp, _, _⟩ := live_place (ι := ι) hb
 cases hv with
 | slX _ _ _ _ _ a m c hh => rw [hp] at hh; simp at hh
 | slN _ _ k sz A hh =>
  rw [hp] at hh
  simp only [Prod.mk.injEq, Option.some.injEq, true_and] at hh
  exact .inl ⟨by rw [hh], rfl, rfl, rfl, A, rfl⟩
 | sl _ _ _ _ _ nb k sz A c hh h1 h2 h3 h4 h5 =>
  rw [hp] at hh
  simp only [Prod.mk.injEq, Option.some.injEq, true_and] at hh
  exact .inr ⟨nb, c, A, by rw [hh], rfl, h1, h2, h3, by rw [hh]; exact h4, by rw [hh]; exact h5⟩
theorem some_of_isSome {b ver : Nat} (hb : (getBlk h b ver).isSome = true) : ∃ blk, getBlk h b ver = some blk := Option.isSome_iff_exists.1 hb
theorem so_func {f : FuncId} {first caps : Array Operand} (hr : HRel w X ι h) {env : Env} (he : EnvOK w (Forb X (place h ι)) (place h ι) env a) (dst : Nat) (hop : o.op = .makeFunc (.func f) first caps) (hf : first.size = 0)
  (hx : exec (.func f (caps.toList.map arg)) dst env h = some e) : OpOK P o X ι h a w e := by
 simp [exec] at hx
 subst hx
 have h0 : first = #[] := by simpa using hf
 subst h0
 refine pure_OK hr rfl (r := .func (.func f) #[] (caps.map a.eval)) (by simp [execOp, hop, Instr.makeFunc]) (.fn _ _ _ (by simp) (fun j c v hc hv => ?_))
 simp only [List.getElem?_map, Array.getElem?_toList, Option.map_eq_some_iff] at hc
 simp only [Array.getElem?_map, Option.map_eq_some_iff] at hv
 obtain ⟨x, hx, rfl⟩ := hv
 obtain ⟨y, hy, rfl⟩ := hc
 rw [hx] at hy
 simp at hy
 subst hy
 exact arg_ok he x
theorem so_ext {x : Operand} {i : Nat} (hr : HRel w X ι h) {env : Env} (he : EnvOK w (Forb X (place h ι)) (place h ι) env a) (dst : Nat) (hop : o.op = .extract x i)
  (hx : exec (.ext (arg x) i) dst env h = some e) : OpOK P o X ι h a w e := by
 have hc := arg_ok he x
 simp only [exec] at hx
 split at hx
 ·rename_i vs hv
  rw [hv] at hc
  simp only [Option.bind_eq_some_iff] at hx
  obtain ⟨v, hv1, hx⟩ := hx
  simp at hx
  subst hx
  generalize hva : a.eval x = va at hc
  cases hc with
  | tup _ us hl hrr =>
   have hlt : i < vs.length := (List.getElem?_eq_some_iff.1 hv1).1
   have hz : us[i]? = some us[i] := by simp [hl, hlt]
   refine pure_OK hr rfl (r := us[i]) ?_ (hrr i v _ hv1 hz)
   simp [execOp, hop, hva, Instr.extract, hz]
 ·cases hx
theorem so_chk {x : Operand} (hr : HRel w X ι h) {env : Env} (he : EnvOK w (Forb X (place h ι)) (place h ι) env a) (dst : Nat) (hop : o.op = .nilCheck x)
  (hx : exec (.chk (arg x)) dst env h = some e) : OpOK P o X ι h a w e := by
 have hc := arg_ok he x
 simp only [exec] at hx
 split at hx
 ·rename_i b ver i o' hv
  rw [hv] at hc
  split at hx
  ·rename_i hb
   obtain ⟨blk, hb⟩ := some_of_isSome hb
   simp at hx
   subst hx
   obtain ⟨n, _, h2⟩ := hc.ptr_inv hb
   exact pure_OK hr rfl (by simp [execOp, hop, h2]; rfl) (by rw [h2] at hc; exact hc)
  ·cases hx
 ·rename_i cs hv
  rw [hv] at hc
  simp at hx
  subst hx
  generalize hva : a.eval x = va at hc
  cases hc with
  | dptr _ blk off vs h1 h2 h3 => exact pure_OK hr rfl (by simp [execOp, hop, hva]) (.dptr _ _ _ _ h1 h2 h3)
 ·rename_i f caps hv
  rw [hv] at hc
  simp at hx
  subst hx
  generalize hva : a.eval x = va at hc
  cases hc with
  | fn _ _ vs hl h1 => exact pure_OK hr rfl (by simp [execOp, hop, hva]) (.fn _ _ _ hl h1)
 ·cases hx
theorem add_none (n k j : Nat) : (⟨n, k, none⟩ : Addr).add j = ⟨n, k + j, none⟩ := by unfold Addr.add; split <;> simp_all
theorem run_sizeOf' {t : TypeId} {i : TypeInfo} (hi : P.info? t = some i) : (sizeOf t).run P w = .ok i.size w := by simp [sizeOf, typeInfo, hi]
theorem sizeT_of {t : TypeId} {i : TypeInfo} (hi : P.info? t = some i) : sizeT P t = i.size := by simp [sizeT, Program.cellsOf, hi]
theorem so_addr {x : Operand} (hr : HRel w X ι h) {env : Env} (he : EnvOK w (Forb X (place h ι)) (place h ι) env a) (dst o' : Nat)
  (hrun : ∀ n k, (a.eval x = .pointer (some ⟨n, k, none⟩)) → (execOp a.eval o).run P w = .ok (.value (.pointer (some ⟨n, k + o', none⟩))) w)
  (hx : exec (.addr o' (arg x)) dst env h = some e) : OpOK P o X ι h a w e := by
 have hc := arg_ok he x
 simp only [exec] at hx
 split at hx
 ·rename_i b ver i o2 hv
  rw [hv] at hc
  split at hx
  ·rename_i hb
   obtain ⟨blk, hb⟩ := some_of_isSome hb
   simp at hx
   subst hx
   obtain ⟨n, hn, h2⟩ := hc.ptr_inv hb
   refine pure_OK hr rfl (hrun _ _ h2) ?_
   rw [Nat.add_assoc]
   obtain ⟨hp, _, _⟩ := live_place (ι := ι) hb
   exact .ptr _ _ _ _ n (ι b).k (ι b).sz (by rw [hp, ← hn])
  ·cases hx
 ·rename_i cs hv
  rw [hv] at hc
  split at hx
  ·rename_i hle
   simp at hx
   subst hx
   generalize hva : a.eval x = va at hc
   cases hc with
   | dptr _ blk off vs h1 h2 h3 =>
    refine pure_OK hr rfl (hrun _ _ hva) (.dptr _ _ _ (fun j => vs (o' + j)) (fun hne => h1 (by rintro rfl; simp at hne)) (fun j d hj => ?_) (fun j d hj => ?_))
    ·simp only [List.getElem?_drop] at hj
     rw [Nat.add_assoc]
     exact h2 _ _ hj
    ·simp only [List.getElem?_drop] at hj
     exact h3 _ _ hj
  ·cases hx
 ·cases hx
theorem so_fieldAddr {x : Operand} {t f : Nat} {fs : Array Field} {fd : Field} {inf : TypeInfo} (hr : HRel w X ι h) {env : Env} (he : EnvOK w (Forb X (place h ι)) (place h ι) env a) (dst : Nat) (hop : o.op = .fieldAddr t x f)
  (ht : P.underlying t = some (.struct fs)) (hf : fs[f]? = some fd) (hi : P.info? fd.type = some inf) (hs : 0 < inf.size) (hx : exec (.addr fd.offset (arg x)) dst env h = some e) : OpOK P o X ι h a w e := by
 refine so_addr hr he dst fd.offset (fun n k hv => ?_) hx
 simp [execOp, hop, hv, Instr.fieldAt, run_underlying ht, hf, Instr.sureAddr, fieldPlace, run_sizeOf' hi, Sem.run_bind, add_none, Nat.ne_of_gt hs]
theorem so_indexArr {x : Operand} {t E len : Nat} {k : IntKind} {n : Int} {inf : TypeInfo} (hr : HRel w X ι h) {env : Env} (he : EnvOK w (Forb X (place h ι)) (place h ι) env a) (dst : Nat) (hop : o.op = .indexAddr t x (.const (.int k n)))
  (ht : P.underlying t = some (.array len E)) (h0 : 0 ≤ n) (h1 : n < len) (hi : P.info? E = some inf) (hx : exec (.addr (n.toNat * sizeT P E) (arg x)) dst env h = some e) : OpOK P o X ι h a w e := by
 refine so_addr hr he dst _ (fun m j hv => ?_) hx
 rw [sizeT_of hi]
 have hc : a.eval (.const (.int k n)) = .int k n := rfl
 simp [execOp, hop, hv, hc, Instr.indexAt, asIntOf, run_underlying ht, Instr.sureAddr, run_sizeOf' hi, Sem.run_bind, add_none, h0, h1]
theorem so_idx {x i : Operand} {t E : Nat} {inf : TypeInfo} (hr : HRel w X ι h) {env : Env} (he : EnvOK w (Forb X (place h ι)) (place h ι) env a) (dst : Nat) (hop : o.op = .indexAddr t x i)
  (ht : P.underlying t = some (.slice E)) (hi : P.info? E = some inf) (hs : 0 < inf.size) (hx : exec (.idx inf.size (arg x) (arg i)) dst env h = some e) : OpOK P o X ι h a w e := by
 have hc := arg_ok he x
 have hd := arg_ok he i
 have run : ∀ kk (n : Int) (A : Addr) (m c : Nat), a.eval i = .int kk n → a.eval x = .slice (some A) m c → 0 ≤ n → n < m → (execOp a.eval o).run P w = .ok (.value (.pointer (some (A.add (n.toNat * inf.size))))) w := by
  intro kk n A m c h1 h2 h3 h4
  simp [execOp, hop, h1, h2, Instr.indexAt, asIntOf, run_underlying ht, run_sizeOf' hi, Sem.run_bind, h3, h4]
 simp only [exec] at hx
 split at hx
 ·rename_i xs n hv hn
  rw [hv] at hc
  obtain ⟨kk, hin⟩ := intOfA_ok hd hn
  split at hx
  ·rename_i h0
   simp only [Option.bind_eq_some_iff] at hx
   obtain ⟨cs, hcs, hx⟩ := hx
   split at hx
   ·rename_i hcl
    simp at hx
    subst hx
    have hlt : n.toNat < xs.length := (List.getElem?_eq_some_iff.1 hcs).1
    generalize hva : a.eval x = va at hc
    cases hc with
    | d _ _ hd' =>
     cases hd' with
     | none => simp at hlt
     | slice _ k blk off c vs h1 h2 h3 h4 h5 h6 h7 h8 =>
      have hk : k = inf.size := by rw [← h6 cs (List.mem_of_getElem? hcs)]; exact hcl
      subst hk
      refine pure_OK hr rfl (run kk n _ _ _ hin hva h0 (by omega)) ?_
      rw [add_none]
      refine .dptr _ _ _ (fun j => vs n.toNat j) (fun _ => ⟨h4, h5⟩) (fun j d hj => ?_) (fun j d hj => h8 _ _ _ _ hcs hj)
      rw [Nat.add_assoc]
      exact h7 _ _ hlt (by rw [← hcl]; exact (List.getElem?_eq_some_iff.1 hj).1)
   ·cases hx
  ·cases hx
 ·rename_i b ver j n cap m hv hn
  rw [hv] at hc
  obtain ⟨kk, hin⟩ := intOfA_ok hd hn
  simp only [Option.bind_eq_some_iff] at hx
  obtain ⟨blk, hb, hx⟩ := hx
  split at hx
  ·rename_i hcond
   obtain ⟨h0, h1, hk⟩ := hcond
   simp at hx
   subst hx
   obtain ⟨hp, hlv, _⟩ := live_place (ι := ι) hb
   obtain ⟨hbk, _, _⟩ := hr.blks b blk hlv
   rcases hc.sl_inv hb with ⟨_, rfl, rfl, _⟩ | ⟨nb, c, A, hl, hva, g1, g2, g3, g4, g5⟩
   ·omega
   ·have hA : A = some ⟨nb, j * (ι b).k, none⟩ := by
     rcases g4 with g4 | g4
     ·omega
     ·exact g4
    subst hA
    refine pure_OK hr rfl (run kk m _ _ _ hin hva h0 h1) ?_
    rw [add_none]
    have := VR.ptr (w := w) (F := Forb X (place h ι)) (G := place h ι) b ver (j + m.toNat) 0 nb (ι b).k (ι b).sz (by rw [hp, ← hl])
    rw [← hk, hbk, ← Nat.add_mul]
    simpa using this
  ·cases hx
 ·cases hx
theorem so_sidx {x i : Operand} {t : Nat} (hr : HRel w X ι h) {env : Env} (he : EnvOK w (Forb X (place h ι)) (place h ι) env a) (dst : Nat) (hop : o.op = .index t x i)
  (ht : P.underlying t = some .string) (hx : exec (.sidx (arg x) (arg i)) dst env h = some e) : OpOK P o X ι h a w e := by
 have hc := arg_ok he x
 have hd := arg_ok he i
 simp only [exec] at hx
 split at hx
 ·rename_i s n hv hn
  rw [hv] at hc
  obtain ⟨kk, hin⟩ := intOfA_ok hd hn
  split at hx
  ·rename_i h0
   simp only [Option.bind_eq_some_iff] at hx
   obtain ⟨c, hcs, hx⟩ := hx
   simp at hx
   subst hx
   refine pure_OK hr rfl (r := .int .u8 c.toNat) ?_ (.d _ _ (.int _ _))
   simp [execOp, hop, hc.str_inv, hin, Instr.index, asIntOf, run_underlying ht, h0, hcs]
  ·cases hx
 ·cases hx
theorem so_len {x : Operand} {t : Nat} (hr : HRel w X ι h) {env : Env} (he : EnvOK w (Forb X (place h ι)) (place h ι) env a) (dst : Nat) (st : Bool)
  (hop : o.op = .call { callee := .builtin .len, args := #[x], argTypes := #[t] })
  (ht : (st = true ∧ P.underlying t = some .string) ∨ (st = false ∧ ∃ E, P.underlying t = some (.slice E))) (hx : exec (.len st (arg x)) dst env h = some e) : OpOK P o X ι h a w e := by
 have hc := arg_ok he x
 have run : ∀ (n : Nat), (st = true → ∃ s, a.eval x = .string s ∧ s.size = n) → (st = false → ∃ A c, a.eval x = .slice A n c) → (execOp a.eval o).run P w = .ok (.value (.int .i64 n)) w := by
  intro n h1 h2
  rcases ht with ⟨rfl, ht⟩ | ⟨rfl, E, ht⟩
  ·obtain ⟨s, hs, hn⟩ := h1 rfl
   simp [execOp, hop, resolve, invoke, builtin, Builtin.len_, hs, run_underlying ht, goInt, hn, Sem.run_bind]
  ·obtain ⟨A, c, hs⟩ := h2 rfl
   simp [execOp, hop, resolve, invoke, builtin, Builtin.len_, hs, run_underlying ht, goInt, Sem.run_bind]
 simp only [exec] at hx
 split at hx
 ·rename_i s hv
  rw [hv] at hc
  split at hx
  ·rename_i hst
   simp at hx
   subst hx
   exact pure_OK hr rfl (run s.size (fun _ => ⟨s, hc.str_inv, rfl⟩) (fun h => by simp [hst] at h)) (.d _ _ (.int _ _))
  ·cases hx
 ·split at hx
  ·cases hx
  ·rename_i hst
   simp at hst
   split at hx
   ·rename_i hv
    rw [hv] at hc
    simp at hx
    subst hx
    exact pure_OK hr rfl (run 0 (fun h => by simp [hst] at h) (fun _ => ⟨none, 0, hc.nil_inv⟩)) (.d _ _ (.int _ _))
   ·rename_i xs hv
    rw [hv] at hc
    simp at hx
    subst hx
    refine pure_OK hr rfl (run xs.length (fun h => by simp [hst] at h) (fun _ => ?_)) (.d _ _ (.int _ _))
    cases hc with
    | d _ _ hd =>
     generalize a.eval x = va at hd
     cases hd with
     | none A c => exact ⟨A, c, rfl⟩
     | slice _ k blk off c vs => exact ⟨_, c, rfl⟩
   ·rename_i hv
    rw [hv] at hc
    simp at hx
    subst hx
    refine pure_OK hr rfl (run 0 (fun h => by simp [hst] at h) (fun _ => ?_)) (.d _ _ (.int _ _))
    generalize a.eval x = va at hc
    cases hc with
    | empty A => exact ⟨A, 0, rfl⟩
   ·rename_i b ver i n cap hv
    rw [hv] at hc
    split at hx
    ·rename_i hb
     obtain ⟨blk, hb⟩ := some_of_isSome hb
     simp at hx
     subst hx
     refine pure_OK hr rfl (run n (fun h => by simp [hst] at h) (fun _ => ?_)) (.d _ _ (.int _ _))
     rcases hc.sl_inv hb with ⟨_, rfl, rfl, _, A, hA⟩ | ⟨nb, c, A, _, hva, _⟩
     ·exact ⟨A, 0, hA⟩
     ·exact ⟨A, c, hva⟩
    ·cases hx
   ·cases hx
theorem so_mm {b : Builtin} {xs : Array Operand} {ts : Array TypeId} (mx : Bool) (hr : HRel w X ι h) {env : Env} (he : EnvOK w (Forb X (place h ι)) (place h ι) env a) (dst : Nat)
  (hop : o.op = .call { callee := .builtin b, args := xs, argTypes := ts }) (hb : (b = .min ∧ mx = false) ∨ (b = .max ∧ mx = true)) (hx : exec (.mm mx (xs.toList.map arg)) dst env h = some e) : OpOK P o X ι h a w e := by
 simp only [exec, Option.bind_eq_some_iff] at hx
 obtain ⟨d, hd, hx⟩ := hx
 simp at hx
 subst hx
 unfold mmA at hd
 split at hd
 ·rename_i p q hpq
  have hl : xs.toList.length = 2 := by have := congrArg List.length hpq; simpa using this
  obtain ⟨x, y, hxy⟩ : ∃ x y, xs = #[x, y] := by
   obtain ⟨l⟩ := xs
   match l, hl with
   | [x, y], _ => exact ⟨x, y, rfl⟩
  subst hxy
  simp at hpq
  have hc := arg_ok he x
  have hc2 := arg_ok he y
  rw [hpq.1] at hc
  rw [hpq.2] at hc2
  unfold mm2 at hd
  split at hd
  ·split at hd
   ·rename_i hk
    subst hk
    simp at hd
    subst hd
    have h1 := hc.int_inv
    have h2 := hc2.int_inv
    refine pure_OK hr rfl (r := .int _ _) ?_ (.d _ _ (.int _ _))
    rcases hb with ⟨rfl, rfl⟩ | ⟨rfl, rfl⟩
    ·simp [execOp, hop, resolve, invoke, builtin, Builtin.min_, Builtin.min2, h1, h2, Sem.run_bind]
    ·simp [execOp, hop, resolve, invoke, builtin, Builtin.max_, Builtin.max2, h1, h2, Sem.run_bind]
   ·cases hd
  ·cases hd
 ·cases hd
theorem run_isAgg {t : TypeId} (h : (P.underlying t).isSome = true) : (isAgg t).run P w = .ok (isAggT P t) w := by
 obtain ⟨d, hd⟩ := Option.isSome_iff_exists.1 h
 simp [isAgg, run_underlying hd, isAggT, hd]
 cases d <;> rfl
theorem so_load {x : Operand} {t : Nat} {inf : TypeInfo} (hr : HRel w X ι h) {env : Env} (he : EnvOK w (Forb X (place h ι)) (place h ι) env a) (dst : Nat) (hop : o.op = .load t x)
  (ht : (P.underlying t).isSome = true) (hi : P.info? t = some inf) (hx : exec (.load (if isAggT P t then some inf.size else none) (arg x)) dst env h = some e) : OpOK P o X ι h a w e := by
 have hc := arg_ok he x
 have run1 : ∀ (A : Addr) (u : Value), isAggT P t = false → a.eval x = .pointer (some A) → w.cell? A = some u → (execOp a.eval o).run P w = .ok (.value u) w := by
  intro A u h0 h1 h2
  simp [execOp, hop, h1, Instr.loadAt, Instr.sureAddr, loadVar, run_isAgg ht, h0, load, Sem.run, h2, Sem.run_bind]
 have run2 : ∀ (A : Addr) (us : List Value), isAggT P t = true → a.eval x = .pointer (some A) → us.length = inf.size → (∀ j v, us[j]? = some v → w.cell? (A.add j) = some v) → (execOp a.eval o).run P w = .ok (.value (.agg us.toArray)) w := by
  intro A us h0 h1 h2 h3
  have h4 := run_loadCells_list (P := P) (w := w) A us h3
  rw [h2] at h4
  simp [execOp, hop, h1, Instr.loadAt, Instr.sureAddr, loadVar, run_isAgg ht, h0, run_sizeOf' hi, h4, Sem.run_bind]
 simp only [exec] at hx
 split at hx
 ·rename_i b ver i o' hv
  rw [hv] at hc
  simp only [Option.bind_eq_some_iff] at hx
  obtain ⟨blk, hb, y, hy, hx⟩ := hx
  obtain ⟨n, hn, hva⟩ := hc.ptr_inv hb
  obtain ⟨_, hlv, _⟩ := live_place (ι := ι) hb
  obtain ⟨_, _, h3⟩ := hr.blks b blk hlv
  rw [hn] at h3
  obtain ⟨cs, et, g1, g2, g3, g4⟩ := h3
  have cell : ∀ (j : Nat) c, y[j]? = some c → ∃ v, w.cell? ⟨n, i * (ι b).k + j, none⟩ = some v ∧ v.oneCell' = true ∧ VR w (Forb X (place h ι)) (place h ι) c v := by
   intro j c hj
   obtain ⟨v, k1, k2, k3⟩ := g4 i y j c hy hj
   exact ⟨v, by simp [World.cell?, g1, k1], k2, k3⟩
  by_cases hag : isAggT P t = true
  ·simp only [hag, if_true] at hx
   split at hx
   ·rename_i hle
    simp at hx
    subst hx
    have hex : ∀ j, j < inf.size → ∃ v, w.cell? ⟨n, i * (ι b).k + (o' + j), none⟩ = some v ∧ v.oneCell' = true ∧ ∀ c, y[o' + j]? = some c → VR w (Forb X (place h ι)) (place h ι) c v := by
     intro j hj
     have hlt : o' + j < y.length := by omega
     obtain ⟨v, k1, k2, k3⟩ := cell (o' + j) y[o' + j] (by simp [hlt])
     exact ⟨v, k1, k2, fun c hc => by simp [hlt] at hc; subst hc; exact k3⟩
    have hch : ∃ f : Nat → Value, ∀ j, j < inf.size → w.cell? ⟨n, i * (ι b).k + (o' + j), none⟩ = some (f j) ∧ (f j).oneCell' = true ∧ ∀ c, y[o' + j]? = some c → VR w (Forb X (place h ι)) (place h ι) c (f j) := by
     refine ⟨fun j => if hj : j < inf.size then (hex j hj).choose else undef, fun j hj => ?_⟩
     simp only [hj, dif_pos]
     exact (hex j hj).choose_spec
    obtain ⟨f, hf⟩ := hch
    refine pure_OK hr rfl (run2 _ ((List.range inf.size).map f) hag hva (by simp) (fun j v hj => ?_)) (.agg _ _ (by simp; omega) (fun v hv => ?_) (fun j c v hc hv => ?_))
    ·simp only [List.getElem?_map, Option.map_eq_some_iff] at hj
     obtain ⟨j', hj', rfl⟩ := hj
     have := List.getElem?_eq_some_iff.1 hj'
     simp at this
     obtain ⟨hlt, rfl⟩ := this
     rw [add_none, Nat.add_assoc]
     exact (hf _ hlt).1
    ·simp at hv
     obtain ⟨j, hj, rfl⟩ := hv
     exact (hf j hj).2.1
    ·simp only [List.getElem?_take, List.getElem?_drop] at hc
     split at hc
     ·rename_i hlt
      simp [hlt] at hv
      subst hv
      exact (hf j hlt).2.2 c hc
     ·cases hc
   ·cases hx
  ·simp only [hag] at hx
   simp only [Bool.not_eq_true] at hag
   simp only [Bool.false_eq_true, if_false, Option.bind_eq_some_iff] at hx
   obtain ⟨c, hc', hx⟩ := hx
   simp at hx
   subst hx
   obtain ⟨v, k1, k2, k3⟩ := cell o' c hc'
   exact pure_OK hr rfl (run1 _ v hag hva k1) k3
 ·rename_i cs hv
  rw [hv] at hc
  generalize hva : a.eval x = va at hc
  cases hc with
  | dptr _ blk off vs h1 h2 h3 =>
   by_cases hag : isAggT P t = true
   ·simp only [hag, if_true] at hx
    split at hx
    ·rename_i hle
     simp at hx
     subst hx
     refine pure_OK hr rfl (run2 _ ((List.range inf.size).map vs) hag hva (by simp) (fun j v hj => ?_)) (.agg _ _ (by simp; omega) (fun v hv => ?_) (fun j c v hc hv => ?_))
     ·simp only [List.getElem?_map, Option.map_eq_some_iff] at hj
      obtain ⟨j', hj', rfl⟩ := hj
      have := List.getElem?_eq_some_iff.1 hj'
      simp at this
      obtain ⟨hlt, rfl⟩ := this
      rw [add_none]
      exact h2 j cs[j] (by simp [*])
     ·simp at hv
      obtain ⟨j, hj, rfl⟩ := hv
      exact (h3 j cs[j] (by simp [*])).one
     ·by_cases hlt : j < inf.size
      ·simp [List.getElem?_take, hlt] at hc hv
       obtain ⟨d, hd, rfl⟩ := hc
       subst hv
       exact .d _ _ (h3 j d hd)
      ·simp [hlt] at hv
    ·cases hx
   ·simp only [hag] at hx
    simp only [Bool.not_eq_true] at hag
    simp only [Bool.false_eq_true, if_false, Option.bind_eq_some_iff] at hx
    obtain ⟨c, hc', hx⟩ := hx
    simp at hx
    subst hx
    exact pure_OK hr rfl (run1 _ (vs 0) hag hva (h2 0 c hc')) (.d _ _ (h3 0 c hc'))
 ·cases hx
end
end Go.Abs
/- What one operation of the abstract machine does is what the program's operation does in memory. Fourth part: building values, slicing. -/
set_option linter.unusedVariables false
set_option linter.unusedSimpArgs false
namespace Go.Abs
section
variable {P : Program} {o : Oper} {X : Nat → Prop} {ι : Nat → Bd} {h : Heap} {a : Act} {w : World} {e : Eff}
/-- Cells that stand for abstract cells. -/
def CR (w : World) (F : Nat → Prop) (G : Pl) (als : List AV) (cs : Array Value) : Prop :=
 cs.size = als.length ∧ ∀ (j : Nat) c, als[j]? = some c → ∃ u, cs[j]? = some u ∧ u.oneCell' = true ∧ VR w F G c u
theorem CR.set {F : Nat → Prop} {G : Pl} {als : List AV} {cs : Array Value} (hc : CR w F G als cs) (o : Nat) {x : AV} {v : Value} (h1 : v.oneCell' = true) (hv : VR w F G x v) : CR w F G (als.set o x) (cs.setIfInBounds o v) := by
 refine ⟨by simp [hc.1], fun j c hj => ?_⟩
 by_cases hjo : o = j
 ·subst hjo
  rw [List.getElem?_set] at hj
  simp at hj
  obtain ⟨hlt, rfl⟩ := hj
  exact ⟨v, by simp [hc.1, hlt], h1, hv⟩
 ·rw [List.getElem?_set_ne hjo] at hj
  obtain ⟨u, h2, h3, h4⟩ := hc.2 j c hj
  exact ⟨u, by rw [Array.getElem?_setIfInBounds_ne hjo]; exact h2, h3, h4⟩
theorem CR.spl {F : Nat → Prop} {G : Pl} : ∀ (bs : List AV) (vs : List Value) (o : Nat) {als : List AV} {cs : Array Value}, CR w F G als cs → bs.length = vs.length →
  (∀ (j : Nat) c v, bs[j]? = some c → vs[j]? = some v → v.oneCell' = true ∧ VR w F G c v) →
  CR w F G (Go.Abs.spl als o bs) ((vs.zipIdx o).foldl (fun cs p => cs.setIfInBounds p.2 p.1) cs) := by
 intro bs
 induction bs with
 | nil => intro vs o als cs hc hl _; cases vs <;> simp at hl; simpa [Go.Abs.spl] using hc
 | cons b bs ih =>
  intro vs o als cs hc hl hh
  cases vs with
  | nil => simp at hl
  | cons v vs =>
   simp only [Go.Abs.spl, List.zipIdx_cons, List.foldl_cons]
   obtain ⟨h1, h2⟩ := hh 0 b v rfl rfl
   refine ih vs (o + 1) (hc.set o h1 h2) (by simpa using hl) (fun j c v' hj hv => hh (j + 1) c v' (by simpa using hj) (by simpa using hv))
theorem foldl_zipIdx (vs : Array Value) (off : Nat) (cs : Array Value) :
  vs.zipIdx.foldl (fun cs (c, j) => cs.setIfInBounds (off + j) c) cs = (vs.toList.zipIdx off).foldl (fun cs p => cs.setIfInBounds p.2 p.1) cs := by
 rw [← Array.foldl_toList, Array.toList_zipIdx]
 have : ∀ (l : List Value) (i : Nat) (cs : Array Value), (l.zipIdx i).foldl (fun cs (p : Value × Nat) => cs.setIfInBounds (off + p.2) p.1) cs = (l.zipIdx (off + i)).foldl (fun cs p => cs.setIfInBounds p.2 p.1) cs := by
  intro l
  induction l with
  | nil => intro i cs; simp
  | cons v l ih => intro i cs; simp only [List.zipIdx_cons, List.foldl_cons, ih, Nat.add_assoc]
 exact this vs.toList 0 cs
theorem fill_ok {F : Nat → Prop} {G : Pl} (place : Nat → Option (Nat × Nat)) : ∀ (ps : List (Nat × Nat × AV)) (qs : List (Nat × Value)) {als bs : List AV} {cs : Array Value}, CR w F G als cs → ps.length = qs.length →
  (∀ (j : Nat) p q, ps[j]? = some p → qs[j]? = some q → place q.1 = some (p.1, p.2.1) ∧ VR w F G p.2.2 q.2) → fillA als ps = some bs →
  ∃ ds, Instr.fill place cs qs = some ds ∧ CR w F G bs ds := by
 intro ps
 induction ps with
 | nil => intro qs als bs cs hc hl _ hf; cases qs <;> simp at hl; simp [fillA] at hf; subst hf; exact ⟨cs, by simp [Instr.fill], hc⟩
 | cons p ps ih =>
  intro qs als bs cs hc hl hh hf
  cases qs with
  | nil => simp at hl
  | cons q qs =>
   obtain ⟨o, n, x⟩ := p
   obtain ⟨i, v⟩ := q
   obtain ⟨h1, h2⟩ := hh 0 _ _ rfl rfl
   simp only [fillA] at hf
   split at hf
   ·rename_i hcond
    obtain ⟨c1, c2, c3⟩ := hcond
    obtain ⟨d1, d2⟩ := cells_ok h2 c3
    have hnew : CR w F G (Go.Abs.spl als o (cellsOf x)) ((v.cells.toList.zipIdx o).foldl (fun cs p => cs.setIfInBounds p.2 p.1) cs) := by
     refine hc.spl _ _ o (by simpa using d1.symm) (fun j c u hj hu => ?_)
     obtain ⟨u', k1, k2, k3⟩ := d2 j c hj
     simp only [Array.getElem?_toList] at hu
     simp only at k1
     rw [k1] at hu
     cases hu
     exact ⟨k2, k3⟩
    obtain ⟨ds, e1, e2⟩ := ih qs hnew (by simpa using hl) (fun j p q hj hq => hh (j + 1) p q (by simpa using hj) (by simpa using hq)) hf
    refine ⟨ds, ?_, e2⟩
    simp only at h1
    simp only [Instr.fill, h1]
    have g1 : v.cells.size = n := by rw [← c1]; exact d1
    have g2 : ¬ (o + n > cs.size) := by rw [hc.1]; omega
    rw [if_neg (by simp [g1]; omega), foldl_zipIdx]
    exact e1
   ·cases hf
theorem zero_CR {t : TypeId} {zs : List AV} (hz : zeroOf P t = some zs) (F : Nat → Prop) (G : Pl) : ∃ inf z, P.info? t = some inf ∧ inf.zero = some z ∧ z.cells.size = inf.size ∧ 0 < inf.size ∧ zs = z.cells.toList.map avCell ∧ CR w F G zs z.cells := by
 simp only [zeroOf, Option.bind_eq_some_iff] at hz
 obtain ⟨inf, hi, z, hz, hh⟩ := hz
 split at hh
 ·rename_i hc
  obtain ⟨h1, h2, h3⟩ := hc
  simp at hh
  subst hh
  refine ⟨inf, z, hi, hz, h1, h2, rfl, by simp, fun j c hj => ?_⟩
  simp only [List.getElem?_map, Array.getElem?_toList, Option.map_eq_some_iff] at hj
  obtain ⟨u, hu, rfl⟩ := hj
  exact ⟨u, hu, Array.all_eq_true_iff_forall_mem.1 h3 u (Array.mem_of_getElem? hu), avCell_ok F G u⟩
 ·cases hh
theorem CR.agg {F : Nat → Prop} {G : Pl} {als : List AV} {cs : Array Value} (hc : CR w F G als cs) : VR w F G (.agg als) (.agg cs) := by
 refine .agg _ _ hc.1 (fun v hv => ?_) (fun j c v hj hv => ?_)
 ·obtain ⟨j, hj⟩ := Array.getElem?_of_mem hv
  have hlt : j < als.length := by rw [← hc.1]; exact (Array.getElem?_eq_some_iff.1 hj).1
  obtain ⟨u, h1, h2, _⟩ := hc.2 j als[j] (by simp [hlt])
  rw [hj] at h1; cases h1; exact h2
 ·obtain ⟨u, h1, _, h3⟩ := hc.2 j c hj
  rw [hv] at h1; cases h1; exact h3
theorem so_build {t : TypeId} {parts : Array (Nat × Operand)} {zs : List AV} {ps : List (Nat × Nat × AArg)} {place' : Nat → Option (Nat × Nat)} (hr : HRel w X ι h) {env : Env} (he : EnvOK w (Forb X (place h ι)) (place h ι) env a) (dst : Nat)
  (hop : o.op = .build t parts) (hz : zeroOf P t = some zs)
  (hb : ∀ qs z, (P.info? t).bind (·.zero) = some z → P.built t qs = Instr.fill place' z.cells qs ∨ ∃ p ∈ qs, place' p.1 = none)
  (hp : ps = parts.toList.map fun p => (((place' p.1).getD (0, 0)).1, ((place' p.1).getD (0, 0)).2, arg p.2)) (hpl : ∀ p ∈ parts.toList, (place' p.1).isSome = true)
  (hx : exec (.build zs ps) dst env h = some e) : OpOK P o X ι h a w e := by
 simp only [exec, Option.bind_eq_some_iff] at hx
 obtain ⟨cs, hcs, hx⟩ := hx
 simp at hx
 subst hx
 obtain ⟨inf, z, hi, hz1, _, _, _, hzc⟩ := zero_CR (w := w) hz (Forb X (place h ι)) (place h ι)
 subst hp
 rw [List.map_map] at hcs
 have hpair : ∀ (j : Nat) p q, (List.map ((fun p => (p.1, p.2.1, AArg.ev env p.2.2)) ∘ fun p => (((place' p.1).getD (0, 0)).1, ((place' p.1).getD (0, 0)).2, arg p.2)) parts.toList)[j]? = some p →
   (parts.toList.map fun p => (p.1, a.eval p.2))[j]? = some q → place' q.1 = some (p.1, p.2.1) ∧ VR w (Forb X (place h ι)) (place h ι) p.2.2 q.2 := by
  intro j p q hj hq
  simp only [List.getElem?_map, Option.map_eq_some_iff] at hj hq
  obtain ⟨x, hx, rfl⟩ := hj
  obtain ⟨y, hy, rfl⟩ := hq
  rw [hx] at hy
  cases hy
  have hs := hpl x (List.mem_of_getElem? hx)
  obtain ⟨pp, hpp⟩ := Option.isSome_iff_exists.1 hs
  exact ⟨by simp [hpp], arg_ok he _⟩
 obtain ⟨ds, h1, h2⟩ := fill_ok place' _ (parts.toList.map fun p => (p.1, a.eval p.2)) hzc (by simp) hpair hcs
 refine pure_OK hr rfl (r := .agg ds) ?_ h2.agg
 have hb' : P.built t (parts.toList.map fun p => (p.1, a.eval p.2)) = some ds := by
  rcases hb (parts.toList.map fun p => (p.1, a.eval p.2)) z (by simp [hi, hz1]) with hb | ⟨p, hp, hn⟩
  ·rw [hb, h1]
  ·simp only [List.mem_map] at hp
   obtain ⟨q, hq, rfl⟩ := hp
   have := hpl q hq
   rw [hn] at this
   cases this
 have := run_build (P := P) w t (parts.map fun p => (p.1, a.eval p.2)) ds (by simpa using hb')
 simp only [execOp, hop]
 exact exec_value this
/-- A bound of a slice expression: its value, at most so much. -/
def BO (a : Act) (dflt most : Nat) (x : Option Operand) (n : Nat) : Prop :=
 match x with
 | none => n = dflt
 | some x => ∃ k m, a.eval x = .int k m ∧ 0 ≤ m ∧ m.toNat = n ∧ n ≤ most
theorem bound_ok {dflt most : Nat} {x : Option Operand} {n : Nat} {F : Nat → Prop} {G : Pl} {env : Env} (he : EnvOK w F G env a) (hb : boundOf env dflt most (x.map arg) = some n) : BO a dflt most x n := by
 cases x with
 | none => simp [boundOf] at hb; exact hb.symm
 | some x =>
  simp only [boundOf, Option.map_some, Option.bind_eq_some_iff] at hb
  obtain ⟨m, hm, hb⟩ := hb
  split at hb
  ·rename_i hc
   simp at hb
   subst hb
   obtain ⟨k, hv⟩ := intOfA_ok (arg_ok he x) hm
   exact ⟨k, m, hv, hc.1, rfl, by omega⟩
  ·cases hb
theorem BO.weaken {dflt m m' : Nat} {x : Option Operand} {n : Nat} (h : BO a dflt m x n) (hm : m ≤ m') : BO a dflt m' x n := by
 cases x with
 | none => exact h
 | some x => obtain ⟨k, z, h1, h2, h3, h4⟩ := h; exact ⟨k, z, h1, h2, h3, Nat.le_trans h4 hm⟩
theorem BO.run {dflt most : Nat} {x : Operand} {n : Nat} (h : BO a dflt most (some x) n) (code : BoundsCode) : (Instr.sliceBound (a.eval x) most code).run P w = .ok n w := by
 obtain ⟨k, m, h1, h2, h3, h4⟩ := h
 subst h3
 have : m ≤ (most : Int) := by omega
 simp [h1, Instr.sliceBound, asIntOf, h2, this]
theorem sliceBounds_ok {isS : Bool} {len cap lv hv m : Nat} {lo hi mx : Option Operand} (h1 : BO a cap cap mx m) (h2 : BO a len m hi hv) (h3 : BO a 0 hv lo lv) (hm : mx.isNone = true ∨ hi.isSome = true) :
  (Instr.sliceBounds isS len cap (lo.map a.eval) (hi.map a.eval) (mx.map a.eval)).run P w = .ok (lv, hv, m) w := by
 unfold Instr.sliceBounds
 cases mx with
 | none =>
  have : m = cap := h1
  subst this
  cases hi with
  | none =>
   have : hv = len := h2
   subst this
   cases lo with
   | none => have : lv = 0 := h3; subst this; simp
   | some lo => simp [Sem.run_bind, h3.run]
  | some hi =>
   cases lo with
   | none => have : lv = 0 := h3; subst this; simp [Sem.run_bind, h2.run]
   | some lo => simp [Sem.run_bind, h3.run, h2.run]
 | some mx =>
  cases hi with
  | none => simp at hm
  | some hi =>
   cases lo with
   | none => have : lv = 0 := h3; subst this; simp [Sem.run_bind, h2.run, h1.run]
   | some lo => simp [Sem.run_bind, h3.run, h2.run, h1.run]
theorem run_slice_sl {x : Operand} {t E : Nat} {inf : TypeInfo} {lo hi mx : Option Operand} (hop : o.op = .slice t x lo hi mx) (ht : P.underlying t = some (.slice E)) (hi' : P.info? E = some inf)
  {A : Option Addr} {n c lv hv m : Nat} (hv' : a.eval x = .slice A n c) (h1 : BO a c c mx m) (h2 : BO a n m hi hv) (h3 : BO a 0 hv lo lv) (hm : mx.isNone = true ∨ hi.isSome = true) :
  (execOp a.eval o).run P w = .ok (.value (.slice (if m = lv then A else A.map (·.add (lv * inf.size))) (hv - lv) (m - lv))) w := by
 simp only [execOp, hop]
 refine exec_value ?_
 simp [Instr.sliceAt, run_underlying ht, Instr.slice, hv', Sem.run_bind, sliceBounds_ok h1 h2 h3 hm, run_sizeOf' hi']
theorem so_slice_str {x : Operand} {t : Nat} {lo hi mx : Option Operand} (hr : HRel w X ι h) {env : Env} (he : EnvOK w (Forb X (place h ι)) (place h ι) env a) (dst : Nat) (hop : o.op = .slice t x lo hi mx)
  (ht : P.underlying t = some .string) (hx : exec (.slice 0 (arg x) (lo.map arg) (hi.map arg) (mx.map arg)) dst env h = some e) : OpOK P o X ι h a w e := by
 have hc := arg_ok he x
 simp only [exec] at hx
 split at hx
 ·rename_i s hv
  rw [hv] at hc
  split at hx
  ·cases hx
  ·rename_i hm
   have hmx : mx = none := by cases mx <;> simp_all
   subst hmx
   simp only [Option.bind_eq_some_iff] at hx
   obtain ⟨hi', h1, lo', h2, hx⟩ := hx
   simp at hx
   subst hx
   refine pure_OK hr rfl (r := .string (s.extract lo' hi')) ?_ (.d _ _ (.str _))
   simp only [execOp, hop]
   refine exec_value ?_
   have hb := sliceBounds_ok (P := P) (w := w) (isS := false) (mx := none) (cap := s.size) (m := s.size) rfl (bound_ok he h1) (bound_ok he h2) (.inl rfl)
   simp only [Option.map_none] at hb
   simp [Instr.sliceAt, run_underlying ht, Instr.slice, hc.str_inv, Sem.run_bind, hb]
 ·cases hx
theorem so_slice {x : Operand} {t E k : Nat} {inf : TypeInfo} {lo hi mx : Option Operand} (hr : HRel w X ι h) {env : Env} (he : EnvOK w (Forb X (place h ι)) (place h ι) env a) (dst : Nat) (hop : o.op = .slice t x lo hi mx)
  (ht : P.underlying t = some (.slice E)) (hi' : P.info? E = some inf) (hs : inf.size = k + 1) (hm : mx.isNone = true ∨ hi.isSome = true)
  (hx : exec (.slice (k + 1) (arg x) (lo.map arg) (hi.map arg) (mx.map arg)) dst env h = some e) : OpOK P o X ι h a w e := by
 have hc := arg_ok he x
 have run := fun A n c lv hv m hv' h1 h2 h3 => run_slice_sl (P := P) (o := o) (w := w) (a := a) hop ht hi' (A := A) (n := n) (c := c) (lv := lv) (hv := hv) (m := m) hv' h1 h2 h3 hm
 simp only [exec] at hx
 split at hx
 ·rename_i xs hv hmx
  have hmx : mx = none := by cases mx <;> simp_all
  subst hmx
  rw [hv] at hc
  simp only [Option.bind_eq_some_iff] at hx
  obtain ⟨hv', h1, lv, h2, hx⟩ := hx
  split at hx
  ·rename_i hall
   simp at hx
   subst hx
   have b1 := bound_ok he h1
   have b2 := bound_ok he h2
   generalize hva : a.eval x = va at hc
   have hle1 : hv' ≤ xs.length := by
    cases hi with
    | none => exact Nat.le_of_eq b1
    | some hi => obtain ⟨_, _, _, _, _, h⟩ := b1; exact h
   have hle2 : lv ≤ hv' := by
    cases lo with
    | none => have : lv = 0 := b2; omega
    | some lo => obtain ⟨_, _, _, _, _, h⟩ := b2; exact h
   have hyl : ((xs.take hv').drop lv).length = hv' - lv := by simp; omega
   have main : ∀ A c, va = .slice A xs.length c → xs.length ≤ c → DR w (Forb X (place h ι)) (.slice ((xs.take hv').drop lv)) (.slice (if c = lv then A else A.map (·.add (lv * inf.size))) (hv' - lv) (c - lv)) → OpOK P o X ι h a w ⟨.d (.slice ((xs.take hv').drop lv)), none, []⟩ := by
    intro A c hA hcl hd
    exact pure_OK hr rfl (run A xs.length c lv hv' c (by rw [hva, hA]) rfl (b1.weaken (by omega)) b2) (.d _ _ hd)
   by_cases hz : hv' - lv = 0
   ·have hnil : (xs.take hv').drop lv = [] := List.eq_nil_of_length_eq_zero (by rw [hyl]; exact hz)
    cases hc with
    | d _ _ hd =>
     cases hd with
     | none A c => exact main A c rfl (by simp) (by rw [hnil, hz]; exact .none _ _)
     | slice _ k' blk off c vs g1 => exact main _ c rfl g1 (by rw [hnil, hz]; exact .none _ _)
   ·cases hc with
    | d _ _ hd =>
     cases hd with
     | none A c => simp at hle1; omega
     | slice _ k' blk off c vs g1 g2 g3 g4 g5 g6 g7 g8 =>
      have hk : k' = inf.size := by
       have hx0 : xs[0]? = some xs[0] := by simp
       have := List.all_eq_true.1 hall xs[0] (by simp)
       simp at this
       rw [hs, ← this, g6 xs[0] (by simp)]
      subst hk
      refine main _ c rfl g1 ?_
      rw [if_neg (by omega)]
      simp only [Option.map_some, add_none]
      have := DR.slice (w := w) (F := Forb X (place h ι)) ((xs.take hv').drop lv) inf.size blk (off + lv * inf.size) (c - lv) (fun i j => vs (lv + i) j) (by rw [hyl]; omega) (by rw [hyl]; omega) g3 g4 g5
       (fun y hy => g6 y (List.mem_of_mem_take (List.mem_of_mem_drop hy))) (fun i j hi hj => by
        rw [hyl] at hi
        have := g7 (lv + i) j (by omega) hj
        rw [Nat.add_mul] at this
        rw [show off + lv * inf.size + (i * inf.size + j) = off + (lv * inf.size + i * inf.size + j) by omega]
        exact this)
       (fun i j y d hi hj => by
        simp only [List.getElem?_drop, List.getElem?_take] at hi
        split at hi
        ·exact g8 _ _ _ _ hi hj
        ·cases hi)
      rw [hyl] at this
      exact this
  ·cases hx
 ·rename_i xs m hv hmx
  obtain ⟨mo, rfl⟩ : ∃ mo, mx = some mo := by cases mx <;> simp_all
  simp only [Option.map_some, Option.some.injEq] at hmx
  subst hmx
  rw [hv] at hc
  simp only [Option.bind_eq_some_iff] at hx
  obtain ⟨mv, h0, hv', h1, lv, h2, hx⟩ := hx
  simp at hx
  subst hx
  have b0 := bound_ok (x := some mo) he h0
  have b1 := bound_ok he h1
  have b2 := bound_ok he h2
  obtain ⟨_, _, _, _, _, hm0⟩ := id b0
  obtain rfl : mv = 0 := by omega
  have hh : hv' = 0 := by
   cases hi with
   | none => exact b1
   | some hi => obtain ⟨_, _, _, _, _, h⟩ := b1; omega
  subst hh
  have hl : lv = 0 := by
   cases lo with
   | none => exact b2
   | some lo => obtain ⟨_, _, _, _, _, h⟩ := b2; omega
  subst hl
  have hc2 : ∃ A c, a.eval x = .slice A xs.length c := by
   generalize a.eval x = va at hc
   cases hc with | d _ _ hd => cases hd with
    | none A c => exact ⟨A, c, rfl⟩
    | slice _ k' blk off c vs => exact ⟨_, c, rfl⟩
  obtain ⟨A, c, hA⟩ := hc2
  have b1' : BO a xs.length 0 hi 0 := by
   cases hi with
   | none => simp at hm
   | some hi => exact b1
  exact pure_OK hr rfl (run A _ c 0 0 0 hA (BO.weaken (x := some mo) b0 (Nat.zero_le _)) b1' b2) (.empty _)
 ·rename_i hv hmx
  have hmx : mx = none := by cases mx <;> simp_all
  subst hmx
  rw [hv] at hc
  simp only [Option.bind_eq_some_iff] at hx
  obtain ⟨hv', h1, lv, h2, hx⟩ := hx
  simp at hx
  subst hx
  have b1 := bound_ok he h1
  have b2 := bound_ok he h2
  have hh : hv' = 0 := by
   cases hi with
   | none => exact b1
   | some hi => obtain ⟨_, _, _, _, _, h⟩ := b1; omega
  subst hh
  have hl : lv = 0 := by
   cases lo with
   | none => exact b2
   | some lo => obtain ⟨_, _, _, _, _, h⟩ := b2; omega
  subst hl
  exact pure_OK hr rfl (by have := run none 0 0 0 0 0 hc.nil_inv rfl b1 b2; simpa using this) (.d _ _ .nil)
 ·rename_i m hv hmx
  obtain ⟨mo, rfl⟩ : ∃ mo, mx = some mo := by cases mx <;> simp_all
  simp only [Option.map_some, Option.some.injEq] at hmx
  subst hmx
  rw [hv] at hc
  simp only [Option.bind_eq_some_iff] at hx
  obtain ⟨mv, h0, hv', h1, lv, h2, hx⟩ := hx
  simp at hx
  subst hx
  have b0 := bound_ok (x := some mo) he h0
  have b1 := bound_ok he h1
  have b2 := bound_ok he h2
  obtain ⟨_, _, _, _, _, hm0⟩ := id b0
  obtain rfl : mv = 0 := by omega
  have hh : hv' = 0 := by
   cases hi with
   | none => exact b1
   | some hi => obtain ⟨_, _, _, _, _, h⟩ := b1; omega
  subst hh
  have hl : lv = 0 := by
   cases lo with
   | none => exact b2
   | some lo => obtain ⟨_, _, _, _, _, h⟩ := b2; omega
  subst hl
  exact pure_OK hr rfl (run none 0 0 0 0 0 hc.nil_inv b0 b1 b2) (.empty _)
 ·rename_i b ver i n cap hv hmx
  have hmx : mx = none := by cases mx <;> simp_all
  subst hmx
  rw [hv] at hc
  simp only [Option.bind_eq_some_iff] at hx
  obtain ⟨blk, hb, hx⟩ := hx
  split at hx
  ·rename_i hk
   simp only [Option.bind_eq_some_iff] at hx
   obtain ⟨hv', h1, lv, h2, hx⟩ := hx
   simp at hx
   subst hx
   have b1 := bound_ok he h1
   have b2 := bound_ok he h2
   obtain ⟨hp, hlv, _⟩ := live_place (ι := ι) hb
   obtain ⟨hbk, _, _⟩ := hr.blks b blk hlv
   have hle2 : lv ≤ hv' := by
    cases lo with
    | none => have : lv = 0 := b2; omega
    | some lo => obtain ⟨_, _, _, _, _, h⟩ := b2; exact h
   have hle1 : hv' ≤ max n cap := by
    cases hi with
    | none => have : hv' = n := b1; omega
    | some hi => obtain ⟨_, _, _, _, _, h⟩ := b1; exact h
   rcases hc.sl_inv hb with ⟨hl, rfl, rfl, rfl, A, hA⟩ | ⟨nb, c, A, hl, hva, g1, g2, g3, g4, g5⟩
   ·obtain rfl : hv' = 0 := by omega
    obtain rfl : lv = 0 := by omega
    refine pure_OK hr rfl (run A 0 0 0 0 0 hA rfl (b1.weaken (by omega)) b2) ?_
    exact .slN b ver (ι b).k (ι b).sz _ (by rw [hp, ← hl])
   ·refine pure_OK hr rfl (run A n c lv hv' c hva rfl (b1.weaken (by omega)) b2) ?_
    refine .sl b ver (i + lv) (hv' - lv) (max hv' cap - lv) nb (ι b).k (ι b).sz _ (c - lv) (by rw [hp, ← hl]) (by omega) (by omega) ⟨by omega, by omega⟩ ?_ ?_
    ·by_cases hcl : c = lv
     ·exact .inl (by omega)
     ·right
      rcases g4 with g4 | g4
      ·omega
      ·rw [if_neg hcl, g4]
       simp only [Option.map_some, add_none, Option.some.injEq, Addr.mk.injEq, true_and, and_true]
       rw [hs, ← hk, hbk, Nat.add_mul]
    ·by_cases hcl : lv ≤ c
     ·rw [show i + lv + (c - lv) = i + c by omega]; exact g5
     ·omega
  ·cases hx
 ·rename_i b ver i n cap m hv hmx
  obtain ⟨mo, rfl⟩ : ∃ mo, mx = some mo := by cases mx <;> simp_all
  simp only [Option.map_some, Option.some.injEq] at hmx
  subst hmx
  rw [hv] at hc
  simp only [Option.bind_eq_some_iff] at hx
  obtain ⟨blk, hb, hx⟩ := hx
  split at hx
  ·rename_i hk
   simp only [Option.bind_eq_some_iff] at hx
   obtain ⟨mv, h0, hv', h1, lv, h2, hx⟩ := hx
   simp at hx
   subst hx
   have b0 := bound_ok (x := some mo) he h0
   have b1 := bound_ok he h1
   have b2 := bound_ok he h2
   obtain ⟨hp, hlv, _⟩ := live_place (ι := ι) hb
   obtain ⟨hbk, _, _⟩ := hr.blks b blk hlv
   have hle0 : mv ≤ max n cap := by obtain ⟨_, _, _, _, _, h⟩ := b0; exact h
   have hle1 : hv' ≤ mv := by
    cases hi with
    | none => simp at hm
    | some hi => obtain ⟨_, _, _, _, _, h⟩ := b1; exact h
   have hle2 : lv ≤ hv' := by
    cases lo with
    | none => have : lv = 0 := b2; omega
    | some lo => obtain ⟨_, _, _, _, _, h⟩ := b2; exact h
   have b0' : ∀ c' c, mv ≤ c → BO a c' c (some mo) mv := by
    intro c' c hcc
    obtain ⟨k1, k2, k3, k4, k5, _⟩ := b0
    exact ⟨k1, k2, k3, k4, k5, hcc⟩
   rcases hc.sl_inv hb with ⟨hl, rfl, rfl, rfl, A, hA⟩ | ⟨nb, c, A, hl, hva, g1, g2, g3, g4, g5⟩
   ·obtain rfl : mv = 0 := by omega
    obtain rfl : hv' = 0 := by omega
    obtain rfl : lv = 0 := by omega
    exact pure_OK hr rfl (run A 0 0 0 0 0 hA (b0' _ _ (by omega)) b1 b2) (by simpa using .empty _)
   ·refine pure_OK hr rfl (run A n c lv hv' mv hva (b0' _ _ (by omega)) b1 b2) ?_
    by_cases hmv : mv = 0
    ·subst hmv
     obtain rfl : hv' = 0 := by omega
     obtain rfl : lv = 0 := by omega
     simpa using .empty _
    ·simp only [if_neg hmv]
     refine .sl b ver (i + lv) (hv' - lv) (mv - lv) nb (ι b).k (ι b).sz _ (mv - lv) (by rw [hp, ← hl]) (by omega) (by omega) ⟨by omega, by omega⟩ ?_ ?_
     ·by_cases hcl : mv = lv
      ·exact .inl (by omega)
      ·right
       rcases g4 with g4 | g4
       ·omega
       ·rw [if_neg hcl, g4]
        simp only [Option.map_some, add_none, Option.some.injEq, Addr.mk.injEq, true_and, and_true]
        rw [hs, ← hk, hbk, Nat.add_mul]
     ·refine Nat.le_trans (Nat.mul_le_mul_right _ ?_) g5
      omega
  ·cases hx
 ·cases hx
end
end Go.Abs
/- What one operation of the abstract machine does is what the program's operation does in memory. Fifth part: operations that make or write memory. -/
set_option linter.unusedVariables false
set_option linter.unusedSimpArgs false
namespace Go.Abs
section
variable {P : Program} {o : Oper} {X : Nat → Prop} {ι : Nat → Bd} {h : Heap} {a : Act} {w : World} {e : Eff}
theorem run_newRow (E : TypeId) (cs : Array Value) : (newRow E cs).run P w = .ok ⟨w.heap.size, 0, none⟩ (w.alloc (.cells cs E)) := by
 rfl
theorem run_zero {t : TypeId} {inf : TypeInfo} {z : Value} (hi : P.info? t = some inf) (hz : inf.zero = some z) : (zeroValue t).run P w = .ok z w := by
 simp [zeroValue, typeInfo, hi, hz]
/-- A new block of one element: a variable. -/
theorem new_var {dst : Nat} {als : List AV} {cs : Array Value} {t : TypeId} (hr : HRel w X ι h) (hk : 0 < als.length) (hc : CR w (Forb X (place h ι)) (place h ι) als cs)
  (hrun : (execOp a.eval o).run P w = .ok (.value (.pointer (some ⟨w.heap.size, 0, none⟩))) (w.alloc (.cells cs t))) :
  OpOK P o X ι h a w ⟨.ptr dst ((h dst).ver + 1) 0 0, some (dst, ⟨(h dst).ver + 1, some ⟨als.length, [als]⟩⟩), [dst]⟩ := by
 obtain ⟨h1, h2, h3⟩ := new_ok (w1 := w.alloc (.cells cs t)) hr dst ⟨als.length, [als]⟩ cs t ((h dst).ver + 1) (by omega) rfl rfl rfl rfl hk (by simp) (fun i x j c hi hj => by
  cases i with
  | succ i => simp at hi
  | zero =>
   simp at hi
   subst hi
   obtain ⟨u, k1, k2, k3⟩ := hc.2 j c hj
   exact ⟨u, by simpa using k1, k2, k3⟩)
 refine ⟨_, _, _, .inl hrun, h1, ?_, h2⟩
 have := VR.ptr (w := w.alloc (.cells cs t)) (F := Forb X (place (hOf h ⟨.ptr dst ((h dst).ver + 1) 0 0, some (dst, ⟨(h dst).ver + 1, some ⟨als.length, [als]⟩⟩), [dst]⟩) (upd ι dst ⟨some w.heap.size, als.length, cs.size⟩))) (G := _) dst ((h dst).ver + 1) 0 0 w.heap.size als.length cs.size h3
 rw [Nat.zero_mul, Nat.add_zero] at this
 exact this
theorem so_alloc {t : TypeId} {zs : List AV} (hr : HRel w X ι h) {env : Env} (dst : Nat) (hop : o.op = .alloc t) (hz : zeroOf P t = some zs) (hx : exec (.alloc zs) dst env h = some e) : OpOK P o X ι h a w e := by
 obtain ⟨inf, z, hi, hz1, g1, g2, _, hzc⟩ := zero_CR (w := w) hz (Forb X (place h ι)) (place h ι)
 simp [exec] at hx
 subst hx
 refine new_var hr (by rw [← hzc.1, g1]; exact g2) hzc (t := t) ?_
 simp only [execOp, hop]
 refine exec_value ?_
 simp [Instr.alloc, Sem.run_bind, run_zero hi hz1, newVar, run_newRow]
theorem so_box {t : TypeId} {x : Operand} {k : Nat} (hr : HRel w X ι h) {env : Env} (he : EnvOK w (Forb X (place h ι)) (place h ι) env a) (dst : Nat) (hop : o.op = .box t x) (hk : 0 < k) (hx : exec (.box k (arg x)) dst env h = some e) : OpOK P o X ι h a w e := by
 have hc := arg_ok he x
 simp only [exec] at hx
 split at hx
 ·rename_i hcond
  obtain ⟨h1, h2⟩ := hcond
  simp at hx
  subst hx
  have hcr : CR w (Forb X (place h ι)) (place h ι) (cellsOf ((arg x).ev env)) (a.eval x).cells := cells_ok hc h2
  have := new_var (P := P) (o := o) (a := a) (dst := dst) (t := t) hr (by rw [h1]; exact hk) hcr (by
   simp only [execOp, hop]
   refine exec_value ?_
   simp [Instr.box, Sem.run_bind, newVar, run_newRow])
  rw [h1] at this
  exact this
 ·cases hx
/-- Rows of cells: what the elements say of one flat row. -/
def RR (w : World) (F : Nat → Prop) (G : Pl) (k : Nat) (es : List (List AV)) (cs : List Value) : Prop :=
 cs.length = es.length * k ∧ (∀ x ∈ es, x.length = k) ∧ ∀ (i : Nat) x (j : Nat) c, es[i]? = some x → x[j]? = some c → ∃ u, cs[i * k + j]? = some u ∧ u.oneCell' = true ∧ VR w F G c u
theorem idx_lt {i j k n : Nat} (hi : i < n) (hj : j < k) : i * k + j < n * k := by
 have := Nat.mul_le_mul_right k (show i + 1 ≤ n by omega)
 rw [Nat.add_mul] at this
 omega
theorem RR.nil (F : Nat → Prop) (G : Pl) (k : Nat) : RR w F G k [] [] := ⟨by simp, by simp, fun i x j c hi => by simp at hi⟩
theorem RR.append {F : Nat → Prop} {G : Pl} {k : Nat} {es fs : List (List AV)} {cs ds : List Value} (h1 : RR w F G k es cs) (h2 : RR w F G k fs ds) : RR w F G k (es ++ fs) (cs ++ ds) := by
 refine ⟨by simp [h1.1, h2.1, Nat.add_mul], fun x hx => (List.mem_append.1 hx).elim (h1.2.1 x) (h2.2.1 x), fun i x j c hi hj => ?_⟩
 by_cases hlt : i < es.length
 ·rw [List.getElem?_append_left hlt] at hi
  obtain ⟨u, k1, k2, k3⟩ := h1.2.2 i x j c hi hj
  exact ⟨u, by rw [List.getElem?_append_left (by rw [h1.1]; exact idx_lt hlt (by rw [← h1.2.1 x (List.mem_of_getElem? hi)]; exact (List.getElem?_eq_some_iff.1 hj).1))]; exact k1, k2, k3⟩
 ·rw [List.getElem?_append_right (by omega)] at hi
  obtain ⟨u, k1, k2, k3⟩ := h2.2.2 (i - es.length) x j c hi hj
  refine ⟨u, ?_, k2, k3⟩
  have hle : es.length * k ≤ i * k := Nat.mul_le_mul_right _ (by omega)
  rw [List.getElem?_append_right (by rw [h1.1]; omega), h1.1]
  rw [Nat.sub_mul] at k1
  rw [show i * k + j - es.length * k = i * k - es.length * k + j by omega]
  exact k1
theorem RR.take {F : Nat → Prop} {G : Pl} {k : Nat} {es : List (List AV)} {cs : List Value} (h1 : RR w F G k es cs) (n : Nat) : RR w F G k (es.take n) (cs.take (n * k)) := by
 refine ⟨?_, fun x hx => h1.2.1 x (List.mem_of_mem_take hx), fun i x j c hi hj => ?_⟩
 ·simp only [List.length_take, h1.1]
  rcases Nat.le_total n es.length with hl | hl
  ·rw [Nat.min_eq_left hl, Nat.min_eq_left (Nat.mul_le_mul_right _ hl)]
  ·rw [Nat.min_eq_right hl, Nat.min_eq_right (Nat.mul_le_mul_right _ hl)]
 ·rw [List.getElem?_take] at hi
  split at hi
  ·rename_i hlt
   obtain ⟨u, k1, k2, k3⟩ := h1.2.2 i x j c hi hj
   exact ⟨u, by rw [List.getElem?_take, if_pos (idx_lt hlt (by rw [← h1.2.1 x (List.mem_of_getElem? hi)]; exact (List.getElem?_eq_some_iff.1 hj).1))]; exact k1, k2, k3⟩
  ·cases hi
theorem RR.drop {F : Nat → Prop} {G : Pl} {k : Nat} {es : List (List AV)} {cs : List Value} (h1 : RR w F G k es cs) (n : Nat) : RR w F G k (es.drop n) (cs.drop (n * k)) := by
 refine ⟨by simp [h1.1, Nat.sub_mul], fun x hx => h1.2.1 x (List.mem_of_mem_drop hx), fun i x j c hi hj => ?_⟩
 rw [List.getElem?_drop] at hi
 obtain ⟨u, k1, k2, k3⟩ := h1.2.2 (n + i) x j c hi hj
 refine ⟨u, ?_, k2, k3⟩
 rw [List.getElem?_drop, show n * k + (i * k + j) = (n + i) * k + j by rw [Nat.add_mul]; omega]
 exact k1
theorem RR.cells {F : Nat → Prop} {G : Pl} {k : Nat} {es : List (List AV)} {cs : List Value} (h1 : RR w F G k es cs) : ∀ u ∈ cs, u.oneCell' = true := by
  intro u hu
  obtain ⟨m, hm⟩ := List.getElem?_of_mem hu
  have hlt : m < es.length * k := by rw [← h1.1]; exact (List.getElem?_eq_some_iff.1 hm).1
  have hk : 0 < k := by rcases Nat.eq_zero_or_pos k with h0 | h0; · subst h0; simp at hlt
                        · exact h0
  have hi : m / k < es.length := Nat.div_lt_of_lt_mul (by rw [Nat.mul_comm]; exact hlt)
  have hj : m % k < k := Nat.mod_lt _ hk
  have hx : es[m / k]? = some es[m / k] := by simp [hi]
  have hxl := h1.2.1 es[m / k] (by simp)
  have hc : es[m / k][m % k]? = some es[m / k][m % k] := by simp [hxl, hj]
  obtain ⟨v, k1, k2, k3⟩ := h1.2.2 _ _ _ _ hx hc
  have hm' : m / k * k + m % k = m := by rw [Nat.mul_comm]; exact Nat.div_add_mod m k
  rw [hm', hm] at k1
  cases k1
  exact k2
theorem RR.of_CR {F : Nat → Prop} {G : Pl} {als : List AV} {cs : Array Value} (hc : CR w F G als cs) : RR w F G als.length [als] cs.toList := by
 refine ⟨by simp [hc.1], by simp, fun i x j c hi hj => ?_⟩
 cases i with
 | succ i => simp at hi
 | zero => simp at hi; subst hi; obtain ⟨u, k1, k2, k3⟩ := hc.2 j c hj; exact ⟨u, by simpa using k1, k2, k3⟩
theorem RR.replicate {F : Nat → Prop} {G : Pl} {als : List AV} {cs : Array Value} (hc : CR w F G als cs) : ∀ n, RR w F G als.length (List.replicate n als) (List.replicate n cs.toList).flatten
 | 0 => RR.nil F G _
 | n + 1 => by
  rw [List.replicate_succ, List.replicate_succ, List.flatten_cons]
  exact RR.append (RR.of_CR hc) (RR.replicate hc n)
/-- A new row. -/
theorem new_row {dst : Nat} {es : List (List AV)} {cs : List Value} {t : TypeId} {k l c : Nat} {w1 : World} (rest : List Value) (hr : HRel w X ι h) (hk : 0 < k) (hc : RR w (Forb X (place h ι)) (place h ι) k es cs) (rd : List Nat)
  (hheap : w1.heap = w.heap.push (.cells (cs ++ rest).toArray t)) (hos : w1.os = w.os) (htape : w1.tape = w.tape) (hout : w1.output = w.output) (ver : Nat) (hver : (h dst).ver < ver)
  (n : Nat) (hn : n ≤ c) (hc1 : l ≤ c) (hm : n ≤ maxL ∧ l ≤ maxL) (hcs : c * k ≤ cs.length + rest.length)
  (hrun : (execOp a.eval o).run P w = .ok (.value (.slice (some ⟨w.heap.size, 0, none⟩) n c)) w1) :
  OpOK P o X ι h a w ⟨.sl dst ver 0 n l, some (dst, ⟨ver, some ⟨k, es⟩⟩), rd⟩ := by
 obtain ⟨h1, h2, h3⟩ := new_ok (w1 := w1) hr dst ⟨k, es⟩ (cs ++ rest).toArray t ver hver hheap hos htape hout hk hc.2.1 (fun i x j b hi hj => by
  obtain ⟨u, k1, k2, k3⟩ := hc.2.2 i x j b hi hj
  refine ⟨u, ?_, k2, k3⟩
  have hlt : i * k + j < cs.length := (List.getElem?_eq_some_iff.1 k1).1
  simp only [List.getElem?_toArray]
  rw [List.getElem?_append_left hlt]
  exact k1)
 refine ⟨_, _, _, .inl hrun, h1, ?_, h2⟩
 exact .sl dst ver 0 n l w.heap.size k _ (some ⟨w.heap.size, 0, none⟩) c h3 hn hc1 hm (.inr (by simp)) (by simpa using hcs)
theorem flatten_range {z : List Value} (hz : 0 < z.length) : ∀ n, (List.range (n * z.length)).map (fun i => z[i % z.length]!) = (List.replicate n z).flatten := by
 intro n
 induction n with
 | zero => simp
 | succ n ih =>
  rw [Nat.add_mul, Nat.one_mul, List.range_add, List.map_append, ih, List.replicate_succ', List.flatten_append]
  congr 1
  simp only [List.flatten_cons, List.flatten_nil, List.append_nil, List.map_map]
  apply List.ext_getElem?
  intro i
  by_cases hi : i < z.length
  ·simp [hi, Nat.mul_add_mod_self_right, Nat.mod_eq_of_lt hi]
  ·simp [hi, List.getElem?_eq_none (Nat.le_of_not_lt hi)]
theorem so_make {t E : TypeId} {lo co : Operand} {inf : TypeInfo} {zs : List AV} (hr : HRel w X ι h) {env : Env} (he : EnvOK w (Forb X (place h ι)) (place h ι) env a) (dst : Nat) (hop : o.op = .makeSlice t lo co)
  (ht : P.underlying t = some (.slice E)) (hi : P.info? E = some inf) (hz : zeroOf P E = some zs) (hx : exec (.make inf.size inf.bytes zs (arg lo) (arg co)) dst env h = some e) : OpOK P o X ι h a w e := by
 obtain ⟨inf', z, hi', hz1, g1, g2, _, hzc⟩ := zero_CR (w := w) hz (Forb X (place h ι)) (place h ι)
 rw [hi] at hi'
 cases hi'
 simp only [exec] at hx
 split at hx
 ·rename_i l c hl hc
  split at hx
  ·rename_i hcond
   obtain ⟨c1, c2, c3, c4, c5⟩ := hcond
   simp at hx
   subst hx
   obtain ⟨k1, hl⟩ := intOfA_ok (arg_ok he lo) hl
   obtain ⟨k2, hc⟩ := intOfA_ok (arg_ok he co) hc
   have hrr := RR.replicate hzc c.toNat
   rw [c5] at hrr
   refine new_row (cs := (List.replicate c.toNat z.cells.toList).flatten) [] (t := E) (l := c.toNat) (c := c.toNat) (w1 := w.alloc (.cells (List.replicate c.toNat z.cells.toList).flatten.toArray E)) hr g2 hrr _ (by simp only [List.append_nil]; rfl) rfl rfl rfl _ (by omega) l.toNat (by omega) (Nat.le_refl _)
    ⟨by simp only [maxL]; omega, by simp only [maxL]; omega⟩ (by rw [hrr.1]; simp) ?_
   simp only [execOp, hop]
   refine exec_value ?_
   have hw : ∀ n : Int, 0 ≤ n → n ≤ 140737488355328 → IntKind.i64.wrap n = n := by
    intro n h0 h1
    simp [IntKind.wrap, IntKind.bits, IntKind.signed]
    omega
   have e1 := hw l c1 (by omega)
   have e2 := hw c (by omega) c4
   have hb : ¬ (281474976710656 < (inf.bytes : Int) * c) := by rw [Int.mul_comm]; omega
   have hb2 : ¬ (140737488355328 < c.toNat * inf.bytes) := by
    have : ((c.toNat * inf.bytes : Nat) : Int) = c * inf.bytes := by rw [Int.natCast_mul, Int.toNat_of_nonneg (by omega)]
    omega
   simp only [Instr.makeSlice, Sem.run_bind, run_underlying ht, Result.andThen_ok, hl, hc, asInt, asIntOf, Sem.run_pure, typeInfo, run_program, hi, e1, e2]
   have t1 : (decide (c < 0) || decide ((inf.bytes : Int) * c > 2 ^ 48)) = false := by
    simp
    omega
   simp only [t1, Bool.false_or]
   have t2 : (decide (l < 0) || decide (l > c)) = false := by simp; omega
   rw [if_neg (by simp [t2])]
   have t3 : (askRoom (c.toNat * inf.bytes)).run P w = .ok () w := by
    unfold askRoom
    rw [if_neg (by simp [roomBytes]; omega)]
    rfl
   simp only [Sem.run_bind, Sem.run_pure, Result.andThen_ok, t3, run_sizeOf' hi]
   by_cases hc0 : c.toNat * inf.size = 0
   ·have hcz : c.toNat = 0 := by
     rcases Nat.mul_eq_zero.1 hc0 with h0 | h0
     ·exact h0
     ·omega
    rw [if_pos hc0]
    have h00 : (Array.range 0).map (fun _ => (default : Value)) = #[] := by apply Array.toList_inj.1; simp
    simp [hcz, Sem.run_bind, run_newRow, h00]
   ·rw [if_neg hc0]
    have hfl := flatten_range (z := z.cells.toList) (by simp; omega) c.toNat
    simp only [Array.length_toList, g1] at hfl
    simp only [Sem.run_bind, run_zero hi hz1, Result.andThen_ok, Sem.run_pure, run_newRow]
    have harr : (Array.range (c.toNat * inf.size)).map (fun i => z.cells[i % z.cells.size]!) = (List.replicate c.toNat z.cells.toList).flatten.toArray := by
     rw [← hfl]
     apply Array.toList_inj.1
     simp [g1, Array.toList_range, getElem!_def]
     try (intro b _; cases z.cells[b % inf.size]? <;> rfl)
    rw [harr]
  ·cases hx
 ·cases hx
end
end Go.Abs
