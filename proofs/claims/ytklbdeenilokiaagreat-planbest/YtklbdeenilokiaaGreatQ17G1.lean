/- Contracts of functions of the program, and what they lean on: a part of the proof that planBest_proved stands; no condition. -/
import Derived.Test.YtklbdeenilokiaaGreatQ17M4
import Derived.Below
import Derived.OpenShut
import Derived.ChangeArms
import Derived.ChangeOld
import Derived.WideShapes
/- Arguments that came in, read as data: by the shape of their type. -/
set_option linter.unusedVariables false
set_option linter.unusedSimpArgs false
namespace Go.Abs
open Go.RowKit
inductive Ty where
 | int (k : IntKind)
 | bool
 | str
 | sl (e : List Ty)
inductive Ty.Of : Ty → D → Prop
 | int (k n) (h : (Lit.int k n).wf = true) : Of (.int k) (.int k n)
 | bool (b) : Of .bool (.bool b)
 | str (s : ByteArray) (h : s.size ≤ Go.maxLen) : Of .str (.str s)
 | sl (ts : List Ty) (xs : List (List D)) (hl : xs.length ≤ Go.maxLen) (h : ∀ x ∈ xs, x.length = ts.length) (hj : ∀ (x : List D) (j : Nat) t d, x ∈ xs → x[j]? = some d → ts[j]? = some t → Of t d) : Of (.sl ts) (.slice xs)
def flds (P : Program) (r : TypeId → Option (List Ty)) : List Field → Nat → Option (List Ty)
 | [], _ => some []
 | f :: fs, o => if f.offset = o then match r f.type with
   | some ts => if ts.length = P.cellsOf f.type then (flds P r fs (o + ts.length)).map (ts ++ ·) else none
   | none => none
  else none
def reps (ts : List Ty) : Nat → List Ty
 | 0 => []
 | n + 1 => ts ++ reps ts n
def shp (P : Program) : Nat → TypeId → Option (List Ty)
 | 0, _ => none
 | n + 1, t => match P.underlying t with
  | some .bool => some [.bool]
  | some (.int k) => some [.int k]
  | some .string => some [.str]
  | some (.slice e) => match shp P n e with
   | some ts => if ts.length = P.cellsOf e ∧ 0 < ts.length then some [.sl ts] else none
   | none => none
  | some (.struct fs) => match flds P (shp P n) fs.toList 0 with
   | some ts => if ts.length = P.cellsOf t then some ts else none
   | none => none
  | some (.array k e) => match shp P n e with
   | some ts => if ts.length = P.cellsOf e ∧ k * ts.length = P.cellsOf t then some (reps ts k) else none
   | none => none
  | _ => none
def NoF : Nat → Prop := fun _ => False
/-- These cells hold data of these types. -/
def RD (w : World) (ts : List Ty) (cs : List Value) : Prop :=
 ∃ ds : List D, ds.length = ts.length ∧ cs.length = ts.length ∧ ∀ (j : Nat) t d v, ts[j]? = some t → ds[j]? = some d → cs[j]? = some v → t.Of d ∧ DR w NoF d v ∧ v.oneCell' = true
theorem RD.nil (w : World) : RD w [] [] := ⟨[], rfl, rfl, fun j t d v h => by simp at h⟩
theorem RD.append {w : World} {ts ts' : List Ty} {cs cs' : List Value} (h : RD w ts cs) (h' : RD w ts' cs') : RD w (ts ++ ts') (cs ++ cs') := by
 obtain ⟨ds, l1, l2, h3⟩ := h
 obtain ⟨ds', l1', l2', h3'⟩ := h'
 refine ⟨ds ++ ds', by simp [l1, l1'], by simp [l2, l2'], fun j t d v ht hd hv => ?_⟩
 by_cases hj : j < ts.length
 ·rw [List.getElem?_append_left hj] at ht
  rw [List.getElem?_append_left (by omega)] at hd hv
  exact h3 j t d v ht hd hv
 ·rw [List.getElem?_append_right (by omega)] at ht hd hv
  rw [l1] at hd
  rw [l2] at hv
  exact h3' _ t d v ht hd hv
theorem RD.one {w : World} {t : Ty} {d : D} {v : Value} (h1 : t.Of d) (h2 : DR w NoF d v) (h3 : v.oneCell' = true) : RD w [t] [v] :=
 ⟨[d], rfl, rfl, fun j t' d' v' ht hd hv => by
  cases j with
  | zero => simp at ht hd hv; subst ht hd hv; exact ⟨h1, h2, h3⟩
  | succ j => simp at ht⟩
theorem cell_spot {w : World} {a : Addr} {v : Value} (h : w.cell? a = some v) : a = ⟨a.block, a.off, none⟩ ∧ a.block < w.heap.size := by
 unfold World.cell? at h
 split at h
 ·rename_i c _ _ hb
  split at h
  ·cases h
  ·rename_i hs
   refine ⟨?_, (Array.getElem?_eq_some_iff.1 hb).1⟩
   obtain ⟨b, o, s⟩ := a
   simp at hs
   simp [hs]
 ·cases h
theorem add_add {b o : Nat} (n m : Nat) : ((⟨b, o, none⟩ : Addr).add n).add m = ⟨b, o + (n + m), none⟩ := by
 unfold Addr.add
 by_cases h1 : n = 0 <;> by_cases h2 : m = 0 <;> simp [h1, h2, Nat.add_assoc]
section
variable {H : Type} {enc : TypeId × Value → H} {P : Program} {w : World} {base : Nat} {spare : Nat → Bool} {held : Bool}
theorem flds_read {r : TypeId → Option (List Ty)} {n : Nat} (cs : List Value) (hr : ∀ t ts x cs, r t = some ts → DataW.trod enc P w base spare held n t cs = some x → RD w ts cs) :
  ∀ (fs : List Field) (o : Nat) (ts : List Ty), flds P r fs o = some ts → (∀ f ∈ fs, ∃ x, DataW.trod enc P w base spare held n f.type ((cs.drop f.offset).take (P.cellsOf f.type)) = some x) → RD w ts ((cs.drop o).take ts.length)
 | [], o, ts, h, _ => by
  simp only [flds, Option.some.injEq] at h
  subst h
  simpa using RD.nil w
 | f :: fs, o, ts, h, hx => by
  simp only [flds] at h
  split at h
  ·rename_i ho
   split at h
   ·rename_i ts1 h1
    split at h
    ·rename_i hl
     simp only [Option.map_eq_some_iff] at h
     obtain ⟨ts2, h2, rfl⟩ := h
     obtain ⟨x, hx1⟩ := hx f (by simp)
     rw [ho] at hx1
     have a1 := hr _ _ _ _ h1 hx1
     have a2 := flds_read cs hr fs _ _ h2 fun f hf => hx f (by simp [hf])
     rw [← hl] at a1
     have := a1.append a2
     rwa [show (cs.drop o).take ts1.length ++ (cs.drop (o + ts1.length)).take ts2.length = (cs.drop o).take (ts1 ++ ts2).length by
      rw [List.length_append, List.take_add, List.drop_drop]] at this
    ·cases h
   ·cases h
  ·cases h
theorem reps_read {ts : List Ty} (cs : List Value) : ∀ (k i : Nat), (∀ j, j < k → RD w ts ((cs.drop ((i + j) * ts.length)).take ts.length)) → RD w (reps ts k) ((cs.drop (i * ts.length)).take (k * ts.length))
 | 0, i, h => by simpa [reps] using RD.nil w
 | k + 1, i, h => by
  have a1 := h 0 (by omega)
  have a2 := reps_read cs k (i + 1) fun j hj => by have := h (j + 1) (by omega); rwa [show i + (j + 1) = i + 1 + j by omega] at this
  have := a1.append a2
  simp only [Nat.add_zero] at this
  have e1 : i * ts.length + ts.length = (i + 1) * ts.length := by rw [Nat.add_mul]; omega
  have e2 : ts.length + k * ts.length = (k + 1) * ts.length := by rw [Nat.add_mul]; omega
  rw [← e1, ← List.drop_drop, ← List.take_add, e2] at this
  exact this
theorem read : ∀ (m : Nat) (n : Nat) (t : TypeId) (ts : List Ty) (x : DataW H × List MemPlace) (cs : List Value), shp P m t = some ts → DataW.trod enc P w base spare held n t cs = some x → RD w ts cs
 | 0, n, t, ts, x, cs, h, _ => by simp [shp] at h
 | m + 1, n, t, ts, x, cs, h, hx => by
  simp only [shp] at h
  split at h
  ·rename_i hu
   cases h
   obtain ⟨b, rfl, _⟩ := DataW.trod_bool hu hx
   exact .one (.bool b) (.bool b) rfl
  ·rename_i k hu
   cases h
   obtain ⟨q, rfl, _, hw⟩ := DataW.trod_int hu hx
   exact .one (.int k q hw) (.int k q) rfl
  ·rename_i hu
   cases h
   obtain ⟨s, rfl, _, hw⟩ := DataW.trod_string hu hx
   exact .one (.str s hw) (.str s) rfl
  ·rename_i e hu
   split at h
   ·rename_i te hte
    split at h
    ·rename_i hlen
     cases h
     rcases DataW.trod_slice hu hx with ⟨rfl, _⟩ | ⟨a, len, cap, elems, rest, n', rfl, rfl, rfl, hb, hl, hm, hel, hget, _, _⟩
     ·exact .one (d := .slice []) (.sl te [] (Nat.zero_le _) (by simp) (by simp)) (.none _ _) rfl
     ·have each : ∀ i, i < len → ∃ cs', w.cells? base (a.add (i * P.cellsOf e)) (P.cellsOf e) = some cs' ∧ RD w te cs' := by
       intro i hi
       have h1 := hget i hi
       obtain ⟨y, hy⟩ : ∃ y, elems[i]? = some y := by
        refine ⟨elems[i]'(by omega), ?_⟩
        simp
       rw [hy, Option.bind_eq_some_iff] at h1
       obtain ⟨cs', h2, h3⟩ := h1
       exact ⟨cs', h2, read m n' e te y cs' hte h3⟩
      have each' : ∀ i, i < len → ∃ (cs' : List Value) (ds : List D), ds.length = te.length ∧ cs'.length = te.length ∧ (∀ j, j < te.length → w.cell? ((a.add (i * te.length)).add j) = cs'[j]?) ∧
        ∀ (j : Nat) t d v, te[j]? = some t → ds[j]? = some d → cs'[j]? = some v → t.Of d ∧ DR w NoF d v ∧ v.oneCell' = true := by
       intro i hi
       obtain ⟨cs', h1, ds, h2, h3, h4⟩ := each i hi
       obtain ⟨_, h5, h6⟩ := World.cells?_some h1
       rw [← hlen.1] at h6
       exact ⟨cs', ds, h2, h3, h6, h4⟩
      classical
      let C : Nat → List Value := fun i => if hi : i < len then (each' i hi).choose else []
      have hC : ∀ i, (hi : i < len) → ∃ ds : List D, ds.length = te.length ∧ (C i).length = te.length ∧ (∀ j, j < te.length → w.cell? ((a.add (i * te.length)).add j) = (C i)[j]?) ∧
        ∀ (j : Nat) t d v, te[j]? = some t → ds[j]? = some d → (C i)[j]? = some v → t.Of d ∧ DR w NoF d v ∧ v.oneCell' = true := by
       intro i hi
       have := (each' i hi).choose_spec
       simp only [C, hi, dif_pos]
       exact this
      let X : Nat → List D := fun i => if hi : i < len then (hC i hi).choose else []
      have hX : ∀ i, (hi : i < len) → (X i).length = te.length ∧ (C i).length = te.length ∧ (∀ j, j < te.length → w.cell? ((a.add (i * te.length)).add j) = (C i)[j]?) ∧
        ∀ (j : Nat) t d v, te[j]? = some t → (X i)[j]? = some d → (C i)[j]? = some v → t.Of d ∧ DR w NoF d v ∧ v.oneCell' = true := by
       intro i hi
       have := (hC i hi).choose_spec
       simp only [X, hi, dif_pos]
       exact this
      have hspot : 0 < len → a = ⟨a.block, a.off, none⟩ ∧ a.block < w.heap.size := by
       intro h0
       obtain ⟨_, h2, h3, _⟩ := hX 0 h0
       have h4 := h3 0 hlen.2
       have h5 : 0 < (C 0).length := by omega
       rw [List.getElem?_eq_getElem h5] at h4
       have h8 : (a.add (0 * te.length)).add 0 = a := by simp [Addr.add]
       rw [h8] at h4
       exact cell_spot h4
      have hxs : ∀ i, i < ((List.range len).map X).length → ((List.range len).map X)[i]? = some (X i) := by
       intro i hi
       simp at hi
       simp [hi]
      have hlen' : ((List.range len).map X).length = len := by simp
      refine .one (d := .slice ((List.range len).map X)) (.sl te _ (by rw [hlen']; omega) (fun x hx => ?_) (fun x j t d hx hd ht => ?_)) ?_ rfl
      ·simp only [List.mem_map, List.mem_range] at hx
       obtain ⟨i, hi, rfl⟩ := hx
       exact (hX i hi).1
      ·simp only [List.mem_map, List.mem_range] at hx
       obtain ⟨i, hi, rfl⟩ := hx
       obtain ⟨k1, k2, k3, k4⟩ := hX i hi
       have hj : j < (C i).length := by have := (List.getElem?_eq_some_iff.1 ht).1; omega
       exact (k4 j t d (C i)[j] ht hd (by simp [hj])).1
      ·by_cases h0 : len = 0
       ·subst h0
        exact .none _ _
       ·obtain ⟨hs1, hs2⟩ := hspot (by omega)
        have : DR w NoF (.slice ((List.range len).map X)) (.slice (some ⟨a.block, a.off, none⟩) ((List.range len).map X).length cap) := by
         refine .slice _ te.length a.block a.off cap (fun i j => (C i).getD j undef) (by rw [hlen']; exact hl) (by rw [hlen']; exact Nat.le_trans hl hm) hlen.2 id hs2 (fun x hx => ?_) (fun i j hi hj => ?_) (fun i j x d hx hd => ?_)
         ·simp only [List.mem_map, List.mem_range] at hx
          obtain ⟨i, hi, rfl⟩ := hx
          exact (hX i hi).1
         ·rw [hlen'] at hi
          obtain ⟨k1, k2, k3, k4⟩ := hX i hi
          have h1 := k3 j hj
          have hj' : j < (C i).length := by omega
          rw [List.getElem?_eq_getElem hj'] at h1
          rw [hs1, add_add] at h1
          rw [h1]
          simp [hj']
         ·have hi : i < len := by have := (List.getElem?_eq_some_iff.1 hx).1; rwa [hlen'] at this
          rw [hxs i (by rw [hlen']; exact hi)] at hx
          simp only [Option.some.injEq] at hx
          subst hx
          obtain ⟨k1, k2, k3, k4⟩ := hX i hi
          have hj : j < te.length := by have := (List.getElem?_eq_some_iff.1 hd).1; omega
          have hj' : j < (C i).length := by omega
          have := (k4 j te[j] d (C i)[j] (by simp [hj]) hd (by simp [hj'])).2.1
          simpa [hj'] using this
        rw [hlen', ← hs1] at this
        exact this
    ·cases h
   ·cases h
  ·rename_i fs hu
   split at h
   ·rename_i ts1 h1
    split at h
    ·rename_i hlen
     cases h
     obtain ⟨xs, n', rfl, _, hcl, hxl, hget⟩ := DataW.trod_struct hu hx
     have := flds_read (enc := enc) (base := base) (spare := spare) (held := held) (n := n') cs (fun t ts x cs h1 h2 => read m n' t ts x cs h1 h2) fs.toList 0 ts h1 fun f hf => by
      obtain ⟨i, hi⟩ := List.getElem?_of_mem hf
      have hi2 : fs[i]? = some f := by simpa using hi
      have h2 := hget i f hi2
      have hlt : i < xs.length := by rw [hxl]; exact (Array.getElem?_eq_some_iff.1 hi2).1
      exact ⟨xs[i], by rw [h2]; simp [hlt]⟩
     rw [List.drop_zero, List.take_of_length_le (by omega)] at this
     exact this
    ·cases h
   ·cases h
  ·rename_i k e hu
   split at h
   ·rename_i te hte
    split at h
    ·rename_i hlen
     cases h
     obtain ⟨xs, n', rfl, _, hcl, hxl, hget⟩ := DataW.trod_array hu hx
     have := reps_read (ts := te) cs k 0 fun j hj => by
      have h2 := hget j hj
      rw [← hlen.1] at h2
      have hlt : j < xs.length := by omega
      rw [Nat.zero_add]
      exact read m n' e te xs[j] _ hte (by rw [h2]; simp [hlt])
     rw [Nat.zero_mul, List.drop_zero, List.take_of_length_le (by omega)] at this
     exact this
    ·cases h
   ·cases h
  ·cases h
end
/-! ### The call from outside -/
def ι00 : Nat → Bd := fun _ => ⟨none, 0, 0⟩
theorem own_h00 (n : Nat) : ¬ Own (place h00 ι00) n := by
 intro h
 obtain ⟨b, h1, _⟩ := own_iff.1 h
 cases h1
theorem forb_h00 (n : Nat) : Forb NoF (place h00 ι00) n ↔ False := ⟨fun h => h.elim id (own_h00 n), fun h => h.elim⟩
theorem rel_h00 (w : World) : HRel w NoF ι00 h00 where
 blks b blk hb := by cases hb
 inj b b' n hb := by cases hb
 notX n hn := (own_h00 n hn).elim
 xlt n hx := hx.elim
def VR0 (w : World) : AV → Value → Prop := VR w (Forb NoF (place (outer h00) ι00)) (place (outer h00) ι00)
theorem VR0.d {w : World} {x : D} {v : Value} (h : DR w NoF x v) : VR0 w (.d x) v := VR.d _ _ (h.mono (Nat.le_refl _) fun n _ _ => ⟨fun h => by rw [outer_h00] at h; exact (forb_h00 n).1 h, rfl⟩)
/-- Data of these types, one after another. -/
def OfL (ts : List Ty) (ds : List D) : Prop := ds.length = ts.length ∧ ∀ (j : Nat) t d, ts[j]? = some t → ds[j]? = some d → t.Of d
theorem RD.agg {w : World} {ts : List Ty} {vs : Array Value} (h : RD w ts vs.toList) : ∃ ds, OfL ts ds ∧ VR0 w (.agg (ds.map .d)) (.agg vs) := by
 obtain ⟨ds, h1, h2, h3⟩ := h
 have hv : ∀ (j : Nat), j < ts.length → ∃ t d v, ts[j]? = some t ∧ ds[j]? = some d ∧ vs[j]? = some v ∧ t.Of d ∧ DR w NoF d v ∧ v.oneCell' = true := by
  intro j hj
  have hv : j < vs.size := by simp at h2; omega
  exact ⟨ts[j], ds[j], vs[j], by simp [hj], by simp [h1, hj], by simp [hv], h3 j ts[j] ds[j] vs[j] (by simp [hj]) (by simp [h1, hj]) (by simp [hv])⟩
 refine ⟨ds, ⟨h1, fun j t d ht hd => ?_⟩, .agg _ _ (by simp at h2; simp [h1, h2]) (fun v hv' => ?_) (fun j c v hc hv' => ?_)⟩
 ·obtain ⟨t', d', v, e1, e2, e3, e4, _⟩ := hv j (List.getElem?_eq_some_iff.1 ht).1
  rw [ht] at e1; cases e1
  rw [hd] at e2; cases e2
  exact e4
 ·obtain ⟨j, hj, rfl⟩ := Array.mem_iff_getElem.1 hv'
  obtain ⟨t', d', v, e1, e2, e3, _, _, e6⟩ := hv j (by simp at h2; omega)
  simp [hj] at e3
  subst e3
  exact e6
 ·simp only [List.getElem?_map, Option.map_eq_some_iff] at hc
  obtain ⟨d, hd, rfl⟩ := hc
  obtain ⟨t', d', v', e1, e2, e3, _, e5, _⟩ := hv j (by have := (List.getElem?_eq_some_iff.1 hd).1; omega)
  rw [hd] at e2; cases e2
  rw [hv'] at e3; cases e3
  exact VR0.d e5
theorem RD.single {w : World} {t : Ty} {v : Value} (h : RD w [t] [v]) : ∃ d, t.Of d ∧ VR0 w (.d d) v := by
 obtain ⟨ds, h1, h2, h3⟩ := h
 match ds, h1 with
 | [d], _ =>
  obtain ⟨e1, e2, _⟩ := h3 0 t d v rfl rfl rfl
  exact ⟨d, e1, VR0.d e2⟩
/-- A law that returns true, called from outside. -/
theorem law_calls {P : Program} {f : FuncId} {args : List AV} (hc : PCall P f args (.d (.bool true))) (vs : Array Value) (W : World) (hs : vs.size = args.length) (hv : ∀ (j : Nat) c v, args[j]? = some c → vs[j]? = some v → VR0 W c v) :
  Calls P f vs W fun e w' => e = .returned (.bool true) ∧ Below W.heap.size W w' := by
 refine ((hc h00).2 W NoF ι00 vs (by rw [outer_h00]; exact rel_h00 W) (fun b blk _ hl => by cases hl) hs hv).mono ?_
 rintro e w' ⟨r, v, h', ι', ⟨rfl, _⟩, rfl, q1, q2, q3, q4, q5⟩
 refine ⟨by rw [q4.bool_inv], q5.os, q5.tape, q5.output, q5.size, fun k hk => q5.keep k hk ?_⟩
 rw [outer_h00]
 exact own_h00 k
/-! ### Opening -/
theorem of_int {k : IntKind} {d : D} (h : Ty.Of (.int k) d) : ∃ n, d = .int k n ∧ (Lit.int k n).wf = true := by cases h with | int _ n h => exact ⟨n, rfl, h⟩
theorem of_bool {d : D} (h : Ty.Of .bool d) : ∃ b, d = .bool b := by cases h with | bool b => exact ⟨b, rfl⟩
theorem of_str {d : D} (h : Ty.Of .str d) : ∃ s, d = .str s ∧ s.size ≤ Go.maxLen := by cases h with | str s h => exact ⟨s, rfl, h⟩
theorem of_sl {ts : List Ty} {d : D} (h : Ty.Of (.sl ts) d) : ∃ xs, d = .slice xs ∧ ∀ x ∈ xs, OfL ts x := by
 cases h with
 | sl _ xs hl h hj => exact ⟨xs, rfl, fun x hx => ⟨h x hx, fun j t d ht hd => hj x j t d hx hd ht⟩⟩
theorem OfL.cons {t : Ty} {ts : List Ty} {ds : List D} (h : OfL (t :: ts) ds) : ∃ d ds', ds = d :: ds' ∧ t.Of d ∧ OfL ts ds' := by
 obtain ⟨h1, h2⟩ := h
 match ds, h1 with
 | d :: ds', h1 => exact ⟨d, ds', rfl, h2 0 t d rfl rfl, by simpa using h1, fun j t' d' ht hd => h2 (j + 1) t' d' (by simpa using ht) (by simpa using hd)⟩
theorem OfL.nil {ds : List D} (h : OfL [] ds) : ds = [] := List.eq_nil_of_length_eq_zero h.1
theorem all_map {α β : Type} {f : α → β} {p : α → Prop} : ∀ (xs : List β), (∀ x ∈ xs, ∃ a, x = f a ∧ p a) → ∃ l : List α, xs = l.map f ∧ ∀ a ∈ l, p a
 | [], _ => ⟨[], rfl, fun a h => by simp at h⟩
 | x :: xs, h => by
  obtain ⟨a, rfl, ha⟩ := h x (by simp)
  obtain ⟨l, rfl, hl⟩ := all_map xs fun y hy => h y (by simp [hy])
  exact ⟨a :: l, rfl, fun b hb => by
   rcases List.mem_cons.1 hb with rfl | hb
   ·exact ha
   ·exact hl b hb⟩
end Go.Abs
