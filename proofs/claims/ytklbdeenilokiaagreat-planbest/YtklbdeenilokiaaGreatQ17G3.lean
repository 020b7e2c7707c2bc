/- Contracts of functions of the program, and what they lean on: a part of the proof that planBest_proved stands; no condition. -/
import Derived.Test.YtklbdeenilokiaaGreatQ17G2
import Derived.SizedLaws
set_option linter.unusedVariables false
set_option linter.unusedSimpArgs false
namespace Go.Abs
open Go.RowKit
mutual
/-- All rows and strings in a datum are as long as a machine's memory allows. -/
def D.sm : D → Prop
 | .slice xs => xs.length ≤ 140737488355328 ∧ D.smss xs
 | .str s => s.size ≤ 140737488355328
 | _ => True
def D.smss : List (List D) → Prop
 | [] => True
 | x :: xs => D.sml x ∧ D.smss xs
def D.sml : List D → Prop
 | [] => True
 | x :: xs => D.sm x ∧ D.sml xs
end
theorem D.sml_iff {x : List D} : D.sml x ↔ ∀ d ∈ x, D.sm d := by
 induction x with
 | nil => simp [D.sml]
 | cons a l ih => simp [D.sml, ih]
theorem D.smss_iff {xs : List (List D)} : D.smss xs ↔ ∀ x ∈ xs, ∀ d ∈ x, D.sm d := by
 induction xs with
 | nil => simp [D.smss]
 | cons a l ih => simp [D.smss, D.sml_iff, ih]
theorem D.sm_slice {xs : List (List D)} : D.sm (.slice xs) ↔ xs.length ≤ 140737488355328 ∧ ∀ x ∈ xs, ∀ d ∈ x, D.sm d := by simp [D.sm, D.smss_iff]
theorem weights_mem_all {H : Type} {P : Program} {e : TypeId} : ∀ {ds : List (DataW H)} {d : DataW H}, d ∈ ds → ∀ n ∈ d.weights P e, n ∈ DataW.weightsAll P e ds
 | x :: ds, d, hd, n, hn => by
  simp only [DataW.weightsAll, List.mem_append]
  rcases List.mem_cons.1 hd with rfl | hd
  ·exact .inl hn
  ·exact .inr (weights_mem_all hd n hn)
def shq (P : Program) : Nat → TypeId → Option (List Ty)
 | 0, _ => none
 | n + 1, t => match P.underlying t with
  | some .bool => some [.bool]
  | some (.int k) => some [.int k]
  | some .string => some [.str]
  | some (.slice e) => match shq P n e with
   | some ts => if (ts.length = P.cellsOf e ∧ 0 < ts.length) ∧ 0 < P.bytesOf e then some [.sl ts] else none
   | none => none
  | some (.struct fs) => match flds P (shq P n) fs.toList 0 with
   | some ts => if ts.length = P.cellsOf t then some ts else none
   | none => none
  | some (.array k e) => match shq P n e with
   | some ts => if ts.length = P.cellsOf e ∧ k * ts.length = P.cellsOf t then some (reps ts k) else none
   | none => none
  | _ => none
/-- These cells hold data of these types. -/
def RE (w : World) (ts : List Ty) (cs : List Value) : Prop :=
 ∃ ds : List D, ds.length = ts.length ∧ cs.length = ts.length ∧ ∀ (j : Nat) t d v, ts[j]? = some t → ds[j]? = some d → cs[j]? = some v → (t.Of d ∧ D.sm d) ∧ DR w NoF d v ∧ v.oneCell' = true
theorem RE.nil (w : World) : RE w [] [] := ⟨[], rfl, rfl, fun j t d v h => by simp at h⟩
theorem RE.append {w : World} {ts ts' : List Ty} {cs cs' : List Value} (h : RE w ts cs) (h' : RE w ts' cs') : RE w (ts ++ ts') (cs ++ cs') := by
 obtain ⟨ds, l1, l2, h3⟩ := h
 obtain ⟨ds', l1', l2', h3'⟩ := h'
 refine ⟨ds ++ ds', by simp [l1, l1'], by simp [l2, l2'], fun j t d v ht hd hv => ?_⟩
 by_cases hj : j < ts.length
 ·rw [List.getElem?_append_left hj] at ht
  rw [List.getElem?_append_left (by omega)] at hd hv
  exact h3 j t d v ht hd hv
 ·rw [List.getElem?_append_right (by omega)] at ht hd hv
  rw [l1] at hd
  rw [l2] at hv
  exact h3' _ t d v ht hd hv
theorem RE.one {w : World} {t : Ty} {d : D} {v : Value} (h1 : t.Of d ∧ D.sm d) (h2 : DR w NoF d v) (h3 : v.oneCell' = true) : RE w [t] [v] :=
 ⟨[d], rfl, rfl, fun j t' d' v' ht hd hv => by
  cases j with
  | zero => simp at ht hd hv; subst ht hd hv; exact ⟨h1, h2, h3⟩
  | succ j => simp at ht⟩
section
variable {H : Type} {enc : TypeId × Value → H} {P : Program} {w : World} {base : Nat} {spare : Nat → Bool} {held : Bool}
theorem flds_readS {r : TypeId → Option (List Ty)} {n : Nat} (cs : List Value) (hr : ∀ t ts x cs, r t = some ts → DataW.trod enc P w base spare held n t cs = some x → (∀ k ∈ x.1.weights P t, k ≤ reachBytes) → RE w ts cs) :
  ∀ (fs : List Field) (o : Nat) (ts : List Ty), flds P r fs o = some ts → (∀ f ∈ fs, ∃ x, DataW.trod enc P w base spare held n f.type ((cs.drop f.offset).take (P.cellsOf f.type)) = some x ∧ ∀ k ∈ x.1.weights P f.type, k ≤ reachBytes) → RE w ts ((cs.drop o).take ts.length)
 | [], o, ts, h, _ => by
  simp only [flds, Option.some.injEq] at h
  subst h
  simpa using RE.nil w
 | f :: fs, o, ts, h, hx => by
  simp only [flds] at h
  split at h
  ·rename_i ho
   split at h
   ·rename_i ts1 h1
    split at h
    ·rename_i hl
     simp only [Option.map_eq_some_iff] at h
     obtain ⟨ts2, h2, rfl⟩ := h
     obtain ⟨x, hx1, hxw⟩ := hx f (by simp)
     rw [ho] at hx1
     have a1 := hr _ _ _ _ h1 hx1 hxw
     have a2 := flds_readS cs hr fs _ _ h2 fun f hf => hx f (by simp [hf])
     rw [← hl] at a1
     have := a1.append a2
     rwa [show (cs.drop o).take ts1.length ++ (cs.drop (o + ts1.length)).take ts2.length = (cs.drop o).take (ts1 ++ ts2).length by
      rw [List.length_append, List.take_add, List.drop_drop]] at this
    ·cases h
   ·cases h
  ·cases h
theorem reps_readS {ts : List Ty} (cs : List Value) : ∀ (k i : Nat), (∀ j, j < k → RE w ts ((cs.drop ((i + j) * ts.length)).take ts.length)) → RE w (reps ts k) ((cs.drop (i * ts.length)).take (k * ts.length))
 | 0, i, h => by simpa [reps] using RE.nil w
 | k + 1, i, h => by
  have a1 := h 0 (by omega)
  have a2 := reps_readS cs k (i + 1) fun j hj => by have := h (j + 1) (by omega); rwa [show i + (j + 1) = i + 1 + j by omega] at this
  have := a1.append a2
  simp only [Nat.add_zero] at this
  have e1 : i * ts.length + ts.length = (i + 1) * ts.length := by rw [Nat.add_mul]; omega
  have e2 : ts.length + k * ts.length = (k + 1) * ts.length := by rw [Nat.add_mul]; omega
  rw [← e1, ← List.drop_drop, ← List.take_add, e2] at this
  exact this
theorem readS : ∀ (m : Nat) (n : Nat) (t : TypeId) (ts : List Ty) (x : DataW H × List MemPlace) (cs : List Value), shq P m t = some ts → DataW.trod enc P w base spare held n t cs = some x → (∀ k ∈ x.1.weights P t, k ≤ reachBytes) → RE w ts cs
 | 0, n, t, ts, x, cs, h, _, _ => by simp [shq] at h
 | m + 1, n, t, ts, x, cs, h, hx, hwt => by
  simp only [shq] at h
  split at h
  ·rename_i hu
   cases h
   obtain ⟨b, rfl, _⟩ := DataW.trod_bool hu hx
   exact .one ⟨.bool b, trivial⟩ (.bool b) rfl
  ·rename_i k hu
   cases h
   obtain ⟨q, rfl, _, hw⟩ := DataW.trod_int hu hx
   exact .one ⟨.int k q hw, trivial⟩ (.int k q) rfl
  ·rename_i hu
   cases h
   obtain ⟨s, rfl, rfl, hw⟩ := DataW.trod_string hu hx
   refine .one ⟨.str s hw, ?_⟩ (.str s) rfl
   have := hwt s.data.toList.length (by simp [DataW.weights])
   have h2 : s.size = s.data.toList.length := by show s.data.size = _; simp
   show s.size ≤ 140737488355328
   have h3 : reachBytes < 140737488355328 := by decide
   omega
  ·rename_i e hu
   split at h
   ·rename_i te hte
    split at h
    ·rename_i hlen
     cases h
     rcases DataW.trod_slice hu hx with ⟨rfl, _⟩ | ⟨a, len, cap, elems, rest, n', rfl, rfl, rfl, hb, hl, hm, hel, hget, _, _⟩
     ·exact .one (d := .slice []) ⟨.sl te [] (Nat.zero_le _) (by simp) (by simp), by simp [D.sm, D.smss]⟩ (.none _ _) rfl
     ·have hwl : (elems.length + rest.length) * P.bytesOf e ≤ reachBytes := hwt _ (by simp [DataW.weights, hu])
      have hwe : ∀ y ∈ elems, ∀ k ∈ y.1.weights P e, k ≤ reachBytes := fun y hy k hk => hwt k (by
       simp only [DataW.weights, hu, List.mem_cons, List.mem_append]
       exact .inr (.inl (weights_mem_all (List.mem_map.2 ⟨y, hy, rfl⟩) k hk)))
      have hlb : len ≤ 140737488355328 := by
       have h1 : len * 1 ≤ (elems.length + rest.length) * P.bytesOf e := Nat.mul_le_mul (by omega) hlen.2
       have h3 : reachBytes < 140737488355328 := by decide
       omega
      have each : ∀ i, i < len → ∃ cs', w.cells? base (a.add (i * P.cellsOf e)) (P.cellsOf e) = some cs' ∧ RE w te cs' := by
       intro i hi
       have h1 := hget i hi
       obtain ⟨y, hy⟩ : ∃ y, elems[i]? = some y := by
        refine ⟨elems[i]'(by omega), ?_⟩
        simp
       rw [hy, Option.bind_eq_some_iff] at h1
       obtain ⟨cs', h2, h3⟩ := h1
       exact ⟨cs', h2, readS m n' e te y cs' hte h3 (hwe y (List.mem_of_getElem? hy))⟩
      have each' : ∀ i, i < len → ∃ (cs' : List Value) (ds : List D), ds.length = te.length ∧ cs'.length = te.length ∧ (∀ j, j < te.length → w.cell? ((a.add (i * te.length)).add j) = cs'[j]?) ∧
        ∀ (j : Nat) t d v, te[j]? = some t → ds[j]? = some d → cs'[j]? = some v → (t.Of d ∧ D.sm d) ∧ DR w NoF d v ∧ v.oneCell' = true := by
       intro i hi
       obtain ⟨cs', h1, ds, h2, h3, h4⟩ := each i hi
       obtain ⟨_, h5, h6⟩ := World.cells?_some h1
       rw [← hlen.1.1] at h6
       exact ⟨cs', ds, h2, h3, h6, h4⟩
      classical
      let C : Nat → List Value := fun i => if hi : i < len then (each' i hi).choose else []
      have hC : ∀ i, (hi : i < len) → ∃ ds : List D, ds.length = te.length ∧ (C i).length = te.length ∧ (∀ j, j < te.length → w.cell? ((a.add (i * te.length)).add j) = (C i)[j]?) ∧
        ∀ (j : Nat) t d v, te[j]? = some t → ds[j]? = some d → (C i)[j]? = some v → (t.Of d ∧ D.sm d) ∧ DR w NoF d v ∧ v.oneCell' = true := by
       intro i hi
       have := (each' i hi).choose_spec
       simp only [C, hi, dif_pos]
       exact this
      let X : Nat → List D := fun i => if hi : i < len then (hC i hi).choose else []
      have hX : ∀ i, (hi : i < len) → (X i).length = te.length ∧ (C i).length = te.length ∧ (∀ j, j < te.length → w.cell? ((a.add (i * te.length)).add j) = (C i)[j]?) ∧
        ∀ (j : Nat) t d v, te[j]? = some t → (X i)[j]? = some d → (C i)[j]? = some v → (t.Of d ∧ D.sm d) ∧ DR w NoF d v ∧ v.oneCell' = true := by
       intro i hi
       have := (hC i hi).choose_spec
       simp only [X, hi, dif_pos]
       exact this
      have hspot : 0 < len → a = ⟨a.block, a.off, none⟩ ∧ a.block < w.heap.size := by
       intro h0
       obtain ⟨_, h2, h3, _⟩ := hX 0 h0
       have h4 := h3 0 hlen.1.2
       have h5 : 0 < (C 0).length := by omega
       rw [List.getElem?_eq_getElem h5] at h4
       have h8 : (a.add (0 * te.length)).add 0 = a := by simp [Addr.add]
       rw [h8] at h4
       exact cell_spot h4
      have hxs : ∀ i, i < ((List.range len).map X).length → ((List.range len).map X)[i]? = some (X i) := by
       intro i hi
       simp at hi
       simp [hi]
      have hlen' : ((List.range len).map X).length = len := by simp
      refine .one (d := .slice ((List.range len).map X)) ⟨.sl te _ (by rw [hlen']; omega) (fun x hx => ?_) (fun x j t d hx hd ht => ?_), ?_⟩ ?_ rfl
      ·simp only [List.mem_map, List.mem_range] at hx
       obtain ⟨i, hi, rfl⟩ := hx
       exact (hX i hi).1
      ·simp only [List.mem_map, List.mem_range] at hx
       obtain ⟨i, hi, rfl⟩ := hx
       obtain ⟨k1, k2, k3, k4⟩ := hX i hi
       have hj : j < (C i).length := by have := (List.getElem?_eq_some_iff.1 ht).1; omega
       exact (k4 j t d (C i)[j] ht hd (by simp [hj])).1.1
      ·rw [D.sm_slice, hlen']
       refine ⟨hlb, fun x hx d hd => ?_⟩
       simp only [List.mem_map, List.mem_range] at hx
       obtain ⟨i, hi, rfl⟩ := hx
       obtain ⟨k1, k2, k3, k4⟩ := hX i hi
       obtain ⟨j, hj⟩ := List.getElem?_of_mem hd
       have hj1 : j < te.length := by have := (List.getElem?_eq_some_iff.1 hj).1; omega
       have hj2 : j < (C i).length := by omega
       exact (k4 j te[j] d (C i)[j] (by simp [hj1]) hj (by simp [hj2])).1.2
      ·by_cases h0 : len = 0
       ·subst h0
        exact .none _ _
       ·obtain ⟨hs1, hs2⟩ := hspot (by omega)
        have : DR w NoF (.slice ((List.range len).map X)) (.slice (some ⟨a.block, a.off, none⟩) ((List.range len).map X).length cap) := by
         refine .slice _ te.length a.block a.off cap (fun i j => (C i).getD j undef) (by rw [hlen']; exact hl) (by rw [hlen']; exact Nat.le_trans hl hm) hlen.1.2 id hs2 (fun x hx => ?_) (fun i j hi hj => ?_) (fun i j x d hx hd => ?_)
         ·simp only [List.mem_map, List.mem_range] at hx
          obtain ⟨i, hi, rfl⟩ := hx
          exact (hX i hi).1
         ·rw [hlen'] at hi
          obtain ⟨k1, k2, k3, k4⟩ := hX i hi
          have h1 := k3 j hj
          have hj' : j < (C i).length := by omega
          rw [List.getElem?_eq_getElem hj'] at h1
          rw [hs1, add_add] at h1
          rw [h1]
          simp [hj']
         ·have hi : i < len := by have := (List.getElem?_eq_some_iff.1 hx).1; rwa [hlen'] at this
          rw [hxs i (by rw [hlen']; exact hi)] at hx
          simp only [Option.some.injEq] at hx
          subst hx
          obtain ⟨k1, k2, k3, k4⟩ := hX i hi
          have hj : j < te.length := by have := (List.getElem?_eq_some_iff.1 hd).1; omega
          have hj' : j < (C i).length := by omega
          have := (k4 j te[j] d (C i)[j] (by simp [hj]) hd (by simp [hj'])).2.1
          simpa [hj'] using this
        rw [hlen', ← hs1] at this
        exact this
    ·cases h
   ·cases h
  ·rename_i fs hu
   split at h
   ·rename_i ts1 h1
    split at h
    ·rename_i hlen
     cases h
     obtain ⟨xs, n', rfl, rfl, hcl, hxl, hget⟩ := DataW.trod_struct hu hx
     have := flds_readS (enc := enc) (base := base) (spare := spare) (held := held) (n := n') cs (fun t ts x cs h1 h2 h3 => readS m n' t ts x cs h1 h2 h3) fs.toList 0 ts h1 fun f hf => by
      obtain ⟨i, hi⟩ := List.getElem?_of_mem hf
      have hi2 : fs[i]? = some f := by simpa using hi
      have h2 := hget i f hi2
      have hlt : i < xs.length := by rw [hxl]; exact (Array.getElem?_eq_some_iff.1 hi2).1
      exact ⟨xs[i], by rw [h2]; simp [hlt], fun k hk => hwt k (by
       simp only [DataW.weights, hu]
       exact DataW.weights_mem_each (j := i) (by simp [hi2]) (by simp [hlt]) k hk)⟩
     rw [List.drop_zero, List.take_of_length_le (by omega)] at this
     exact this
    ·cases h
   ·cases h
  ·rename_i k e hu
   split at h
   ·rename_i te hte
    split at h
    ·rename_i hlen
     cases h
     obtain ⟨xs, n', rfl, rfl, hcl, hxl, hget⟩ := DataW.trod_array hu hx
     have := reps_readS (ts := te) cs k 0 fun j hj => by
      have h2 := hget j hj
      rw [← hlen.1] at h2
      have hlt : j < xs.length := by omega
      rw [Nat.zero_add]
      exact readS m n' e te xs[j] _ hte (by rw [h2]; simp [hlt]) (fun q hq => hwt q (by
       simp only [DataW.weights, hu]
       exact weights_mem_all (List.mem_map.2 ⟨xs[j], List.getElem_mem _, rfl⟩) q hq))
     rw [Nat.zero_mul, List.drop_zero, List.take_of_length_le (by omega)] at this
     exact this
    ·cases h
   ·cases h
  ·cases h
end
theorem RE.agg {w : World} {ts : List Ty} {vs : Array Value} (h : RE w ts vs.toList) : ∃ ds, (OfL ts ds ∧ ∀ d ∈ ds, D.sm d) ∧ VR0 w (.agg (ds.map .d)) (.agg vs) := by
 obtain ⟨ds, h1, h2, h3⟩ := h
 have hv : ∀ (j : Nat), j < ts.length → ∃ t d v, ts[j]? = some t ∧ ds[j]? = some d ∧ vs[j]? = some v ∧ (t.Of d ∧ D.sm d) ∧ DR w NoF d v ∧ v.oneCell' = true := by
  intro j hj
  have hv : j < vs.size := by simp at h2; omega
  exact ⟨ts[j], ds[j], vs[j], by simp [hj], by simp [h1, hj], by simp [hv], h3 j ts[j] ds[j] vs[j] (by simp [hj]) (by simp [h1, hj]) (by simp [hv])⟩
 refine ⟨ds, ⟨⟨h1, fun j t d ht hd => ?_⟩, fun d hd => ?_⟩, .agg _ _ (by simp at h2; simp [h1, h2]) (fun v hv' => ?_) (fun j c v hc hv' => ?_)⟩
 ·obtain ⟨t', d', v, e1, e2, e3, e4, _⟩ := hv j (List.getElem?_eq_some_iff.1 ht).1
  rw [ht] at e1; cases e1
  rw [hd] at e2; cases e2
  exact e4.1
 ·obtain ⟨j, hj⟩ := List.getElem?_of_mem hd
  obtain ⟨t', d', v, e1, e2, e3, e4, _⟩ := hv j (by have := (List.getElem?_eq_some_iff.1 hj).1; omega)
  rw [hj] at e2; cases e2
  exact e4.2
 ·obtain ⟨j, hj, rfl⟩ := Array.mem_iff_getElem.1 hv'
  obtain ⟨t', d', v, e1, e2, e3, _, _, e6⟩ := hv j (by simp at h2; omega)
  simp [hj] at e3
  subst e3
  exact e6
 ·simp only [List.getElem?_map, Option.map_eq_some_iff] at hc
  obtain ⟨d, hd, rfl⟩ := hc
  obtain ⟨t', d', v', e1, e2, e3, _, e5, _⟩ := hv j (by have := (List.getElem?_eq_some_iff.1 hd).1; omega)
  rw [hd] at e2; cases e2
  rw [hv'] at e3; cases e3
  exact VR0.d e5
theorem RE.single {w : World} {t : Ty} {v : Value} (h : RE w [t] [v]) : ∃ d, (t.Of d ∧ D.sm d) ∧ VR0 w (.d d) v := by
 obtain ⟨ds, h1, h2, h3⟩ := h
 match ds, h1 with
 | [d], _ =>
  obtain ⟨e1, e2, _⟩ := h3 0 t d v rfl rfl rfl
  exact ⟨d, e1, VR0.d e2⟩
theorem RE.box {w : World} {t : TypeId} {b : Bool} (h : RE w [.bool] [.bool b]) : VR0 w (.d (.bool b)) (.bool b) := VR0.d (.bool b)
end Go.Abs
