/- Contracts of functions of the program, and what they lean on: a part of the proof that planBest_proved stands; no condition. -/
import Derived.Test.YtklbdeenilokiaaGreatQ17M1
/- What one operation of the abstract machine does is what the program's operation does in memory. Sixth part: slice literals, stores, copy, clear, append. -/
set_option linter.unusedVariables false
set_option linter.unusedSimpArgs false
namespace Go.Abs
section
variable {P : Program} {o : Oper} {X : Nat → Prop} {ι : Nat → Bd} {h : Heap} {a : Act} {w : World} {e : Eff}
theorem sets_ok : ∀ (vs : List Value) (o : Nat) (cs : Array Value), o + vs.length ≤ cs.size →
  ((vs.zipIdx o).foldl (fun cs p => cs.setIfInBounds p.2 p.1) cs).size = cs.size ∧
  ∀ p, ((vs.zipIdx o).foldl (fun cs p => cs.setIfInBounds p.2 p.1) cs)[p]? = if o ≤ p ∧ p < o + vs.length then vs[p - o]? else cs[p]? := by
 intro vs
 induction vs with
 | nil => intro o cs _; simp; intro p h1 h2; omega
 | cons v vs ih =>
  intro o cs hle
  simp only [List.length_cons] at hle
  obtain ⟨h1, h2⟩ := ih (o + 1) (cs.setIfInBounds o v) (by simp; omega)
  simp only [List.zipIdx_cons, List.foldl_cons]
  refine ⟨by rw [h1]; simp, fun p => ?_⟩
  rw [h2]
  by_cases hp : p = o
  ·subst hp
   rw [if_neg (by omega), if_pos (by simp)]
   have hlt : p < cs.size := by omega
   simp [hlt]
  ·by_cases hin : o + 1 ≤ p ∧ p < o + 1 + vs.length
   ·rw [if_pos hin, if_pos (by simp; omega), show p - o = (p - (o + 1)) + 1 by omega]
    simp
   ·rw [if_neg hin, if_neg (by simp; omega)]
    rw [Array.getElem?_setIfInBounds_ne (by omega)]
theorem fill_row (k : Nat) : ∀ (parts : List (Nat × Value)) (i0 : Nat) (cs : Array Value), (∀ (m : Nat) i v, parts[m]? = some (i, v) → i = i0 + m ∧ v.cells.size = k) → (i0 + parts.length) * k ≤ cs.size →
  ∃ ds, Instr.fill (fun i => some (i * k, k)) cs parts = some ds ∧ ds.size = cs.size ∧ (∀ p, p < i0 * k → ds[p]? = cs[p]?) ∧ ∀ (m : Nat) i v, parts[m]? = some (i, v) → ∀ j, j < k → ds[(i0 + m) * k + j]? = v.cells[j]? := by
 intro parts
 induction parts with
 | nil => intro i0 cs _ _; exact ⟨cs, by simp [Instr.fill], rfl, fun _ _ => rfl, fun m i v hm => by simp at hm⟩
 | cons q parts ih =>
  intro i0 cs hq hle
  obtain ⟨i, v⟩ := q
  obtain ⟨h0, hk⟩ := hq 0 i v rfl
  obtain rfl : i0 = i := by omega
  simp only [Nat.add_zero, List.length_cons] at hle ⊢
  have hle1 : i0 * k + k ≤ cs.size := by
   refine Nat.le_trans ?_ hle
   have := Nat.mul_le_mul_right k (show i0 + 1 ≤ i0 + (parts.length + 1) by omega)
   rw [Nat.add_mul, Nat.one_mul] at this
   exact this
  obtain ⟨s1, s2⟩ := sets_ok v.cells.toList (i0 * k) cs (by simp [hk]; exact hle1)
  obtain ⟨ds, d1, d2, d3, d4⟩ := ih (i0 + 1) ((v.cells.toList.zipIdx (i0 * k)).foldl (fun cs p => cs.setIfInBounds p.2 p.1) cs) (fun m i' v' hm => by
   obtain ⟨e1, e2⟩ := hq (m + 1) i' v' (by simpa using hm)
   exact ⟨by omega, e2⟩) (by rw [s1]; rw [show i0 + 1 + parts.length = i0 + (parts.length + 1) by omega]; exact hle)
  refine ⟨ds, ?_, by rw [d2, s1], fun p hp => ?_, fun m i' v' hm j hj => ?_⟩
  ·simp only [Instr.fill]
   rw [if_neg (by simp [hk]; exact hle1), foldl_zipIdx]
   exact d1
  ·rw [d3 p (by rw [Nat.add_mul]; omega), s2, if_neg (by omega)]
  ·cases m with
   | zero =>
    simp at hm
    obtain ⟨rfl, rfl⟩ := hm
    rw [Nat.add_zero, d3 _ (by rw [Nat.add_mul]; omega), s2, if_pos (by simp [hk]; omega)]
    simp
   | succ m =>
    rw [show i0 + (m + 1) = i0 + 1 + m by omega]
    exact d4 m i' v' (by simpa using hm) j hj
theorem so_lit {t E : TypeId} {len : Nat} {parts : Array (Nat × Operand)} {inf : TypeInfo} {zs : List AV} (hr : HRel w X ι h) {env : Env} (he : EnvOK w (Forb X (place h ι)) (place h ι) env a) (dst : Nat) (hop : o.op = .buildSlice t len parts)
  (ht : P.underlying t = some (.slice E)) (hi : P.info? E = some inf) (hz : zeroOf P E = some zs) (hsm : len * inf.size ≤ 16777216)
  (hx : exec (.lit inf.size len zs (parts.toList.map fun p => (p.1, arg p.2))) dst env h = some e) : OpOK P o X ι h a w e := by
 obtain ⟨inf', z, hi', hz1, g1, g2, _, hzc⟩ := zero_CR (w := w) hz (Forb X (place h ι)) (place h ι)
 rw [hi] at hi'
 cases hi'
 simp only [exec] at hx
 split at hx
 ·rename_i hcond
  obtain ⟨c1, c2, c3⟩ := hcond
  simp only [List.length_map, Array.length_toList] at c1
  simp only [Option.some.injEq] at hx
  subst hx
  have hcell : ∀ p ∈ parts.toList, (cellsOf ((arg p.2).ev env)).length = inf.size ∧ (cellsOf ((arg p.2).ev env)).all isCell = true := by
   intro p hp
   have := List.all_eq_true.1 c3 (p.1, arg p.2) (List.mem_map.2 ⟨p, hp, rfl⟩)
   simpa using this
  let zc : Array Value := (Array.range (len * inf.size)).map fun i => (if len * inf.size = 0 then #[] else z.cells)[i % (if len * inf.size = 0 then (#[] : Array Value) else z.cells).size]!
  have hzsz : zc.size = len * inf.size := by simp [zc]
  obtain ⟨ds, d1, d2, _, d4⟩ := fill_row inf.size (parts.toList.map fun p => (p.1, a.eval p.2)) 0 zc (fun m i v hm => by
   simp only [List.getElem?_map, Option.map_eq_some_iff] at hm
   obtain ⟨p, hp, hpv⟩ := hm
   simp only [Prod.mk.injEq] at hpv
   obtain ⟨rfl, rfl⟩ := hpv
   obtain ⟨k1, k2⟩ := hcell p (List.mem_of_getElem? hp)
   refine ⟨?_, by rw [(cells_ok (arg_ok he p.2) k2).1]; exact k1⟩
   have := congrArg (·[m]?) c2
   simp only [List.getElem?_map, hp, Option.map_some] at this
   rw [List.getElem?_range (by rw [← c1]; exact (by simpa using (List.getElem?_eq_some_iff.1 hp).1))] at this
   simpa using this) (by rw [hzsz]; simp [c1])
  have hRR : RR w (Forb X (place h ι)) (place h ι) inf.size (parts.toList.map fun p => cellsOf ((arg p.2).ev env)) ds.toList := by
   refine ⟨by simp [d2, hzsz, c1], fun x hx => ?_, fun i x j c hi' hj => ?_⟩
   ·obtain ⟨p, hp, rfl⟩ := List.mem_map.1 hx
    exact (hcell p hp).1
   ·simp only [List.getElem?_map, Option.map_eq_some_iff] at hi'
    obtain ⟨p, hp, rfl⟩ := hi'
    obtain ⟨k1, k2⟩ := hcell p (List.mem_of_getElem? hp)
    obtain ⟨u, u1, u2, u3⟩ := (cells_ok (arg_ok he p.2) k2).2 j c hj
    refine ⟨u, ?_, u2, u3⟩
    have := d4 i p.1 (a.eval p.2) (by simp [hp]) j (by rw [← k1]; exact (List.getElem?_eq_some_iff.1 hj).1)
    simp only [Nat.zero_add] at this
    simp only [Array.getElem?_toList, this]
    exact u1
  simp only [List.map_map, Function.comp_def]
  refine new_row (cs := ds.toList) [] (t := E) (l := len) (c := len) (w1 := w.alloc (.cells ds E)) hr g2 hRR _ (by simp only [List.append_nil]; rfl) rfl rfl rfl _ (by omega) len (Nat.le_refl _) (Nat.le_refl _)
   ⟨?_, ?_⟩ (by simp [d2, hzsz]) ?_
  ·have : len ≤ len * inf.size := Nat.le_mul_of_pos_right _ g2
   simp only [maxL]; omega
  ·have : len ≤ len * inf.size := Nat.le_mul_of_pos_right _ g2
   simp only [maxL]; omega
  ·simp only [execOp, hop]
   refine exec_value ?_
   have hpl : (parts.map fun x => (x.1, a.eval x.2)).toList = parts.toList.map fun p => (p.1, a.eval p.2) := by simp
   simp only [Instr.buildSlice, Sem.run_bind, run_underlying ht, Result.andThen_ok, run_sizeOf' hi]
   rw [if_neg (by simp; omega)]
   by_cases h0 : len * inf.size = 0
   ·simp only [zc, h0, if_true] at d1
    rw [if_pos h0]
    simp only [Sem.run_bind, Sem.run_pure, Result.andThen_ok, hpl, h0, d1, run_newRow]
   ·simp only [zc, h0, if_false] at d1
    rw [if_neg h0]
    simp only [Sem.run_bind, Sem.run_pure, Result.andThen_ok, run_zero hi hz1, hpl, d1, run_newRow]
 ·cases hx
theorem spl_get : ∀ (cs : List AV) (o : Nat) (y : List AV), o + cs.length ≤ y.length → (spl y o cs).length = y.length ∧ ∀ j, (spl y o cs)[j]? = if o ≤ j ∧ j < o + cs.length then cs[j - o]? else y[j]? := by
 intro cs
 induction cs with
 | nil => intro o y _; simp [spl]; intro j h1 h2; omega
 | cons c cs ih =>
  intro o y hle
  simp only [List.length_cons] at hle
  obtain ⟨h1, h2⟩ := ih (o + 1) (y.set o c) (by simp; omega)
  simp only [spl]
  refine ⟨by rw [h1]; simp, fun j => ?_⟩
  rw [h2]
  by_cases hp : j = o
  ·subst hp
   rw [if_neg (by omega), if_pos (by simp)]
   have hlt : j < y.length := by omega
   simp [hlt]
  ·by_cases hin : o + 1 ≤ j ∧ j < o + 1 + cs.length
   ·rw [if_pos hin, if_pos (by simp; omega), show j - o = (j - (o + 1)) + 1 by omega]
    simp
   ·rw [if_neg hin, if_neg (by simp; omega), List.getElem?_set_ne (by omega)]
theorem splice_get (cur : List Value) (p : Nat) (vs : List Value) (h : p + vs.length ≤ cur.length) :
  (cur.take p ++ vs ++ cur.drop (p + vs.length)).length = cur.length ∧ ∀ q, (cur.take p ++ vs ++ cur.drop (p + vs.length))[q]? = if p ≤ q ∧ q < p + vs.length then vs[q - p]? else cur[q]? := by
 refine ⟨by simp; omega, fun q => ?_⟩
 rw [List.append_assoc]
 by_cases h1 : q < p
 ·rw [List.getElem?_append_left (by simp; omega), List.getElem?_take, if_pos h1, if_neg (by omega)]
 ·rw [List.getElem?_append_right (by simp; omega)]
  simp only [List.length_take]
  rw [Nat.min_eq_left (by omega)]
  by_cases h2 : q < p + vs.length
  ·rw [if_pos ⟨by omega, h2⟩, List.getElem?_append_left (by omega)]
  ·rw [if_neg (by omega), List.getElem?_append_right (by omega), List.getElem?_drop]
   congr 1
   omega
/-- What a block's record says of its cells. -/
theorem blk_at {b : Nat} {blk : Blk} {n : Nat} (hr : HRel w X ι h) (hb : (h b).live = some blk) (hl : (ι b).loc = some n) :
  blk.k = (ι b).k ∧ 0 < blk.k ∧ ∃ cs t, w.heap[n]? = some (.cells cs t (0, 0)) ∧ cs.size = (ι b).sz ∧ (∀ x ∈ blk.elems, x.length = blk.k) ∧
   ∀ (i : Nat) x (j : Nat) c, blk.elems[i]? = some x → x[j]? = some c → ∃ v, cs[i * blk.k + j]? = some v ∧ v.oneCell' = true ∧ VR w (Forb X (place h ι)) (place h ι) c v := by
 obtain ⟨h1, h2, h3⟩ := hr.blks b blk hb
 rw [hl] at h3
 obtain ⟨cs, t, h4, h5, h6, h7⟩ := h3
 rw [← h1] at h2 h6 h7
 exact ⟨h1, h2, cs, t, h4, h5, h6, h7⟩
theorem skip_OK {b : Nat} {blk blk' : Blk} {n : Nat} {cs cs' : Array Value} {t : TypeId} {rd : List Nat} (hr : HRel w X ι h) (hb : (h b).live = some blk) (hl : (ι b).loc = some n) (hcs : w.heap[n]? = some (.cells cs t (0, 0)))
  (hsz : cs'.size = cs.size) (hk : blk'.k = blk.k) (hlen : ∀ x ∈ blk'.elems, x.length = blk'.k)
  (hcells : ∀ (i : Nat) x (j : Nat) c, blk'.elems[i]? = some x → x[j]? = some c → ∃ v, cs'[i * blk'.k + j]? = some v ∧ v.oneCell' = true ∧ VR w (Forb X (place h ι)) (place h ι) c v)
  (av : AV) (r : Value) (hv : VR w (Forb X (place h ι)) (place h ι) av r)
  (hrun : ((execOp a.eval o).run P w = .ok (.value r) (w.setRow n cs')) ∨ ((execOp a.eval o).run P w = .ok .skip (w.setRow n cs') ∧ o.dst = none)) :
  OpOK P o X ι h a w ⟨av, some (b, ⟨(h b).ver, some blk'⟩), rd⟩ := by
 obtain ⟨h1, h2, h3⟩ := write_ok (w1 := w.setRow n cs') hr b blk blk' hb n hl cs cs' t hcs hsz rfl hk hlen hcells
 exact ⟨r, w.setRow n cs', ι, hrun, h1, hv.evo h2, h2⟩
theorem so_store {t : TypeId} {x y : Operand} {inf : TypeInfo} (hr : HRel w X ι h) {env : Env} (he : EnvOK w (Forb X (place h ι)) (place h ι) env a) (dst : Nat) (hop : o.op = .store t x y) (hd : o.dst = none) (hi : P.info? t = some inf)
  (hx : exec (.store inf.size (arg x) (arg y)) dst env h = some e) : OpOK P o X ι h a w e := by
 have hc := arg_ok he x
 have hcy := arg_ok he y
 simp only [exec] at hx
 split at hx
 ·rename_i b ver i o' hv
  rw [hv] at hc
  simp only [Option.bind_eq_some_iff] at hx
  obtain ⟨blk, hb, z, hz, hx⟩ := hx
  split at hx
  ·rename_i hcond
   obtain ⟨c1, c2, c3⟩ := hcond
   simp only [Option.some.injEq] at hx
   subst hx
   obtain ⟨n, hn, hva⟩ := hc.ptr_inv hb
   obtain ⟨_, hlv, hver⟩ := live_place (ι := ι) hb
   obtain ⟨hk, hk0, cs, et, g1, g2, g3, g4⟩ := blk_at hr hlv hn
   obtain ⟨d1, d2⟩ := cells_ok hcy c2
   have hzl : z.length = blk.k := g3 z (List.mem_of_getElem? hz)
   have hlast : i * blk.k + (blk.k - 1) < cs.size := by
    obtain ⟨u, u1, _⟩ := g4 i z (blk.k - 1) z[blk.k - 1] hz (by simp)
    exact (Array.getElem?_eq_some_iff.1 u1).1
   have hvl : (a.eval y).cells.toList.length = inf.size := by simp [d1, c1]
   have hfit : i * blk.k + o' + (a.eval y).cells.toList.length ≤ cs.size := by rw [hvl]; omega
   obtain ⟨p1, p2⟩ := splice_get cs.toList (i * blk.k + o') (a.eval y).cells.toList (by simpa using hfit)
   obtain ⟨L, hL⟩ : ∃ L, L = cs.toList.take (i * blk.k + o') ++ (a.eval y).cells.toList ++ cs.toList.drop (i * blk.k + o' + (a.eval y).cells.toList.length) := ⟨_, rfl⟩
   rw [← hL] at p1 p2
   rw [hvl] at p2
   obtain ⟨s1, s2⟩ := spl_get (cellsOf ((arg y).ev env)) o' z (by rw [c1]; exact c3)
   have hone : ∀ u ∈ (a.eval y).cells.toList, u.oneCell' = true := by
    intro u hu
    obtain ⟨j, hj⟩ := List.getElem?_of_mem hu
    have hlt : j < (cellsOf ((arg y).ev env)).length := by rw [← d1]; simpa using (List.getElem?_eq_some_iff.1 hj).1
    obtain ⟨u', k1, k2, _⟩ := d2 j (cellsOf ((arg y).ev env))[j] (by simp [hlt])
    simp only [Array.getElem?_toList] at hj
    rw [hj] at k1
    cases k1
    exact k2
   have := skip_OK (P := P) (o := o) (a := a) (rd := [b]) (blk' := ⟨blk.k, blk.elems.set i (spl z o' (cellsOf ((arg y).ev env)))⟩)
    (cs' := L.toArray) hr hlv hn g1 (by simp only [List.size_toArray, p1, Array.length_toList]) rfl
    (fun x hx => by
     rcases List.mem_or_eq_of_mem_set hx with hx | hx
     ·exact g3 x hx
     ·rw [hx, s1, hzl]) (fun i' x' j c hi' hj => by
     simp only at hi' ⊢
     simp only [List.getElem?_toArray, p2]
     have hilt : i < blk.elems.length := (List.getElem?_eq_some_iff.1 hz).1
     by_cases hii : i' = i
     ·subst hii
      rw [List.getElem?_set_self hilt] at hi'
      cases hi'
      rw [s2, c1] at hj
      by_cases hin : o' ≤ j ∧ j < o' + inf.size
      ·rw [if_pos hin] at hj
       rw [if_pos ⟨by omega, by omega⟩]
       obtain ⟨u, k1, k2, k3⟩ := d2 _ _ hj
       refine ⟨u, ?_, k2, k3⟩
       rw [show i' * blk.k + j - (i' * blk.k + o') = j - o' by omega]
       simpa using k1
      ·rw [if_neg hin] at hj
       rw [if_neg (by omega)]
       simpa using g4 i' z j c hz hj
     ·rw [List.getElem?_set_ne (fun e => hii e.symm)] at hi'
      have hjl : j < blk.k := by rw [← g3 x' (List.mem_of_getElem? hi')]; exact (List.getElem?_eq_some_iff.1 hj).1
      have hnot : ¬ (i * blk.k + o' ≤ i' * blk.k + j ∧ i' * blk.k + j < i * blk.k + o' + inf.size) := by
       rintro ⟨q1, q2⟩
       rcases Nat.lt_or_gt_of_ne hii with hlt | hlt
       ·have := idx_lt (k := blk.k) hlt hjl
        omega
       ·have := Nat.mul_le_mul_right blk.k (show i + 1 ≤ i' by omega)
        rw [Nat.add_mul] at this
        omega
      rw [if_neg hnot]
      simpa using g4 i' x' j c hi' hj) .undef undef (.undef _) (.inr ⟨?_, hd⟩)
   ·rw [hver] at this
    exact this
   ·have hst := run_storeCells_at P n (i * blk.k + o') et (a.eval y).cells.toList 0 cs w g1 (by simpa using hfit) hone
    simp only [Nat.add_zero] at hst
    rw [← hL] at hst
    have hne : ¬ ((a.eval y).cells.size ≠ inf.size) := by simp [d1, c1]
    simp only [execOp, hop, hva, Instr.storeAt, Instr.sureAddr, storeVar, Sem.run_bind, Sem.run_pure, Result.andThen_ok, run_sizeOf' hi, if_neg hne, ← hk, hst]
  ·cases hx
 ·cases hx
theorem elemsOf_ok {x : AV} {v : Value} {src : List (List AV)} {k : Nat} (hr : HRel w X ι h) (hv : VR w (Forb X (place h ι)) (place h ι) x v) (he : elemsOf h x = some src) (hk : src.all (·.length = k) = true) :
  ∃ A c ss, v = .slice A src.length c ∧ RR w (Forb X (place h ι)) (place h ι) k src ss ∧ src.length ≤ maxL ∧ ∀ m, m ≤ src.length → (Builtin.firstCells k m v).run P w = .ok (ss.take (m * k)).toArray w := by
 have hkall : ∀ y ∈ src, y.length = k := fun y hy => by simpa using List.all_eq_true.1 hk y hy
 have nilcase : src = [] → (∃ A c, v = .slice A 0 c) → ∃ A c ss, v = .slice A src.length c ∧ RR w (Forb X (place h ι)) (place h ι) k src ss ∧ src.length ≤ maxL ∧ ∀ m, m ≤ src.length → (Builtin.firstCells k m v).run P w = .ok (ss.take (m * k)).toArray w := by
  rintro rfl ⟨A, c, rfl⟩
  refine ⟨A, c, [], rfl, RR.nil _ _ _, by simp, fun m hm => ?_⟩
  obtain rfl : m = 0 := by simpa using hm
  cases A <;> simp [Builtin.firstCells, loadCells, loadCellsFrom]
 have rowcase : ∀ (B off c : Nat), v = .slice (some ⟨B, off, none⟩) src.length c → src.length ≤ maxL → (∀ (i : Nat) y (j : Nat) d, src[i]? = some y → y[j]? = some d → ∃ u, w.cell? ⟨B, off + (i * k + j), none⟩ = some u ∧ u.oneCell' = true ∧ VR w (Forb X (place h ι)) (place h ι) d u) →
   ∃ A c ss, v = .slice A src.length c ∧ RR w (Forb X (place h ι)) (place h ι) k src ss ∧ src.length ≤ maxL ∧ ∀ m, m ≤ src.length → (Builtin.firstCells k m v).run P w = .ok (ss.take (m * k)).toArray w := by
  intro B off c hv' hmx hcell
  let ss : List Value := (List.range (src.length * k)).map fun p => (w.cell? ⟨B, off + p, none⟩).getD undef
  have hss : ∀ (i : Nat) y (j : Nat) d, src[i]? = some y → y[j]? = some d → ∃ u, ss[i * k + j]? = some u ∧ w.cell? ⟨B, off + (i * k + j), none⟩ = some u ∧ u.oneCell' = true ∧ VR w (Forb X (place h ι)) (place h ι) d u := by
   intro i y j d hi hj
   obtain ⟨u, u1, u2, u3⟩ := hcell i y j d hi hj
   have hlt : i * k + j < src.length * k := idx_lt (List.getElem?_eq_some_iff.1 hi).1 (by rw [← hkall y (List.mem_of_getElem? hi)]; exact (List.getElem?_eq_some_iff.1 hj).1)
   exact ⟨u, by simp [ss, hlt, u1], u1, u2, u3⟩
  have hRR : RR w (Forb X (place h ι)) (place h ι) k src ss := ⟨by simp [ss], hkall, fun i y j d hi hj => by
   obtain ⟨u, u1, _, u2, u3⟩ := hss i y j d hi hj
   exact ⟨u, u1, u2, u3⟩⟩
  refine ⟨_, c, ss, hv', hRR, hmx, fun m hm => ?_⟩
  subst hv'
  have hlen : (ss.take (m * k)).length = m * k := by
   simp [ss]
   rw [Nat.min_eq_left hm]
  have := run_loadCells_list (P := P) (w := w) ⟨B, off, none⟩ (ss.take (m * k)) (fun p u hp => by
   rw [List.getElem?_take] at hp
   split at hp
   ·rename_i hlt
    rw [add_none]
    have hk0 : 0 < k := by rcases Nat.eq_zero_or_pos k with h0 | h0; (subst h0; simp at hlt); exact h0
    have hpi : p / k < src.length := Nat.lt_of_lt_of_le (Nat.div_lt_of_lt_mul (by rw [Nat.mul_comm]; exact hlt)) hm
    have hy : src[p / k]? = some src[p / k] := by simp [hpi]
    have hyl := hkall src[p / k] (by simp)
    have hpk : p % k < k := Nat.mod_lt _ hk0
    have hd : src[p / k][p % k]? = some src[p / k][p % k] := by simp [hyl, hpk]
    obtain ⟨u', u1, u2, _⟩ := hss _ _ _ _ hy hd
    have hpp : p / k * k + p % k = p := by rw [Nat.mul_comm]; exact Nat.div_add_mod p k
    rw [hpp] at u1 u2
    rw [hp] at u1
    cases u1
    exact u2
   ·cases hp)
  rw [hlen] at this
  simpa [Builtin.firstCells] using this
 unfold elemsOf at he
 split at he
 ·simp at he
  exact nilcase he ⟨none, 0, hv.nil_inv⟩
 ·rename_i xs
  simp at he
  subst he
  cases hv with
  | d _ _ hd =>
   cases hd with
   | none A c => exact nilcase rfl ⟨A, c, rfl⟩
   | slice _ k' blk off c vs q1 q2 q3 q4 q5 q6 q7 q8 =>
    by_cases hnil : xs = []
    ·subst hnil
     exact nilcase rfl ⟨_, c, rfl⟩
    ·have hk' : k' = k := by
      obtain ⟨y, hy⟩ := List.exists_mem_of_ne_nil xs hnil
      rw [← q6 y hy]
      have := hkall (y.map .d) (by simp [dl]; exact ⟨y, hy, rfl⟩)
      simpa using this
     subst hk'
     refine rowcase blk off c (by simp [dl]) (by simpa [dl] using q2) (fun i y j d hi hj => ?_)
     simp only [dl, List.getElem?_map, Option.map_eq_some_iff] at hi
     obtain ⟨y', hy', rfl⟩ := hi
     simp only [List.getElem?_map, Option.map_eq_some_iff] at hj
     obtain ⟨d', hd', rfl⟩ := hj
     have hjl : j < k' := by rw [← q6 y' (List.mem_of_getElem? hy')]; exact (List.getElem?_eq_some_iff.1 hd').1
     exact ⟨vs i j, q7 i j (List.getElem?_eq_some_iff.1 hy').1 hjl, (q8 i j y' d' hy' hd').one, .d _ _ (q8 i j y' d' hy' hd')⟩
 ·simp at he
  cases hv with
  | empty A => exact nilcase he ⟨A, 0, rfl⟩
 ·rename_i b ver i n cap
  simp only [Option.bind_eq_some_iff] at he
  obtain ⟨blk, hb, he⟩ := he
  split at he
  ·rename_i hle
   simp at he
   subst he
   have hsl : ((blk.elems.drop i).take n).length = n := by simp; omega
   obtain ⟨_, hlv, _⟩ := live_place (ι := ι) hb
   rcases hv.sl_inv hb with ⟨_, rfl, rfl, rfl, A, hA⟩ | ⟨nb, c, A, hl, hva, g1, g2, g3, g4, g5⟩
   ·exact nilcase (by simp) ⟨A, 0, hA⟩
   ·obtain ⟨hk1, hk0, cs, et, p1, p2, p3, p4⟩ := blk_at hr hlv hl
    by_cases hn0 : n = 0
    ·subst hn0
     exact nilcase (by simp) ⟨A, c, hva⟩
    ·have hA : A = some ⟨nb, i * (ι b).k, none⟩ := by
      rcases g4 with g4 | g4
      ·omega
      ·exact g4
     have hkk : blk.k = k := by
      have hi0 : i < blk.elems.length := by omega
      rw [← p3 blk.elems[i] (by simp)]
      refine hkall _ ?_
      refine List.mem_of_getElem? (i := 0) ?_
      rw [List.getElem?_take, if_pos (by omega), List.getElem?_drop]
      simp [hi0]
     refine rowcase nb (i * (ι b).k) c (by rw [hsl, hva, hA]) (by rw [hsl]; exact g3.1) (fun i' y j d hi' hj => ?_)
     rw [List.getElem?_take] at hi'
     split at hi'
     ·rw [List.getElem?_drop] at hi'
      obtain ⟨u, u1, u2, u3⟩ := p4 (i + i') y j d hi' hj
      refine ⟨u, ?_, u2, u3⟩
      rw [← hk1, hkk]
      rw [hkk, Nat.add_mul] at u1
      simp only [World.cell?, p1, Option.isSome_none, Bool.false_eq_true, if_false]
      rw [← Nat.add_assoc]
      exact u1
     ·cases hi'
  ·cases he
 ·cases he
/-- A run of elements is written into a row. -/
theorem row_splice {F : Nat → Prop} {G : Pl} {k i : Nat} {elems src tail : List (List AV)} {cur : Array Value} {ss : List Value} (hlen : ∀ x ∈ elems, x.length = k) (hi : i ≤ elems.length)
  (hold : ∀ (i : Nat) x (j : Nat) c, elems[i]? = some x → x[j]? = some c → ∃ v, cur[i * k + j]? = some v ∧ v.oneCell' = true ∧ VR w F G c v)
  (hsrc : RR w F G k src ss) (hfit : i * k + ss.length ≤ cur.size) (htail : ∀ (t : Nat) x, tail[t]? = some x → elems[i + src.length + t]? = some x) :
  (∀ x ∈ elems.take i ++ src ++ tail, x.length = k) ∧ ∀ (i' : Nat) x (j : Nat) c, (elems.take i ++ src ++ tail)[i']? = some x → x[j]? = some c →
   ∃ v, (cur.toList.take (i * k) ++ ss ++ cur.toList.drop (i * k + ss.length)).toArray[i' * k + j]? = some v ∧ v.oneCell' = true ∧ VR w F G c v := by
 have hl : ∀ x ∈ elems.take i ++ src ++ tail, x.length = k := by
  intro x hx
  rcases List.mem_append.1 hx with hx | hx
  ·rcases List.mem_append.1 hx with hx | hx
   ·exact hlen x (List.mem_of_mem_take hx)
   ·exact hsrc.2.1 x hx
  ·obtain ⟨t, ht⟩ := List.getElem?_of_mem hx
   exact hlen x (List.mem_of_getElem? (htail t x ht))
 refine ⟨hl, fun i' x j c hi' hj => ?_⟩
 obtain ⟨_, p2⟩ := splice_get cur.toList (i * k) ss (by simpa using hfit)
 have hjl : j < k := by rw [← hl x (List.mem_of_getElem? hi')]; exact (List.getElem?_eq_some_iff.1 hj).1
 have htk : (elems.take i).length = i := by rw [List.length_take, Nat.min_eq_left hi]
 have hsl := hsrc.1
 simp only [List.getElem?_toArray, p2]
 rw [List.append_assoc] at hi'
 by_cases h1 : i' < i
 ·rw [List.getElem?_append_left (by rw [htk]; exact h1), List.getElem?_take, if_pos h1] at hi'
  have := idx_lt (k := k) h1 hjl
  rw [if_neg (by omega)]
  simpa using hold i' x j c hi' hj
 ·rw [List.getElem?_append_right (by rw [htk]; omega), htk] at hi'
  have hle : i * k ≤ i' * k := Nat.mul_le_mul_right _ (by omega)
  by_cases h2 : i' - i < src.length
  ·rw [List.getElem?_append_left h2] at hi'
   have hlt := idx_lt (k := k) h2 hjl
   rw [Nat.sub_mul] at hlt
   rw [if_pos ⟨by omega, by omega⟩]
   obtain ⟨u, k1, k2, k3⟩ := hsrc.2.2 (i' - i) x j c hi' hj
   refine ⟨u, ?_, k2, k3⟩
   rw [Nat.sub_mul] at k1
   rw [show i' * k + j - i * k = i' * k - i * k + j by omega]
   exact k1
  ·rw [List.getElem?_append_right (by omega)] at hi'
   have := htail _ _ hi'
   rw [show i + src.length + (i' - i - src.length) = i' by omega] at this
   have hle2 : (i + src.length) * k ≤ i' * k := Nat.mul_le_mul_right _ (by omega)
   rw [Nat.add_mul] at hle2
   rw [if_neg (by omega)]
   simpa using hold i' x j c this hj
theorem tail_drop {elems : List (List AV)} (n : Nat) : ∀ (t : Nat) x, (elems.drop n)[t]? = some x → elems[n + t]? = some x := by
 intro t x ht
 rwa [List.getElem?_drop] at ht
theorem fit_of {n m c k sz i : Nat} (h : (i + c) * k ≤ sz) (hm : n + m ≤ c) : (i + n) * k + m * k ≤ sz := by
 refine Nat.le_trans ?_ h
 rw [← Nat.add_mul]
 exact Nat.mul_le_mul_right _ (by omega)
theorem so_copy {t E u : TypeId} {x y : Operand} {inf : TypeInfo} (hr : HRel w X ι h) {env : Env} (he : EnvOK w (Forb X (place h ι)) (place h ι) env a) (dst : Nat)
  (hop : o.op = .call { callee := .builtin .copy, args := #[x, y], argTypes := #[t, u] }) (ht : P.underlying t = some (.slice E)) (hi : P.info? E = some inf) (hk0 : 0 < inf.size)
  (hx : exec (.copy inf.size (arg x) (arg y)) dst env h = some e) : OpOK P o X ι h a w e := by
 have hc := arg_ok he x
 have hcy := arg_ok he y
 simp only [exec, Option.bind_eq_some_iff] at hx
 obtain ⟨src, hsrc, hx⟩ := hx
 split at hx
 ·rename_i b ver i n cap hv
  rw [hv] at hc
  simp only [Option.bind_eq_some_iff] at hx
  obtain ⟨blk, hb, hx⟩ := hx
  split at hx
  ·rename_i hcond
   obtain ⟨c1, c2, c3⟩ := hcond
   simp only [Option.some.injEq] at hx
   subst hx
   obtain ⟨A', c', ss, hvy, hRR, _, hrun⟩ := elemsOf_ok (P := P) hr hcy hsrc c1
   obtain ⟨_, hlv, hver⟩ := live_place (ι := ι) hb
   have hmin : min src.length n ≤ src.length := Nat.min_le_left _ _
   rcases hc.sl_inv hb with ⟨hl, rfl, rfl, rfl, A, hA⟩ | ⟨nb, c, A, hl, hva, g1, g2, g3, g4, g5⟩
   ·have hbk := (hr.blks b blk hlv)
    obtain ⟨q1, q2, q3⟩ := hbk
    rw [hl] at q3
    have hsame : upd h b ⟨ver, some ⟨blk.k, blk.elems.take 0 ++ src.take (min src.length 0) ++ blk.elems.drop (0 + min src.length 0)⟩⟩ = h := by
     funext z
     by_cases hz : z = b
     ·subst hz
      simp only [upd_same, Nat.min_zero, List.take_zero, List.nil_append, List.drop_zero, Nat.add_zero]
      obtain ⟨kk, el⟩ := blk
      cases hh : h z with | mk v l => rw [hh] at hlv hver; simp at hlv hver; simp [hlv, hver]
     ·rw [upd_ne _ _ _ _ hz]
    refine ⟨.int .i64 (min src.length 0 : Nat), w, ι, .inl ?_, ?_, .d _ _ (.int _ _), ?_⟩
    ·simp only [execOp, hop]
     have := hrun 0 (Nat.zero_le _)
     have hlen : (Builtin.lenOf (a.eval y)).run P w = .ok src.length w := by rw [hvy]; rfl
     simp only [Nat.zero_mul, List.take_zero] at this
     have h0 : Nat.min src.length 0 = 0 := by simp [Nat.min_def]
     cases A with
     | none => simp [resolve, invoke, builtin, Builtin.copy_, hA, run_underlying ht, hlen, run_sizeOf' hi, h0, this, goInt, Sem.run_bind]
     | some A => simp [resolve, invoke, builtin, Builtin.copy_, hA, run_underlying ht, hlen, run_sizeOf' hi, h0, this, goInt, storeCells, Sem.run_bind]
    ·show HRel w X ι (upd h b _)
     rw [hsame]; exact hr
    ·show Evo w (place h ι) w (place (upd h b _) ι)
     rw [hsame]; exact Evo.refl _ _
   ·obtain ⟨hk1, hk2, cs, et, p1, p2, p3, p4⟩ := blk_at hr hlv hl
    have hRt := hRR.take (min src.length n)
    have hst : (ss.take (min src.length n * inf.size)).length = min src.length n * inf.size := by
     rw [hRt.1, List.length_take, Nat.min_eq_left hmin]
    rw [← hk1, c2] at g5
    rw [c2] at p3 p4
    have hfit : i * inf.size + (ss.take (min src.length n * inf.size)).length ≤ cs.size := by
     rw [hst, p2]
     have := fit_of (n := 0) (m := min src.length n) g5 (by omega)
     simpa using this
    obtain ⟨s1, s2⟩ := row_splice (i := i) (tail := blk.elems.drop (i + min src.length n)) p3 (by omega) p4 hRt hfit (by
     rw [List.length_take, Nat.min_eq_left hmin]
     exact tail_drop _)
    obtain ⟨L, hL⟩ : ∃ L, L = cs.toList.take (i * inf.size) ++ ss.take (min src.length n * inf.size) ++ cs.toList.drop (i * inf.size + (ss.take (min src.length n * inf.size)).length) := ⟨_, rfl⟩
    rw [← hL] at s2
    have hLl : L.length = cs.size := by
     rw [hL]; exact (splice_get cs.toList _ _ (by rw [Array.length_toList]; exact hfit)).1
    have := skip_OK (P := P) (o := o) (a := a) (rd := b :: srcOf ((arg y).ev env)) (blk' := ⟨blk.k, blk.elems.take i ++ src.take (min src.length n) ++ blk.elems.drop (i + min src.length n)⟩) (cs' := L.toArray) hr hlv hl p1
     (by simpa using hLl) rfl (by simp only [c2]; exact s1) (by simp only [c2]; exact s2) (.d (.int .i64 ((min src.length n : Nat) : Int))) (.int .i64 ((min src.length n : Nat) : Int)) (.d _ _ (.int _ _)) (.inl ?_)
    ·rw [hver] at this
     exact this
    ·simp only [execOp, hop]
     have hr1 := hrun (min src.length n) hmin
     have hlen : (Builtin.lenOf (a.eval y)).run P w = .ok src.length w := by rw [hvy]; rfl
     by_cases hc0 : c = 0
     ·have hn0 : n = 0 := by omega
      subst hn0
      simp only [Nat.min_zero, Nat.zero_mul, List.take_zero] at hr1 hL
      have hLc : L.toArray = cs := by apply Array.toList_inj.1; simp [hL]
      have hrow : w.setRow nb cs = w := setRow_self w nb cs et (0, 0) p1
      have h0 : Nat.min src.length 0 = 0 := by simp [Nat.min_def]
      rw [hLc, hrow]
      cases A with
      | none => simp [resolve, invoke, builtin, Builtin.copy_, hva, run_underlying ht, hlen, run_sizeOf' hi, h0, hr1, goInt, Sem.run_bind]
      | some A => simp [resolve, invoke, builtin, Builtin.copy_, hva, run_underlying ht, hlen, run_sizeOf' hi, h0, hr1, goInt, storeCells, Sem.run_bind]
     ·have hA : A = some ⟨nb, i * (ι b).k, none⟩ := by
       rcases g4 with g4 | g4
       ·omega
       ·exact g4
      have hsto := run_storeCells_at P nb (i * inf.size) et (ss.take (min src.length n * inf.size)) 0 cs w p1 (by rw [Nat.add_zero]; exact hfit) hRt.cells
      simp only [Nat.add_zero] at hsto
      rw [← hL] at hsto
      have hmm : Nat.min src.length n = min src.length n := rfl
      rw [hA, ← hk1, c2] at hva
      simp [resolve, invoke, builtin, Builtin.copy_, hva, run_underlying ht, hlen, run_sizeOf' hi, hmm, hr1, hsto, goInt, Sem.run_bind]
  ·cases hx
 ·cases hx
theorem zeroCells_eq {z : Array Value} (hz : 0 < z.size) (n : Nat) : (Builtin.zeroCells z n).toList = (List.replicate n z.toList).flatten := by
 have hfl := flatten_range (z := z.toList) (by simpa using hz) n
 rw [← hfl]
 simp [Builtin.zeroCells, Array.toList_range, getElem!_def]
 try (intro b _; cases z[b % z.size]? <;> rfl)
theorem so_clear {t E : TypeId} {x : Operand} {inf : TypeInfo} {zs : List AV} (hr : HRel w X ι h) {env : Env} (he : EnvOK w (Forb X (place h ι)) (place h ι) env a) (dst : Nat)
  (hop : o.op = .call { callee := .builtin .clear, args := #[x], argTypes := #[t] }) (ht : P.underlying t = some (.slice E)) (hi : P.info? E = some inf) (hz : zeroOf P E = some zs)
  (hx : exec (.clear inf.size zs (arg x)) dst env h = some e) : OpOK P o X ι h a w e := by
 obtain ⟨inf', z, hi', hz1, gz1, gz2, _, hzc⟩ := zero_CR (w := w) hz (Forb X (place h ι)) (place h ι)
 rw [hi] at hi'
 cases hi'
 have hc := arg_ok he x
 simp only [exec] at hx
 split at hx
 ·rename_i b ver i n cap hv
  rw [hv] at hc
  simp only [Option.bind_eq_some_iff] at hx
  obtain ⟨blk, hb, hx⟩ := hx
  split at hx
  ·rename_i hcond
   obtain ⟨c1, c2, c3⟩ := hcond
   simp only [Option.some.injEq] at hx
   subst hx
   obtain ⟨_, hlv, hver⟩ := live_place (ι := ι) hb
   rcases hc.sl_inv hb with ⟨hl, rfl, rfl, rfl, A, hA⟩ | ⟨nb, c, A, hl, hva, g1, g2, g3, g4, g5⟩
   ·have hsame : upd h b ⟨ver, some ⟨inf.size, blk.elems.take 0 ++ List.replicate 0 zs ++ blk.elems.drop (0 + 0)⟩⟩ = h := by
     funext y
     by_cases hy : y = b
     ·subst hy
      simp only [upd_same, List.replicate_zero, List.take_zero, List.nil_append, List.drop_zero, Nat.add_zero]
      rw [← c2]
      obtain ⟨kk, el⟩ := blk
      cases hh : h y with | mk v l => rw [hh] at hlv hver; simp at hlv hver; simp [hlv, hver]
     ·rw [upd_ne _ _ _ _ hy]
    refine ⟨.tuple #[], w, ι, .inl ?_, ?_, .undef _, ?_⟩
    ·simp only [execOp, hop]
     cases A <;> simp [resolve, invoke, builtin, Builtin.clear_, hA, run_underlying ht, Sem.run_bind]
    ·show HRel w X ι (upd h b _)
     rw [hsame]; exact hr
    ·show Evo w (place h ι) w (place (upd h b _) ι)
     rw [hsame]; exact Evo.refl _ _
   ·obtain ⟨hk1, hk2, cs, et, p1, p2, p3, p4⟩ := blk_at hr hlv hl
    rw [← hk1, c2] at g5
    rw [c2] at p3 p4
    have hRt := RR.replicate hzc n
    rw [c3] at hRt
    have hst : (List.replicate n z.cells.toList).flatten.length = n * inf.size := by rw [hRt.1]; simp
    have hfit : i * inf.size + (List.replicate n z.cells.toList).flatten.length ≤ cs.size := by
     rw [hst, p2]
     have := fit_of (n := 0) (m := n) g5 (by omega)
     simpa using this
    obtain ⟨s1, s2⟩ := row_splice (i := i) (tail := blk.elems.drop (i + n)) p3 (by omega) p4 hRt hfit (by
     rw [List.length_replicate]
     exact tail_drop _)
    obtain ⟨L, hL⟩ : ∃ L, L = cs.toList.take (i * inf.size) ++ (List.replicate n z.cells.toList).flatten ++ cs.toList.drop (i * inf.size + (List.replicate n z.cells.toList).flatten.length) := ⟨_, rfl⟩
    rw [← hL] at s2
    have hLl : L.length = cs.size := by
     rw [hL]; exact (splice_get cs.toList _ _ (by rw [Array.length_toList]; exact hfit)).1
    have := skip_OK (P := P) (o := o) (a := a) (rd := [b]) (blk' := ⟨inf.size, blk.elems.take i ++ List.replicate n zs ++ blk.elems.drop (i + n)⟩) (cs' := L.toArray) hr hlv hl p1
     (by simpa using hLl) c2.symm s1 s2 .undef (.tuple #[]) (.undef _) (.inl ?_)
    ·rw [hver] at this
     exact this
    ·simp only [execOp, hop]
     by_cases hn0 : n = 0
     ·subst hn0
      simp only [List.replicate_zero, List.flatten_nil, List.append_nil, List.length_nil, Nat.add_zero, List.take_append_drop] at hL
      have hLc : L.toArray = cs := by apply Array.toList_inj.1; simp [hL]
      have hrow : w.setRow nb cs = w := setRow_self w nb cs et (0, 0) p1
      rw [hLc, hrow]
      cases A <;> simp [resolve, invoke, builtin, Builtin.clear_, hva, run_underlying ht, Sem.run_bind]
     ·have hA : A = some ⟨nb, i * (ι b).k, none⟩ := by
       rcases g4 with g4 | g4
       ·omega
       ·exact g4
      have hsto := run_storeCells_at P nb (i * inf.size) et (List.replicate n z.cells.toList).flatten 0 cs w p1 (by rw [Nat.add_zero]; exact hfit) hRt.cells
      simp only [Nat.add_zero] at hsto
      rw [← hL] at hsto
      have hzq := zeroCells_eq (z := z.cells) (by rw [gz1]; exact gz2) n
      rw [hA, ← hk1, c2] at hva
      cases n with
      | zero => omega
      | succ n => simp [resolve, invoke, builtin, Builtin.clear_, hva, run_underlying ht, run_zero hi hz1, hzq, hsto, Sem.run_bind]
  ·cases hx
 ·cases hx
end
end Go.Abs
/- What one operation of the abstract machine does is what the program's operation does in memory. Seventh part: append. -/
set_option linter.unusedVariables false
set_option linter.unusedSimpArgs false
namespace Go.Abs
section
variable {P : Program} {o : Oper} {X : Nat → Prop} {ι : Nat → Bd} {h : Heap} {a : Act} {w w1 : World} {e : Eff}
theorem VR.heap_eq (hh : w1.heap = w.heap) {F : Nat → Prop} {G : Pl} {x : AV} {v : Value} (hv : VR w F G x v) : VR w1 F G x v :=
 hv.mono (by rw [hh]; exact Nat.le_refl _) (fun n _ hF => ⟨hF, by rw [hh]⟩) (fun b => .inl rfl)
theorem HRel.heap_eq (hh : w1.heap = w.heap) (hr : HRel w X ι h) : HRel w1 X ι h where
 blks b blk hb := by
  obtain ⟨h1, h2, h3⟩ := hr.blks b blk hb
  refine ⟨h1, h2, ?_⟩
  cases hl : (ι b).loc with
  | none => rw [hl] at h3; exact h3
  | some n =>
   rw [hl] at h3
   obtain ⟨cs, t, h4, h5, h6, h7⟩ := h3
   refine ⟨cs, t, by rw [hh]; exact h4, h5, h6, fun i x j c hi hj => ?_⟩
   obtain ⟨v, k1, k2, k3⟩ := h7 i x j c hi hj
   exact ⟨v, k1, k2, k3.heap_eq hh⟩
 inj := hr.inj
 notX := hr.notX
 xlt n hx := by rw [hh]; exact hr.xlt n hx
/-- As write_ok, the version counted on. -/
theorem write_ok2 (hr : HRel w X ι h) (b : Nat) (blk blk' : Blk) (hb : (h b).live = some blk) (ver : Nat) (hver : (h b).ver < ver) (n : Nat) (hl : (ι b).loc = some n) (cs cs' : Array Value) (t : TypeId) (hcs : w.heap[n]? = some (.cells cs t (0, 0)))
  (hsz : cs'.size = cs.size) (hw1 : w1 = w.setRow n cs') (hk : blk'.k = blk.k) (hlen : ∀ x ∈ blk'.elems, x.length = blk'.k)
  (hcells : ∀ (i : Nat) x (j : Nat) a, blk'.elems[i]? = some x → x[j]? = some a → ∃ v, cs'[i * blk'.k + j]? = some v ∧ v.oneCell' = true ∧ VR w (Forb X (place h ι)) (place h ι) a v) :
  HRel w1 X ι (upd h b ⟨ver, some blk'⟩) ∧ Evo w (place h ι) w1 (place (upd h b ⟨ver, some blk'⟩) ι) ∧ place (upd h b ⟨ver, some blk'⟩) ι b = (ver, some (ι b)) := by
 obtain ⟨h1, h2, h3⟩ := hr.blks b blk hb
 rw [hl] at h3
 obtain ⟨cs0, t0, h4, h5, h6, h7⟩ := h3
 rw [hcs] at h4
 simp only [Option.some.injEq, Obj.cells.injEq] at h4
 obtain ⟨rfl, rfl, _⟩ := h4
 have hι : upd ι b (ι b) = ι := by funext c; by_cases e : c = b <;> simp [upd, e]
 have hrow : w1.heap[n]? = some (.cells cs' t (0, 0)) := by rw [hw1]; exact setRow_heap w n cs cs' t _ hcs
 have hkeep : ∀ m, m < w.heap.size → w1.heap[m]? = w.heap[m]? ∨ ((h b).live.isSome = true ∧ (ι b).loc = some m) := by
  intro m hm
  by_cases e : m = n
  ·subst e; exact .inr ⟨by simp [hb], hl⟩
  ·refine .inl ?_
   rw [hw1]; exact setRow_other w n m cs' e
 have hnew : ∀ m, ((⟨ver, some blk'⟩ : HB).live).isSome = true → (ι b).loc = some m → ((h b).live.isSome = true ∧ (ι b).loc = some m) ∨ w.heap.size ≤ m := fun m _ hm => .inl ⟨by simp [hb], hm⟩
 have hev := upd_evo (w1 := w1) hr b ⟨ver, some blk'⟩ (ι b) (by rw [hw1]; simp [World.setRow]) (by rw [hw1]; rfl) (by rw [hw1]; rfl) (by rw [hw1]; rfl) (.inr hver) hkeep hnew
 rw [hι] at hev
 have hrel := upd_rel (w1 := w1) hr b ⟨ver, some blk'⟩ (ι b) (by rw [hι]; exact hev) hkeep hnew ?_
 ·rw [hι] at hrel
  exact ⟨hrel, hev, by simp [place, upd]⟩
 ·intro blk0 h0
  simp at h0
  subst h0
  rw [hι]
  refine ⟨by rw [hk]; exact h1, h2, ?_⟩
  rw [hl]
  refine ⟨cs', t, hrow, by rw [hsz]; exact h5, fun x hx => by rw [hlen x hx, hk, h1], fun i x j a hi hj => ?_⟩
  obtain ⟨v, h8, h9, h10⟩ := hcells i x j a hi hj
  rw [hk, h1] at h8
  exact ⟨v, h8, h9, h10.evo hev⟩
theorem run_append_more {t u E U : TypeId} {T : TypeId} {inf : TypeInfo} {z : Value} (ht : P.underlying t = some (.slice E)) (hu : P.underlying u = some (.slice U)) (hi : P.info? E = some inf) (hz : inf.zero = some z)
  {A A' : Option Addr} {n c m c' : Nat} {v2 : Value} (hv2 : v2 = .slice A' m c') (olds news : Array Value) (h1 : (Builtin.firstCells inf.size n (.slice A n c)).run P w.drew = .ok olds w.drew)
  (h2 : (Builtin.firstCells inf.size m v2).run P w.drew = .ok news w.drew) (hg : c < n + m) (h63 : n + m ≤ 17592186044416) (hfit : (n + m) * inf.bytes ≤ 17592186044416) :
  (Builtin.append_ #[t, u] T #[.slice A n c, v2]).run P w = .ok (.slice (some ⟨w.heap.size, 0, none⟩) (n + m) (grownCap w (n + m) c E)) (w.drew.alloc (.cells (olds ++ news ++ Builtin.zeroCells z.cells (grownCap w (n + m) c E - (n + m))) E)) := by
 subst hv2
 have hn : ¬ (n + m ≤ c) := by omega
 have h63' : ¬ (9223372036854775807 < ((n : Int) + (m : Int))) := by omega
 have h48' : ¬ (281474976710656 < Builtin.nextslicecap (n + m) c * inf.bytes) := by
  have := growslice_fits (bytes := inf.bytes) hg (by omega)
  omega
 simp [Builtin.append_, run_underlying ht, run_underlying hu, sizeOf, typeInfo, zeroValue, hi, hz, Builtin.lenOf, hn, h63', h48', Question.forced, h1, h2, newRow, grownCap]
theorem run_append_in {t u E U : TypeId} {T : TypeId} {inf : TypeInfo} (ht : P.underlying t = some (.slice E)) (hu : P.underlying u = some (.slice U)) (hi : P.info? E = some inf)
  {A A' : Option Addr} {n c m c' : Nat} {v2 : Value} (hv2 : v2 = .slice A' m c') (news : Array Value) (h2 : (Builtin.firstCells inf.size m v2).run P w = .ok news w) (hg : n + m ≤ c)
  {w2 : World} (hst : ∀ ad, A = some ad → (storeCells (ad.add (n * inf.size)) news.toList).run P w = .ok () w2) (hno : A = none → w2 = w) :
  (Builtin.append_ #[t, u] T #[.slice A n c, v2]).run P w = .ok (.slice A (n + m) c) w2 := by
 subst hv2
 cases A with
 | none => simp [Builtin.append_, run_underlying ht, run_underlying hu, sizeOf, typeInfo, hi, Builtin.lenOf, hg, h2, hno rfl]
 | some ad => simp [Builtin.append_, run_underlying ht, run_underlying hu, sizeOf, typeInfo, hi, Builtin.lenOf, hg, h2, hst ad rfl]
theorem take_all {cs : List Value} {n k : Nat} (h : cs.length = n * k) : cs.take (n * k) = cs := by rw [← h]; exact List.take_length
theorem grow_OK {t u E U : TypeId} {x y : Operand} {inf : TypeInfo} {z : Value} {src olds : List (List AV)} {A A' : Option Addr} {c c' : Nat} {rd : List Nat} {osl ssl : List Value} (hr : HRel w X ι h)
  (hop : o.op = .call { callee := .builtin .append, args := #[x, y], argTypes := #[t, u] }) (ht : P.underlying t = some (.slice E)) (hu : P.underlying u = some (.slice U)) (hi : P.info? E = some inf) (hz : inf.zero = some z)
  (hz0 : 0 < inf.size) (hzs : z.cells.size = inf.size) (b ver : Nat) (hver : (h b).ver < ver) (hvx : a.eval x = .slice A olds.length c) (hvy : a.eval y = .slice A' src.length c') (hRo : RR w (Forb X (place h ι)) (place h ι) inf.size olds osl) (hRs : RR w (Forb X (place h ι)) (place h ι) inf.size src ssl)
  (h1 : (Builtin.firstCells inf.size olds.length (.slice A olds.length c)).run P w.drew = .ok osl.toArray w.drew) (h2 : (Builtin.firstCells inf.size src.length (a.eval y)).run P w.drew = .ok ssl.toArray w.drew)
  (hg : c < olds.length + src.length) (h63 : olds.length + src.length ≤ 17592186044416) (hfit : (olds.length + src.length) * inf.bytes ≤ 17592186044416) :
  OpOK P o X ι h a w ⟨.sl b ver 0 (olds.length + src.length) (olds.length + src.length), some (b, ⟨ver, some ⟨inf.size, olds ++ src⟩⟩), rd⟩ := by
 have hge := grownCap_ge w (olds.length + src.length) c E
 have hrun := run_append_more (T := o.type) ht hu hi hz hvy osl.toArray ssl.toArray h1 h2 hg h63 hfit
 have hRR := hRo.append hRs
 refine new_row (cs := osl ++ ssl) (Builtin.zeroCells z.cells (grownCap w (olds.length + src.length) c E - (olds.length + src.length))).toList (t := E) (l := olds.length + src.length) (c := grownCap w (olds.length + src.length) c E)
  (w1 := w.drew.alloc (.cells (osl.toArray ++ ssl.toArray ++ Builtin.zeroCells z.cells (grownCap w (olds.length + src.length) c E - (olds.length + src.length))) E)) hr hz0 hRR rd ?_ rfl rfl rfl ver hver _ hge hge ⟨by simp only [maxL]; omega, by simp only [maxL]; omega⟩ ?_ ?_
 ·show w.heap.push _ = _
  congr 2
  apply Array.toList_inj.1
  simp
 ·rw [hRR.1, List.length_append]
  simp only [Array.length_toList, size_zeroCells, hzs]
  rw [← Nat.add_mul]
  refine Nat.mul_le_mul_right _ ?_
  omega
 ·simp only [execOp, hop, resolve, invoke, builtin]
  simp [Sem.run_bind, hvx, hrun]
theorem so_capn {t E : TypeId} {x : Operand} (hr : HRel w X ι h) {env : Env} (he : EnvOK w (Forb X (place h ι)) (place h ι) env a) (dst : Nat)
  (hop : o.op = .call { callee := .builtin .cap, args := #[x], argTypes := #[t] }) (ht : P.underlying t = some (.slice E)) (hx : exec (.capn (arg x)) dst env h = some e) : OpOK P o X ι h a w e := by
 have hc := arg_ok he x
 simp only [exec] at hx
 split at hx
 ·rename_i h1
  rw [h1] at hc
  simp only [Option.some.injEq] at hx
  subst hx
  refine pure_OK hr rfl (r := .int .i64 0) ?_ (.d _ _ (.int _ _))
  simp [execOp, hop, resolve, invoke, builtin, Builtin.cap_, hc.nil_inv, run_underlying ht, goInt, Sem.run_bind]
 ·cases hx
theorem run_append_zeros {t tn ty E : TypeId} {i : TypeInfo} {z : Value} {kq kn : IntKind} (ht : P.underlying t = some (.slice E)) (htn : P.underlying tn = some (.int kn)) (hi : P.info? E = some i) (hz : i.zero = some z)
  (k : Nat) (h0 : 0 < k) (hs : 0 < i.size) (h63 : k ≤ 17592186044416) (h48 : k * i.bytes ≤ 17592186044416) :
  (Builtin.append_ #[t, tn] ty #[.slice none 0 0, .int kq k]).run P w = .ok (.slice (some ⟨w.heap.size, 0, none⟩) k (grownCap w k 0 E)) (w.drew.alloc (.cells (Builtin.zeroCells z.cells k ++ Builtin.zeroCells z.cells (grownCap w k 0 E - k)) E)) := by
 have hk : k ≠ 0 := by omega
 have hw : IntKind.i64.wrap (k : Int) = k := by rw [IntKind.wrap_i64]; omega
 have h63' : ¬ (9223372036854775807 < (k : Int)) := by omega
 have h48' : ¬ (281474976710656 < Builtin.nextslicecap k 0 * i.bytes) := by
  have := growslice_fits (bytes := i.bytes) (need := k) (old := 0) (by omega) (by omega)
  omega
 have h48i : ¬ (281474976710656 < (k : Int) * (i.bytes : Int)) := by
  rw [← Int.natCast_mul]
  omega
 have hs0 : i.size ≠ 0 := by omega
 have hnn : ¬ ((k : Int) < 0) := by omega
 have hns : ¬ (k * i.size = 0) := Nat.mul_ne_zero hk (by omega)
 simp [Builtin.append_, run_underlying ht, run_underlying htn, sizeOf, typeInfo, zeroValue, hi, hz, hw, asInt, asIntOf, h63', h48', h48i, hnn, hk, hs0, hns, Question.forced, newRow, grownCap, Builtin.firstCells]
theorem so_appz {t u E : TypeId} {kk : IntKind} {x y : Operand} {inf : TypeInfo} {zs : List AV} (hr : HRel w X ι h) {env : Env} (he : EnvOK w (Forb X (place h ι)) (place h ι) env a) (dst : Nat)
  (hop : o.op = .call { callee := .builtin .append, args := #[x, y], argTypes := #[t, u] }) (ht : P.underlying t = some (.slice E)) (hu : P.underlying u = some (.int kk)) (hi : P.info? E = some inf) (hz : zeroOf P E = some zs)
  (hx : exec (.appz inf.size inf.bytes zs (arg x) (arg y)) dst env h = some e) : OpOK P o X ι h a w e := by
 obtain ⟨inf', z, hi', hz1, gz1, gz2, _, hzc⟩ := zero_CR (w := w) hz (Forb X (place h ι)) (place h ι)
 rw [hi] at hi'
 cases hi'
 have hc := arg_ok he x
 simp only [exec] at hx
 split at hx
 ·rename_i m hs hm
  rw [hs] at hc
  split at hx
  ·rename_i hcond
   obtain ⟨c1, c2, c3, c4⟩ := hcond
   simp only [Option.some.injEq] at hx
   subst hx
   obtain ⟨kq, hm⟩ := intOfA_ok (arg_ok he y) hm
   obtain ⟨k, rfl⟩ : ∃ k : Nat, m = k := ⟨m.toNat, by omega⟩
   simp only [Int.toNat_natCast]
   have c2' : k * inf.bytes ≤ 17592186044416 := by
    have : ((k * inf.bytes : Nat) : Int) = (k : Int) * (inf.bytes : Int) := Int.natCast_mul _ _
    omega
   have hrr := RR.replicate hzc k
   rw [c4] at hrr
   have hrun := run_append_zeros (P := P) (w := w) (ty := o.type) (kq := kq) ht hu hi hz1 k (by omega) gz2 (by omega) c2'
   have hge := grownCap_ge w k 0 E
   refine new_row (cs := (List.replicate k z.cells.toList).flatten) (Builtin.zeroCells z.cells (grownCap w k 0 E - k)).toList (t := E) (l := k) (c := grownCap w k 0 E)
    (w1 := w.drew.alloc (.cells (Builtin.zeroCells z.cells k ++ Builtin.zeroCells z.cells (grownCap w k 0 E - k)) E)) hr gz2 hrr _ ?_ rfl rfl rfl _ (Nat.lt_succ_self _) _ hge hge ⟨by simp only [maxL]; omega, by simp only [maxL]; omega⟩ ?_ ?_
   ·show w.heap.push _ = _
    congr 2
    apply Array.toList_inj.1
    simp [zeroCells_eq (z := z.cells) (by omega)]
   ·rw [hrr.1, List.length_replicate]
    simp only [Array.length_toList, size_zeroCells, gz1]
    rw [← Nat.add_mul]
    refine Nat.mul_le_mul_right _ ?_
    omega
   ·simp only [execOp, hop, resolve, invoke, builtin]
    simp [Sem.run_bind, hc.nil_inv, hm, hrun]
  ·cases hx
 ·cases hx
theorem so_app {t u E U : TypeId} {x y : Operand} {inf : TypeInfo} (hr : HRel w X ι h) {env : Env} (he : EnvOK w (Forb X (place h ι)) (place h ι) env a) (dst : Nat)
  (hop : o.op = .call { callee := .builtin .append, args := #[x, y], argTypes := #[t, u] }) (ht : P.underlying t = some (.slice E)) (hu : P.underlying u = some (.slice U)) (hi : P.info? E = some inf) (hz : (zeroOf P E).isSome = true)
  (hx : exec (.app inf.size inf.bytes (arg x) (arg y)) dst env h = some e) : OpOK P o X ι h a w e := by
 obtain ⟨zs, hz⟩ := Option.isSome_iff_exists.1 hz
 obtain ⟨inf', z, hi', hz1, gz1, gz2, _, hzc⟩ := zero_CR (w := w) hz (Forb X (place h ι)) (place h ι)
 rw [hi] at hi'
 cases hi'
 have hc := arg_ok he x
 have hcy := arg_ok he y
 have hdr : w.drew.heap = w.heap := rfl
 simp only [exec, Option.bind_eq_some_iff] at hx
 obtain ⟨src, hsrc, hx⟩ := hx
 split at hx
 ·cases hx
 ·rename_i hall
  have hall : src.all (·.length = inf.size) = true := by simpa [allLen] using hall
  obtain ⟨A', c', ssl, hvy, hRs, hml, hruns⟩ := elemsOf_ok (P := P) hr hcy hsrc hall
  obtain ⟨_, _, ssl', hvy', hRs', _, hruns'⟩ := elemsOf_ok (P := P) (w := w.drew) (hr.heap_eq hdr) (hcy.heap_eq hdr) hsrc hall
  have hs1 := hruns src.length (Nat.le_refl _)
  have hs2 := hruns' src.length (Nat.le_refl _)
  rw [take_all hRs.1] at hs1
  rw [take_all hRs'.1] at hs2
  have hRs2 : RR w (Forb X (place h ι)) (place h ι) inf.size src ssl' := ⟨hRs'.1, hRs'.2.1, fun i x j c hi hj => by
   obtain ⟨q, q1, q2, q3⟩ := hRs'.2.2 i x j c hi hj
   exact ⟨q, q1, q2, VR.heap_eq (w := w.drew) (w1 := w) rfl q3⟩⟩
  -- a row of no capacity
  have none_case : ∀ A, a.eval x = .slice A 0 0 → (src.length * inf.bytes ≤ 17592186044416 ∧ src.length ≤ 17592186044416) → ∀ rd, OpOK P o X ι h a w ⟨.sl dst ((h dst).ver + 1) 0 src.length src.length, some (dst, ⟨(h dst).ver + 1, some ⟨inf.size, src⟩⟩), rd⟩ := by
   rintro A hA ⟨b1, b2⟩ rd
   by_cases hm : src.length = 0
   ·have hnil : src = [] := List.eq_nil_of_length_eq_zero hm
    subst hnil
    obtain ⟨h1, h2, h3⟩ := nil_ok hr dst inf.size ((h dst).ver + 1) (by omega) gz2
    have hss0 : ssl = [] := List.eq_nil_of_length_eq_zero (by rw [hRs.1]; simp)
    subst hss0
    have hrun := run_append_in (P := P) (w := w) (A := A) (n := 0) (c := 0) (T := o.type) ht hu hi hvy #[] hs1 (by simp) (w2 := w) (fun ad _ => by simp [storeCells]) (fun _ => rfl)
    refine ⟨.slice A 0 0, w, _, .inl ?_, h1, .slN _ _ inf.size 0 _ h3, h2⟩
    simp only [execOp, hop, resolve, invoke, builtin]
    simp only [List.length_nil, Nat.add_zero] at hrun
    simp [Sem.run_bind, hA, hrun]
   ·have := grow_OK (P := P) (o := o) (a := a) (olds := []) (osl := []) (rd := rd) hr hop ht hu hi hz1 gz2 gz1 dst ((h dst).ver + 1) (by omega) (by simpa using hA) hvy (RR.nil _ _ _) hRs2 (by cases A <;> simp [Builtin.firstCells, loadCells, loadCellsFrom]) hs2
     (by simp; omega) (by simpa using b2) (by simpa using b1)
    simpa using this
  split at hx
  ·rename_i hv
   rw [hv] at hc
   split at hx
   ·rename_i hb
    simp only [Option.some.injEq] at hx
    subst hx
    exact none_case none hc.nil_inv hb _
   ·cases hx
  ·rename_i hv
   rw [hv] at hc
   split at hx
   ·rename_i hb
    simp only [Option.some.injEq] at hx
    subst hx
    obtain ⟨A, hA⟩ : ∃ A, a.eval x = .slice A 0 0 := by
     generalize a.eval x = va at hc
     cases hc with | empty A => exact ⟨A, rfl⟩
    exact none_case A hA hb _
   ·cases hx
  ·rename_i b ver n cap hv
   rw [hv] at hc
   simp only [Option.bind_eq_some_iff] at hx
   obtain ⟨blk, hb, hx⟩ := hx
   split at hx
   ·rename_i hcond
    obtain ⟨b1, b2, b3, b4⟩ := hcond
    obtain ⟨hp, hlv, hver⟩ := live_place (ι := ι) hb
    rcases hc.sl_inv hb with ⟨hl, _, rfl, rfl, A, hA⟩ | ⟨nb, c, A, hl, hva, g1, g2, g3, g4, g5⟩
    ·-- nowhere yet
     obtain ⟨q1, q2, q3⟩ := hr.blks b blk hlv
     rw [hl] at q3
     by_cases hm : src.length = 0
     ·have hnil : src = [] := List.eq_nil_of_length_eq_zero hm
      subst hnil
      simp only [List.length_nil, Nat.add_zero, Nat.zero_le, and_self, if_true, Option.some.injEq] at hx
      subst hx
      have hsame : upd h b ⟨ver, some ⟨inf.size, blk.elems.take 0 ++ [] ++ blk.elems.drop 0⟩⟩ = h := by
       funext y
       by_cases hy : y = b
       ·subst hy
        simp only [upd_same, List.take_zero, List.nil_append, List.drop_zero]
        rw [← b4]
        obtain ⟨kk, el⟩ := blk
        cases hh : h y with | mk v l => rw [hh] at hlv hver; simp at hlv hver; simp [hlv, hver]
       ·rw [upd_ne _ _ _ _ hy]
      have hss0 : ssl = [] := List.eq_nil_of_length_eq_zero (by rw [hRs.1]; simp)
      subst hss0
      have hrun := run_append_in (P := P) (w := w) (A := A) (n := 0) (c := 0) (T := o.type) ht hu hi hvy #[] hs1 (by simp) (w2 := w) (fun ad _ => by simp [storeCells]) (fun _ => rfl)
      refine ⟨.slice A 0 0, w, ι, .inl ?_, ?_, ?_, ?_⟩
      ·simp only [execOp, hop, resolve, invoke, builtin]
       simp only [List.length_nil, Nat.add_zero] at hrun
       simp [Sem.run_bind, hA, hrun]
      ·show HRel w X ι (upd h b _)
       rw [hsame]; exact hr
      ·show VR w (Forb X (place (upd h b _) ι)) (place (upd h b _) ι) _ _
       rw [hsame]; exact .slN b ver (ι b).k (ι b).sz _ (by rw [hp, ← hl])
      ·show Evo w (place h ι) w (place (upd h b _) ι)
       rw [hsame]; exact Evo.refl _ _
     ·rw [if_neg (by omega)] at hx
      simp only [Option.some.injEq] at hx
      subst hx
      have := grow_OK (P := P) (o := o) (a := a) (olds := []) (osl := []) (rd := b :: srcOf ((arg y).ev env)) hr hop ht hu hi hz1 gz2 gz1 b (ver + 1) (by omega) (by simpa using hA) hvy (RR.nil _ _ _) hRs2 (by cases A <;> simp [Builtin.firstCells, loadCells, loadCellsFrom]) hs2
       (by simp; omega) (by simpa using b2) (by simpa using b1)
      simpa using this
    ·obtain ⟨hk1, hk2, cs, et, p1, p2, p3, p4⟩ := blk_at hr hlv hl
     rw [← hk1, b4] at g5 g4
     rw [b4] at p3 p4
     simp only [Nat.zero_add, Nat.zero_mul] at g4 g5
     by_cases hin : n + src.length ≤ c
     ·-- in its place
      have hfit : n * inf.size + ssl.length ≤ cs.size := by
       rw [hRs.1, p2, ← Nat.add_mul]
       exact Nat.le_trans (Nat.mul_le_mul_right _ hin) g5
      obtain ⟨L, hL⟩ : ∃ L, L = cs.toList.take (n * inf.size) ++ ssl ++ cs.toList.drop (n * inf.size + ssl.length) := ⟨_, rfl⟩
      have hLl : L.length = cs.size := by
       rw [hL]; exact (splice_get cs.toList _ _ (by rw [Array.length_toList]; exact hfit)).1
      have hrun : (execOp a.eval o).run P w = .ok (.value (.slice A (n + src.length) c)) (w.setRow nb L.toArray) := by
       have hno : c = 0 → w.setRow nb L.toArray = w := by
        intro hc0
        have hs0 : ssl = [] := List.eq_nil_of_length_eq_zero (by rw [hRs.1, show src.length = 0 by omega]; simp)
        have hLc : L.toArray = cs := by apply Array.toList_inj.1; simp [hL, hs0]
        rw [hLc]
        exact setRow_self w nb cs et (0, 0) p1
       have := run_append_in (P := P) (w := w) (A := A) (n := n) (c := c) (T := o.type) ht hu hi hvy ssl.toArray hs1 hin (w2 := w.setRow nb L.toArray) (fun ad hA => by
        rcases g4 with g4 | g4
        ·rw [hno g4]
         have hs0 : ssl = [] := List.eq_nil_of_length_eq_zero (by rw [hRs.1, show src.length = 0 by omega]; simp)
         simp [hs0, storeCells]
        ·rw [hA] at g4
         cases g4
         rw [add_none, Nat.zero_add]
         have hst := run_storeCells_at P nb (n * inf.size) et ssl 0 cs w p1 (by rw [Nat.add_zero]; exact hfit) hRs.cells
         simp only [Nat.add_zero] at hst
         rw [← hL] at hst
         exact hst) (fun hA => by
        rcases g4 with g4 | g4
        ·exact hno g4
        ·rw [hA] at g4; cases g4)
       simp only [execOp, hop, resolve, invoke, builtin]
       simp [Sem.run_bind, hva, this]
      split at hx
      ·rename_i hkn
       simp only [Option.some.injEq] at hx
       subst hx
       obtain ⟨s1, s2⟩ := row_splice (i := n) (tail := blk.elems.drop (n + src.length)) p3 (by omega) p4 hRs hfit (tail_drop _)
       rw [← hL] at s2
       obtain ⟨q1, q2, q3⟩ := write_ok (w1 := w.setRow nb L.toArray) hr b blk ⟨inf.size, blk.elems.take n ++ src ++ blk.elems.drop (n + src.length)⟩ hlv nb hl cs L.toArray et p1 (by simpa using hLl) rfl b4.symm s1 s2
       rw [hver] at q1 q2 q3
       refine ⟨_, _, ι, .inl hrun, q1, ?_, q2⟩
       refine .sl b ver 0 (n + src.length) cap nb (ι b).k (ι b).sz A c ?_ hin g2 ⟨by simp only [maxL]; omega, g3.2⟩ ?_ ?_
       ·show place (upd h b _) ι b = _
        rw [q3, hp, ← hl]
       ·rcases g4 with g4 | g4
        ·exact .inl g4
        ·exact .inr (by rw [g4, Nat.zero_mul])
       ·rw [← hk1, b4, Nat.zero_add]; exact g5
      ·rename_i hkn
       simp only [Option.some.injEq] at hx
       subst hx
       obtain ⟨s1, s2⟩ := row_splice (i := n) (tail := []) p3 (by omega) p4 hRs hfit (fun t x hx => by simp at hx)
       rw [← hL] at s2
       simp only [List.append_nil] at s1 s2
       obtain ⟨q1, q2, q3⟩ := write_ok2 (w1 := w.setRow nb L.toArray) hr b blk ⟨inf.size, blk.elems.take n ++ src⟩ hlv (ver + 1) (by omega) nb hl cs L.toArray et p1 (by simpa using hLl) rfl b4.symm s1 s2
       refine ⟨_, _, ι, .inl hrun, q1, ?_, q2⟩
       refine .sl b (ver + 1) 0 (n + src.length) (n + src.length) nb (ι b).k (ι b).sz A c ?_ hin hin ⟨by simp only [maxL]; omega, by simp only [maxL]; omega⟩ ?_ ?_
       ·show place (upd h b _) ι b = _
        rw [q3, ← hl]
       ·rcases g4 with g4 | g4
        ·exact .inl g4
        ·exact .inr (by rw [g4, Nat.zero_mul])
       ·rw [← hk1, b4, Nat.zero_add]; exact g5
     ·-- in a new place
      rw [if_neg (by omega)] at hx
      simp only [Option.some.injEq] at hx
      subst hx
      have hel : elemsOf h ((arg x).ev env) = some (blk.elems.take n) := by
       rw [hv]
       simp only [elemsOf, hb, Option.bind_some, Nat.zero_add, b3, if_true, List.drop_zero]
      have hall2 : (blk.elems.take n).all (·.length = inf.size) = true := List.all_eq_true.2 fun y hy => by simpa using p3 y (List.mem_of_mem_take hy)
      have htl : (blk.elems.take n).length = n := by rw [List.length_take, Nat.min_eq_left b3]
      obtain ⟨_, _, osl', hvx', hRo', _, hruno'⟩ := elemsOf_ok (P := P) (w := w.drew) (hr.heap_eq hdr) ((by rw [hv]; exact hc : VR w (Forb X (place h ι)) (place h ι) ((arg x).ev env) (a.eval x)).heap_eq hdr) hel hall2
      have ho2 := hruno' (blk.elems.take n).length (Nat.le_refl _)
      rw [take_all hRo'.1] at ho2
      have hRo2 : RR w (Forb X (place h ι)) (place h ι) inf.size (blk.elems.take n) osl' := ⟨hRo'.1, hRo'.2.1, fun i x j c hi hj => by
       obtain ⟨q, q1, q2, q3⟩ := hRo'.2.2 i x j c hi hj
       exact ⟨q, q1, q2, VR.heap_eq (w := w.drew) (w1 := w) rfl q3⟩⟩
      have := grow_OK (P := P) (o := o) (a := a) (olds := blk.elems.take n) (osl := osl') (rd := b :: srcOf ((arg y).ev env)) hr hop ht hu hi hz1 gz2 gz1 b (ver + 1) (by omega) (by rw [htl]; exact hva) hvy hRo2 hRs2 (by rw [htl, ← hva, ← htl]; exact ho2) hs2
       (by rw [htl]; omega) (by rw [htl]; exact b2) (by rw [htl]; exact b1)
      rw [htl] at this
      exact this
   ·cases hx
  ·cases hx
end
end Go.Abs
/- What one operation of the abstract machine does is what the program's operation does in memory: all of them together. -/
set_option linter.unusedVariables false
set_option linter.unusedSimpArgs false
namespace Go.Abs
section
variable {P : Program} {o : Oper} {X : Nat → Prop} {ι : Nat → Bd} {h : Heap} {a : Act} {w : World} {e : Eff}
theorem exec_bad {dst : Nat} {env : Env} (hx : exec .bad dst env h = some e) : False := by simp [exec] at hx
theorem so_call {c : Call} (hr : HRel w X ι h) {env : Env} (he : EnvOK w (Forb X (place h ι)) (place h ι) env a) (dst : Nat) (hop : o.op = .call c) (hx : exec (compCall P c) dst env h = some e) : OpOK P o X ι h a w e := by
 obtain ⟨callee, args, argTypes⟩ := c
 obtain ⟨args⟩ := args
 obtain ⟨argTypes⟩ := argTypes
 unfold compCall at hx
 cases callee with
 | value f =>
  simp only at hx
  split at hx
  ·split at hx <;> simp [exec] at hx
  ·simp [exec] at hx
  ·rename_i h1; cases h1
  ·rename_i h1; cases h1
 | invoke r m => simp [exec] at hx
 | builtin b =>
  simp only at hx
  split at hx
  ·rename_i x t
   split at hx
   ·rename_i ht
    exact so_len hr he dst true hop (.inl ⟨rfl, ht⟩) hx
   ·rename_i E ht
    exact so_len hr he dst false hop (.inr ⟨rfl, E, ht⟩) hx
   ·exact (exec_bad hx).elim
  ·rename_i s x t u
   split at hx
   ·rename_i E U h1 h2
    split at hx
    ·rename_i hz
     obtain ⟨zs, hz'⟩ := Option.isSome_iff_exists.1 hz
     obtain ⟨inf, z, hi, hz1, _⟩ := zero_CR (w := w) hz' (Forb X (place h ι)) (place h ι)
     have ht : P.underlying t = some (.slice E) := by
      unfold isSliceT at h1
      split at h1
      ·rename_i E' ht; simp at h1; subst h1; exact ht
      ·cases h1
     rw [sizeT_of hi, show bytesT P E = inf.bytes by simp [bytesT, Program.bytesOf, hi]] at hx
     exact so_app hr he dst hop ht h2 hi hz hx
    ·exact (exec_bad hx).elim
   ·rename_i E kk h1 h2
    split at hx
    ·rename_i zs hz
     obtain ⟨inf, z, hi, hz1, _⟩ := zero_CR (w := w) hz (Forb X (place h ι)) (place h ι)
     have ht : P.underlying t = some (.slice E) := by
      unfold isSliceT at h1
      split at h1
      ·rename_i E' ht; simp at h1; subst h1; exact ht
      ·cases h1
     rw [sizeT_of hi, show bytesT P E = inf.bytes by simp [bytesT, Program.bytesOf, hi]] at hx
     exact so_appz hr he dst hop ht h2 hi hz hx
    ·exact (exec_bad hx).elim
   ·exact (exec_bad hx).elim
  ·rename_i x t
   split at hx
   ·rename_i E h1
    have ht : P.underlying t = some (.slice E) := by
     unfold isSliceT at h1
     split at h1
     ·rename_i E' ht; simp at h1; subst h1; exact ht
     ·cases h1
    exact so_capn hr he dst hop ht hx
   ·exact (exec_bad hx).elim
  ·exact so_mm (b := .min) false hr he dst hop (.inl ⟨rfl, rfl⟩) hx
  ·exact so_mm (b := .max) true hr he dst hop (.inr ⟨rfl, rfl⟩) hx
  ·rename_i d s t u
   split at hx
   ·rename_i E h1
    split at hx
    ·rename_i hc
     simp only [Bool.and_eq_true, decide_eq_true_eq] at hc
     obtain ⟨inf, hi⟩ := Option.isSome_iff_exists.1 hc.2
     have ht : P.underlying t = some (.slice E) := by
      unfold isSliceT at h1
      split at h1
      ·rename_i E' ht; simp at h1; subst h1; exact ht
      ·cases h1
     rw [sizeT_of hi] at hx hc
     exact so_copy hr he dst hop ht hi hc.1 hx
    ·exact (exec_bad hx).elim
   ·exact (exec_bad hx).elim
  ·rename_i s t
   split at hx
   ·rename_i E h1
    split at hx
    ·rename_i zs hz
     obtain ⟨inf, z, hi, hz1, _⟩ := zero_CR (w := w) hz (Forb X (place h ι)) (place h ι)
     have ht : P.underlying t = some (.slice E) := by
      unfold isSliceT at h1
      split at h1
      ·rename_i E' ht; simp at h1; subst h1; exact ht
      ·cases h1
     rw [sizeT_of hi] at hx
     exact so_clear hr he dst hop ht hi hz hx
    ·exact (exec_bad hx).elim
   ·exact (exec_bad hx).elim
  ·exact (exec_bad hx).elim
theorem isSliceT_of {t E : TypeId} (h1 : isSliceT P t = some E) : P.underlying t = some (.slice E) := by
 unfold isSliceT at h1
 split at h1
 ·rename_i E' ht; simp at h1; subst h1; exact ht
 ·cases h1
theorem so_binop {op : BinOp} {t u : TypeId} {x y : Operand} (hr : HRel w X ι h) {env : Env} (he : EnvOK w (Forb X (place h ι)) (place h ι) env a) (dst : Nat) (hop : o.op = .binOp op t x y u) (hx : exec (compBin P op t x y) dst env h = some e) : OpOK P o X ι h a w e := by
 unfold compBin at hx
 split at hx
 ·split at hx
  ·exact (exec_bad hx).elim
  ·exact (exec_bad hx).elim
  ·exact so_bin hr he dst t u hop hx
 ·exact so_bin hr he dst t u hop hx
 ·rename_i ht
  split at hx
  ·exact so_eqb hr he dst t u hop (.inl ⟨rfl, rfl⟩) ht hx
  ·exact so_eqb hr he dst t u hop (.inr ⟨rfl, rfl⟩) ht hx
  ·exact (exec_bad hx).elim
 ·rename_i E ht
  split at hx
  ·exact so_eqn hr he dst t u E hop (.inl ⟨rfl, rfl⟩) ht hx
  ·exact so_eqn hr he dst t u E hop (.inr ⟨rfl, rfl⟩) ht hx
  ·exact (exec_bad hx).elim
 ·rename_i fs ht
  split at hx
  ·rename_i hc
   simp only [Bool.and_eq_true, Bool.not_eq_true'] at hc
   split at hx
   ·rename_i ks hk
    split at hx
    ·exact so_eqs hr he dst t u fs ks hop (.inl ⟨rfl, rfl⟩) ht hc.1 hc.2 hk hx
    ·exact so_eqs hr he dst t u fs ks hop (.inr ⟨rfl, rfl⟩) ht hc.1 hc.2 hk hx
    ·exact (exec_bad hx).elim
   ·exact (exec_bad hx).elim
  ·exact (exec_bad hx).elim
 ·exact (exec_bad hx).elim
theorem mapM_some {α β : Type} (f : α → Option β) (g : α → β) : ∀ (l : List α), (∀ x ∈ l, f x = some (g x)) → l.mapM f = some (l.map g)
 | [], _ => rfl
 | x :: l, h => by simp [h x (by simp), mapM_some f g l (fun y hy => h y (by simp [hy]))]
theorem so_buildS {t : TypeId} {parts : Array (Nat × Operand)} {fs : Array Field} {zs : List AV} (hr : HRel w X ι h) {env : Env} (he : EnvOK w (Forb X (place h ι)) (place h ι) env a) (dst : Nat) (hop : o.op = .build t parts) (ht : P.underlying t = some (.struct fs))
  (hz : zeroOf P t = some zs) (h1 : fs.all (fun f => (P.info? f.type).isSome) = true) (h2 : parts.all (fun p => p.1 < fs.size) = true)
  (hx : exec (.build zs (parts.toList.map fun p => (((fs[p.1]?).map (·.offset)).getD 0, sizeT P (((fs[p.1]?).map (·.type)).getD 0), arg p.2))) dst env h = some e) : OpOK P o X ι h a w e := by
 have hpl : ∀ p ∈ parts.toList, p.1 < fs.size := fun p hp => by
  have := Array.all_eq_true_iff_forall_mem.1 h2 p (by simpa using hp)
  simpa using this
 refine so_build (place' := fun i => (fs[i]?).map fun f => (f.offset, sizeT P f.type)) hr he dst hop hz ?_ ?_ ?_ hx
 ·intro qs z hzz
  left
  simp only [Option.bind_eq_some_iff] at hzz
  obtain ⟨it, hit, hzz⟩ := hzz
  unfold Program.built
  simp only [hit, ht, hzz]
  rw [mapM_some _ (fun f => (f.offset, sizeT P f.type)) fs.toList (fun f hf => by
   have := Array.all_eq_true_iff_forall_mem.1 h1 f (by simpa using hf)
   obtain ⟨i, hi⟩ := Option.isSome_iff_exists.1 this
   simp [hi, sizeT_of hi])]
  simp only
  congr 1
  funext i
  simp
 ·apply List.map_congr_left
  intro p hp
  have hlt := hpl p hp
  simp [hlt]
 ·intro p hp
  have hlt := hpl p hp
  simp [hlt]
theorem so_buildA {t E len : TypeId} {parts : Array (Nat × Operand)} {zs : List AV} (hr : HRel w X ι h) {env : Env} (he : EnvOK w (Forb X (place h ι)) (place h ι) env a) (dst : Nat) (hop : o.op = .build t parts) (ht : P.underlying t = some (.array len E))
  (hz : zeroOf P t = some zs) (h1 : (P.info? E).isSome = true)
  (hx : exec (.build zs (parts.toList.map fun p => (p.1 * sizeT P E, sizeT P E, arg p.2))) dst env h = some e) : OpOK P o X ι h a w e := by
 obtain ⟨ie, hie⟩ := Option.isSome_iff_exists.1 h1
 refine so_build (place' := fun i => some (i * sizeT P E, sizeT P E)) hr he dst hop hz ?_ ?_ ?_ hx
 ·intro qs z hzz
  left
  simp only [Option.bind_eq_some_iff] at hzz
  obtain ⟨it, hit, hzz⟩ := hzz
  unfold Program.built
  simp only [hit, ht, hzz, hie, sizeT_of hie]
 ·simp
 ·simp
theorem exec_sound (hr : HRel w X ι h) {env : Env} (he : EnvOK w (Forb X (place h ι)) (place h ι) env a) (hx : exec (compOp P o) (o.dst.getD 0) env h = some e) : OpOK P o X ι h a w e := by
 unfold compOp at hx
 split at hx
 case h_1 x hop => exact so_mov hr he _ (.inl hop) hx
 case h_2 x hop => exact so_mov hr he _ (.inr hop) hx
 case h_3 c x y hop => exact so_pick hr he _ hop hx
 case h_4 t hop =>
  split at hx
  ·rename_i zs d hz hd
   exact so_alloc hr _ hop hz hx
  ·exact (exec_bad hx).elim
 case h_5 t x hop =>
  split at hx
  ·rename_i hc
   simp only [Bool.and_eq_true, decide_eq_true_eq] at hc
   exact so_box hr he _ hop hc.1 hx
  ·exact (exec_bad hx).elim
 case h_6 t parts hop =>
  split at hx
  ·rename_i fs zs ht hz
   split at hx
   ·rename_i hc
    simp only [Bool.and_eq_true] at hc
    exact so_buildS hr he _ hop ht hz hc.1 hc.2 hx
   ·exact (exec_bad hx).elim
  ·rename_i len E zs ht hz
   split at hx
   ·rename_i hc
    exact so_buildA hr he _ hop ht hz hc hx
   ·exact (exec_bad hx).elim
  ·exact (exec_bad hx).elim
 case h_7 t len parts hop =>
  split at hx
  ·rename_i E d h1 hd
   split at hx
   ·rename_i zs hz
    split at hx
    ·rename_i hle
     obtain ⟨inf, z, hi, hz1, _⟩ := zero_CR (w := w) hz (Forb X (place h ι)) (place h ι)
     rw [sizeT_of hi] at hx hle
     exact so_lit hr he _ hop (isSliceT_of h1) hi hz hle hx
    ·exact (exec_bad hx).elim
   ·exact (exec_bad hx).elim
  ·exact (exec_bad hx).elim
 case h_8 t x hop =>
  split at hx
  ·rename_i hc
   simp only [Bool.and_eq_true] at hc
   obtain ⟨inf, hi⟩ := Option.isSome_iff_exists.1 hc.2
   rw [sizeT_of hi] at hx
   exact so_load hr he _ hop hc.1 hi hx
  ·exact (exec_bad hx).elim
 case h_9 t x y hop =>
  split at hx
  ·rename_i hc
   simp only [Bool.and_eq_true] at hc
   obtain ⟨inf, hi⟩ := Option.isSome_iff_exists.1 hc.1
   rw [sizeT_of hi] at hx
   exact so_store hr he _ hop (by simpa using hc.2) hi hx
  ·exact (exec_bad hx).elim
 case h_10 x hop => exact so_chk hr he _ hop hx
 case h_11 op t x y u hop => exact so_binop hr he _ hop hx
 case h_12 t x hop => exact so_not hr he _ t hop hx
 case h_13 src dt x hop =>
  split at hx
  ·rename_i ds k h1 h2
   exact so_conv hr he _ src dt ds k hop h1 h2 hx
  ·exact (exec_bad hx).elim
 case h_14 f first caps hop =>
  split at hx
  ·rename_i hf
   exact so_func hr he _ hop hf hx
  ·exact (exec_bad hx).elim
 case h_15 t lo co hop =>
  split at hx
  ·rename_i E d h1 hd
   split at hx
   ·rename_i zs hz
    obtain ⟨inf, z, hi, hz1, _⟩ := zero_CR (w := w) hz (Forb X (place h ι)) (place h ι)
    rw [sizeT_of hi, show bytesT P E = inf.bytes by simp [bytesT, Program.bytesOf, hi]] at hx
    exact so_make hr he _ hop (isSliceT_of h1) hi hz hx
   ·exact (exec_bad hx).elim
  ·exact (exec_bad hx).elim
 case h_16 t x lo hi mx hop =>
  split at hx
  ·rename_i ht
   exact so_slice_str hr he _ hop ht hx
  ·rename_i E ht
   split at hx
   ·rename_i hc
    simp only [Bool.and_eq_true, decide_eq_true_eq, Bool.or_eq_true] at hc
    obtain ⟨⟨h1, h2⟩, h3⟩ := hc
    obtain ⟨inf, hi'⟩ := Option.isSome_iff_exists.1 h2
    rw [sizeT_of hi'] at hx h1
    obtain ⟨k, hk⟩ : ∃ k, inf.size = k + 1 := ⟨inf.size - 1, by omega⟩
    rw [hk] at hx
    exact so_slice hr he _ hop ht hi' hk h3 hx
   ·exact (exec_bad hx).elim
  ·exact (exec_bad hx).elim
 case h_17 t x f hop =>
  split at hx
  ·rename_i fs ht
   split at hx
   ·rename_i fd hf
    split at hx
    ·rename_i hc
     simp only [Bool.and_eq_true, decide_eq_true_eq] at hc
     obtain ⟨inf, hi⟩ := Option.isSome_iff_exists.1 hc.2
     rw [sizeT_of hi] at hc
     exact so_fieldAddr hr he _ hop ht hf hi hc.1 hx
    ·exact (exec_bad hx).elim
   ·exact (exec_bad hx).elim
  ·exact (exec_bad hx).elim
 case h_18 t x i hop =>
  split at hx
  ·rename_i E ht
   split at hx
   ·rename_i hc
    simp only [Bool.and_eq_true, decide_eq_true_eq] at hc
    obtain ⟨inf, hi⟩ := Option.isSome_iff_exists.1 hc.2
    rw [sizeT_of hi] at hx hc
    exact so_idx hr he _ hop ht hi hc.1 hx
   ·exact (exec_bad hx).elim
  ·rename_i len E k n ht
   split at hx
   ·rename_i hc
    simp only [Bool.and_eq_true, decide_eq_true_eq] at hc
    obtain ⟨inf, hi⟩ := Option.isSome_iff_exists.1 hc.2
    exact so_indexArr hr he _ hop ht hc.1.1 hc.1.2 hi hx
   ·exact (exec_bad hx).elim
  ·exact (exec_bad hx).elim
 case h_19 t x i hop =>
  split at hx
  ·rename_i ht
   exact so_sidx hr he _ hop ht hx
  ·exact (exec_bad hx).elim
 case h_20 x i hop => exact so_ext hr he _ hop hx
 case h_21 c hop => exact so_call hr he _ hop hx
 case h_22 => exact (exec_bad hx).elim
end
end Go.Abs
/- Calls of the abstract machine: what a callee may touch, and how a call fits into the caller's heap. -/
set_option linter.unusedVariables false
set_option linter.unusedSimpArgs false
namespace Go.Abs
/-- Blocks from this number on are handed from function to function; those below are a function's own. -/
def lim : Nat := 1000000
def outer (h : Heap) : Heap := fun b => if b < lim then ⟨(h b).ver, none⟩ else h b
def mergeH (h h' : Heap) : Heap := fun b => if b < lim then h b else h' b
mutual
def outOnly : AV → Bool
 | .ptr b .. => decide (lim ≤ b)
 | .sl b .. => decide (lim ≤ b)
 | .agg cs => outOnlys cs
 | .fn _ cs => outOnlys cs
 | .tup cs => outOnlys cs
 | _ => true
def outOnlys : List AV → Bool
 | [] => true
 | c :: cs => outOnly c && outOnlys cs
end
theorem outOnlys_mem : ∀ {cs : List AV}, outOnlys cs = true → ∀ c ∈ cs, outOnly c = true
 | [], _, c, hc => by simp at hc
 | d :: cs, h, c, hc => by
  simp only [outOnlys, Bool.and_eq_true] at h
  rcases List.mem_cons.1 hc with rfl | hc
  ·exact h.1
  ·exact outOnlys_mem h.2 c hc
def OutOK (h : Heap) : Prop := ∀ b blk, lim ≤ b → (h b).live = some blk → ∀ x ∈ blk.elems, ∀ c ∈ x, outOnly c = true
/-- A call, by what it does to the blocks that are handed on. -/
def ACall (P : Program) (f : FuncId) (args : List AV) (h : Heap) (Q : AV → Heap → Prop) : Prop :=
 noExt P f = true ∧ ∀ (w : World) (X : Nat → Prop) (ι : Nat → Bd) (vs : Array Value), HRel w X ι (outer h) → OutOK h → vs.size = args.length →
  (∀ (j : Nat) c v, args[j]? = some c → vs[j]? = some v → VR w (Forb X (place (outer h) ι)) (place (outer h) ι) c v) →
  Calls P f vs w fun e w' => ∃ r v h' ι', Q r h' ∧ e = .returned v ∧ HRel w' X ι' (outer h') ∧ OutOK h' ∧ outOnly r = true ∧
   VR w' (Forb X (place (outer h') ι')) (place (outer h') ι') r v ∧ Evo w (place (outer h) ι) w' (place (outer h') ι')
theorem ACall.mono {P : Program} {f : FuncId} {args : List AV} {h : Heap} {Q Q' : AV → Heap → Prop} (hc : ACall P f args h Q) (hq : ∀ r h', Q r h' → Q' r h') : ACall P f args h Q' :=
 ⟨hc.1, fun w X ι vs h1 h0 h2 h3 => (hc.2 w X ι vs h1 h0 h2 h3).mono fun e w' ⟨r, v, h', ι', q, rest⟩ => ⟨r, v, h', ι', hq _ _ q, rest⟩⟩
section
variable {P : Program} {X : Nat → Prop} {ι : Nat → Bd} {h : Heap} {w : World}
/-- What the callee may not touch: what the caller may not, and the caller's own blocks. -/
def mineX (X : Nat → Prop) (h : Heap) (ι : Nat → Bd) (n : Nat) : Prop := X n ∨ ∃ b, b < lim ∧ (h b).live.isSome = true ∧ (ι b).loc = some n
theorem own_outer {n : Nat} : Own (place (outer h) ι) n ↔ ∃ b, lim ≤ b ∧ (h b).live.isSome = true ∧ (ι b).loc = some n := by
 rw [own_iff]
 constructor
 ·rintro ⟨b, hs, hl⟩
  by_cases hb : b < lim
  ·simp [outer, hb] at hs
  ·simp only [outer, hb, if_false] at hs
   exact ⟨b, by omega, hs, hl⟩
 ·rintro ⟨b, hb, hs, hl⟩
  exact ⟨b, by simp [outer, Nat.not_lt.2 hb, hs], hl⟩
theorem forb_outer {n : Nat} : Forb (mineX X h ι) (place (outer h) ι) n ↔ Forb X (place h ι) n := by
 unfold Forb mineX
 rw [own_outer, own_iff]
 constructor
 ·rintro ((h1 | ⟨b, _, h2, h3⟩) | ⟨b, _, h2, h3⟩)
  ·exact .inl h1
  ·exact .inr ⟨b, h2, h3⟩
  ·exact .inr ⟨b, h2, h3⟩
 ·rintro (h1 | ⟨b, h2, h3⟩)
  ·exact .inl (.inl h1)
  ·by_cases hb : b < lim
   ·exact .inl (.inr ⟨b, hb, h2, h3⟩)
   ·exact .inr ⟨b, by omega, h2, h3⟩
theorem gle_outer : ∀ b, place (outer h) ι b = place h ι b ∨ (place h ι b).1 < (place (outer h) ι b).1 ∨ ((place (outer h) ι b).1 = (place h ι b).1 ∧ (place (outer h) ι b).2 = none) := by
 intro b
 by_cases hb : b < lim
 ·exact .inr (.inr ⟨by simp [place, outer, hb], by simp [place, outer, hb]⟩)
 ·exact .inl (by simp [place, outer, hb])
theorem VR.to_outer {x : AV} {v : Value} (hv : VR w (Forb X (place h ι)) (place h ι) x v) : VR w (Forb (mineX X h ι) (place (outer h) ι)) (place (outer h) ι) x v :=
 hv.mono (Nat.le_refl _) (fun n _ hF => ⟨fun hF' => hF (forb_outer.1 hF'), rfl⟩) gle_outer
theorem HRel.to_outer (hr : HRel w X ι h) : HRel w (mineX X h ι) ι (outer h) where
 blks b blk hb := by
  by_cases hlt : b < lim
  ·simp [outer, hlt] at hb
  ·simp only [outer, hlt, if_false] at hb
   obtain ⟨h1, h2, h3⟩ := hr.blks b blk hb
   refine ⟨h1, h2, ?_⟩
   cases hl : (ι b).loc with
   | none => rw [hl] at h3; exact h3
   | some n =>
    rw [hl] at h3
    obtain ⟨cs, t, h4, h5, h6, h7⟩ := h3
    refine ⟨cs, t, h4, h5, h6, fun i x j c hi hj => ?_⟩
    obtain ⟨v, k1, k2, k3⟩ := h7 i x j c hi hj
    exact ⟨v, k1, k2, k3.to_outer⟩
 inj b b' n hb hb' hl hl' := by
  by_cases hlt : b < lim
  ·simp [outer, hlt] at hb
  ·by_cases hlt' : b' < lim
   ·simp [outer, hlt'] at hb'
   ·simp only [outer, hlt, hlt', if_false] at hb hb'
    exact hr.inj b b' n hb hb' hl hl'
 notX n ho hx := by
  obtain ⟨b, hb, hs, hl⟩ := own_outer.1 ho
  rcases hx with hx | ⟨b', hb', hs', hl'⟩
  ·exact hr.notX n (own_iff.2 ⟨b, hs, hl⟩) hx
  ·have := hr.inj b b' n hs hs' hl hl'
   omega
 xlt n hx := by
  rcases hx with hx | ⟨b', hb', hs', hl'⟩
  ·exact hr.xlt n hx
  ·exact hr.lt (own_iff.2 ⟨b', hs', hl'⟩)
theorem VR.switch {F F' : Nat → Prop} {G G' : Pl} (hF : ∀ n, ¬ F n → ¬ F' n) (hG : ∀ b, lim ≤ b → G' b = G b) {x : AV} {v : Value} (hv : VR w F G x v) : outOnly x = true → VR w F' G' x v := by
 induction hv with
 | d x v hd => exact fun _ => .d _ _ (hd.mono (Nat.le_refl _) (fun n _ h => ⟨hF n h, rfl⟩))
 | ptrX b ver i o a hh => intro ho; simp only [outOnly, decide_eq_true_eq] at ho; exact .ptrX _ _ _ _ _ (by rw [hG b ho]; exact hh)
 | ptr b ver i o n k sz hh => intro ho; simp only [outOnly, decide_eq_true_eq] at ho; exact .ptr _ _ _ _ _ _ _ (by rw [hG b ho]; exact hh)
 | dptr cs blk off vs h1 h2 h3 => exact fun _ => .dptr _ _ _ _ (fun h => ⟨hF _ (h1 h).1, (h1 h).2⟩) h2 (fun j d hj => (h3 j d hj).mono (Nat.le_refl _) (fun n _ h => ⟨hF n h, rfl⟩))
 | slX b ver i n cap a m c hh => intro ho; simp only [outOnly, decide_eq_true_eq] at ho; exact .slX _ _ _ _ _ _ _ _ (by rw [hG b ho]; exact hh)
 | slN b ver k sz a hh => intro ho; simp only [outOnly, decide_eq_true_eq] at ho; exact .slN _ _ _ _ _ (by rw [hG b ho]; exact hh)
 | sl b ver i n cap nb k sz a c hh h1 h2 h3 h4 h5 => intro ho; simp only [outOnly, decide_eq_true_eq] at ho; exact .sl _ _ _ _ _ _ _ _ _ _ (by rw [hG b ho]; exact hh) h1 h2 h3 h4 h5
 | empty a => exact fun _ => .empty _
 | agg cs vs hl h1 hr ih => intro ho; simp only [outOnly] at ho; exact .agg _ _ hl h1 (fun j c v hj hv => ih j c v hj hv (outOnlys_mem ho c (List.mem_of_getElem? hj)))
 | fn f caps vs hl hr ih => intro ho; simp only [outOnly] at ho; exact .fn _ _ _ hl (fun j c v hj hv => ih j c v hj hv (outOnlys_mem ho c (List.mem_of_getElem? hj)))
 | tup cs vs hl hr ih => intro ho; simp only [outOnly] at ho; exact .tup _ _ hl (fun j c v hj hv => ih j c v hj hv (outOnlys_mem ho c (List.mem_of_getElem? hj)))
 | undef v => exact fun _ => .undef _
/-- The caller behind the call. -/
theorem call_frame {w' : World} {ι' : Nat → Bd} {h' : Heap} {r : AV} {v : Value} (hr : HRel w X ι h) (hr' : HRel w' (mineX X h ι) ι' (outer h')) (ho : OutOK h') (hro : outOnly r = true)
  (hv : VR w' (Forb (mineX X h ι) (place (outer h') ι')) (place (outer h') ι') r v) (hev : Evo w (place (outer h) ι) w' (place (outer h') ι')) :
  ∃ ι'', HRel w' X ι'' (mergeH h h') ∧ VR w' (Forb X (place (mergeH h h') ι'')) (place (mergeH h h') ι'') r v ∧ Evo w (place h ι) w' (place (mergeH h h') ι'') := by
 let ι'' : Nat → Bd := fun b => if b < lim then ι b else ι' b
 have pl1 : ∀ b, b < lim → place (mergeH h h') ι'' b = place h ι b := fun b hb => by simp [place, mergeH, ι'', hb]
 have pl2 : ∀ b, lim ≤ b → place (mergeH h h') ι'' b = place (outer h') ι' b := fun b hb => by simp [place, mergeH, outer, ι'', Nat.not_lt.2 hb]
 have own2 : ∀ n, Own (place (mergeH h h') ι'') n ↔ (∃ b, b < lim ∧ (h b).live.isSome = true ∧ (ι b).loc = some n) ∨ Own (place (outer h') ι') n := by
  intro n
  rw [own_iff, own_outer]
  constructor
  ·rintro ⟨b, hs, hl⟩
   by_cases hb : b < lim
   ·simp only [mergeH, ι'', hb, if_true] at hs hl; exact .inl ⟨b, hb, hs, hl⟩
   ·simp only [mergeH, ι'', hb, if_false] at hs hl; exact .inr ⟨b, by omega, hs, hl⟩
  ·rintro (⟨b, hb, hs, hl⟩ | ⟨b, hb, hs, hl⟩)
   ·exact ⟨b, by simp [mergeH, hb, hs], by simp [ι'', hb, hl]⟩
   ·exact ⟨b, by simp [mergeH, Nat.not_lt.2 hb, hs], by simp [ι'', Nat.not_lt.2 hb, hl]⟩
 have forb2 : ∀ n, Forb X (place (mergeH h h') ι'') n ↔ Forb (mineX X h ι) (place (outer h') ι') n := by
  intro n
  simp only [Forb, mineX, own2]
  constructor
  ·rintro (h1 | h1 | h1)
   ·exact .inl (.inl h1)
   ·exact .inl (.inr h1)
   ·exact .inr h1
  ·rintro ((h1 | h1) | h1)
   ·exact .inl h1
   ·exact .inr (.inl h1)
   ·exact .inr (.inr h1)
 have hevo : Evo w (place h ι) w' (place (mergeH h h') ι'') := {
  size := hev.size
  keep := fun n hn hno => hev.keep n hn (fun ho => hno (by obtain ⟨b, _, hs, hl⟩ := own_outer.1 ho; exact own_iff.2 ⟨b, hs, hl⟩))
  own := fun n hn ho => by
   rcases (own2 n).1 ho with ⟨b, _, hs, hl⟩ | ho
   ·exact own_iff.2 ⟨b, hs, hl⟩
   ·obtain ⟨b, _, hs, hl⟩ := own_outer.1 (hev.own n hn ho)
    exact own_iff.2 ⟨b, hs, hl⟩
  gle := fun b => by
   by_cases hb : b < lim
   ·exact .inl (pl1 b hb)
   ·rw [pl2 b (by omega)]
    have := hev.gle b
    rwa [show place (outer h) ι b = place h ι b by simp [place, outer, hb]] at this
  os := hev.os
  tape := hev.tape
  output := hev.output }
 have sw : ∀ {x : AV} {v : Value}, outOnly x = true → VR w' (Forb (mineX X h ι) (place (outer h') ι')) (place (outer h') ι') x v → VR w' (Forb X (place (mergeH h h') ι'')) (place (mergeH h h') ι'') x v := by
  intro x v hx hvx
  exact hvx.switch (fun n hF hF' => hF ((forb2 n).1 hF')) (fun b hb => pl2 b hb) hx
 refine ⟨ι'', ⟨fun b blk hb => ?_, fun b b' n hb hb' hl hl' => ?_, fun n hn hx => ?_, fun n hx => Nat.lt_of_lt_of_le (hr.xlt n hx) hev.size⟩, sw hro hv, hevo⟩
 ·by_cases hlt : b < lim
  ·simp only [mergeH, hlt, if_true] at hb
   simp only [ι'', hlt, if_true]
   obtain ⟨h1, h2, h3⟩ := hr.blks b blk hb
   refine ⟨h1, h2, ?_⟩
   cases hl : (ι b).loc with
   | none => rw [hl] at h3; exact h3
   | some n =>
    rw [hl] at h3
    obtain ⟨cs, t, h4, h5, h6, h7⟩ := h3
    have hn : n < w.heap.size := (Array.getElem?_eq_some_iff.1 h4).1
    have hsame : w'.heap[n]? = w.heap[n]? := hev.keep n hn (fun ho => by
     obtain ⟨b', hb', hs', hl'⟩ := own_outer.1 ho
     have := hr.inj b b' n (by simp [hb]) hs' hl hl'
     omega)
    refine ⟨cs, t, by rw [hsame]; exact h4, h5, h6, fun i x j c hi hj => ?_⟩
    obtain ⟨v, k1, k2, k3⟩ := h7 i x j c hi hj
    exact ⟨v, k1, k2, k3.evo hevo⟩
  ·simp only [mergeH, hlt, if_false] at hb
   simp only [ι'', hlt, if_false]
   obtain ⟨h1, h2, h3⟩ := hr'.blks b blk (by simp only [outer, hlt, if_false]; exact hb)
   refine ⟨h1, h2, ?_⟩
   cases hl : (ι' b).loc with
   | none => rw [hl] at h3; exact h3
   | some n =>
    rw [hl] at h3
    obtain ⟨cs, t, h4, h5, h6, h7⟩ := h3
    refine ⟨cs, t, h4, h5, h6, fun i x j c hi hj => ?_⟩
    obtain ⟨v, k1, k2, k3⟩ := h7 i x j c hi hj
    exact ⟨v, k1, k2, sw (ho b blk (by omega) hb x (List.mem_of_getElem? hi) c (List.mem_of_getElem? hj)) k3⟩
 ·by_cases hlt : b < lim <;> by_cases hlt' : b' < lim
  ·simp only [mergeH, ι'', hlt, hlt', if_true] at hb hb' hl hl'
   exact hr.inj b b' n hb hb' hl hl'
  ·simp only [mergeH, ι'', hlt, hlt', if_true, if_false] at hb hb' hl hl'
   exact absurd (show mineX X h ι n from .inr ⟨b, hlt, hb, hl⟩) (hr'.notX n (own_outer.2 ⟨b', by omega, hb', hl'⟩))
  ·simp only [mergeH, ι'', hlt, hlt', if_true, if_false] at hb hb' hl hl'
   exact absurd (show mineX X h ι n from .inr ⟨b', hlt', hb', hl'⟩) (hr'.notX n (own_outer.2 ⟨b, by omega, hb, hl⟩))
  ·simp only [mergeH, ι'', hlt, hlt', if_false] at hb hb' hl hl'
   exact hr'.inj b b' n (by simp only [outer, hlt, if_false]; exact hb) (by simp only [outer, hlt', if_false]; exact hb') hl hl'
 ·rcases (own2 n).1 hn with ⟨b, hb, hs, hl⟩ | hn
  ·exact hr.notX n (own_iff.2 ⟨b, hs, hl⟩) hx
  ·exact hr'.notX n hn (.inl hx)
end
end Go.Abs
/- Regions of the abstract machine: on what an operation leans; two operations that do not meet may change places. -/
set_option linter.unusedVariables false
set_option linter.unusedSimpArgs false
namespace Go.Abs
def AArg.tmps : AArg → List Nat
 | .t n => [n]
 | .c _ => []
def tmpsL (l : List AArg) : List Nat := l.flatMap AArg.tmps
def tmpsO : Option AArg → List Nat
 | some x => x.tmps
 | none => []
def aTmps : AOp → List Nat
 | .mov x | .box _ x | .load _ x | .chk x | .not x | .conv _ x | .addr _ x | .ext x _ | .len _ x | .clear _ _ x | .capn x => x.tmps
 | .pick c a b => c.tmps ++ a.tmps ++ b.tmps
 | .alloc _ | .bad => []
 | .build _ ps => tmpsL (ps.map (·.2.2))
 | .lit _ _ _ ps => tmpsL (ps.map (·.2))
 | .store _ a x | .bin _ a x | .eqb _ a x | .eqn _ a x | .eqs _ _ a x | .make _ _ _ a x | .idx _ a x | .sidx a x | .app _ _ a x | .copy _ a x | .appz _ _ _ a x => a.tmps ++ x.tmps
 | .func _ cs => tmpsL cs
 | .slice _ x lo hi mx => x.tmps ++ tmpsO lo ++ tmpsO hi ++ tmpsO mx
 | .mm _ xs => tmpsL xs
 | .call _ xs => tmpsL xs
 | .callv f xs => f.tmps ++ tmpsL xs
theorem ev_congr {env env' : Env} {x : AArg} (h : ∀ t ∈ x.tmps, env' t = env t) : x.ev env' = x.ev env := by
 cases x with
 | t n => exact h n (by simp [AArg.tmps])
 | c v => rfl
theorem evs_congr {env env' : Env} {xs : List AArg} (h : ∀ t ∈ tmpsL xs, env' t = env t) : xs.map (·.ev env') = xs.map (·.ev env) :=
 List.map_congr_left fun x hx => ev_congr fun t ht => h t (List.mem_flatMap.2 ⟨x, hx, ht⟩)
theorem bound_congr {env env' : Env} {d m : Nat} {x : Option AArg} (h : ∀ t ∈ tmpsO x, env' t = env t) : boundOf env' d m x = boundOf env d m x := by
 cases x with
 | none => rfl
 | some x => simp only [boundOf, ev_congr (x := x) h]
theorem exec_env {op : AOp} {dst : Nat} {env env' : Env} {h : Heap} (he : ∀ t ∈ aTmps op, env' t = env t) : exec op dst env' h = exec op dst env h := by
 cases op with
 | mov x => simp only [exec, ev_congr (x := x) he]
 | pick c a b =>
  simp only [aTmps, List.mem_append] at he
  simp only [exec, ev_congr (x := c) fun t ht => he t (.inl (.inl ht)), ev_congr (x := a) fun t ht => he t (.inl (.inr ht)), ev_congr (x := b) fun t ht => he t (.inr ht)]
 | alloc zs => rfl
 | box k x => simp only [exec, ev_congr (x := x) he]
 | build zs ps =>
  have : (ps.map fun p => (p.1, p.2.1, p.2.2.ev env')) = (ps.map fun p => (p.1, p.2.1, p.2.2.ev env)) := List.map_congr_left fun p hp => by
   rw [ev_congr (x := p.2.2) fun t ht => he t (List.mem_flatMap.2 ⟨p.2.2, List.mem_map.2 ⟨p, hp, rfl⟩, ht⟩)]
  simp only [exec, this]
 | lit k len zs ps =>
  have h1 : ∀ p ∈ ps, p.2.ev env' = p.2.ev env := fun p hp => ev_congr (x := p.2) fun t ht => he t (List.mem_flatMap.2 ⟨p.2, List.mem_map.2 ⟨p, hp, rfl⟩, ht⟩)
  have h2 : (ps.map fun p => cellsOf (p.2.ev env')) = (ps.map fun p => cellsOf (p.2.ev env)) := List.map_congr_left fun p hp => by rw [h1 p hp]
  have h3 : (ps.all fun p => (cellsOf (p.2.ev env')).length = k ∧ (cellsOf (p.2.ev env')).all isCell) = (ps.all fun p => (cellsOf (p.2.ev env)).length = k ∧ (cellsOf (p.2.ev env)).all isCell) := by
   rw [Bool.eq_iff_iff, List.all_eq_true, List.all_eq_true]
   exact ⟨fun q p hp => by rw [← h1 p hp]; exact q p hp, fun q p hp => by rw [h1 p hp]; exact q p hp⟩
  simp only [exec, h2, h3]
 | load ag x => simp only [exec, ev_congr (x := x) he]
 | store k a x =>
  simp only [aTmps, List.mem_append] at he
  simp only [exec, ev_congr (x := a) fun t ht => he t (.inl ht), ev_congr (x := x) fun t ht => he t (.inr ht)]
 | chk x => simp only [exec, ev_congr (x := x) he]
 | capn x => simp only [exec, ev_congr (x := x) he]
 | appz k b zs a x =>
  simp only [aTmps, List.mem_append] at he
  simp only [exec, ev_congr (x := a) fun t ht => he t (.inl ht), ev_congr (x := x) fun t ht => he t (.inr ht)]
 | bin op a x =>
  simp only [aTmps, List.mem_append] at he
  simp only [exec, ev_congr (x := a) fun t ht => he t (.inl ht), ev_congr (x := x) fun t ht => he t (.inr ht)]
 | eqb n a x =>
  simp only [aTmps, List.mem_append] at he
  simp only [exec, ev_congr (x := a) fun t ht => he t (.inl ht), ev_congr (x := x) fun t ht => he t (.inr ht)]
 | eqn n a x =>
  simp only [aTmps, List.mem_append] at he
  simp only [exec, ev_congr (x := a) fun t ht => he t (.inl ht), ev_congr (x := x) fun t ht => he t (.inr ht)]
 | eqs n ks a x =>
  simp only [aTmps, List.mem_append] at he
  simp only [exec, ev_congr (x := a) fun t ht => he t (.inl ht), ev_congr (x := x) fun t ht => he t (.inr ht)]
 | not x => simp only [exec, ev_congr (x := x) he]
 | conv k x => simp only [exec, ev_congr (x := x) he]
 | func f cs => simp only [exec, evs_congr (xs := cs) he]
 | make k b zs a x =>
  simp only [aTmps, List.mem_append] at he
  simp only [exec, ev_congr (x := a) fun t ht => he t (.inl ht), ev_congr (x := x) fun t ht => he t (.inr ht)]
 | slice k x lo hi mx =>
  simp only [aTmps, List.mem_append] at he
  have e1 := ev_congr (x := x) fun t ht => he t (.inl (.inl (.inl ht)))
  have e2 := fun d m => bound_congr (d := d) (m := m) (x := lo) fun t ht => he t (.inl (.inl (.inr ht)))
  have e3 := fun d m => bound_congr (d := d) (m := m) (x := hi) fun t ht => he t (.inl (.inr ht))
  have e4 := fun d m => bound_congr (d := d) (m := m) (x := mx) fun t ht => he t (.inr ht)
  cases k with
  | zero => simp only [exec, e1, e2, e3]
  | succ k => cases mx <;> simp only [exec, e1] <;> cases x.ev env <;> (try (rename_i d; cases d)) <;> simp only [e2, e3, e4]
 | addr o x => simp only [exec, ev_congr (x := x) he]
 | idx k a x =>
  simp only [aTmps, List.mem_append] at he
  simp only [exec, ev_congr (x := a) fun t ht => he t (.inl ht), ev_congr (x := x) fun t ht => he t (.inr ht)]
 | sidx a x =>
  simp only [aTmps, List.mem_append] at he
  simp only [exec, ev_congr (x := a) fun t ht => he t (.inl ht), ev_congr (x := x) fun t ht => he t (.inr ht)]
 | ext x i => simp only [exec, ev_congr (x := x) he]
 | len s x => simp only [exec, ev_congr (x := x) he]
 | mm mx xs => simp only [exec, evs_congr (xs := xs) he]
 | app k b a x =>
  simp only [aTmps, List.mem_append] at he
  simp only [exec, ev_congr (x := a) fun t ht => he t (.inl ht), ev_congr (x := x) fun t ht => he t (.inr ht)]
 | copy k a x =>
  simp only [aTmps, List.mem_append] at he
  simp only [exec, ev_congr (x := a) fun t ht => he t (.inl ht), ev_congr (x := x) fun t ht => he t (.inr ht)]
 | clear k zs x => simp only [exec, ev_congr (x := x) he]
 | call f xs => rfl
 | callv f xs => rfl
 | bad => rfl
theorem getBlk_congr {h h' : Heap} {b ver : Nat} (hb : h' b = h b) : getBlk h' b ver = getBlk h b ver := by simp only [getBlk, hb]
theorem elemsOf_congr {h h' : Heap} {x : AV} (hh : ∀ b ∈ srcOf x, h' b = h b) : elemsOf h' x = elemsOf h x := by
 cases x with
 | sl b ver i n cap => simp only [elemsOf, getBlk_congr (hh b (by simp [srcOf]))]
 | d x => cases x <;> rfl
 | _ => rfl
theorem exec_heap {op : AOp} {dst : Nat} {env : Env} {h h' : Heap} {e : Eff} (hx : exec op dst env h = some e) (hh : ∀ b ∈ e.rd, h' b = h b) : exec op dst env h' = some e := by
 have new : ∀ {blk : Blk} {v : Nat → AV}, (some ⟨v ((h dst).ver + 1), some (dst, ⟨(h dst).ver + 1, some blk⟩), [dst]⟩ : Option Eff) = some e →
   (some ⟨v ((h' dst).ver + 1), some (dst, ⟨(h' dst).ver + 1, some blk⟩), [dst]⟩ : Option Eff) = some e := by
  intro blk v hx
  have h0 : h' dst = h dst := by
   simp only [Option.some.injEq] at hx
   subst hx
   exact hh dst (by simp)
  rw [h0]; exact hx
 cases op with
 | alloc zs => simp only [exec] at hx ⊢; exact new (v := fun v => .ptr dst v 0 0) hx
 | box k x =>
  simp only [exec] at hx ⊢
  split at hx
  ·rename_i hc; rw [if_pos hc]; exact new (v := fun v => .ptr dst v 0 0) hx
  ·cases hx
 | lit k len zs ps =>
  simp only [exec] at hx ⊢
  split at hx
  ·rename_i hc; rw [if_pos hc]; exact new (v := fun v => .sl dst v 0 len len) hx
  ·cases hx
 | make k b zs l c =>
  simp only [exec] at hx ⊢
  split at hx
  ·rename_i l' c' hl hc
   split at hx
   ·rename_i hcond; rw [if_pos hcond]; exact new (v := fun v => .sl dst v 0 l'.toNat c'.toNat) hx
   ·cases hx
  ·cases hx
 | appz k b zs s n =>
  simp only [exec] at hx ⊢
  split at hx
  ·rename_i m hs hm
   split at hx
   ·rename_i hcond; rw [if_pos hcond]; exact new (v := fun v => .sl dst v 0 m.toNat m.toNat) hx
   ·cases hx
  ·cases hx
 | load ag a =>
  simp only [exec] at hx ⊢
  split at hx
  ·rename_i b ver i o hv
   have hb : h' b = h b := by
    simp only [Option.bind_eq_some_iff] at hx
    obtain ⟨blk, _, y, _, hx⟩ := hx
    cases ag with
    | none => simp only [Option.bind_eq_some_iff] at hx; obtain ⟨v, _, hx⟩ := hx; simp at hx; subst hx; exact hh b (by simp)
    | some n =>
     simp only at hx
     split at hx
     ·simp at hx; subst hx; exact hh b (by simp)
     ·cases hx
   simp only [getBlk_congr hb]; exact hx
  ·rename_i cs hv; exact hx
  ·cases hx
 | store k a x =>
  simp only [exec] at hx ⊢
  split at hx
  ·rename_i b ver i o hv
   have hb : h' b = h b := by
    simp only [Option.bind_eq_some_iff] at hx
    obtain ⟨blk, _, y, _, hx⟩ := hx
    split at hx
    ·simp at hx; subst hx; exact hh b (by simp)
    ·cases hx
   simp only [getBlk_congr hb]; exact hx
  ·cases hx
 | eqn neg x y =>
  simp only [exec] at hx ⊢
  split at hx
  ·split at hx
   ·rename_i b ver i n cap hv
    have hb : h' b = h b := by
     simp only [Option.bind_eq_some_iff] at hx
     obtain ⟨blk, _, hx⟩ := hx
     split at hx
     ·simp at hx; subst hx; exact hh b (by simp)
     ·cases hx
    simp only [getBlk_congr hb]; exact hx
   ·exact hx
  ·cases hx
 | chk x =>
  simp only [exec] at hx ⊢
  split at hx
  ·rename_i b ver i o hv
   have hb : h' b = h b := by
    split at hx
    ·simp at hx; subst hx; exact hh b (by simp)
    ·cases hx
   simp only [getBlk_congr hb]; exact hx
  ·rename_i hv; exact hx
  ·rename_i hv; exact hx
  ·cases hx
 | addr o x =>
  simp only [exec] at hx ⊢
  split at hx
  ·rename_i b ver i o hv
   have hb : h' b = h b := by
    split at hx
    ·simp at hx; subst hx; exact hh b (by simp)
    ·cases hx
   simp only [getBlk_congr hb]; exact hx
  ·rename_i hv; exact hx
  ·cases hx
 | idx k x i =>
  simp only [exec] at hx ⊢
  split at hx
  ·rename_i hv hi; exact hx
  ·rename_i b ver j n cap m hv hi
   have hb : h' b = h b := by
    simp only [Option.bind_eq_some_iff] at hx
    obtain ⟨blk, _, hx⟩ := hx
    split at hx
    ·simp at hx; subst hx; exact hh b (by simp)
    ·cases hx
   simp only [getBlk_congr hb]; exact hx
  ·cases hx
 | len s x =>
  simp only [exec] at hx ⊢
  split at hx
  ·rename_i hv; exact hx
  ·rename_i hns
   split at hx
   ·cases hx
   ·rename_i hs
    (try simp only [hs])
    split at hx
    ·rename_i hv; exact hx
    ·rename_i hv; exact hx
    ·rename_i hv; exact hx
    ·rename_i b ver i n cap hv
     have hb : h' b = h b := by
      split at hx
      ·simp at hx; subst hx; exact hh b (by simp)
      ·cases hx
     simp only [getBlk_congr hb]; exact hx
    ·cases hx
 | slice k x lo hi mx =>
  cases k with
  | zero => simp only [exec] at hx ⊢; exact hx
  | succ k =>
   simp only [exec] at hx ⊢
   split at hx
   ·rename_i hv; exact hx
   ·rename_i hv; exact hx
   ·rename_i hv; exact hx
   ·rename_i hv; exact hx
   ·rename_i b ver i n cap hv
    have hb : h' b = h b := by
     simp only [Option.bind_eq_some_iff] at hx
     obtain ⟨blk, _, hx⟩ := hx
     split at hx
     ·simp only [Option.bind_eq_some_iff] at hx
      obtain ⟨_, _, _, _, hx⟩ := hx
      simp at hx; subst hx; exact hh b (by simp)
     ·cases hx
    simp only [getBlk_congr hb]; exact hx
   ·rename_i b ver i n cap m hv
    have hb : h' b = h b := by
     simp only [Option.bind_eq_some_iff] at hx
     obtain ⟨blk, _, hx⟩ := hx
     split at hx
     ·simp only [Option.bind_eq_some_iff] at hx
      obtain ⟨_, _, _, _, _, _, hx⟩ := hx
      simp at hx; subst hx; exact hh b (by simp)
     ·cases hx
    simp only [getBlk_congr hb]; exact hx
   ·cases hx
 | app k bytes s x =>
  simp only [exec, Option.bind_eq_some_iff] at hx
  obtain ⟨src, hsrc, hx⟩ := hx
  split at hx
  ·cases hx
  ·rename_i hall
   have key : (∀ b ∈ srcOf (x.ev env), h' b = h b) ∧ (match s.ev env with | .sl b .. => h' b = h b | _ => h' dst = h dst) := by
    split at hx
    ·rename_i hv
     split at hx
     ·simp at hx; subst hx; exact ⟨fun b hb => hh b (by simp [hb]), by rw [hv]; exact hh dst (by simp)⟩
     ·cases hx
    ·rename_i hv
     split at hx
     ·simp at hx; subst hx; exact ⟨fun b hb => hh b (by simp [hb]), by rw [hv]; exact hh dst (by simp)⟩
     ·cases hx
    ·rename_i b ver n cap hv
     simp only [Option.bind_eq_some_iff] at hx
     obtain ⟨blk, _, hx⟩ := hx
     split at hx
     ·split at hx
      ·simp at hx; subst hx; exact ⟨fun b hb => hh b (by simp [hb]), by rw [hv]; exact hh b (by simp)⟩
      ·simp at hx; subst hx; exact ⟨fun b hb => hh b (by simp [hb]), by rw [hv]; exact hh b (by simp)⟩
     ·cases hx
    ·cases hx
   obtain ⟨k1, k2⟩ := key
   simp only [exec, elemsOf_congr k1, hsrc, Option.bind_some]
   rw [if_neg hall]
   split at hx
   ·rename_i hv; rw [hv] at k2; simp only at k2; simp only [k2]; exact hx
   ·rename_i hv; rw [hv] at k2; simp only at k2; simp only [k2]; exact hx
   ·rename_i hv; rw [hv] at k2; simp only at k2; simp only [getBlk_congr k2]; exact hx
   ·cases hx
 | copy k d s =>
  simp only [exec, Option.bind_eq_some_iff] at hx
  obtain ⟨src, hsrc, hx⟩ := hx
  split at hx
  ·rename_i b ver i n cap hv
   have key : (∀ b ∈ srcOf (s.ev env), h' b = h b) ∧ h' b = h b := by
    simp only [Option.bind_eq_some_iff] at hx
    obtain ⟨blk, _, hx⟩ := hx
    split at hx
    ·simp at hx; subst hx; exact ⟨fun b hb => hh b (by simp [hb]), hh b (by simp)⟩
    ·cases hx
   simp only [exec, elemsOf_congr key.1, hsrc, Option.bind_some, hv, getBlk_congr key.2]
   exact hx
  ·cases hx
 | clear k zs s =>
  simp only [exec] at hx ⊢
  split at hx
  ·rename_i b ver i n cap hv
   have hb : h' b = h b := by
    simp only [Option.bind_eq_some_iff] at hx
    obtain ⟨blk, _, hx⟩ := hx
    split at hx
    ·simp at hx; subst hx; exact hh b (by simp)
    ·cases hx
   simp only [getBlk_congr hb]; exact hx
  ·cases hx
 | _ => simp only [exec] at hx ⊢; exact hx
end Go.Abs
/- The same world, seen otherwise: rows that are frozen to data, blocks with other names, values that are forgotten. -/
set_option linter.unusedVariables false
set_option linter.unusedSimpArgs false
namespace Go.Abs
def DLe (x y : D) : Prop := ∀ (w : World) (F : Nat → Prop) v, DR w F x v → DR w F y v
theorem DLe.refl (x : D) : DLe x x := fun _ _ _ h => h
theorem DLe.nil : DLe .nil (.slice []) := fun w F v h => by cases h; exact .none _ _
theorem DLe.slice {xs ys : List (List D)} (hl : ys.length = xs.length)
  (h : ∀ (i : Nat) y, ys[i]? = some y → ∃ x, xs[i]? = some x ∧ y.length = x.length ∧ ∀ (j : Nat) e, y[j]? = some e → ∃ d, x[j]? = some d ∧ DLe d e) : DLe (.slice xs) (.slice ys) := by
 intro w F v hv
 cases hv with
 | none a c => cases ys with
  | nil => exact .none _ _
  | cons y ys => simp at hl
 | slice _ k blk off c vs hc hm hk hF hlt hxl hcell hr =>
  rw [← hl]
  refine .slice ys k blk off c vs (by omega) (by omega) hk hF hlt (fun y hy => ?_) (fun i j hi hj => hcell i j (by omega) hj) (fun i j y e hy he => ?_)
  ·obtain ⟨i, hi⟩ := List.getElem?_of_mem hy
   obtain ⟨x, hx, he, _⟩ := h i y hi
   rw [he]
   exact hxl x (List.mem_of_getElem? hx)
  ·obtain ⟨x, hx, _, h2⟩ := h i y hy
   obtain ⟨d, hd, h3⟩ := h2 j e he
   exact h3 w F _ (hr i j x d hx hd)
/-- Cells that are data. -/
def FrzC (als : List AV) (ds : List D) : Prop := ds.length = als.length ∧ ∀ (j : Nat) d, ds[j]? = some d → ∃ x, als[j]? = some (.d x) ∧ DLe x d
def FrzR (rs : List (List AV)) (xs : List (List D)) : Prop := xs.length = rs.length ∧ ∀ (i : Nat) x, xs[i]? = some x → ∃ r, rs[i]? = some r ∧ FrzC r x
theorem FrzC.refl (ds : List D) : FrzC (ds.map .d) ds := ⟨by simp, fun j d h => ⟨d, by simp [h], .refl d⟩⟩
theorem FrzR.refl (xs : List (List D)) : FrzR (dl xs) xs := ⟨by simp [dl], fun i x h => ⟨x.map .d, by simp [dl, h], .refl x⟩⟩
/-- A value of one heap, seen in another. -/
inductive T (h h' : Heap) (src : Nat → Option Nat) : AV → AV → Prop
 | refl (x) : T h h' src x x
 | undef (x) : T h h' src x .undef
 | d (x y) (hd : DLe x y) : T h h' src (.d x) (.d y)
 | nilE : T h h' src (.d .nil) .empty
 | nilS (b') (hl : (h' b').live.isSome = true) (hs : src b' = none) : T h h' src (.d .nil) (.sl b' (h' b').ver 0 0 0)
 | emptyS : T h h' src .empty (.d (.slice []))
 | renp (b b' i o) (hl : (h b).live.isSome = true) (hl' : (h' b').live.isSome = true) (hs : src b' = some b) : T h h' src (.ptr b (h b).ver i o) (.ptr b' (h' b').ver i o)
 | rens (b b' i n cap) (hl : (h b).live.isSome = true) (hl' : (h' b').live.isSome = true) (hs : src b' = some b) : T h h' src (.sl b (h b).ver i n cap) (.sl b' (h' b').ver i n cap)
 | frzs (b ver i n cap blk xs) (hl : getBlk h b ver = some blk) (hg : ∀ b', (h' b').live.isSome = true → src b' ≠ some b) (hi : i + n ≤ blk.elems.length)
   (hr : FrzR ((blk.elems.drop i).take n) xs) : T h h' src (.sl b ver i n cap) (.d (.slice xs))
 | frzp (b ver i o blk y cs) (hl : getBlk h b ver = some blk) (hg : ∀ b', (h' b').live.isSome = true → src b' ≠ some b) (hy : blk.elems[i]? = some y) (hr : FrzC (y.drop o) cs) :
   T h h' src (.ptr b ver i o) (.dptr cs)
 | agg (cs ds : List AV) (hl : ds.length = cs.length) (hr : ∀ (j : Nat) c d, cs[j]? = some c → ds[j]? = some d → T h h' src c d) : T h h' src (.agg cs) (.agg ds)
 | fn (f) (cs ds : List AV) (hl : ds.length = cs.length) (hr : ∀ (j : Nat) c d, cs[j]? = some c → ds[j]? = some d → T h h' src c d) : T h h' src (.fn f cs) (.fn f ds)
 | tup (cs ds : List AV) (hl : ds.length = cs.length) (hr : ∀ (j : Nat) c d, cs[j]? = some c → ds[j]? = some d → T h h' src c d) : T h h' src (.tup cs) (.tup ds)
/-- A heap, seen as another. -/
structure HT (h h' : Heap) (src : Nat → Option Nat) : Prop where
 dead : ∀ b, (h' b).live = none → (h b).ver ≤ (h' b).ver
 fresh : ∀ b, (h' b).live.isSome = true → src b = some b ∧ (h' b).ver = (h b).ver ∨ (h b).ver < (h' b).ver
 inj : ∀ b b' c, (h' b).live.isSome = true → (h' b').live.isSome = true → src b = some c → src b' = some c → b = b'
 new : ∀ b blk, (h' b).live = some blk → src b = none → blk.elems = [] ∧ 0 < blk.k
 old : ∀ b blk c, (h' b).live = some blk → src b = some c → ∃ blk0, (h c).live = some blk0 ∧ blk.k = blk0.k ∧
  ∀ (i : Nat) x, blk.elems[i]? = some x → ∃ x0, blk0.elems[i]? = some x0 ∧ x.length = x0.length ∧ ∀ (j : Nat) a, x[j]? = some a → ∃ a0, x0[j]? = some a0 ∧ T h h' src a0 a
section
variable {w : World} {X : Nat → Prop} {ι : Nat → Bd} {h h' : Heap} {src : Nat → Option Nat}
def newι (ι : Nat → Bd) (h' : Heap) (src : Nat → Option Nat) : Nat → Bd := fun b => match src b with
 | some c => ι c
 | none => ⟨none, match (h' b).live with | some blk => blk.k | none => 0, 0⟩
theorem HT.own (ht : HT h h' src) {n : Nat} (ho : Own (place h' (newι ι h' src)) n) : ∃ b c, (h' b).live.isSome = true ∧ src b = some c ∧ (h c).live.isSome = true ∧ (ι c).loc = some n := by
 obtain ⟨b, hs, hl⟩ := own_iff.1 ho
 unfold newι at hl
 cases hsb : src b with
 | none => simp [hsb] at hl
 | some c =>
  simp only [hsb] at hl
  obtain ⟨blk, hb⟩ := Option.isSome_iff_exists.1 hs
  obtain ⟨blk0, h0, _⟩ := ht.old b blk c hb hsb
  exact ⟨b, c, hs, hsb, by simp [h0], hl⟩
theorem HT.forb (ht : HT h h' src) {n : Nat} (hF : Forb X (place h' (newι ι h' src)) n) : Forb X (place h ι) n := by
 rcases hF with hx | ho
 ·exact .inl hx
 ·obtain ⟨b, c, _, _, h1, h2⟩ := ht.own ho
  exact .inr (own_iff.2 ⟨c, h1, h2⟩)
theorem HT.gle (ht : HT h h' src) : ∀ b, place h' (newι ι h' src) b = place h ι b ∨ (place h ι b).1 < (place h' (newι ι h' src) b).1 ∨ ((place h' (newι ι h' src) b).1 = (place h ι b).1 ∧ (place h' (newι ι h' src) b).2 = none) := by
 intro b
 cases hl : (h' b).live with
 | none =>
  have := ht.dead b hl
  rcases Nat.lt_or_eq_of_le this with h1 | h1
  ·exact .inr (.inl (by simp [place, h1]))
  ·exact .inr (.inr ⟨by simp [place, h1], by simp [place, hl]⟩)
 | some blk =>
  rcases ht.fresh b (by simp [hl]) with ⟨h1, h2⟩ | h1
  ·left
   obtain ⟨blk0, h0, _⟩ := ht.old b blk b hl h1
   simp [place, h2, hl, h0, newι, h1]
  ·exact .inr (.inl (by simp [place, h1]))
theorem HT.evo (ht : HT h h' src) : Evo w (place h ι) w (place h' (newι ι h' src)) where
 size := Nat.le_refl _
 keep _ _ _ := rfl
 own n _ ho := by
  obtain ⟨b, c, _, _, h1, h2⟩ := ht.own ho
  exact own_iff.2 ⟨c, h1, h2⟩
 gle := ht.gle
 os := rfl
 tape := rfl
 output := rfl
theorem frzC_DR {F F' : Nat → Prop} {G : Pl} {als : List AV} {ds : List D} {vs : Nat → Value} (hf : FrzC als ds) (hFF : ∀ n, ¬ F n → ¬ F' n) (hv : ∀ (j : Nat) a, als[j]? = some a → VR w F G a (vs j)) :
  ∀ (j : Nat) d, ds[j]? = some d → DR w F' d (vs j) := by
 intro j d hj
 obtain ⟨x, hx, hd⟩ := hf.2 j d hj
 have := hv j _ hx
 cases this with
 | d _ _ hdr => exact hd w F' _ (hdr.mono (Nat.le_refl _) (fun n _ hF => ⟨hFF n hF, rfl⟩))
theorem HT.vr (hr : HRel w X ι h) (ht : HT h h' src) {x y : AV} (hT : T h h' src x y) : ∀ {v : Value}, VR w (Forb X (place h ι)) (place h ι) x v →
  VR w (Forb X (place h' (newι ι h' src))) (place h' (newι ι h' src)) y v := by
 have hFF : ∀ n, ¬ Forb X (place h ι) n → ¬ Forb X (place h' (newι ι h' src)) n := fun n hF hF' => hF (ht.forb hF')
 have gone : ∀ b n, (h b).live.isSome = true → (ι b).loc = some n → (∀ b', (h' b').live.isSome = true → src b' ≠ some b) → ¬ Forb X (place h' (newι ι h' src)) n := by
  intro b n hb hl hg hF
  rcases hF with hx | ho
  ·exact hr.notX n (own_iff.2 ⟨b, hb, hl⟩) hx
  ·obtain ⟨b', c, h1, h2, h3, h4⟩ := ht.own ho
   have := hr.inj c b n h3 hb h4 hl
   subst this
   exact hg b' h1 h2
 induction hT with
 | refl x => exact fun hv => hv.mono (Nat.le_refl _) (fun n _ hF => ⟨hFF n hF, rfl⟩) ht.gle
 | undef x => exact fun _ => .undef _
 | d x y hd =>
  intro v hv
  cases hv with
  | d _ _ hdr => exact .d _ _ (hd _ _ _ (hdr.mono (Nat.le_refl _) (fun n _ hF => ⟨hFF n hF, rfl⟩)))
 | nilE => intro v hv; rw [hv.nil_inv]; exact .empty _
 | nilS b' hl hs =>
  intro v hv
  rw [hv.nil_inv]
  obtain ⟨blk, hb⟩ := Option.isSome_iff_exists.1 hl
  exact .slN b' _ blk.k 0 _ (by simp [place, hb, newι, hs])
 | emptyS => intro v hv; cases hv with | empty a => exact .d _ _ (.none _ _)
 | renp b b' i o hl hl' hs =>
  intro v hv
  obtain ⟨blk, hb⟩ := Option.isSome_iff_exists.1 hl
  have hbd := hr.blks b blk hb
  cases hv with
  | ptrX _ _ _ _ a hd => simp [place, hl] at hd
  | ptr _ _ _ _ n k sz hg =>
   refine .ptr b' _ i o n k sz ?_
   simp [place, hb] at hg
   simp [place, hl', newι, hs, hg]
 | rens b b' i n cap hl hl' hs =>
  intro v hv
  obtain ⟨blk, hb⟩ := Option.isSome_iff_exists.1 hl
  cases hv with
  | slX _ _ _ _ _ a m c hd => simp [place, hl] at hd
  | slN _ _ k sz a hg =>
   refine .slN b' _ k sz a ?_
   simp [place, hb] at hg
   simp [place, hl', newι, hs, hg]
  | sl _ _ _ _ _ nb k sz a c hg h1 h2 h3 h4 h5 =>
   refine .sl b' _ i n cap nb k sz a c ?_ h1 h2 h3 h4 h5
   simp [place, hb] at hg
   simp [place, hl', newι, hs, hg]
 | frzs b ver i n cap blk xs hl hg hi hfr =>
  intro v hv
  obtain ⟨hp, hlv, hver⟩ := live_place (ι := ι) hl
  obtain ⟨hk, hk0, hb⟩ := hr.blks b blk hlv
  have hxn : xs.length = n := by rw [hfr.1]; simp; omega
  cases hv with
  | slX _ _ _ _ _ a m c hd => rw [hp] at hd; simp at hd
  | slN _ _ k sz a hg =>
   have : xs = [] := List.eq_nil_of_length_eq_zero hxn
   subst this
   exact .d _ _ (.none _ _)
  | sl _ _ _ _ _ nb k sz a c hg' h1 h2 h3 h4 h5 =>
   rw [hp] at hg'
   simp only [Prod.mk.injEq, Option.some.injEq, true_and] at hg'
   rw [hg'] at hb hk hk0
   simp only at hb hk hk0
   obtain ⟨cs, et, g1, g2, g3, g4⟩ := hb
   by_cases hc0 : n = 0
   ·subst hc0
    have : xs = [] := List.eq_nil_of_length_eq_zero hxn
    subst this
    exact .d _ _ (.none _ _)
   ·rcases h4 with h4 | h4
    ·omega
    ·subst h4
     have hrow : ∀ (q : Nat) x, xs[q]? = some x → ∃ r, blk.elems[i + q]? = some r ∧ FrzC r x := by
      intro q x hx
      obtain ⟨r, hr', hf⟩ := hfr.2 q x hx
      simp only [List.getElem?_take, List.getElem?_drop] at hr'
      split at hr'
      ·exact ⟨r, hr', hf⟩
      ·cases hr'
     have hcells : ∀ (q : Nat) r (j : Nat) a', blk.elems[i + q]? = some r → r[j]? = some a' → ∃ u, cs[(i + q) * k + j]? = some u ∧ VR w (Forb X (place h ι)) (place h ι) a' u := by
      intro q r j a' hq hj
      obtain ⟨u, k1, _, k3⟩ := g4 (i + q) r j a' hq hj
      exact ⟨u, k1, k3⟩
     have hsome : (xs.length : Nat) = n := hxn
     refine .d _ _ ?_
     rw [← hxn]
     refine .slice xs k nb (i * k) c (fun q j => cs.getD ((i + q) * k + j) undef) (by omega) (by omega) hk0 (gone b nb (by simp [hlv]) (by rw [hg']) hg) (by exact (Array.getElem?_eq_some_iff.1 g1).1) ?_ ?_ ?_
     ·intro x hx
      obtain ⟨q, hq⟩ := List.getElem?_of_mem hx
      obtain ⟨r, hr1, hr2⟩ := hrow q x hq
      rw [hr2.1]
      exact g3 r (List.mem_of_getElem? hr1)
     ·intro q j hq hj
      obtain ⟨r, hr1, hr2⟩ := hrow q xs[q] (by simp [hq])
      have hrl := g3 r (List.mem_of_getElem? hr1)
      obtain ⟨u, hu, _⟩ := hcells q r j r[j] hr1 (by simp [hrl, hj])
      have he : i * k + (q * k + j) = (i + q) * k + j := by rw [Nat.add_mul]; omega
      simp [World.cell?, g1, he, hu, Array.getD_eq_getD_getElem?]
     ·intro q j x d hx hd
      obtain ⟨r, hr1, hr2⟩ := hrow q x hx
      exact frzC_DR (G := place h ι) (vs := fun j => cs.getD ((i + q) * k + j) undef) hr2 hFF (fun j' a' ha' => by
       obtain ⟨u, hu, hv⟩ := hcells q r j' a' hr1 ha'
       simpa [Array.getD_eq_getD_getElem?, hu] using hv) j d hd
 | frzp b ver i o blk y cs hl hg hy hfr =>
  intro v hv
  obtain ⟨hp, hlv, hver⟩ := live_place (ι := ι) hl
  obtain ⟨hk, hk0, hb⟩ := hr.blks b blk hlv
  obtain ⟨n, hn, rfl⟩ := hv.ptr_inv hl
  rw [hn] at hb
  obtain ⟨cells, et, g1, g2, g3, g4⟩ := hb
  have hc : ∀ (j : Nat) a', (y.drop o)[j]? = some a' → ∃ u, cells[i * (ι b).k + o + j]? = some u ∧ VR w (Forb X (place h ι)) (place h ι) a' u := by
   intro j a' ha
   simp only [List.getElem?_drop] at ha
   obtain ⟨u, k1, _, k3⟩ := g4 i y (o + j) a' hy ha
   exact ⟨u, by rw [Nat.add_assoc]; exact k1, k3⟩
  refine .dptr cs n (i * (ι b).k + o) (fun j => cells.getD (i * (ι b).k + o + j) undef) (fun _ => ⟨gone b n (by simp [hlv]) hn hg, (Array.getElem?_eq_some_iff.1 g1).1⟩) ?_ ?_
  ·intro j d hj
   obtain ⟨x, hx, _⟩ := hfr.2 j d hj
   obtain ⟨u, hu, _⟩ := hc j _ hx
   simp [World.cell?, g1, hu, Array.getD_eq_getD_getElem?]
  ·exact frzC_DR (G := place h ι) (vs := fun j => cells.getD (i * (ι b).k + o + j) undef) hfr hFF (fun j a' ha => by
    obtain ⟨u, hu, hv⟩ := hc j a' ha
    simpa [Array.getD_eq_getD_getElem?, hu] using hv)
 | agg cs ds hl _ ih =>
  intro v hv
  cases hv with
  | agg _ vs hvl h1 hvr =>
   exact .agg _ _ (by rw [hvl, hl]) h1 (fun j d v hd hv => by
    have : j < cs.length := by have := (List.getElem?_eq_some_iff.1 hd).1; omega
    exact ih j cs[j] d (by simp [this]) hd (hvr j cs[j] v (by simp [this]) hv))
 | fn f cs ds hl _ ih =>
  intro v hv
  cases hv with
  | fn _ _ vs hvl hvr =>
   exact .fn _ _ _ (by rw [hvl, hl]) (fun j d v hd hv => by
    have : j < cs.length := by have := (List.getElem?_eq_some_iff.1 hd).1; omega
    exact ih j cs[j] d (by simp [this]) hd (hvr j cs[j] v (by simp [this]) hv))
 | tup cs ds hl _ ih =>
  intro v hv
  cases hv with
  | tup _ vs hvl hvr =>
   exact .tup _ _ (by rw [hvl, hl]) (fun j d v hd hv => by
    have : j < cs.length := by have := (List.getElem?_eq_some_iff.1 hd).1; omega
    exact ih j cs[j] d (by simp [this]) hd (hvr j cs[j] v (by simp [this]) hv))
theorem HT.rel (hr : HRel w X ι h) (ht : HT h h' src) : HRel w X (newι ι h' src) h' where
 blks b blk hb := by
  cases hs : src b with
  | none =>
   obtain ⟨h1, h2⟩ := ht.new b blk hb hs
   refine ⟨by simp [newι, hs, hb], by simp [newι, hs, hb, h2], ?_⟩
   simp [newι, hs, h1]
  | some c =>
   obtain ⟨blk0, h1, h2, h3⟩ := ht.old b blk c hb hs
   obtain ⟨k1, k2, k3⟩ := hr.blks c blk0 h1
   have hi : newι ι h' src b = ι c := by simp [newι, hs]
   rw [hi]
   refine ⟨by rw [h2, k1], k2, ?_⟩
   cases hl : (ι c).loc with
   | none =>
    rw [hl] at k3
    simp only at k3 ⊢
    cases he : blk.elems with
    | nil => rfl
    | cons x xs =>
     obtain ⟨x0, hx0, _⟩ := h3 0 x (by simp [he])
     rw [k3] at hx0
     simp at hx0
   | some n =>
    rw [hl] at k3
    obtain ⟨cs, et, g1, g2, g3, g4⟩ := k3
    refine ⟨cs, et, g1, g2, fun x hx => ?_, fun i x j a hi' hj => ?_⟩
    ·obtain ⟨i, hi'⟩ := List.getElem?_of_mem hx
     obtain ⟨x0, hx0, hlen, _⟩ := h3 i x hi'
     rw [hlen]
     exact g3 x0 (List.mem_of_getElem? hx0)
    ·obtain ⟨x0, hx0, _, hT⟩ := h3 i x hi'
     obtain ⟨a0, ha0, hT⟩ := hT j a hj
     obtain ⟨v, q1, q2, q3⟩ := g4 i x0 j a0 hx0 ha0
     exact ⟨v, q1, q2, HT.vr hr ht hT q3⟩
 inj b b' n hb hb' hl hl' := by
  have own1 : ∀ b, (h' b).live.isSome = true → (newι ι h' src b).loc = some n → ∃ c, src b = some c ∧ (h c).live.isSome = true ∧ (ι c).loc = some n := by
   intro b hb hl
   unfold newι at hl
   cases hs : src b with
   | none => simp [hs] at hl
   | some c =>
    simp only [hs] at hl
    obtain ⟨blk, hbl⟩ := Option.isSome_iff_exists.1 hb
    obtain ⟨blk0, h0, _⟩ := ht.old b blk c hbl hs
    exact ⟨c, rfl, by simp [h0], hl⟩
  obtain ⟨c, c1, c2, c3⟩ := own1 b hb hl
  obtain ⟨c', d1, d2, d3⟩ := own1 b' hb' hl'
  have := hr.inj c c' n c2 d2 c3 d3
  subst this
  exact ht.inj b b' c hb hb' c1 d1
 notX n ho := by
  obtain ⟨b, c, _, _, h1, h2⟩ := ht.own ho
  exact hr.notX n (own_iff.2 ⟨c, h1, h2⟩)
 xlt := hr.xlt
end
end Go.Abs
