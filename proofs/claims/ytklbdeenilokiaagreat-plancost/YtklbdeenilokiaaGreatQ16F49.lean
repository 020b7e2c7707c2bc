/- Contracts of functions of the program, and what they lean on: a part of the proof that planCost_proved stands; no condition. -/
import Derived.Test.YtklbdeenilokiaaGreatProg
import Derived.Test.YtklbdeenilokiaaGreatQ16M23
set_option linter.unusedVariables false
set_option linter.unusedSimpArgs false
namespace Go.Abs
open Go Go.Proofs
theorem overI_0 (x : Int) : overI x 0 = 0 := by simp [overI]
theorem overI_z (b : Int) (h : 0 ≤ b) : overI 0 b = 0 := by
 have := overI_bd (a := 0) (b := b) (by omega) h
 omega
theorem overI_1 (x : Int) : overI x 1 = x := by
 have e : x + 1 - 1 = x := by omega
 simp [overI, e]
theorem quoI_eq (a b c : Int) : quoI a b c = min 1000000000 (overI (a * b) c) := by
 unfold quoI overI
 split
 ·rfl
 ·omega
theorem overI_overI {x a b : Int} (hx : 0 ≤ x) (ha : 0 ≤ a) (hb : 0 ≤ b) : overI (overI x a) b = overI x (a * b) := by
 by_cases a0 : a = 0
 ·subst a0; rw [Int.zero_mul, overI_0, overI_z b hb]
 ·by_cases b0 : b = 0
  ·subst b0; rw [Int.mul_zero, overI_0, overI_0]
  ·have ab : 0 < a * b := Int.mul_pos (by omega) (by omega)
   have h1 := (overI_bd hx ha).1
   have e1 : overI x a = (x + a - 1) / a := by rw [tdiv_ov a0, Int.tdiv_eq_ediv_of_nonneg (by omega)]
   have h2 : 0 ≤ (x + a - 1) / a := by rw [← e1]; exact h1
   rw [tdiv_ov b0, e1, tdiv_ov (show a * b ≠ 0 by omega), Int.tdiv_eq_ediv_of_nonneg (by omega), Int.tdiv_eq_ediv_of_nonneg (by omega)]
   have e2 : (x + a - 1) / a + b - 1 = (x + a - 1 + (b - 1) * a) / a := by
    rw [Int.add_mul_ediv_right _ _ a0]; omega
   have e3 : x + a - 1 + (b - 1) * a = x + a * b - 1 := by
    rw [Int.sub_mul, Int.mul_comm b a]; omega
   rw [e2, e3, Int.ediv_ediv_of_nonneg ha]
theorem estI_bd {t : Types} (ht : tOK t) {s : Stat} (hst : statV t s = 0) {g : Graph} {k : Kn} {o : Oprn} {n : Int} (n0 : 0 ≤ n) : 0 ≤ estI t s g k o n ∧ estI t s g k o n ≤ 1000000000 := by
 have hsv := statV_ok hst
 have hN : ∀ i, 0 ≤ nodeC t s g i := by
  intro i
  unfold nodeC
  split
  ·omega
  ·exact (cntN_bd ht hsv _).1
 have hE : ∀ x, 0 ≤ edgeC t s g x := by
  intro x
  unfold edgeC
  split
  ·exact (cntE_bd ht hsv _ _ _).1
  ·omega
 unfold estI
 split
 ·have := Int.mul_nonneg n0 (hN o.el); omega
 ·split
  ·omega
  ·rename_i x _
   have h0 := Int.mul_nonneg n0 (hE x)
   have h1 := (overI_bd h0 (hN x.src)).1
   have h2 := (overI_bd h0 (hN x.tgt)).1
   have h3 := (overI_bd h1 (hN x.tgt)).1
   split
   ·omega
   ·split <;> omega
theorem e219 (t : Types) (ht : tOK t) (s : Stat) (hn : s.nodes.length ≤ 1000) (he : s.edges.length ≤ 1000) (hst : statV t s = 0) (k : Int) (hin : inI k t.nodes.length = true) : PCall Tryz.prog 219 [ag (Types.c t), ag (Stat.c s), int k] (.tup [int (cntN t s.nodes k), int 0]) := by
 have := p219 t ht s hn he k
 rw [nodesN_eq hst hin] at this
 exact this
theorem e221 (t : Types) (ht : tOK t) (s : Stat) (hn : s.nodes.length ≤ 1000) (he : s.edges.length ≤ 1000) (hst : statV t s = 0) (e a b : Int) (h1 : inI e t.edges.length = true) (h2 : inI a t.nodes.length = true) (h3 : inI b t.nodes.length = true) : PCall Tryz.prog 221 [ag (Types.c t), ag (Stat.c s), int e, int a, int b] (.tup [int (cntE t s.edges e a b), int 0]) := by
 have := p221 t ht s hn he e a b
 rw [edgesN_eq hst h1 h2 h3] at this
 exact this
theorem e220 (a b c : Int) (h0 : 0 ≤ a) (h1 : a ≤ 1000000000) (h2 : 0 ≤ b) (h3 : b ≤ 1000) (h4 : 0 ≤ c) (h5 : c ≤ 1000000) : PCall Tryz.prog 220 [int a, int b, int c] (int (min 1000000000 (overI (a * b) c))) := by
 have := p220 a b c h0 h1 h2 h3 h4 h5
 rw [quoI_eq] at this
 exact this
set_option maxHeartbeats 4000000 in
theorem p168 (t : Types) (ht : tOK t) (s : Stat) (hn : s.nodes.length ≤ 1000) (he : s.edges.length ≤ 1000) (hst : statV t s = 0) (g : Graph) (hv : gErr g = 0) (hty : typedB t g = true) (k : Kn) (hf : k.fits g) (o : Oprn) (ho : stepE g k o = 0) (n : Int) (n0 : 0 ≤ n) (n1 : n ≤ 1000000000) : PCall Tryz.prog 168 [ag (Types.c t), ag (Stat.c s), ag (Graph.c g), ag (Kn.c k), int n, ag (Oprn.c o)] (int (estI t s g k o n)) := by
 intro h
 refine ACall.of b168 (by simp) ?_
 unfold c168
 have hsv := statV_ok hst
 obtain ⟨htn, hte⟩ := (Bool.and_eq_true _ _ ▸ hty : g.nodes.all (fun n => inI n t.nodes.length) = true ∧ g.edges.all (fun e => inI e.ty t.edges.length) = true)
 
 refine .seqk fun K1 hK1 => ?_
 refine .reg ?_
 simp
 refine hK1 _ ?_
 clear hK1 K1
 refine .keep [4, 6, 7, 8, 9, 11] ?_
 simp only [keepE, E_cons, E_nil, reduceIte, Nat.reduceEqDiff]
 refine .see (upd (upd (upd (upd (upd _ 6 ⟨_, none⟩) 7 ⟨_, none⟩) 8 ⟨_, none⟩) 9 ⟨_, none⟩) 11 ⟨_, none⟩) [(4, _), (6, .dptr (Types.c t)), (7, .dptr (Stat.c s)), (8, .dptr (Graph.c g)), (9, .dptr (Kn.c k)), (11, .dptr (Oprn.c o))] ⟨.refl _, T.box (k := 2) (cs := Types.c t) (by simp [upd]) (by simp [upd]), T.box (k := 2) (cs := Stat.c s) (by simp [upd]) (by simp [upd]), T.box (k := 2) (cs := Graph.c g) (by simp [upd]) (by simp [upd]), T.box (k := 2) (cs := Kn.c k) (by simp [upd]) (by simp [upd]), T.box (k := 2) (cs := Oprn.c o) (by simp [upd]) (by simp [upd]), trivial⟩ (Dies.up (Dies.up (Dies.up (Dies.up (Dies.up (Dies.refl _) (.inr ⟨rfl, Nat.le_refl _⟩)) (.inr ⟨rfl, Nat.le_refl _⟩)) (.inr ⟨rfl, Nat.le_refl _⟩)) (.inr ⟨rfl, Nat.le_refl _⟩)) (.inr ⟨rfl, Nat.le_refl _⟩)) ?_
 try simp only [E_cons, E_nil, reduceIte, Nat.reduceEqDiff]
 refine .seqk fun K2 hK2 => ?_
 refine .seqk fun K3 hK3 => ?_
 refine .reg ?_
 simp
 refine hK3 _ ?_
 clear hK3 K3
 refine .keep [4, 6, 7, 8, 9, 11, 24] ?_
 simp only [keepE, E_cons, E_nil, reduceIte, Nat.reduceEqDiff]
 refine .condk _ rfl (fun hc1 => ?_) (fun hc1 => ?_)
 ·simp at hc1
  obtain ⟨hz, hy⟩ := stepE_0 hf hv ho
  obtain ⟨hz1, hz2⟩ : 0 ≤ o.el ∧ o.el.toNat < g.nodes.length := by
   refine ⟨hz, ?_⟩
   rcases hy with ⟨_, h1⟩ | ⟨_, h1, _⟩
   ·rw [← hf.1]; exact h1
   ·exact absurd hc1 h1
  obtain ⟨ty, hgt⟩ := get_some hz2
  have hin := List.all_eq_true.1 htn ty (List.mem_of_getElem? hgt)
  have hbd := cntN_bd ht hsv ty
  have hE : estI t s g k o n = min 1000000000 (n * cntN t s.nodes ty) := by simp [estI, hc1, nodeC, hgt]
  refine .seqk fun K4 hK4 => ?_
  refine .dreg mixed ?_
  refine Dr.cutk 9 fun K5 hK5 => ?_
  simp only [List.take_succ_cons, List.take_zero, List.drop_succ_cons, List.drop_zero]
  simp [-Bool.exists_bool, hgt, hz1]
  refine Dr.pcall (e219 t ht s hn he hst ty hin) ?_
  refine hK5 _ _ ?_
  clear hK5 K5
  try simp [-Bool.exists_bool, hgt, hz1]
  refine hK4 _ ?_
  clear hK4 K4
  refine .keep [4, 13] ?_
  simp only [keepE, E_cons, E_nil, reduceIte, Nat.reduceEqDiff]
  refine .seqk fun K6 hK6 => ?_
  refine .reg ?_
  refine Sq.cutk 3 fun K7 hK7 => ?_
  simp only [List.take_succ_cons, List.take_zero, List.drop_succ_cons, List.drop_zero]
  simp [overI_1]
  refine PCall.sq (e220 n (cntN t s.nodes ty) 1 n0 n1 hbd.1 (by omega) (by decide) (by decide)) fun h1 he1 => ?_
  simp only [mergeH_eq he1]
  clear he1 h1
  refine hK7 _ ?_
  clear hK7 K7
  simp [overI_1]
  refine hK6 _ ?_
  clear hK6 K6
  refine .keep [12] ?_
  simp only [keepE, E_cons, E_nil, reduceIte, Nat.reduceEqDiff]
  refine .ret ?_
  -- leaf 1
  refine ret_d (.inr rfl) rfl (.refl _) rfl (by first | exact OutEq.outer _ | assumption | (simp; done) | (simp; assumption)) ?_
  simp [hE]
 ·simp at hc1
  obtain ⟨hz1, hy⟩ := stepE_0 hf hv ho
  obtain ⟨hk2, x, hx, hz2, hs0, ht0, hs1, ht1⟩ : (o.kind = 2 ∨ o.kind = 3) ∧ ∃ x, g.edges[o.el.toNat]? = some x ∧ o.el.toNat < k.es.length ∧ 0 ≤ x.src ∧ 0 ≤ x.tgt ∧ x.src.toNat < k.ns.length ∧ x.tgt.toNat < k.ns.length := by
   rcases hy with ⟨h1, _⟩ | ⟨h1, _, h2⟩
   ·exact absurd h1 hc1
   ·exact ⟨h1, h2⟩
  obtain ⟨a, hga⟩ : ∃ a, g.nodes[x.src.toNat]? = some a := ⟨g.nodes[x.src.toNat]'(by rw [← hf.1]; exact hs1), by simp⟩
  obtain ⟨b, hgb⟩ : ∃ b, g.nodes[x.tgt.toNat]? = some b := ⟨g.nodes[x.tgt.toNat]'(by rw [← hf.1]; exact ht1), by simp⟩
  obtain ⟨ka, hka⟩ : ∃ ka, k.ns[x.src.toNat]? = some ka := ⟨k.ns[x.src.toNat], by simp⟩
  have hina := List.all_eq_true.1 htn a (List.mem_of_getElem? hga)
  have hinb := List.all_eq_true.1 htn b (List.mem_of_getElem? hgb)
  have hine := List.all_eq_true.1 hte x (List.mem_of_getElem? hx)
  have hba := cntN_bd ht hsv a
  have hbb := cntN_bd ht hsv b
  have hbe := cntE_bd ht hsv x.ty a b
  have hm0 : 0 ≤ n * cntE t s.edges x.ty a b := Int.mul_nonneg n0 hbe.1
  have hab0 : 0 ≤ cntN t s.nodes a * cntN t s.nodes b := Int.mul_nonneg hba.1 hbb.1
  have hab1 : cntN t s.nodes a * cntN t s.nodes b ≤ 40 * 40 := Int.mul_le_mul hba.2 hbb.2 hbb.1 (by decide)
  have wab : IntKind.i64.wrap (cntN t s.nodes a * cntN t s.nodes b) = cntN t s.nodes a * cntN t s.nodes b := wrap64 (by omega) (by omega)
  have hE : estI t s g k o n = min 1000000000 (if o.kind = 3 then overI (n * cntE t s.edges x.ty a b) (cntN t s.nodes a * cntN t s.nodes b) else if ka then overI (n * cntE t s.edges x.ty a b) (cntN t s.nodes a) else overI (n * cntE t s.edges x.ty a b) (cntN t s.nodes b)) := by
   rw [← overI_overI hm0 hba.1 hbb.1]
   simp [estI, hc1, hx, nodeC, edgeC, hga, hgb, endK, hka]
  refine .skip ?_
  refine hK2 _ ?_
  clear hK2 K2
  refine .seqk fun K8 hK8 => ?_
  refine .reg ?_
  simp [hx, hz1]
  refine hK8 _ ?_
  clear hK8 K8
  refine .keep [4, 6, 7, 8, 9, 11, 15] ?_
  simp only [keepE, E_cons, E_nil, reduceIte, Nat.reduceEqDiff]
  refine .see (upd _ 15 ⟨_, none⟩) [(4, _), (6, _), (7, _), (8, _), (9, _), (11, _), (15, .dptr (Edge.c x))] ⟨.refl _, .refl _, .refl _, .refl _, .refl _, .refl _, T.box (k := 3) (cs := Edge.c x) (by simp [upd]) (by simp [upd]), trivial⟩ (Dies.up (Dies.refl _) (.inr ⟨rfl, Nat.le_refl _⟩)) ?_
  try simp only [E_cons, E_nil, reduceIte, Nat.reduceEqDiff]
  refine .seqk fun K9 hK9 => ?_
  refine .dreg mixed ?_
  refine Dr.cutk 17 fun K10 hK10 => ?_
  simp only [List.take_succ_cons, List.take_zero, List.drop_succ_cons, List.drop_zero]
  simp [-Bool.exists_bool, hga, hgb, hs0, ht0]
  refine Dr.pcall (e221 t ht s hn he hst x.ty a b hine hina hinb) ?_
  refine hK10 _ _ ?_
  clear hK10 K10
  try simp [-Bool.exists_bool, hga, hgb, hs0, ht0]
  refine hK9 _ ?_
  clear hK9 K9
  refine .keep [4, 6, 7, 8, 9, 11, 15, 16] ?_
  simp only [keepE, E_cons, E_nil, reduceIte, Nat.reduceEqDiff]
  refine .seqk fun K11 hK11 => ?_
  refine .dreg mixed ?_
  refine Dr.cutk 9 fun K12 hK12 => ?_
  simp only [List.take_succ_cons, List.take_zero, List.drop_succ_cons, List.drop_zero]
  simp [-Bool.exists_bool, hga, hs0]
  refine Dr.pcall (e219 t ht s hn he hst a hina) ?_
  refine hK12 _ _ ?_
  clear hK12 K12
  try simp [-Bool.exists_bool, hga, hs0]
  refine hK11 _ ?_
  clear hK11 K11
  refine .keep [4, 6, 7, 8, 9, 11, 15, 16, 18] ?_
  simp only [keepE, E_cons, E_nil, reduceIte, Nat.reduceEqDiff]
  refine .seqk fun K13 hK13 => ?_
  refine .dreg mixed ?_
  refine Dr.cutk 9 fun K14 hK14 => ?_
  simp only [List.take_succ_cons, List.take_zero, List.drop_succ_cons, List.drop_zero]
  simp [-Bool.exists_bool, hgb, ht0]
  refine Dr.pcall (e219 t ht s hn he hst b hinb) ?_
  refine hK14 _ _ ?_
  clear hK14 K14
  try simp [-Bool.exists_bool, hgb, ht0]
  refine hK13 _ ?_
  clear hK13 K13
  refine .keep [4, 9, 11, 15, 16, 18, 20] ?_
  simp only [keepE, E_cons, E_nil, reduceIte, Nat.reduceEqDiff]
  refine .seqk fun K15 hK15 => ?_
  refine .seqk fun K16 hK16 => ?_
  refine .reg ?_
  simp
  refine hK16 _ ?_
  clear hK16 K16
  refine .keep [4, 9, 15, 16, 18, 20, 92] ?_
  simp only [keepE, E_cons, E_nil, reduceIte, Nat.reduceEqDiff]
  refine .condk _ rfl (fun hc2 => ?_) (fun hc2 => ?_)
  ·simp at hc2
   refine .seqk fun K17 hK17 => ?_
   refine .reg ?_
   refine Sq.cutk 6 fun K18 hK18 => ?_
   simp only [List.take_succ_cons, List.take_zero, List.drop_succ_cons, List.drop_zero]
   simp [wab]
   refine PCall.sq (e220 n (cntE t s.edges x.ty a b) (cntN t s.nodes a * cntN t s.nodes b) n0 n1 hbe.1 (by omega) hab0 (by omega)) fun h1 he1 => ?_
   simp only [mergeH_eq he1]
   clear he1 h1
   refine hK18 _ ?_
   clear hK18 K18
   simp [wab]
   refine hK17 _ ?_
   clear hK17 K17
   refine .keep [12] ?_
   simp only [keepE, E_cons, E_nil, reduceIte, Nat.reduceEqDiff]
   refine .ret ?_
   -- leaf 2
   refine ret_d (.inr rfl) rfl (.refl _) rfl (by first | exact OutEq.outer _ | assumption | (simp; done) | (simp; assumption)) ?_
   rw [hE]; simp [hc2]
  ·simp at hc2
   refine .skip ?_
   refine hK15 _ ?_
   clear hK15 K15
   refine .seqk fun K19 hK19 => ?_
   refine .seqk fun K20 hK20 => ?_
   refine .reg ?_
   simp [hka, hs0]
   refine hK20 _ ?_
   clear hK20 K20
   refine .keep [4, 16, 18, 20, 104] ?_
   simp only [keepE, E_cons, E_nil, reduceIte, Nat.reduceEqDiff]
   refine .condk _ rfl (fun hc3 => ?_) (fun hc3 => ?_)
   ·skip
    refine .seqk fun K21 hK21 => ?_
    refine .reg ?_
    refine Sq.cutk 4 fun K22 hK22 => ?_
    simp only [List.take_succ_cons, List.take_zero, List.drop_succ_cons, List.drop_zero]
    simp
    refine PCall.sq (e220 n (cntE t s.edges x.ty a b) (cntN t s.nodes a) n0 n1 hbe.1 (by omega) hba.1 (by omega)) fun h1 he1 => ?_
    simp only [mergeH_eq he1]
    clear he1 h1
    refine hK22 _ ?_
    clear hK22 K22
    simp
    refine hK21 _ ?_
    clear hK21 K21
    refine .keep [12] ?_
    simp only [keepE, E_cons, E_nil, reduceIte, Nat.reduceEqDiff]
    refine .ret ?_
    -- leaf 3
    refine ret_d (.inr rfl) rfl (.refl _) rfl (by first | exact OutEq.outer _ | assumption | (simp; done) | (simp; assumption)) ?_
    rw [hE]; simp [hc2, hc3]
   ·skip
    refine .skip ?_
    refine hK19 _ ?_
    clear hK19 K19
    refine .seqk fun K23 hK23 => ?_
    refine .reg ?_
    refine Sq.cutk 4 fun K24 hK24 => ?_
    simp only [List.take_succ_cons, List.take_zero, List.drop_succ_cons, List.drop_zero]
    simp
    refine PCall.sq (e220 n (cntE t s.edges x.ty a b) (cntN t s.nodes b) n0 n1 hbe.1 (by omega) hbb.1 (by omega)) fun h1 he1 => ?_
    simp only [mergeH_eq he1]
    clear he1 h1
    refine hK24 _ ?_
    clear hK24 K24
    simp
    refine hK23 _ ?_
    clear hK23 K23
    refine .keep [12] ?_
    simp only [keepE, E_cons, E_nil, reduceIte, Nat.reduceEqDiff]
    refine .ret ?_
    -- leaf 4
    refine ret_d (.inr rfl) rfl (.refl _) rfl (by first | exact OutEq.outer _ | assumption | (simp; done) | (simp; assumption)) ?_
    rw [hE]; simp [hc2, hc3]
def costF (t : Types) (s : Stat) (g : Graph) : Kn → Int → Int → List Oprn → Int
 | _, _, c, [] => c
 | k, n, c, o :: l => costF t s g (afterK g k o) (estI t s g k o n) (min 1000000000 (c + estI t s g k o n)) l
def costV (t : Types) (s : Stat) (g : Graph) (l : List Oprn) : Int × Int := if pricedE t s g ≠ 0 then (0, pricedE t s g) else if planE g (freshK g) l ≠ 0 then (0, planE g (freshK g) l) else (costF t s g (freshK g) 1 0 l, 0)
theorem planE_cons {g : Graph} {k : Kn} {o : Oprn} {l : List Oprn} (h : planE g k (o :: l) = 0) : stepE g k o = 0 ∧ planE g (afterK g k o) l = 0 := by
 unfold planE at h
 split at h
 ·rename_i h1; exact absurd h h1
 ·rename_i h1; exact ⟨by simpa using h1, h⟩
theorem pricedE_ok {t : Types} {s : Stat} {g : Graph} (h : pricedE t s g = 0) : statV t s = 0 ∧ gErr g = 0 ∧ typedB t g = true := by
 unfold pricedE at h
 split at h
 ·rename_i h1; exact absurd h h1
 ·split at h
  ·rename_i h1; exact absurd h h1
  ·split at h
   ·rename_i h1 h2 h3; exact ⟨by simpa using h1, by simpa using h2, h3⟩
   ·cases h
set_option maxHeartbeats 1000000 in
theorem p113 (t : Types) (ht : tOK t) (s : Stat) (hn : s.nodes.length ≤ 1000) (he : s.edges.length ≤ 1000) (g : Graph) (hp : pricedE t s g = 0) (l : List Oprn) (hm : l.length ≤ 9223372036854775807) (hl : planE g (freshK g) l = 0) : PCall Tryz.prog 113 [ag (Types.c t), ag (Stat.c s), ag (Graph.c g), sl (l.map Oprn.c)] (int (costF t s g (freshK g) 1 0 l)) := by
 intro h
 refine ACall.of b113 (by simp) ?_
 unfold c113
 obtain ⟨hst, hv, hty⟩ := pricedE_ok hp
 have hgl := gErr_len hv
 refine .seqk fun K1 hK1 => ?_
 refine .reg ?_
 simp
 refine hK1 _ ?_
 clear hK1 K1
 refine .keep [3, 4, 5, 6] ?_
 simp only [keepE, E_cons, E_nil, reduceIte, Nat.reduceEqDiff]
 refine .see (upd (upd (upd _ 4 ⟨_, none⟩) 5 ⟨_, none⟩) 6 ⟨_, none⟩) [(3, _), (4, .dptr (Types.c t)), (5, .dptr (Stat.c s)), (6, .dptr (Graph.c g))] ⟨.refl _, T.box (k := 2) (cs := Types.c t) (by simp [upd]) (by simp [upd]), T.box (k := 2) (cs := Stat.c s) (by simp [upd]) (by simp [upd]), T.box (k := 2) (cs := Graph.c g) (by simp [upd]) (by simp [upd]), trivial⟩ (Dies.up (Dies.up (Dies.up (Dies.refl _) (.inr ⟨rfl, Nat.le_refl _⟩)) (.inr ⟨rfl, Nat.le_refl _⟩)) (.inr ⟨rfl, Nat.le_refl _⟩)) ?_
 try simp only [E_cons, E_nil, reduceIte, Nat.reduceEqDiff]
 refine .seqk fun K2 hK2 => ?_
 refine .reg ?_
 refine Sq.cutk 2 fun K3 hK3 => ?_
 simp only [List.take_succ_cons, List.take_zero, List.drop_succ_cons, List.drop_zero]
 simp
 refine PCall.sq (p130 g (by omega) (by omega)) fun h1 he1 => ?_
 simp only [mergeH_eq he1]
 clear he1 h1
 refine hK3 _ ?_
 clear hK3 K3
 simp
 refine hK2 _ ?_
 clear hK2 K2
 refine .keep [3, 4, 5, 6, 9, 10, 11] ?_
 simp only [keepE, E_cons, E_nil, reduceIte, Nat.reduceEqDiff]
 refine .seqk fun K4 hK4 => ?_
 refine .seqk fun K5 hK5 => ?_
 refine .reg ?_
 simp
 refine hK5 _ ?_
 clear hK5 K5
 refine .keep [3, 4, 5, 6, 9, 10, 11, 12] ?_
 simp only [keepE, E_cons, E_nil, reduceIte, Nat.reduceEqDiff]
 refine .block ?_
 refine .count (l).length (fun i st => ∃ k : Kn, ∃ v : Nat, ∃ n : Int, ∃ c : Int, (k.fits g ∧ planE g k (l.drop i) = 0 ∧ costF t s g k n c (l.drop i) = costF t s g (freshK g) 1 0 l ∧ 0 ≤ n ∧ n ≤ 1000000000 ∧ 0 ≤ c ∧ c ≤ 1000000000) ∧ ∃ hh1, (OutEq hh1 h ∧ hh1 9 = ⟨v, some ⟨2, [(Kn.c k).map .d]⟩⟩) ∧ st = ⟨E [(3, sl (l.map Oprn.c)), (4, .dptr (Types.c t)), (5, .dptr (Stat.c s)), (6, .dptr (Graph.c g)), (9, .ptr 9 v 0 0), (10, int n), (11, int c), (12, int i)], hh1⟩) 0 (Nat.zero_le _) _ (.cov (by first | (simp; done) | (simp; rfl) | (simp; exact ⟨rfl, rfl⟩)) (.refl _)) ⟨freshK g, _, 1, 0, ⟨freshK_fits g, by simpa using hl, by simp, by decide, by decide, by decide, by decide⟩, _, ⟨by simp, by simp [upd]⟩, rfl⟩ ?_
 rintro i s hi1 ⟨k, v, n, c, ⟨hf, hpl, hco, n0, n1, c0, c1⟩, hh1, hho1, rfl⟩ K6 hK6
 refine .seqk fun K7 hK7 => ?_
 refine .seqk fun K8 hK8 => ?_
 refine .reg ?_
 simp
 refine hK8 _ ?_
 clear hK8 K8
 refine .keep [3, 4, 5, 6, 9, 10, 11, 12, 18] ?_
 simp only [keepE, E_cons, E_nil, reduceIte, Nat.reduceEqDiff]
 refine .condk _ rfl (fun hc1 => ?_) (fun hc1 => ?_)
 ·simp at hc1
  obtain ⟨x, hx1⟩ := get_some hc1
  rw [drop_cons hx1] at hpl hco
  obtain ⟨hs0, hpl2⟩ := planE_cons hpl
  obtain ⟨hho, h9⟩ := hho1
  have hes := estI_bd (o := x) (k := k) (g := g) ht hst n0
  have hw : IntKind.i64.wrap (c + estI t s g k x n) = c + estI t s g k x n := wrap64 (by omega) (by omega)
  refine .skip ?_
  refine hK7 _ ?_
  clear hK7 K7
  refine .seqk fun K9 hK9 => ?_
  refine .block ?_
  refine .seqk fun K10 hK10 => ?_
  refine .dreg mixed ?_
  refine Dr.cutk 10 fun K11 hK11 => ?_
  simp only [List.take_succ_cons, List.take_zero, List.drop_succ_cons, List.drop_zero]
  simp [-Bool.exists_bool, hx1, getBlk, h9]
  refine Dr.pcall (p168 t ht s hn he hst g hv hty k hf x hs0 n n0 n1) ?_
  refine hK11 _ _ ?_
  clear hK11 K11
  try simp [-Bool.exists_bool, hx1, getBlk, h9]
  refine hK10 _ ?_
  clear hK10 K10
  refine .keep [3, 4, 5, 6, 9, 10, 11, 12] ?_
  simp only [keepE, E_cons, E_nil, reduceIte, Nat.reduceEqDiff]
  refine .seqk fun K12 hK12 => ?_
  refine .reg ?_
  simp [hw, mm2, mmA, mm_min]
  refine hK12 _ ?_
  clear hK12 K12
  refine .keep [3, 4, 5, 6, 9, 10, 11, 12] ?_
  simp only [keepE, E_cons, E_nil, reduceIte, Nat.reduceEqDiff]
  refine .dreg mixed ?_
  refine Dr.cutk 7 fun K13 hK13 => ?_
  simp only [List.take_succ_cons, List.take_zero, List.drop_succ_cons, List.drop_zero]
  simp [-Bool.exists_bool, hx1, getBlk, h9, upd]
  refine Dr.pcall (p131 g k x hf hv hs0) ?_
  refine hK13 _ _ ?_
  clear hK13 K13
  try simp [-Bool.exists_bool, hx1, getBlk, h9, upd]
  refine hK9 _ ?_
  clear hK9 K9
  refine .keep [3, 4, 5, 6, 9, 10, 11, 12] ?_
  simp only [keepE, E_cons, E_nil, reduceIte, Nat.reduceEqDiff]
  refine .reg ?_
  simp
  -- loop back, leaf 1
  refine hK6 _ _ (by omega) (Wk.cov ?_ (.refl _)) ⟨afterK g k x, v, estI t s g k x n, min 1000000000 (c + estI t s g k x n), ?_, _, ?_, rfl⟩
  ·simp; first | exact ⟨by omega, wrap64 (by omega) (by omega)⟩ | exact ⟨wrap64 (by omega) (by omega), by omega⟩
  ·exact ⟨afterK_fits hf x, hpl2, hco, hes.1, hes.2, by omega, by omega⟩
  ·exact ⟨by simp [hho], by simp [upd]⟩
 ·simp at hc1
  have hi1 : i = l.length := by omega
  subst hi1
  obtain ⟨hho, h9⟩ := hho1
  have hfin : costF t s g (freshK g) 1 0 l = c := by rw [← hco]; simp [costF]
  refine .exit ?_
  try simp only [then', inBlk, if_true, if_false, reduceIte, Nat.reduceEqDiff]
  refine hK4 _ ?_
  clear hK7 hK6 hK4 K7 K6 K4
  refine .seqk fun K14 hK14 => ?_
  refine .reg ?_
  simp
  refine hK14 _ ?_
  clear hK14 K14
  refine .keep [8] ?_
  simp only [keepE, E_cons, E_nil, reduceIte, Nat.reduceEqDiff]
  refine .ret ?_
  -- leaf 2
  refine ret_d (.inr rfl) rfl (.refl _) rfl (by first | exact OutEq.outer _ | assumption | (simp; done) | (simp; assumption)) ?_
  simp [hfin]
theorem p58 (t : Types) (ht : tOK t) (s : Stat) (hn : s.nodes.length ≤ 1000) (he : s.edges.length ≤ 1000) (g : Graph) (l : List Oprn) (hm : l.length ≤ 9223372036854775807) : PCall Tryz.prog 58 [ag (Types.c t), ag (Stat.c s), ag (Graph.c g), sl (l.map Oprn.c)] (.tup [int (costV t s g l).1, int (costV t s g l).2]) := by
 intro h
 refine ACall.of b58 (by simp) ?_
 unfold c58
 refine .seqk fun K1 hK1 => ?_
 refine .reg ?_
 simp
 refine hK1 _ ?_
 clear hK1 K1
 refine .keep [3, 4, 5, 6] ?_
 simp only [keepE, E_cons, E_nil, reduceIte, Nat.reduceEqDiff]
 refine .see (upd (upd (upd _ 4 ⟨_, none⟩) 5 ⟨_, none⟩) 6 ⟨_, none⟩) [(3, _), (4, .dptr (Types.c t)), (5, .dptr (Stat.c s)), (6, .dptr (Graph.c g))] ⟨.refl _, T.box (k := 2) (cs := Types.c t) (by simp [upd]) (by simp [upd]), T.box (k := 2) (cs := Stat.c s) (by simp [upd]) (by simp [upd]), T.box (k := 2) (cs := Graph.c g) (by simp [upd]) (by simp [upd]), trivial⟩ (Dies.up (Dies.up (Dies.up (Dies.refl _) (.inr ⟨rfl, Nat.le_refl _⟩)) (.inr ⟨rfl, Nat.le_refl _⟩)) (.inr ⟨rfl, Nat.le_refl _⟩)) ?_
 try simp only [E_cons, E_nil, reduceIte, Nat.reduceEqDiff]
 refine .seqk fun K2 hK2 => ?_
 refine .seqk fun K3 hK3 => ?_
 refine .reg ?_
 refine Sq.cutk 4 fun K4 hK4 => ?_
 simp only [List.take_succ_cons, List.take_zero, List.drop_succ_cons, List.drop_zero]
 simp
 refine PCall.sq (p112 t ht s hn he g) fun h1 he1 => ?_
 simp only [mergeH_eq he1]
 clear he1 h1
 refine hK4 _ ?_
 clear hK4 K4
 simp
 refine hK3 _ ?_
 clear hK3 K3
 refine .keep [3, 4, 5, 6, 10] ?_
 simp only [keepE, E_cons, E_nil, reduceIte, Nat.reduceEqDiff]
 refine .seqk fun K5 hK5 => ?_
 refine .reg ?_
 simp
 refine hK5 _ ?_
 clear hK5 K5
 refine .keep [3, 4, 5, 6, 10, 17] ?_
 simp only [keepE, E_cons, E_nil, reduceIte, Nat.reduceEqDiff]
 refine .condk _ rfl (fun hc1 => ?_) (fun hc1 => ?_)
 ·simp at hc1
  refine .seqk fun K6 hK6 => ?_
  refine .reg ?_
  simp
  refine hK6 _ ?_
  clear hK6 K6
  refine .keep [8, 9] ?_
  simp only [keepE, E_cons, E_nil, reduceIte, Nat.reduceEqDiff]
  refine .ret ?_
  -- leaf 1
  refine ret_d (.inr rfl) rfl (.refl _) rfl (by first | exact OutEq.outer _ | assumption | (simp; done) | (simp; assumption)) ?_
  simp [costV, hc1]
 ·simp at hc1
  obtain ⟨hst, hv, hty⟩ := pricedE_ok hc1
  refine .skip ?_
  refine hK2 _ ?_
  clear hK2 K2
  refine .seqk fun K7 hK7 => ?_
  refine .seqk fun K8 hK8 => ?_
  refine .reg ?_
  refine Sq.cutk 3 fun K9 hK9 => ?_
  simp only [List.take_succ_cons, List.take_zero, List.drop_succ_cons, List.drop_zero]
  simp
  refine PCall.sq (p98 g l hv hm) fun h1 he1 => ?_
  simp only [mergeH_eq he1]
  clear he1 h1
  refine hK9 _ ?_
  clear hK9 K9
  simp
  refine hK8 _ ?_
  clear hK8 K8
  refine .keep [3, 4, 5, 6, 11] ?_
  simp only [keepE, E_cons, E_nil, reduceIte, Nat.reduceEqDiff]
  refine .seqk fun K10 hK10 => ?_
  refine .reg ?_
  simp
  refine hK10 _ ?_
  clear hK10 K10
  refine .keep [3, 4, 5, 6, 11, 23] ?_
  simp only [keepE, E_cons, E_nil, reduceIte, Nat.reduceEqDiff]
  refine .condk _ rfl (fun hc2 => ?_) (fun hc2 => ?_)
  ·simp at hc2
   refine .seqk fun K11 hK11 => ?_
   refine .reg ?_
   simp
   refine hK11 _ ?_
   clear hK11 K11
   refine .keep [8, 9] ?_
   simp only [keepE, E_cons, E_nil, reduceIte, Nat.reduceEqDiff]
   refine .ret ?_
   -- leaf 2
   refine ret_d (.inr rfl) rfl (.refl _) rfl (by first | exact OutEq.outer _ | assumption | (simp; done) | (simp; assumption)) ?_
   simp [costV, hc1, hc2]
  ·simp at hc2
   refine .skip ?_
   refine hK7 _ ?_
   clear hK7 K7
   refine .seqk fun K12 hK12 => ?_
   refine .reg ?_
   refine Sq.cutk 5 fun K13 hK13 => ?_
   simp only [List.take_succ_cons, List.take_zero, List.drop_succ_cons, List.drop_zero]
   simp
   refine PCall.sq (p113 t ht s hn he g hc1 l hm hc2) fun h1 he1 => ?_
   simp only [mergeH_eq he1]
   clear he1 h1
   refine hK13 _ ?_
   clear hK13 K13
   simp
   refine hK12 _ ?_
   clear hK12 K12
   refine .keep [8, 9] ?_
   simp only [keepE, E_cons, E_nil, reduceIte, Nat.reduceEqDiff]
   refine .ret ?_
   -- leaf 3
   refine ret_d (.inr rfl) rfl (.refl _) rfl (by first | exact OutEq.outer _ | assumption | (simp; done) | (simp; assumption)) ?_
   simp [costV, hc1, hc2]
set_option maxHeartbeats 8000000 in
theorem m37 (t : Types) (ht : tOK t) (s : Stat) (hn : s.nodes.length ≤ 1000) (he : s.edges.length ≤ 1000) (g : Graph) (l : List Oprn) (hm : l.length ≤ 9223372036854775807) : ACall Tryz.prog 37 [ag (Types.c t), ag (Stat.c s), ag (Graph.c g), sl (l.map Oprn.c)] h00 fun r _ => r = .tup [int (costV t s g l).1, int (costV t s g l).2] := by
 refine ACall.of b37 (by simp) ?_
 unfold c37
 rw [outer_h00]
 refine .seqk fun K1 hK1 => ?_
 refine .reg ?_
 simp
 refine hK1 _ ?_
 clear hK1 K1
 refine .keep [3, 4, 5, 6] ?_
 simp only [keepE, E_cons, E_nil, reduceIte, Nat.reduceEqDiff]
 refine .see (upd (upd (upd _ 4 ⟨_, none⟩) 5 ⟨_, none⟩) 6 ⟨_, none⟩) [(3, _), (4, .dptr (Types.c t)), (5, .dptr (Stat.c s)), (6, .dptr (Graph.c g))] ⟨.refl _, T.box (k := 2) (cs := Types.c t) (by simp [upd]) (by simp [upd]), T.box (k := 2) (cs := Stat.c s) (by simp [upd]) (by simp [upd]), T.box (k := 2) (cs := Graph.c g) (by simp [upd]) (by simp [upd]), trivial⟩ (Dies.up (Dies.up (Dies.up (Dies.refl _) (.inr ⟨rfl, Nat.le_refl _⟩)) (.inr ⟨rfl, Nat.le_refl _⟩)) (.inr ⟨rfl, Nat.le_refl _⟩)) ?_
 try simp only [E_cons, E_nil, reduceIte, Nat.reduceEqDiff]
 refine .seqk fun K2 hK2 => ?_
 refine .reg ?_
 refine Sq.cutk 4 fun K3 hK3 => ?_
 simp only [List.take_succ_cons, List.take_zero, List.drop_succ_cons, List.drop_zero]
 simp
 refine PCall.sq (p84 t ht s hn he g) fun h1 he1 => ?_
 simp only [mergeH_eq he1]
 clear he1 h1
 refine hK3 _ ?_
 clear hK3 K3
 simp
 refine hK2 _ ?_
 clear hK2 K2
 refine .keep [3, 4, 5, 6, 10] ?_
 simp only [keepE, E_cons, E_nil, reduceIte, Nat.reduceEqDiff]
 refine .seqk fun K4 hK4 => ?_
 refine .seqk fun K5 hK5 => ?_
 refine .reg ?_
 simp
 refine hK5 _ ?_
 clear hK5 K5
 refine .keep [3, 4, 5, 6, 10, 21] ?_
 simp only [keepE, E_cons, E_nil, reduceIte, Nat.reduceEqDiff]
 refine .condk _ rfl (fun hc1 => ?_) (fun hc1 => ?_)
 ·simp at hc1
  obtain ⟨hst, hv, hty⟩ := pricedE_ok hc1
  have hgl := gErr_len hv
  refine .reg ?_
  refine Sq.cutk 3 fun K6 hK6 => ?_
  simp only [List.take_succ_cons, List.take_zero, List.drop_succ_cons, List.drop_zero]
  simp
  refine PCall.sq (p85 g l hv hm) fun h1 he1 => ?_
  simp only [mergeH_eq he1]
  clear he1 h1
  refine hK6 _ ?_
  clear hK6 K6
  simp
  refine hK4 _ ?_
  clear hK4 K4
  refine .keep [3, 4, 5, 6, 10] ?_
  simp only [keepE, E_cons, E_nil, reduceIte, Nat.reduceEqDiff]
  refine .seqk fun K7 hK7 => ?_
  refine .seqk fun K8 hK8 => ?_
  refine .reg ?_
  simp
  refine hK8 _ ?_
  clear hK8 K8
  refine .keep [3, 4, 5, 6, 10, 26] ?_
  simp only [keepE, E_cons, E_nil, reduceIte, Nat.reduceEqDiff]
  refine .condk _ rfl (fun hc2 => ?_) (fun hc2 => ?_)
  ·simp at hc2
   refine .seqk fun K9 hK9 => ?_
   refine .reg ?_
   simp
   refine hK9 _ ?_
   clear hK9 K9
   refine .keep [8, 9] ?_
   simp only [keepE, E_cons, E_nil, reduceIte, Nat.reduceEqDiff]
   refine .ret ?_
   -- leaf 1
   try simp only [then', inBlk]
   refine ret_m (.inr rfl) (r := .tup [int (costV t s g l).1, int (costV t s g l).2]) (by simp [costV, hc1, hc2]) (by simp) rfl
  ·simp at hc2
   refine .skip ?_
   refine hK7 _ ?_
   clear hK7 K7
   refine .seqk fun K10 hK10 => ?_
   refine .reg ?_
   refine Sq.cutk 2 fun K11 hK11 => ?_
   simp only [List.take_succ_cons, List.take_zero, List.drop_succ_cons, List.drop_zero]
   simp
   refine ACall.mono (m86 g _ (by omega) (by omega) (by simp [upd, h00_at]) (by simp [upd, h00_at])) ?_
   rintro _ h1 ⟨v1, v2, c1, c2, rfl, he1⟩
   rw [mergeH_upd2 he1 (by decide) (by decide)]
   clear he1 h1
   refine hK11 _ ?_
   clear hK11 K11
   simp
   refine hK10 _ ?_
   clear hK10 K10
   refine .keep [3, 4, 5, 6, 11] ?_
   simp only [keepE, E_cons, E_nil, reduceIte, Nat.reduceEqDiff]
   refine .seqk fun K12 hK12 => ?_
   refine .reg ?_
   simp
   refine hK12 _ ?_
   clear hK12 K12
   refine .keep [3, 4, 5, 6, 11, 12, 13] ?_
   simp only [keepE, E_cons, E_nil, reduceIte, Nat.reduceEqDiff]
   refine .seqk fun K13 hK13 => ?_
   refine .seqk fun K14 hK14 => ?_
   refine .reg ?_
   simp
   refine hK14 _ ?_
   clear hK14 K14
   refine .keep [4, 5, 6, 11, 12, 13, 30, 31, 32] ?_
   simp only [keepE, E_cons, E_nil, reduceIte, Nat.reduceEqDiff]
   refine .block ?_
   refine .count (l).length (fun i st => ∃ k : Kn, ∃ v : Nat, ∃ v1 : Nat, ∃ v2 : Nat, ∃ c1 : Nat, ∃ c2 : Nat, ∃ n : Int, ∃ c : Int, (k.fits g ∧ planE g k (l.drop i) = 0 ∧ costF t s g k n c (l.drop i) = costF t s g (freshK g) 1 0 l ∧ 0 ≤ n ∧ n ≤ 1000000000 ∧ 0 ≤ c ∧ c ≤ 1000000000) ∧ ∃ hh1, (hh1 1000001 = ⟨v1, some ⟨1, dl (k.ns.map Bo.c)⟩⟩ ∧ hh1 1000002 = ⟨v2, some ⟨1, dl (k.es.map Bo.c)⟩⟩ ∧ hh1 11 = ⟨v, some ⟨2, [[.sl 1000001 v1 0 k.ns.length c1, .sl 1000002 v2 0 k.es.length c2]]⟩⟩) ∧ st = ⟨E [(4, .dptr (Types.c t)), (5, .dptr (Stat.c s)), (6, .dptr (Graph.c g)), (11, .ptr 11 v 0 0), (12, int n), (13, int c), (30, sl (l.map Oprn.c)), (31, int (l.length : Int)), (32, int i)], hh1⟩) 0 (Nat.zero_le _) _ (.cov (by first | (simp; done) | (simp; rfl) | (simp; exact ⟨rfl, rfl⟩)) (.refl _)) ⟨freshK g, _, v1, v2, c1, c2, 1, 0, ⟨freshK_fits g, by simpa using hc2, by simp, by decide, by decide, by decide, by decide⟩, _, ⟨by simp [upd], by simp [upd], by simp [upd]⟩, rfl⟩ ?_
   rintro i s hi1 ⟨k, v, v1, v2, c1, c2, n, c, ⟨hf, hpl, hco, n0, n1, c0, c1b⟩, hh1, hho1, rfl⟩ K15 hK15
   refine .seqk fun K16 hK16 => ?_
   refine .reg ?_
   simp
   refine hK16 _ ?_
   clear hK16 K16
   refine .keep [4, 5, 6, 11, 12, 13, 30, 31, 32, 33] ?_
   simp only [keepE, E_cons, E_nil, reduceIte, Nat.reduceEqDiff]
   refine .seqk fun K17 hK17 => ?_
   refine .condk _ rfl (fun hc3 => ?_) (fun hc3 => ?_)
   ·simp at hc3
    obtain ⟨x, hx1⟩ := get_some hc3
    rw [drop_cons hx1] at hpl hco
    obtain ⟨hs0, hpl2⟩ := planE_cons hpl
    obtain ⟨e1, e2, h11⟩ := hho1
    have hes := estI_bd (o := x) (k := k) (g := g) ht hst n0
    have hsk : stepK g k x = afterK g k x := by simp [stepK, hs0]
    have haf := afterK_fits hf x
    have hw : IntKind.i64.wrap (c + estI t s g k x n) = c + estI t s g k x n := wrap64 (by omega) (by omega)
    refine .skip ?_
    refine hK17 _ ?_
    clear hK17 K17
    refine .seqk fun K18 hK18 => ?_
    refine .block ?_
    refine .seqk fun K19 hK19 => ?_
    refine .reg ?_
    simp [hx1]
    refine hK19 _ ?_
    clear hK19 K19
    refine .keep [4, 5, 6, 11, 12, 13, 15, 30, 31, 32] ?_
    simp only [keepE, E_cons, E_nil, reduceIte, Nat.reduceEqDiff]
    refine .see (upd _ 15 ⟨_, none⟩) [(4, _), (5, _), (6, _), (11, _), (12, _), (13, _), (15, .dptr (Oprn.c x)), (30, _), (31, _), (32, _)] ⟨.refl _, .refl _, .refl _, .refl _, .refl _, .refl _, T.box (k := 2) (cs := Oprn.c x) (by simp [upd]) (by simp [upd]), .refl _, .refl _, .refl _, trivial⟩ (Dies.up (Dies.refl _) (.inr ⟨rfl, Nat.le_refl _⟩)) ?_
    try simp only [E_cons, E_nil, reduceIte, Nat.reduceEqDiff]
    refine .seqk fun K20 hK20 => ?_
    refine .reg ?_
    refine Sq.cutk 7 fun K21 hK21 => ?_
    simp only [List.take_succ_cons, List.take_zero, List.drop_succ_cons, List.drop_zero]
    simp [getBlk, upd, h11]
    refine ACall.mono (m87 t ht s hn he hst g hv hty k hf x hs0 n n0 n1 _ v1 v2 c1 c2 (by simp [upd, e1]) (by simp [upd, e2])) ?_
    rintro _ h1 ⟨rfl, he1⟩
    simp only [mergeH_eq he1]
    clear he1 h1
    refine hK21 _ ?_
    clear hK21 K21
    simp [getBlk, upd, h11]
    refine hK20 _ ?_
    clear hK20 K20
    refine .keep [4, 5, 6, 11, 12, 13, 15, 30, 31, 32] ?_
    simp only [keepE, E_cons, E_nil, reduceIte, Nat.reduceEqDiff]
    refine .seqk fun K22 hK22 => ?_
    refine .reg ?_
    simp [hw, mm2, mmA, mm_min]
    refine hK22 _ ?_
    clear hK22 K22
    refine .keep [4, 5, 6, 11, 12, 13, 15, 30, 31, 32] ?_
    simp only [keepE, E_cons, E_nil, reduceIte, Nat.reduceEqDiff]
    refine .reg ?_
    simp [getBlk, upd, h11]
    refine ACall.mono (m88 g k x _ v1 v2 c1 c2 hf hv (by simp [upd, e1]) (by simp [upd, e2])) ?_
    rintro _ h1 ⟨rfl, he1⟩
    rw [mergeH_upd2 he1 (by decide) (by decide)]
    clear he1 h1
    try simp [getBlk, upd, h11]
    refine hK18 _ ?_
    clear hK18 K18
    refine .keep [4, 5, 6, 11, 12, 13, 30, 31, 32] ?_
    simp only [keepE, E_cons, E_nil, reduceIte, Nat.reduceEqDiff]
    refine .reg ?_
    simp
    -- loop back, leaf 2
    refine hK15 _ _ (by omega) (Wk.cov ?_ (.refl _)) ⟨afterK g k x, v, v1, v2, c1, c2, estI t s g k x n, min 1000000000 (c + estI t s g k x n), ?_, _, ?_, rfl⟩
    ·simp; exact wrap64 (by omega) (by omega)
    ·exact ⟨haf, hpl2, hco, hes.1, hes.2, by omega, by omega⟩
    ·exact ⟨by simp [upd, hsk], by simp [upd, hsk], by simp [upd, h11, haf.1, haf.2, hf.1, hf.2]⟩
   ·simp at hc3
    have hi1 : i = l.length := by omega
    subst hi1
    have hfin : costF t s g (freshK g) 1 0 l = c := by rw [← hco]; simp [costF]
    refine .exit ?_
    try simp only [then', inBlk, if_true, if_false, reduceIte, Nat.reduceEqDiff]
    refine hK13 _ ?_
    clear hK17 hK15 hK13 K17 K15 K13
    refine .seqk fun K23 hK23 => ?_
    refine .reg ?_
    simp
    refine hK23 _ ?_
    clear hK23 K23
    refine .keep [8, 9] ?_
    simp only [keepE, E_cons, E_nil, reduceIte, Nat.reduceEqDiff]
    refine .ret ?_
    -- leaf 3
    try simp only [then', inBlk]
    refine ret_m (.inr rfl) (r := .tup [int (costV t s g l).1, int (costV t s g l).2]) (by simp [costV, hc1, hc2, hfin]) (by simp) rfl
 ·simp at hc1
  refine .skip ?_
  refine hK4 _ ?_
  clear hK4 K4
  refine .seqk fun K24 hK24 => ?_
  refine .seqk fun K25 hK25 => ?_
  refine .reg ?_
  simp
  refine hK25 _ ?_
  clear hK25 K25
  refine .keep [3, 4, 5, 6, 10, 26] ?_
  simp only [keepE, E_cons, E_nil, reduceIte, Nat.reduceEqDiff]
  refine .condk _ rfl (fun hc2 => ?_) (fun hc2 => ?_)
  ·simp at hc2
   refine .seqk fun K26 hK26 => ?_
   refine .reg ?_
   simp
   refine hK26 _ ?_
   clear hK26 K26
   refine .keep [8, 9] ?_
   simp only [keepE, E_cons, E_nil, reduceIte, Nat.reduceEqDiff]
   refine .ret ?_
   -- leaf 4
   try simp only [then', inBlk]
   refine ret_m (.inr rfl) (r := .tup [int (costV t s g l).1, int (costV t s g l).2]) (by simp [costV, hc1]) (by simp) rfl
  ·simp at hc2; exact absurd hc2 hc1
theorem p37 (t : Types) (ht : tOK t) (s : Stat) (hn : s.nodes.length ≤ 1000) (he : s.edges.length ≤ 1000) (g : Graph) (l : List Oprn) (hm : l.length ≤ 9223372036854775807) : PCall Tryz.prog 37 [ag (Types.c t), ag (Stat.c s), ag (Graph.c g), sl (l.map Oprn.c)] (.tup [int (costV t s g l).1, int (costV t s g l).2]) := PCall.frame rfl rfl (m37 t ht s hn he g l hm)
set_option maxHeartbeats 1000000 in
theorem p16 (t : Types) (hs : smT t) (s : Stat) (g : Graph) (l : List Oprn) (hm : l.length ≤ 9223372036854775807) : PCall Tryz.prog 16 [ag (Types.c t ++ Stat.c s ++ Graph.c g), sl (l.map Oprn.c)] (bo true) := by
 intro h
 refine ACall.of b16 (by simp) ?_
 unfold c16
 refine .seqk fun K1 hK1 => ?_
 refine .reg ?_
 simp
 refine hK1 _ ?_
 clear hK1 K1
 refine .keep [1, 2] ?_
 simp only [keepE, E_cons, E_nil, reduceIte, Nat.reduceEqDiff]
 refine .see (upd _ 2 ⟨_, none⟩) [(1, _), (2, .dptr (Types.c t ++ Stat.c s ++ Graph.c g))] ⟨.refl _, T.box (k := 6) (cs := Types.c t ++ Stat.c s ++ Graph.c g) (by simp [upd]) (by simp [upd]), trivial⟩ (Dies.up (Dies.refl _) (.inr ⟨rfl, Nat.le_refl _⟩)) ?_
 try simp only [E_cons, E_nil, reduceIte, Nat.reduceEqDiff]
 refine .seqk fun K2 hK2 => ?_
 refine .seqreg (fun hh => hh) (fun ee => [(1, ee 1), (2, ee 2), (21, bo (!(fewT t && fewS s && fewG g && decide ((l.length : Int) ≤ 150))))]) ?_ ?_
 ·refine Sq.cutk 1 fun KC1 hKC1 => ?_
  simp only [List.take_succ_cons, List.take_zero, List.drop_succ_cons, List.drop_zero]
  simp [true_and]
  refine PCall.sq (p34) fun _ he1 => ?_
  simp only [mergeH_eq he1]
  refine hKC1 _ ?_
  refine Sq.cutk 10 fun KC2 hKC2 => ?_
  simp only [List.take_succ_cons, List.take_zero, List.drop_succ_cons, List.drop_zero]
  simp [true_and]
  refine PCall.sq (p57 t hs s g l) fun _ he2 => ?_
  simp only [mergeH_eq he2]
  refine hKC2 _ ?_
  simp [true_and]
 try simp only [E_cons, E_nil, reduceIte, Nat.reduceEqDiff]
 refine .condk _ rfl (fun hc1 => ?_) (fun hc1 => ?_)
 ·skip
  refine .seqk fun K3 hK3 => ?_
  refine .reg ?_
  refine Sq.cutk 1 fun K4 hK4 => ?_
  simp only [List.take_succ_cons, List.take_zero, List.drop_succ_cons, List.drop_zero]
  simp
  refine PCall.sq (p34) fun h1 he1 => ?_
  simp only [mergeH_eq he1]
  clear he1 h1
  refine hK4 _ ?_
  clear hK4 K4
  simp
  refine hK3 _ ?_
  clear hK3 K3
  refine .keep [4] ?_
  simp only [keepE, E_cons, E_nil, reduceIte, Nat.reduceEqDiff]
  refine .ret ?_
  -- leaf 1
  refine ret_d (.inr rfl) rfl (.refl _) rfl (by first | exact OutEq.outer _ | assumption | (simp; done) | (simp; assumption)) ?_
  simp
 ·have hsm := bnF hc1
  simp only [Bool.and_eq_true, decide_eq_true_eq] at hsm
  obtain ⟨⟨⟨hf1, hf2⟩, hf3⟩, hf4⟩ := hsm
  have ht := fewT_ok hf1
  have hn : s.nodes.length ≤ 1000 := by simp [fewS] at hf2; omega
  have he : s.edges.length ≤ 1000 := by simp [fewS] at hf2; omega
  have hg1 : g.nodes.length ≤ 1000000000 := by simp [fewG] at hf3; omega
  have hg2 : g.edges.length ≤ 1000000000 := by simp [fewG] at hf3; omega
  refine .skip ?_
  refine hK2 _ ?_
  clear hK2 K2
  refine .seqk fun K5 hK5 => ?_
  refine .dreg mixed ?_
  refine Dr.cutk 7 fun K6 hK6 => ?_
  simp only [List.take_succ_cons, List.take_zero, List.drop_succ_cons, List.drop_zero]
  simp [-Bool.exists_bool]
  refine Dr.pcall (p41 g hg1 hg2) ?_
  refine hK6 _ _ ?_
  clear hK6 K6
  refine Dr.cutk 2 fun K7 hK7 => ?_
  simp only [List.take_succ_cons, List.take_zero, List.drop_succ_cons, List.drop_zero]
  simp [-Bool.exists_bool]
  refine Dr.pcall (p44 l (by omega)) ?_
  refine hK7 _ _ ?_
  clear hK7 K7
  refine Dr.cutk 1 fun K8 hK8 => ?_
  simp only [List.take_succ_cons, List.take_zero, List.drop_succ_cons, List.drop_zero]
  simp [-Bool.exists_bool]
  refine Dr.pcall (p37 t ht s hn he g l hm) ?_
  refine hK8 _ _ ?_
  clear hK8 K8
  try simp [-Bool.exists_bool]
  refine hK5 _ ?_
  clear hK5 K5
  refine .keep [1, 2, 5, 6] ?_
  simp only [keepE, E_cons, E_nil, reduceIte, Nat.reduceEqDiff]
  refine .seqk fun K9 hK9 => ?_
  refine .reg ?_
  refine Sq.cutk 8 fun K10 hK10 => ?_
  simp only [List.take_succ_cons, List.take_zero, List.drop_succ_cons, List.drop_zero]
  simp
  refine PCall.sq (p58 t ht s hn he g l hm) fun h1 he1 => ?_
  simp only [mergeH_eq he1]
  clear he1 h1
  refine hK10 _ ?_
  clear hK10 K10
  simp
  refine hK9 _ ?_
  clear hK9 K9
  refine .keep [5, 6, 7, 8] ?_
  simp only [keepE, E_cons, E_nil, reduceIte, Nat.reduceEqDiff]
  refine .seqk fun K11 hK11 => ?_
  refine .reg ?_
  simp
  refine hK11 _ ?_
  clear hK11 K11
  refine .keep [4] ?_
  simp only [keepE, E_cons, E_nil, reduceIte, Nat.reduceEqDiff]
  refine .ret ?_
  -- leaf 2
  refine ret_d (.inr rfl) rfl (.refl _) rfl (by first | exact OutEq.outer _ | assumption | (simp; done) | (simp; assumption)) ?_
  simp
theorem p16L (t : Types) (hs : smT t) (s : Stat) (g : Graph) (l : List Oprn) : PCall Tryz.prog 16 [ag (Types.c t ++ Stat.c s ++ Graph.c g), sl (l.map Oprn.c)] (bo true) := fun h =>
 ACall.lens b16.noExt fun hl => p16 t hs s g l (by
  have hm := len_of hl (List.mem_cons_of_mem _ (List.mem_cons_self ..))
  simpa only [List.length_map, maxL] using hm) h
end Go.Abs
