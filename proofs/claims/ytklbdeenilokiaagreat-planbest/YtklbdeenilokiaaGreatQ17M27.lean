/- Contracts of functions of the program, and what they lean on: a part of the proof that planBest_proved stands; no condition. -/
import Derived.Test.YtklbdeenilokiaaGreatProg
import Derived.Test.YtklbdeenilokiaaGreatQ17F48
import Derived.Test.YtklbdeenilokiaaGreatQ17M4
import Derived.Test.YtklbdeenilokiaaGreatQ17M3
import Derived.Test.YtklbdeenilokiaaGreatQ17M17
import Derived.Test.YtklbdeenilokiaaGreatQ17M25
set_option linter.unusedVariables false
set_option linter.unusedSimpArgs false
namespace Go.Abs
open Go Go.Proofs
theorem overI_0 (x : Int) : overI x 0 = 0 := by simp [overI]
theorem overI_z (b : Int) (h : 0 ≤ b) : overI 0 b = 0 := by
 have := overI_bd (a := 0) (b := b) (by omega) h
 omega
theorem overI_1 (x : Int) : overI x 1 = x := by
 have e : x + 1 - 1 = x := by omega
 simp [overI, e]
theorem quoI_eq (a b c : Int) : quoI a b c = min 1000000000 (overI (a * b) c) := by
 unfold quoI overI
 split
 ·rfl
 ·omega
theorem overI_overI {x a b : Int} (hx : 0 ≤ x) (ha : 0 ≤ a) (hb : 0 ≤ b) : overI (overI x a) b = overI x (a * b) := by
 by_cases a0 : a = 0
 ·subst a0; rw [Int.zero_mul, overI_0, overI_z b hb]
 ·by_cases b0 : b = 0
  ·subst b0; rw [Int.mul_zero, overI_0, overI_0]
  ·have ab : 0 < a * b := Int.mul_pos (by omega) (by omega)
   have h1 := (overI_bd hx ha).1
   have e1 : overI x a = (x + a - 1) / a := by rw [tdiv_ov a0, Int.tdiv_eq_ediv_of_nonneg (by omega)]
   have h2 : 0 ≤ (x + a - 1) / a := by rw [← e1]; exact h1
   rw [tdiv_ov b0, e1, tdiv_ov (show a * b ≠ 0 by omega), Int.tdiv_eq_ediv_of_nonneg (by omega), Int.tdiv_eq_ediv_of_nonneg (by omega)]
   have e2 : (x + a - 1) / a + b - 1 = (x + a - 1 + (b - 1) * a) / a := by
    rw [Int.add_mul_ediv_right _ _ a0]; omega
   have e3 : x + a - 1 + (b - 1) * a = x + a * b - 1 := by
    rw [Int.sub_mul, Int.mul_comm b a]; omega
   rw [e2, e3, Int.ediv_ediv_of_nonneg ha]
theorem estI_bd {t : Types} (ht : tOK t) {s : Stat} (hst : statV t s = 0) {g : Graph} {k : Kn} {o : Oprn} {n : Int} (n0 : 0 ≤ n) : 0 ≤ estI t s g k o n ∧ estI t s g k o n ≤ 1000000000 := by
 have hsv := statV_ok hst
 have hN : ∀ i, 0 ≤ nodeC t s g i := by
  intro i
  unfold nodeC
  split
  ·omega
  ·exact (cntN_bd ht hsv _).1
 have hE : ∀ x, 0 ≤ edgeC t s g x := by
  intro x
  unfold edgeC
  split
  ·exact (cntE_bd ht hsv _ _ _).1
  ·omega
 unfold estI
 split
 ·have := Int.mul_nonneg n0 (hN o.el); omega
 ·split
  ·omega
  ·rename_i x _
   have h0 := Int.mul_nonneg n0 (hE x)
   have h1 := (overI_bd h0 (hN x.src)).1
   have h2 := (overI_bd h0 (hN x.tgt)).1
   have h3 := (overI_bd h1 (hN x.tgt)).1
   split
   ·omega
   ·split <;> omega
theorem e219 (t : Types) (ht : tOK t) (s : Stat) (hn : s.nodes.length ≤ 1000) (he : s.edges.length ≤ 1000) (hst : statV t s = 0) (k : Int) (hin : inI k t.nodes.length = true) : PCall Tryz.prog 219 [ag (Types.c t), ag (Stat.c s), int k] (.tup [int (cntN t s.nodes k), int 0]) := by
 have := p219 t ht s hn he k
 rw [nodesN_eq hst hin] at this
 exact this
theorem e221 (t : Types) (ht : tOK t) (s : Stat) (hn : s.nodes.length ≤ 1000) (he : s.edges.length ≤ 1000) (hst : statV t s = 0) (e a b : Int) (h1 : inI e t.edges.length = true) (h2 : inI a t.nodes.length = true) (h3 : inI b t.nodes.length = true) : PCall Tryz.prog 221 [ag (Types.c t), ag (Stat.c s), int e, int a, int b] (.tup [int (cntE t s.edges e a b), int 0]) := by
 have := p221 t ht s hn he e a b
 rw [edgesN_eq hst h1 h2 h3] at this
 exact this
theorem e220 (a b c : Int) (h0 : 0 ≤ a) (h1 : a ≤ 1000000000) (h2 : 0 ≤ b) (h3 : b ≤ 1000) (h4 : 0 ≤ c) (h5 : c ≤ 1000000) : PCall Tryz.prog 220 [int a, int b, int c] (int (min 1000000000 (overI (a * b) c))) := by
 have := p220 a b c h0 h1 h2 h3 h4 h5
 rw [quoI_eq] at this
 exact this
set_option maxHeartbeats 4000000 in
theorem p168 (t : Types) (ht : tOK t) (s : Stat) (hn : s.nodes.length ≤ 1000) (he : s.edges.length ≤ 1000) (hst : statV t s = 0) (g : Graph) (hv : gErr g = 0) (hty : typedB t g = true) (k : Kn) (hf : k.fits g) (o : Oprn) (ho : stepE g k o = 0) (n : Int) (n0 : 0 ≤ n) (n1 : n ≤ 1000000000) : PCall Tryz.prog 168 [ag (Types.c t), ag (Stat.c s), ag (Graph.c g), ag (Kn.c k), int n, ag (Oprn.c o)] (int (estI t s g k o n)) := by
 intro h
 refine ACall.of b168 (by simp) ?_
 unfold c168
 have hsv := statV_ok hst
 obtain ⟨htn, hte⟩ := (Bool.and_eq_true _ _ ▸ hty : g.nodes.all (fun n => inI n t.nodes.length) = true ∧ g.edges.all (fun e => inI e.ty t.edges.length) = true)
 
 refine .seqk fun K1 hK1 => ?_
 refine .reg ?_
 simp
 refine hK1 _ ?_
 clear hK1 K1
 refine .keep [4, 6, 7, 8, 9, 11] ?_
 simp only [keepE, E_cons, E_nil]
 refine .see (upd (upd (upd (upd (upd _ 6 ⟨_, none⟩) 7 ⟨_, none⟩) 8 ⟨_, none⟩) 9 ⟨_, none⟩) 11 ⟨_, none⟩) [(4, _), (6, .dptr (Types.c t)), (7, .dptr (Stat.c s)), (8, .dptr (Graph.c g)), (9, .dptr (Kn.c k)), (11, .dptr (Oprn.c o))] ⟨.refl _, T.box (k := 2) (cs := Types.c t) (by simp [upd]) (by simp [upd]), T.box (k := 2) (cs := Stat.c s) (by simp [upd]) (by simp [upd]), T.box (k := 2) (cs := Graph.c g) (by simp [upd]) (by simp [upd]), T.box (k := 2) (cs := Kn.c k) (by simp [upd]) (by simp [upd]), T.box (k := 2) (cs := Oprn.c o) (by simp [upd]) (by simp [upd]), trivial⟩ (Dies.up (Dies.up (Dies.up (Dies.up (Dies.up (Dies.refl _) (.inr ⟨rfl, Nat.le_refl _⟩)) (.inr ⟨rfl, Nat.le_refl _⟩)) (.inr ⟨rfl, Nat.le_refl _⟩)) (.inr ⟨rfl, Nat.le_refl _⟩)) (.inr ⟨rfl, Nat.le_refl _⟩)) ?_
 try simp only [E_cons, E_nil]
 refine .seqk fun K2 hK2 => ?_
 refine .seqk fun K3 hK3 => ?_
 refine .reg ?_
 simp
 refine hK3 _ ?_
 clear hK3 K3
 refine .keep [4, 6, 7, 8, 9, 11, 24] ?_
 simp only [keepE, E_cons, E_nil]
 refine .condk _ rfl (fun hc1 => ?_) (fun hc1 => ?_)
 ·simp at hc1
  obtain ⟨hz, hy⟩ := stepE_0 hf hv ho
  obtain ⟨hz1, hz2⟩ : 0 ≤ o.el ∧ o.el.toNat < g.nodes.length := by
   refine ⟨hz, ?_⟩
   rcases hy with ⟨_, h1⟩ | ⟨_, h1, _⟩
   ·rw [← hf.1]; exact h1
   ·exact absurd hc1 h1
  obtain ⟨ty, hgt⟩ := get_some hz2
  have hin := List.all_eq_true.1 htn ty (List.mem_of_getElem? hgt)
  have hbd := cntN_bd ht hsv ty
  have hE : estI t s g k o n = min 1000000000 (n * cntN t s.nodes ty) := by simp [estI, hc1, nodeC, hgt]
  refine .seqk fun K4 hK4 => ?_
  refine .dreg mixed ?_
  refine Dr.cutk 9 fun K5 hK5 => ?_
  simp only [zt]
  simp [-Bool.exists_bool, hgt, hz1]
  refine Dr.pcall (e219 t ht s hn he hst ty hin) ?_
  refine hK5 _ _ ?_
  clear hK5 K5
  try simp [-Bool.exists_bool, hgt, hz1]
  refine hK4 _ ?_
  clear hK4 K4
  refine .keep [4, 13] ?_
  simp only [keepE, E_cons, E_nil]
  refine .seqk fun K6 hK6 => ?_
  refine .reg ?_
  refine Sq.cutk 3 fun K7 hK7 => ?_
  simp only [zt]
  simp [overI_1]
  refine PCall.sq (e220 n (cntN t s.nodes ty) 1 n0 n1 hbd.1 (by omega) (by decide) (by decide)) fun h1 he1 => ?_
  simp only [mergeH_eq he1]
  clear he1 h1
  refine hK7 _ ?_
  clear hK7 K7
  simp [overI_1]
  refine hK6 _ ?_
  clear hK6 K6
  refine .keep [12] ?_
  simp only [keepE, E_cons, E_nil]
  refine .ret ?_
  refine ret_z (.inr rfl) rfl rfl ?_
  simp [hE]
 ·simp at hc1
  obtain ⟨hz1, hy⟩ := stepE_0 hf hv ho
  obtain ⟨hk2, x, hx, hz2, hs0, ht0, hs1, ht1⟩ : (o.kind = 2 ∨ o.kind = 3) ∧ ∃ x, g.edges[o.el.toNat]? = some x ∧ o.el.toNat < k.es.length ∧ 0 ≤ x.src ∧ 0 ≤ x.tgt ∧ x.src.toNat < k.ns.length ∧ x.tgt.toNat < k.ns.length := by
   rcases hy with ⟨h1, _⟩ | ⟨h1, _, h2⟩
   ·exact absurd h1 hc1
   ·exact ⟨h1, h2⟩
  obtain ⟨a, hga⟩ : ∃ a, g.nodes[x.src.toNat]? = some a := ⟨g.nodes[x.src.toNat]'(by rw [← hf.1]; exact hs1), by simp⟩
  obtain ⟨b, hgb⟩ : ∃ b, g.nodes[x.tgt.toNat]? = some b := ⟨g.nodes[x.tgt.toNat]'(by rw [← hf.1]; exact ht1), by simp⟩
  obtain ⟨ka, hka⟩ : ∃ ka, k.ns[x.src.toNat]? = some ka := ⟨k.ns[x.src.toNat], by simp⟩
  have hina := List.all_eq_true.1 htn a (List.mem_of_getElem? hga)
  have hinb := List.all_eq_true.1 htn b (List.mem_of_getElem? hgb)
  have hine := List.all_eq_true.1 hte x (List.mem_of_getElem? hx)
  have hba := cntN_bd ht hsv a
  have hbb := cntN_bd ht hsv b
  have hbe := cntE_bd ht hsv x.ty a b
  have hm0 : 0 ≤ n * cntE t s.edges x.ty a b := Int.mul_nonneg n0 hbe.1
  have hab0 : 0 ≤ cntN t s.nodes a * cntN t s.nodes b := Int.mul_nonneg hba.1 hbb.1
  have hab1 : cntN t s.nodes a * cntN t s.nodes b ≤ 40 * 40 := Int.mul_le_mul hba.2 hbb.2 hbb.1 (by decide)
  have wab : IntKind.i64.wrap (cntN t s.nodes a * cntN t s.nodes b) = cntN t s.nodes a * cntN t s.nodes b := wrap64 (by omega) (by omega)
  have hE : estI t s g k o n = min 1000000000 (if o.kind = 3 then overI (n * cntE t s.edges x.ty a b) (cntN t s.nodes a * cntN t s.nodes b) else if ka then overI (n * cntE t s.edges x.ty a b) (cntN t s.nodes a) else overI (n * cntE t s.edges x.ty a b) (cntN t s.nodes b)) := by
   rw [← overI_overI hm0 hba.1 hbb.1]
   simp [estI, hc1, hx, nodeC, edgeC, hga, hgb, endK, hka]
  refine .skip ?_
  refine hK2 _ ?_
  clear hK2 K2
  refine .seqk fun K8 hK8 => ?_
  refine .reg ?_
  simp [hx, hz1]
  refine hK8 _ ?_
  clear hK8 K8
  refine .keep [4, 6, 7, 8, 9, 11, 15] ?_
  simp only [keepE, E_cons, E_nil]
  refine .see (upd _ 15 ⟨_, none⟩) [(4, _), (6, _), (7, _), (8, _), (9, _), (11, _), (15, .dptr (Edge.c x))] ⟨.refl _, .refl _, .refl _, .refl _, .refl _, .refl _, T.box (k := 3) (cs := Edge.c x) (by simp [upd]) (by simp [upd]), trivial⟩ (Dies.up (Dies.refl _) (.inr ⟨rfl, Nat.le_refl _⟩)) ?_
  try simp only [E_cons, E_nil]
  refine .seqk fun K9 hK9 => ?_
  refine .dreg mixed ?_
  refine Dr.cutk 17 fun K10 hK10 => ?_
  simp only [zt]
  simp [-Bool.exists_bool, hga, hgb, hs0, ht0]
  refine Dr.pcall (e221 t ht s hn he hst x.ty a b hine hina hinb) ?_
  refine hK10 _ _ ?_
  clear hK10 K10
  try simp [-Bool.exists_bool, hga, hgb, hs0, ht0]
  refine hK9 _ ?_
  clear hK9 K9
  refine .keep [4, 6, 7, 8, 9, 11, 15, 16] ?_
  simp only [keepE, E_cons, E_nil]
  refine .seqk fun K11 hK11 => ?_
  refine .dreg mixed ?_
  refine Dr.cutk 9 fun K12 hK12 => ?_
  simp only [zt]
  simp [-Bool.exists_bool, hga, hs0]
  refine Dr.pcall (e219 t ht s hn he hst a hina) ?_
  refine hK12 _ _ ?_
  clear hK12 K12
  try simp [-Bool.exists_bool, hga, hs0]
  refine hK11 _ ?_
  clear hK11 K11
  refine .keep [4, 6, 7, 8, 9, 11, 15, 16, 18] ?_
  simp only [keepE, E_cons, E_nil]
  refine .seqk fun K13 hK13 => ?_
  refine .dreg mixed ?_
  refine Dr.cutk 9 fun K14 hK14 => ?_
  simp only [zt]
  simp [-Bool.exists_bool, hgb, ht0]
  refine Dr.pcall (e219 t ht s hn he hst b hinb) ?_
  refine hK14 _ _ ?_
  clear hK14 K14
  try simp [-Bool.exists_bool, hgb, ht0]
  refine hK13 _ ?_
  clear hK13 K13
  refine .keep [4, 9, 11, 15, 16, 18, 20] ?_
  simp only [keepE, E_cons, E_nil]
  refine .seqk fun K15 hK15 => ?_
  refine .seqk fun K16 hK16 => ?_
  refine .reg ?_
  simp
  refine hK16 _ ?_
  clear hK16 K16
  refine .keep [4, 9, 15, 16, 18, 20, 92] ?_
  simp only [keepE, E_cons, E_nil]
  refine .condk _ rfl (fun hc2 => ?_) (fun hc2 => ?_)
  ·simp at hc2
   refine .seqk fun K17 hK17 => ?_
   refine .reg ?_
   refine Sq.cutk 6 fun K18 hK18 => ?_
   simp only [zt]
   simp [wab]
   refine PCall.sq (e220 n (cntE t s.edges x.ty a b) (cntN t s.nodes a * cntN t s.nodes b) n0 n1 hbe.1 (by omega) hab0 (by omega)) fun h1 he1 => ?_
   simp only [mergeH_eq he1]
   clear he1 h1
   refine hK18 _ ?_
   clear hK18 K18
   simp [wab]
   refine hK17 _ ?_
   clear hK17 K17
   refine .keep [12] ?_
   simp only [keepE, E_cons, E_nil]
   refine .ret ?_
   refine ret_z (.inr rfl) rfl rfl ?_
   rw [hE]; simp [hc2]
  ·simp at hc2
   refine .skip ?_
   refine hK15 _ ?_
   clear hK15 K15
   refine .seqk fun K19 hK19 => ?_
   refine .seqk fun K20 hK20 => ?_
   refine .reg ?_
   simp [hka, hs0]
   refine hK20 _ ?_
   clear hK20 K20
   refine .keep [4, 16, 18, 20, 104] ?_
   simp only [keepE, E_cons, E_nil]
   refine .condk _ rfl (fun hc3 => ?_) (fun hc3 => ?_)
   ·skip
    refine .seqk fun K21 hK21 => ?_
    refine .reg ?_
    refine Sq.cutk 4 fun K22 hK22 => ?_
    simp only [zt]
    simp
    refine PCall.sq (e220 n (cntE t s.edges x.ty a b) (cntN t s.nodes a) n0 n1 hbe.1 (by omega) hba.1 (by omega)) fun h1 he1 => ?_
    simp only [mergeH_eq he1]
    clear he1 h1
    refine hK22 _ ?_
    clear hK22 K22
    simp
    refine hK21 _ ?_
    clear hK21 K21
    refine .keep [12] ?_
    simp only [keepE, E_cons, E_nil]
    refine .ret ?_
    refine ret_z (.inr rfl) rfl rfl ?_
    rw [hE]; simp [hc2, hc3]
   ·skip
    refine .skip ?_
    refine hK19 _ ?_
    clear hK19 K19
    refine .seqk fun K23 hK23 => ?_
    refine .reg ?_
    refine Sq.cutk 4 fun K24 hK24 => ?_
    simp only [zt]
    simp
    refine PCall.sq (e220 n (cntE t s.edges x.ty a b) (cntN t s.nodes b) n0 n1 hbe.1 (by omega) hbb.1 (by omega)) fun h1 he1 => ?_
    simp only [mergeH_eq he1]
    clear he1 h1
    refine hK24 _ ?_
    clear hK24 K24
    simp
    refine hK23 _ ?_
    clear hK23 K23
    refine .keep [12] ?_
    simp only [keepE, E_cons, E_nil]
    refine .ret ?_
    refine ret_z (.inr rfl) rfl rfl ?_
    rw [hE]; simp [hc2, hc3]
def costF (t : Types) (s : Stat) (g : Graph) : Kn → Int → Int → List Oprn → Int
 | _, _, c, [] => c
 | k, n, c, o :: l => costF t s g (afterK g k o) (estI t s g k o n) (min 1000000000 (c + estI t s g k o n)) l
def costV (t : Types) (s : Stat) (g : Graph) (l : List Oprn) : Int × Int := if pricedE t s g ≠ 0 then (0, pricedE t s g) else if planE g (freshK g) l ≠ 0 then (0, planE g (freshK g) l) else (costF t s g (freshK g) 1 0 l, 0)
theorem planE_cons {g : Graph} {k : Kn} {o : Oprn} {l : List Oprn} (h : planE g k (o :: l) = 0) : stepE g k o = 0 ∧ planE g (afterK g k o) l = 0 := by
 unfold planE at h
 split at h
 ·rename_i h1; exact absurd h h1
 ·rename_i h1; exact ⟨by simpa using h1, h⟩
theorem pricedE_ok {t : Types} {s : Stat} {g : Graph} (h : pricedE t s g = 0) : statV t s = 0 ∧ gErr g = 0 ∧ typedB t g = true := by
 unfold pricedE at h
 split at h
 ·rename_i h1; exact absurd h h1
 ·split at h
  ·rename_i h1; exact absurd h h1
  ·split at h
   ·rename_i h1 h2 h3; exact ⟨by simpa using h1, by simpa using h2, h3⟩
   ·cases h
set_option maxHeartbeats 1000000 in
theorem p113 (t : Types) (ht : tOK t) (s : Stat) (hn : s.nodes.length ≤ 1000) (he : s.edges.length ≤ 1000) (g : Graph) (hp : pricedE t s g = 0) (l : List Oprn) (hm : l.length ≤ 9223372036854775807) (hl : planE g (freshK g) l = 0) : PCall Tryz.prog 113 [ag (Types.c t), ag (Stat.c s), ag (Graph.c g), sl (l.map Oprn.c)] (int (costF t s g (freshK g) 1 0 l)) := by
 intro h
 refine ACall.of b113 (by simp) ?_
 unfold c113
 obtain ⟨hst, hv, hty⟩ := pricedE_ok hp
 have hgl := gErr_len hv
 refine .seqk fun K1 hK1 => ?_
 refine .reg ?_
 simp
 refine hK1 _ ?_
 clear hK1 K1
 refine .keep [3, 4, 5, 6] ?_
 simp only [keepE, E_cons, E_nil]
 refine .see (upd (upd (upd _ 4 ⟨_, none⟩) 5 ⟨_, none⟩) 6 ⟨_, none⟩) [(3, _), (4, .dptr (Types.c t)), (5, .dptr (Stat.c s)), (6, .dptr (Graph.c g))] ⟨.refl _, T.box (k := 2) (cs := Types.c t) (by simp [upd]) (by simp [upd]), T.box (k := 2) (cs := Stat.c s) (by simp [upd]) (by simp [upd]), T.box (k := 2) (cs := Graph.c g) (by simp [upd]) (by simp [upd]), trivial⟩ (Dies.up (Dies.up (Dies.up (Dies.refl _) (.inr ⟨rfl, Nat.le_refl _⟩)) (.inr ⟨rfl, Nat.le_refl _⟩)) (.inr ⟨rfl, Nat.le_refl _⟩)) ?_
 try simp only [E_cons, E_nil]
 refine .seqk fun K2 hK2 => ?_
 refine .reg ?_
 refine Sq.cutk 2 fun K3 hK3 => ?_
 simp only [zt]
 simp
 refine PCall.sq (p130 g (by omega) (by omega)) fun h1 he1 => ?_
 simp only [mergeH_eq he1]
 clear he1 h1
 refine hK3 _ ?_
 clear hK3 K3
 simp
 refine hK2 _ ?_
 clear hK2 K2
 refine .keep [3, 4, 5, 6, 9, 10, 11] ?_
 simp only [keepE, E_cons, E_nil]
 refine .seqk fun K4 hK4 => ?_
 refine .seqk fun K5 hK5 => ?_
 refine .reg ?_
 simp
 refine hK5 _ ?_
 clear hK5 K5
 refine .keep [3, 4, 5, 6, 9, 10, 11, 12] ?_
 simp only [keepE, E_cons, E_nil]
 refine .block ?_
 refine .count (l).length (fun i st => ∃ k : Kn, ∃ v : Nat, ∃ n : Int, ∃ c : Int, (k.fits g ∧ planE g k (l.drop i) = 0 ∧ costF t s g k n c (l.drop i) = costF t s g (freshK g) 1 0 l ∧ 0 ≤ n ∧ n ≤ 1000000000 ∧ 0 ≤ c ∧ c ≤ 1000000000) ∧ ∃ hh1, (OutEq hh1 h ∧ hh1 9 = ⟨v, some ⟨2, [(Kn.c k).map .d]⟩⟩) ∧ st = ⟨E [(3, sl (l.map Oprn.c)), (4, .dptr (Types.c t)), (5, .dptr (Stat.c s)), (6, .dptr (Graph.c g)), (9, .ptr 9 v 0 0), (10, int n), (11, int c), (12, int i)], hh1⟩) 0 (Nat.zero_le _) _ (.cov (by first | (simp; done) | (simp; rfl) | (simp; exact ⟨rfl, rfl⟩)) (.refl _)) ⟨freshK g, _, 1, 0, ⟨freshK_fits g, by simpa using hl, by simp, by decide, by decide, by decide, by decide⟩, _, ⟨by simp, by simp [upd]⟩, rfl⟩ ?_
 rintro i s hi1 ⟨k, v, n, c, ⟨hf, hpl, hco, n0, n1, c0, c1⟩, hh1, hho1, rfl⟩ K6 hK6
 refine .seqk fun K7 hK7 => ?_
 refine .seqk fun K8 hK8 => ?_
 refine .reg ?_
 simp
 refine hK8 _ ?_
 clear hK8 K8
 refine .keep [3, 4, 5, 6, 9, 10, 11, 12, 18] ?_
 simp only [keepE, E_cons, E_nil]
 refine .condk _ rfl (fun hc1 => ?_) (fun hc1 => ?_)
 ·simp at hc1
  obtain ⟨x, hx1⟩ := get_some hc1
  rw [drop_cons hx1] at hpl hco
  obtain ⟨hs0, hpl2⟩ := planE_cons hpl
  obtain ⟨hho, h9⟩ := hho1
  have hes := estI_bd (o := x) (k := k) (g := g) ht hst n0
  have hw : IntKind.i64.wrap (c + estI t s g k x n) = c + estI t s g k x n := wrap64 (by omega) (by omega)
  refine .skip ?_
  refine hK7 _ ?_
  clear hK7 K7
  refine .seqk fun K9 hK9 => ?_
  refine .block ?_
  refine .seqk fun K10 hK10 => ?_
  refine .dreg mixed ?_
  refine Dr.cutk 10 fun K11 hK11 => ?_
  simp only [zt]
  simp [-Bool.exists_bool, hx1, getBlk, h9]
  refine Dr.pcall (p168 t ht s hn he hst g hv hty k hf x hs0 n n0 n1) ?_
  refine hK11 _ _ ?_
  clear hK11 K11
  try simp [-Bool.exists_bool, hx1, getBlk, h9]
  refine hK10 _ ?_
  clear hK10 K10
  refine .keep [3, 4, 5, 6, 9, 10, 11, 12] ?_
  simp only [keepE, E_cons, E_nil]
  refine .seqk fun K12 hK12 => ?_
  refine .reg ?_
  simp [hw, mm2, mmA, mm_min]
  refine hK12 _ ?_
  clear hK12 K12
  refine .keep [3, 4, 5, 6, 9, 10, 11, 12] ?_
  simp only [keepE, E_cons, E_nil]
  refine .dreg mixed ?_
  refine Dr.cutk 7 fun K13 hK13 => ?_
  simp only [zt]
  simp [-Bool.exists_bool, hx1, getBlk, h9, upd]
  refine Dr.pcall (p131 g k x hf hv hs0) ?_
  refine hK13 _ _ ?_
  clear hK13 K13
  try simp [-Bool.exists_bool, hx1, getBlk, h9, upd]
  refine hK9 _ ?_
  clear hK9 K9
  refine .keep [3, 4, 5, 6, 9, 10, 11, 12] ?_
  simp only [keepE, E_cons, E_nil]
  refine .reg ?_
  simp
  refine hK6 _ _ (by omega) (Wk.cov ?_ (.refl _)) ⟨afterK g k x, v, estI t s g k x n, min 1000000000 (c + estI t s g k x n), ?_, _, ?_, rfl⟩
  ·simp; first | exact ⟨by omega, wrap64 (by omega) (by omega)⟩ | exact ⟨wrap64 (by omega) (by omega), by omega⟩
  ·exact ⟨afterK_fits hf x, hpl2, hco, hes.1, hes.2, by omega, by omega⟩
  ·exact ⟨by simp [hho], by simp [upd]⟩
 ·simp at hc1
  have hi1 : i = l.length := by omega
  subst hi1
  obtain ⟨hho, h9⟩ := hho1
  have hfin : costF t s g (freshK g) 1 0 l = c := by rw [← hco]; simp [costF]
  refine .exit ?_
  try simp only [then', inBlk, if_true, if_false, reduceIte, Nat.reduceEqDiff]
  refine hK4 _ ?_
  clear hK7 hK6 hK4 K7 K6 K4
  refine .seqk fun K14 hK14 => ?_
  refine .reg ?_
  simp
  refine hK14 _ ?_
  clear hK14 K14
  refine .keep [8] ?_
  simp only [keepE, E_cons, E_nil]
  refine .ret ?_
  refine ret_z (.inr rfl) rfl rfl ?_
  simp [hfin]
set_option maxHeartbeats 8000000 in
theorem m37 (t : Types) (ht : tOK t) (s : Stat) (hn : s.nodes.length ≤ 1000) (he : s.edges.length ≤ 1000) (g : Graph) (l : List Oprn) (hm : l.length ≤ 9223372036854775807) : ACall Tryz.prog 37 [ag (Types.c t), ag (Stat.c s), ag (Graph.c g), sl (l.map Oprn.c)] h00 fun r _ => r = .tup [int (costV t s g l).1, int (costV t s g l).2] := by
 refine ACall.of b37 (by simp) ?_
 unfold c37
 rw [outer_h00]
 refine .seqk fun K1 hK1 => ?_
 refine .reg ?_
 simp
 refine hK1 _ ?_
 clear hK1 K1
 refine .keep [3, 4, 5, 6] ?_
 simp only [keepE, E_cons, E_nil]
 refine .see (upd (upd (upd _ 4 ⟨_, none⟩) 5 ⟨_, none⟩) 6 ⟨_, none⟩) [(3, _), (4, .dptr (Types.c t)), (5, .dptr (Stat.c s)), (6, .dptr (Graph.c g))] ⟨.refl _, T.box (k := 2) (cs := Types.c t) (by simp [upd]) (by simp [upd]), T.box (k := 2) (cs := Stat.c s) (by simp [upd]) (by simp [upd]), T.box (k := 2) (cs := Graph.c g) (by simp [upd]) (by simp [upd]), trivial⟩ (Dies.up (Dies.up (Dies.up (Dies.refl _) (.inr ⟨rfl, Nat.le_refl _⟩)) (.inr ⟨rfl, Nat.le_refl _⟩)) (.inr ⟨rfl, Nat.le_refl _⟩)) ?_
 try simp only [E_cons, E_nil]
 refine .seqk fun K2 hK2 => ?_
 refine .reg ?_
 refine Sq.cutk 4 fun K3 hK3 => ?_
 simp only [zt]
 simp
 refine PCall.sq (p84 t ht s hn he g) fun h1 he1 => ?_
 simp only [mergeH_eq he1]
 clear he1 h1
 refine hK3 _ ?_
 clear hK3 K3
 simp
 refine hK2 _ ?_
 clear hK2 K2
 refine .keep [3, 4, 5, 6, 10] ?_
 simp only [keepE, E_cons, E_nil]
 refine .seqk fun K4 hK4 => ?_
 refine .seqk fun K5 hK5 => ?_
 refine .reg ?_
 simp
 refine hK5 _ ?_
 clear hK5 K5
 refine .keep [3, 4, 5, 6, 10, 21] ?_
 simp only [keepE, E_cons, E_nil]
 refine .condk _ rfl (fun hc1 => ?_) (fun hc1 => ?_)
 ·simp at hc1
  obtain ⟨hst, hv, hty⟩ := pricedE_ok hc1
  have hgl := gErr_len hv
  refine .reg ?_
  refine Sq.cutk 3 fun K6 hK6 => ?_
  simp only [zt]
  simp
  refine PCall.sq (p85 g l hv hm) fun h1 he1 => ?_
  simp only [mergeH_eq he1]
  clear he1 h1
  refine hK6 _ ?_
  clear hK6 K6
  simp
  refine hK4 _ ?_
  clear hK4 K4
  refine .keep [3, 4, 5, 6, 10] ?_
  simp only [keepE, E_cons, E_nil]
  refine .seqk fun K7 hK7 => ?_
  refine .seqk fun K8 hK8 => ?_
  refine .reg ?_
  simp
  refine hK8 _ ?_
  clear hK8 K8
  refine .keep [3, 4, 5, 6, 10, 26] ?_
  simp only [keepE, E_cons, E_nil]
  refine .condk _ rfl (fun hc2 => ?_) (fun hc2 => ?_)
  ·simp at hc2
   refine .seqk fun K9 hK9 => ?_
   refine .reg ?_
   simp
   refine hK9 _ ?_
   clear hK9 K9
   refine .keep [8, 9] ?_
   simp only [keepE, E_cons, E_nil]
   refine .ret ?_
   try simp only [then', inBlk]
   refine ret_m (.inr rfl) (r := .tup [int (costV t s g l).1, int (costV t s g l).2]) (by simp [costV, hc1, hc2]) (by simp) rfl
  ·simp at hc2
   refine .skip ?_
   refine hK7 _ ?_
   clear hK7 K7
   refine .seqk fun K10 hK10 => ?_
   refine .reg ?_
   refine Sq.cutk 2 fun K11 hK11 => ?_
   simp only [zt]
   simp
   refine ACall.mono (m86 g _ (by omega) (by omega) (by simp [upd, h00_at]) (by simp [upd, h00_at])) ?_
   rintro _ h1 ⟨v1, v2, c1, c2, rfl, he1⟩
   rw [mergeH_upd2 he1 (by decide) (by decide)]
   clear he1 h1
   refine hK11 _ ?_
   clear hK11 K11
   simp
   refine hK10 _ ?_
   clear hK10 K10
   refine .keep [3, 4, 5, 6, 11] ?_
   simp only [keepE, E_cons, E_nil]
   refine .seqk fun K12 hK12 => ?_
   refine .reg ?_
   simp
   refine hK12 _ ?_
   clear hK12 K12
   refine .keep [3, 4, 5, 6, 11, 12, 13] ?_
   simp only [keepE, E_cons, E_nil]
   refine .seqk fun K13 hK13 => ?_
   refine .seqk fun K14 hK14 => ?_
   refine .reg ?_
   simp
   refine hK14 _ ?_
   clear hK14 K14
   refine .keep [4, 5, 6, 11, 12, 13, 30, 31, 32] ?_
   simp only [keepE, E_cons, E_nil]
   refine .block ?_
   refine .count (l).length (fun i st => ∃ k : Kn, ∃ v : Nat, ∃ v1 : Nat, ∃ v2 : Nat, ∃ c1 : Nat, ∃ c2 : Nat, ∃ n : Int, ∃ c : Int, (k.fits g ∧ planE g k (l.drop i) = 0 ∧ costF t s g k n c (l.drop i) = costF t s g (freshK g) 1 0 l ∧ 0 ≤ n ∧ n ≤ 1000000000 ∧ 0 ≤ c ∧ c ≤ 1000000000) ∧ ∃ hh1, (hh1 1000001 = ⟨v1, some ⟨1, dl (k.ns.map Bo.c)⟩⟩ ∧ hh1 1000002 = ⟨v2, some ⟨1, dl (k.es.map Bo.c)⟩⟩ ∧ hh1 11 = ⟨v, some ⟨2, [[.sl 1000001 v1 0 k.ns.length c1, .sl 1000002 v2 0 k.es.length c2]]⟩⟩) ∧ st = ⟨E [(4, .dptr (Types.c t)), (5, .dptr (Stat.c s)), (6, .dptr (Graph.c g)), (11, .ptr 11 v 0 0), (12, int n), (13, int c), (30, sl (l.map Oprn.c)), (31, int (l.length : Int)), (32, int i)], hh1⟩) 0 (Nat.zero_le _) _ (.cov (by first | (simp; done) | (simp; rfl) | (simp; exact ⟨rfl, rfl⟩)) (.refl _)) ⟨freshK g, _, v1, v2, c1, c2, 1, 0, ⟨freshK_fits g, by simpa using hc2, by simp, by decide, by decide, by decide, by decide⟩, _, ⟨by simp [upd], by simp [upd], by simp [upd]⟩, rfl⟩ ?_
   rintro i s hi1 ⟨k, v, v1, v2, c1, c2, n, c, ⟨hf, hpl, hco, n0, n1, c0, c1b⟩, hh1, hho1, rfl⟩ K15 hK15
   refine .seqk fun K16 hK16 => ?_
   refine .reg ?_
   simp
   refine hK16 _ ?_
   clear hK16 K16
   refine .keep [4, 5, 6, 11, 12, 13, 30, 31, 32, 33] ?_
   simp only [keepE, E_cons, E_nil]
   refine .seqk fun K17 hK17 => ?_
   refine .condk _ rfl (fun hc3 => ?_) (fun hc3 => ?_)
   ·simp at hc3
    obtain ⟨x, hx1⟩ := get_some hc3
    rw [drop_cons hx1] at hpl hco
    obtain ⟨hs0, hpl2⟩ := planE_cons hpl
    obtain ⟨e1, e2, h11⟩ := hho1
    have hes := estI_bd (o := x) (k := k) (g := g) ht hst n0
    have hsk : stepK g k x = afterK g k x := by simp [stepK, hs0]
    have haf := afterK_fits hf x
    have hw : IntKind.i64.wrap (c + estI t s g k x n) = c + estI t s g k x n := wrap64 (by omega) (by omega)
    refine .skip ?_
    refine hK17 _ ?_
    clear hK17 K17
    refine .seqk fun K18 hK18 => ?_
    refine .block ?_
    refine .seqk fun K19 hK19 => ?_
    refine .reg ?_
    simp [hx1]
    refine hK19 _ ?_
    clear hK19 K19
    refine .keep [4, 5, 6, 11, 12, 13, 15, 30, 31, 32] ?_
    simp only [keepE, E_cons, E_nil]
    refine .see (upd _ 15 ⟨_, none⟩) [(4, _), (5, _), (6, _), (11, _), (12, _), (13, _), (15, .dptr (Oprn.c x)), (30, _), (31, _), (32, _)] ⟨.refl _, .refl _, .refl _, .refl _, .refl _, .refl _, T.box (k := 2) (cs := Oprn.c x) (by simp [upd]) (by simp [upd]), .refl _, .refl _, .refl _, trivial⟩ (Dies.up (Dies.refl _) (.inr ⟨rfl, Nat.le_refl _⟩)) ?_
    try simp only [E_cons, E_nil]
    refine .seqk fun K20 hK20 => ?_
    refine .reg ?_
    refine Sq.cutk 7 fun K21 hK21 => ?_
    simp only [zt]
    simp [getBlk, upd, h11]
    refine ACall.mono (m87 t ht s hn he hst g hv hty k hf x hs0 n n0 n1 _ v1 v2 c1 c2 (by simp [upd, e1]) (by simp [upd, e2])) ?_
    rintro _ h1 ⟨rfl, he1⟩
    simp only [mergeH_eq he1]
    clear he1 h1
    refine hK21 _ ?_
    clear hK21 K21
    simp [getBlk, upd, h11]
    refine hK20 _ ?_
    clear hK20 K20
    refine .keep [4, 5, 6, 11, 12, 13, 15, 30, 31, 32] ?_
    simp only [keepE, E_cons, E_nil]
    refine .seqk fun K22 hK22 => ?_
    refine .reg ?_
    simp [hw, mm2, mmA, mm_min]
    refine hK22 _ ?_
    clear hK22 K22
    refine .keep [4, 5, 6, 11, 12, 13, 15, 30, 31, 32] ?_
    simp only [keepE, E_cons, E_nil]
    refine .reg ?_
    simp [getBlk, upd, h11]
    refine ACall.mono (m88 g k x _ v1 v2 c1 c2 hf hv (by simp [upd, e1]) (by simp [upd, e2])) ?_
    rintro _ h1 ⟨rfl, he1⟩
    rw [mergeH_upd2 he1 (by decide) (by decide)]
    clear he1 h1
    try simp [getBlk, upd, h11]
    refine hK18 _ ?_
    clear hK18 K18
    refine .keep [4, 5, 6, 11, 12, 13, 30, 31, 32] ?_
    simp only [keepE, E_cons, E_nil]
    refine .reg ?_
    simp
    refine hK15 _ _ (by omega) (Wk.cov ?_ (.refl _)) ⟨afterK g k x, v, v1, v2, c1, c2, estI t s g k x n, min 1000000000 (c + estI t s g k x n), ?_, _, ?_, rfl⟩
    ·simp; exact wrap64 (by omega) (by omega)
    ·exact ⟨haf, hpl2, hco, hes.1, hes.2, by omega, by omega⟩
    ·exact ⟨by simp [upd, hsk], by simp [upd, hsk], by simp [upd, h11, haf.1, haf.2, hf.1, hf.2]⟩
   ·simp at hc3
    have hi1 : i = l.length := by omega
    subst hi1
    have hfin : costF t s g (freshK g) 1 0 l = c := by rw [← hco]; simp [costF]
    refine .exit ?_
    try simp only [then', inBlk, if_true, if_false, reduceIte, Nat.reduceEqDiff]
    refine hK13 _ ?_
    clear hK17 hK15 hK13 K17 K15 K13
    refine .seqk fun K23 hK23 => ?_
    refine .reg ?_
    simp
    refine hK23 _ ?_
    clear hK23 K23
    refine .keep [8, 9] ?_
    simp only [keepE, E_cons, E_nil]
    refine .ret ?_
    try simp only [then', inBlk]
    refine ret_m (.inr rfl) (r := .tup [int (costV t s g l).1, int (costV t s g l).2]) (by simp [costV, hc1, hc2, hfin]) (by simp) rfl
 ·simp at hc1
  refine .skip ?_
  refine hK4 _ ?_
  clear hK4 K4
  refine .seqk fun K24 hK24 => ?_
  refine .seqk fun K25 hK25 => ?_
  refine .reg ?_
  simp
  refine hK25 _ ?_
  clear hK25 K25
  refine .keep [3, 4, 5, 6, 10, 26] ?_
  simp only [keepE, E_cons, E_nil]
  refine .condk _ rfl (fun hc2 => ?_) (fun hc2 => ?_)
  ·simp at hc2
   refine .seqk fun K26 hK26 => ?_
   refine .reg ?_
   simp
   refine hK26 _ ?_
   clear hK26 K26
   refine .keep [8, 9] ?_
   simp only [keepE, E_cons, E_nil]
   refine .ret ?_
   try simp only [then', inBlk]
   refine ret_m (.inr rfl) (r := .tup [int (costV t s g l).1, int (costV t s g l).2]) (by simp [costV, hc1]) (by simp) rfl
  ·simp at hc2; exact absurd hc2 hc1
theorem p37 (t : Types) (ht : tOK t) (s : Stat) (hn : s.nodes.length ≤ 1000) (he : s.edges.length ≤ 1000) (g : Graph) (l : List Oprn) (hm : l.length ≤ 9223372036854775807) : PCall Tryz.prog 37 [ag (Types.c t), ag (Stat.c s), ag (Graph.c g), sl (l.map Oprn.c)] (.tup [int (costV t s g l).1, int (costV t s g l).2]) := PCall.frame rfl rfl (m37 t ht s hn he g l hm)
end Go.Abs
/- A nil row in a cell of a block, seen as an empty row of a block of its own; regions by their meaning at the end of a code. -/
set_option linter.unusedVariables false
set_option linter.unusedSimpArgs false
namespace Go.Abs
theorem Wk.nilC {env : Env} {h : Heap} (b v k : Nat) (cs : List AV) (j B u kB : Nat) (hb : h b = ⟨v, some ⟨k, [cs]⟩⟩) (hj : cs[j]? = some (.d .nil)) (hB : (h B).live = none) (hk : 0 < kB) (hu : (h B).ver < u) (ho : lim ≤ b → lim ≤ B) :
  Wk ⟨env, h⟩ ⟨env, upd (upd h b ⟨v, some ⟨k, [cs.set j (.sl B u 0 0 0)]⟩⟩) B ⟨u, some ⟨kB, []⟩⟩⟩ := by
 have hne : B ≠ b := by intro e; subst e; rw [hb] at hB; cases hB
 have eB : upd (upd h b ⟨v, some ⟨k, [cs.set j (.sl B u 0 0 0)]⟩⟩) B ⟨u, some ⟨kB, []⟩⟩ B = ⟨u, some ⟨kB, []⟩⟩ := upd_same _ _ _
 have eb : upd (upd h b ⟨v, some ⟨k, [cs.set j (.sl B u 0 0 0)]⟩⟩) B ⟨u, some ⟨kB, []⟩⟩ b = ⟨v, some ⟨k, [cs.set j (.sl B u 0 0 0)]⟩⟩ := by rw [upd_ne _ _ _ _ (fun e => hne e.symm), upd_same]
 have eo : ∀ c, c ≠ B → c ≠ b → upd (upd h b ⟨v, some ⟨k, [cs.set j (.sl B u 0 0 0)]⟩⟩) B ⟨u, some ⟨kB, []⟩⟩ c = h c := fun c h1 h2 => by rw [upd_ne _ _ _ _ h1, upd_ne _ _ _ _ h2]
 refine .of (fun c => if c = B then none else some c) ⟨fun c hc => ?_, fun c hc => ?_, fun c c' d h1 h2 h3 h4 => ?_, fun c x h1 h2 => ?_, fun c x d h1 h2 => ?_⟩ (fun t => .refl _) ?_
 ·show (h c).ver ≤ (upd (upd h b ⟨v, some ⟨k, [cs.set j (.sl B u 0 0 0)]⟩⟩) B ⟨u, some ⟨kB, []⟩⟩ c).ver
  by_cases h1 : c = B
  ·subst h1; rw [eB]; exact Nat.le_of_lt hu
  ·by_cases h2 : c = b
   ·subst h2; rw [eb, hb]; exact Nat.le_refl _
   ·rw [eo c h1 h2]; exact Nat.le_refl _
 ·show _ ∧ (upd (upd h b ⟨v, some ⟨k, [cs.set j (.sl B u 0 0 0)]⟩⟩) B ⟨u, some ⟨kB, []⟩⟩ c).ver = (h c).ver ∨ (h c).ver < (upd (upd h b ⟨v, some ⟨k, [cs.set j (.sl B u 0 0 0)]⟩⟩) B ⟨u, some ⟨kB, []⟩⟩ c).ver
  by_cases h1 : c = B
  ·subst h1; right; rw [eB]; exact hu
  ·left
   refine ⟨by simp [h1], ?_⟩
   by_cases h2 : c = b
   ·subst h2; rw [eb, hb]
   ·rw [eo c h1 h2]
 ·split at h3 <;> split at h4 <;> simp at h3 h4 <;> omega
 ·have h1' : (upd (upd h b ⟨v, some ⟨k, [cs.set j (.sl B u 0 0 0)]⟩⟩) B ⟨u, some ⟨kB, []⟩⟩ c).live = some x := h1
  split at h2
  ·rename_i hc
   rw [hc, eB] at h1'
   simp only [Option.some.injEq] at h1'
   subst h1'
   exact ⟨rfl, hk⟩
  ·cases h2
 ·have h1' : (upd (upd h b ⟨v, some ⟨k, [cs.set j (.sl B u 0 0 0)]⟩⟩) B ⟨u, some ⟨kB, []⟩⟩ c).live = some x := h1
  split at h2
  ·cases h2
  ·rename_i hc
   simp only [Option.some.injEq] at h2
   subst h2
   by_cases h2 : c = b
   ·subst h2
    rw [eb] at h1'
    simp only [Option.some.injEq] at h1'
    subst h1'
    refine ⟨⟨k, [cs]⟩, by show (h c).live = _; rw [hb], rfl, fun i y hy => ?_⟩
    cases i with
    | zero =>
     simp at hy
     subst hy
     refine ⟨cs, rfl, by simp, fun q a ha => ?_⟩
     by_cases hq : j = q
     ·subst hq
      have hl : j < cs.length := (List.getElem?_eq_some_iff.1 hj).1
      rw [List.getElem?_set_self hl] at ha
      cases ha
      refine ⟨.d .nil, hj, ?_⟩
      have := T.nilS (h := h) (h' := upd (upd h c ⟨v, some ⟨k, [cs.set j (.sl B u 0 0 0)]⟩⟩) B ⟨u, some ⟨kB, []⟩⟩) (src := fun c => if c = B then none else some c) B (by rw [eB]; rfl) (by simp)
      rwa [eB] at this
     ·rw [List.getElem?_set_ne hq] at ha
      exact ⟨a, ha, .refl a⟩
    | succ i => simp at hy
   ·rw [eo c hc h2] at h1'
    exact ⟨x, h1', rfl, fun i y hy => ⟨y, hy, rfl, fun j a ha => ⟨a, ha, .refl a⟩⟩⟩
 ·intro hoo c x hc hx
  have hx' : (upd (upd h b ⟨v, some ⟨k, [cs.set j (.sl B u 0 0 0)]⟩⟩) B ⟨u, some ⟨kB, []⟩⟩ c).live = some x := hx
  by_cases h1 : c = B
  ·rw [h1, eB] at hx'
   simp only [Option.some.injEq] at hx'
   subst hx'
   intro y hy
   cases hy
  ·by_cases h2 : c = b
   ·subst h2
    rw [eb] at hx'
    simp only [Option.some.injEq] at hx'
    subst hx'
    intro y hy a ha
    simp at hy
    subst hy
    rcases List.mem_or_eq_of_mem_set ha with ha | ha
    ·exact hoo c ⟨k, [cs]⟩ hc (by show (h c).live = _; rw [hb]) cs (by simp) a ha
    ·subst ha
     simp only [outOnly, decide_eq_true_eq]
     exact ho hc
   ·rw [eo c h1 h2] at hx'
    exact hoo c x hc hx'
theorem AW.nilC {P : Program} {N : Nat} {c : ACode} {Q : AX → St → Prop} {env : Env} {h : Heap} (b v k : Nat) (cs : List AV) (j B u kB : Nat) (hb : h b = ⟨v, some ⟨k, [cs]⟩⟩) (hj : cs[j]? = some (.d .nil)) (hB : (h B).live = none) (hk : 0 < kB) (hu : (h B).ver < u) (ho : lim ≤ b → lim ≤ B)
  (hw : AW P N c Q ⟨env, upd (upd h b ⟨v, some ⟨k, [cs.set j (.sl B u 0 0 0)]⟩⟩) B ⟨u, some ⟨kB, []⟩⟩⟩) : AW P N c Q ⟨env, h⟩ := .weak (Wk.nilC b v k cs j B u kB hb hj hB hk hu ho) hw
end Go.Abs
/- A call that only computes, lent a row of the caller's heap: it may be handed the row itself where its contract speaks of data, if it hands back numbers alone. -/
set_option linter.unusedVariables false
set_option linter.unusedSimpArgs false
namespace Go.Abs
/-- An empty row of a living block is an empty row. -/
theorem VR.emp {w : World} {F : Nat → Prop} {G : Pl} {b ver i cap : Nat} {bd : Bd} {v : Value} (hb : G b = (ver, some bd)) (h : VR w F G (.sl b ver i 0 cap) v) : VR w F G (.d (.slice [])) v := by
 cases h with
 | slX _ _ _ _ _ a m c h =>
  exfalso
  rw [hb] at h
  rcases h with h | ⟨_, h⟩
  ·exact Nat.lt_irrefl _ h
  ·cases h
 | slN => exact .d _ _ (.none _ _)
 | sl => exact .d _ _ (.none _ _)
theorem ACall.emp {P : Program} {f : FuncId} {us us' : List AV} {h : Heap} {Q : AV → Heap → Prop} {B v i c : Nat} {blk : Blk} (hB : lim ≤ B) (hb : h B = ⟨v, some blk⟩) (hc : ACall P f (us ++ .d (.slice []) :: us') h Q) : ACall P f (us ++ .sl B v i 0 c :: us') h Q := by
 refine ⟨hc.1, fun w X ι vs h1 h2 h3 h4 => hc.2 w X ι vs h1 h2 (by simpa using h3) fun j a x hj hx => ?_⟩
 by_cases hj2 : j = us.length
 ·subst hj2
  rw [List.getElem?_append_right (Nat.le_refl _)] at hj
  simp at hj
  subst hj
  have := h4 us.length (.sl B v i 0 c) x (by rw [List.getElem?_append_right (Nat.le_refl _)]; simp) hx
  exact this.emp (bd := ι B) (by simp [place, outer, show ¬ B < 1000000 from Nat.not_lt.2 hB, hb])
 ·refine h4 j a x ?_ hx
  by_cases hlt : j < us.length
  ·rw [List.getElem?_append_left hlt] at hj ⊢; exact hj
  ·rw [List.getElem?_append_right (by omega)] at hj ⊢
   obtain ⟨q, hq⟩ : ∃ q, j - us.length = q + 1 := ⟨j - us.length - 1, by omega⟩
   rw [hq] at hj ⊢
   simpa using hj
end Go.Abs
set_option linter.unusedVariables false
set_option linter.unusedSimpArgs false
namespace Go.Abs
open Go Go.Proofs
theorem outerB (h : Heap) {b : Nat} (hb : lim ≤ b) : outer h b = h b := by simp only [outer, Nat.not_lt.2 hb, if_false]
theorem Dn.app {P : Program} : ∀ {a : List GOp} {als : List Alt} {b : List GOp} {s : St} {K : St → List Fp → Prop}, Dn P als a s (fun s1 fs1 => Dn P (als.drop a.length) b s1 fun s2 fs2 => K s2 (fs1 ++ fs2)) → Dn P als (a ++ b) s K
 | [], als, b, s, K, h => by simpa using h
 | o :: a, als, b, s, K, h => by
  have hd : ∀ n, als.tail.drop n = als.drop (n + 1) := fun n => by simp
  rw [List.cons_append]
  unfold Dn at h ⊢
  split
  ·rename_i hg; rw [hg] at h; exact Dn.app (by simpa [hd] using h)
  ·rename_i hg
   rw [hg] at h
   simp only at h
   split
   ·rename_i hc
    rw [hc] at h
    simp only at h
    split
    ·rename_i f args hf
     rw [hf] at h
     obtain ⟨pu, r, ws, h1, h2⟩ := h
     exact ⟨pu, r, ws, h1, Dn.app (by simpa [hd] using h2)⟩
    ·rename_i hf; rw [hf] at h; exact h
   ·rename_i hc
    rw [hc] at h
    simp only at h
    split
    ·rename_i e he
     rw [he] at h
     simp only at h
     split
     ·rename_i v ws rd halt
      rw [halt] at h
      exact ⟨h.1, Dn.app (by simpa [hd] using h.2)⟩
     ·rename_i halt; rw [halt] at h; exact h
    ·rename_i he; rw [he] at h; exact h
  ·rename_i hg; rw [hg] at h; exact h
theorem Dn.cutk {P : Program} (n : Nat) {ops : List GOp} {als : List Alt} {s : St} {K : St → List Fp → Prop} (h : ∀ K' : St → List Fp → Prop, (∀ s' fs, Dn P (als.drop (ops.take n).length) (ops.drop n) s' (fun s2 fs2 => K s2 (fs ++ fs2)) → K' s' fs) → Dn P als (ops.take n) s K') : Dn P als ops s K := by
 have := Dn.app (h _ fun _ _ h => h)
 rwa [List.take_append_drop] at this
theorem PCall.nc {P : Program} {f : FuncId} {args : List AV} {r : AV} (hc : PCall P f args r) {h : Heap} {K : Bool → AV → List (Nat × HB) → Prop} (hk : K true r []) : ∃ pu r ws, NC P f args h pu r ws ∧ K pu r ws :=
 ⟨true, r, [], ⟨by simp, fun h1 _ _ => hc h1⟩, hk⟩
theorem ACall.nc {P : Program} {f : FuncId} {args : List AV} {r : AV} {ws : List (Nat × HB)} {h : Heap} (hw : ∀ p ∈ ws, lim ≤ p.1) (hc : ∀ h1, (∀ p ∈ ws, h1 p.1 = h p.1) → ACall P f args h1 fun r' h' => r' = r ∧ OutEq h' (appws ws h1)) {K : Bool → AV → List (Nat × HB) → Prop} (hk : K true r ws) : ∃ pu r ws, NC P f args h pu r ws ∧ K pu r ws :=
 ⟨true, r, ws, ⟨hw, fun h1 _ h2 => hc h1 h2⟩, hk⟩
theorem ACall.nilA {P : Program} {f : FuncId} {us us' : List AV} {h : Heap} {Q : AV → Heap → Prop} (hc : ACall P f (us ++ .d (.slice []) :: us') h Q) : ACall P f (us ++ .d .nil :: us') h Q := by
 refine ⟨hc.1, fun w X ι vs h1 h2 h3 h4 => hc.2 w X ι vs h1 h2 (by simpa using h3) fun j a x hj hx => ?_⟩
 by_cases hj2 : j = us.length
 ·subst hj2
  rw [List.getElem?_append_right (Nat.le_refl _)] at hj
  simp at hj
  subst hj
  have := h4 us.length (.d .nil) x (by rw [List.getElem?_append_right (Nat.le_refl _)]; simp) hx
  cases this with
  | d _ _ hd => cases hd; exact .d _ _ (.none _ _)
 ·refine h4 j a x ?_ hx
  by_cases hlt : j < us.length
  ·rw [List.getElem?_append_left hlt] at hj ⊢; exact hj
  ·rw [List.getElem?_append_right (by omega)] at hj ⊢
   obtain ⟨q, hq⟩ : ∃ q, j - us.length = q + 1 := ⟨j - us.length - 1, by omega⟩
   rw [hq] at hj ⊢
   simpa using hj
theorem PCall.nilA {P : Program} {f : FuncId} {us us' : List AV} {r : AV} (hc : PCall P f (us ++ .d (.slice []) :: us') r) : PCall P f (us ++ .d .nil :: us') r := fun h => (hc h).nilA
def bnd (g : Graph) (q : Nat) : Nat := if q = 0 then g.nodes.length else g.edges.length
def opsI (q i : Nat) : List Oprn := (List.range i).map fun (j : Nat) => (⟨(q : Int) + 1, (j : Int)⟩ : Oprn)
def opsK (g : Graph) : Nat → List Oprn
 | 0 => []
 | q + 1 => opsK g q ++ opsI q (bnd g q)
def opsL (g : Graph) : List Oprn := opsK g 3
theorem opsI_s (q i : Nat) : opsI q (i + 1) = opsI q i ++ [⟨(q : Int) + 1, (i : Int)⟩] := by simp [opsI, List.range_succ]
theorem opsI_len (q i : Nat) : (opsI q i).length = i := by simp [opsI]
theorem bnd_le (g : Graph) (q : Nat) : bnd g q ≤ maxN g := by unfold bnd maxN; split <;> omega
theorem opsK_len (g : Graph) : ∀ q, (opsK g q).length ≤ q * maxN g
 | 0 => by simp [opsK]
 | q + 1 => by
  have h1 := opsK_len g q
  have h2 := bnd_le g q
  simp only [opsK, List.length_append, opsI_len, Nat.succ_mul]
  omega
theorem p169 (g : Graph) (hv : gErr g = 0) : PCall Tryz.prog 169 [ag (Graph.c g)] (sl ((opsL g).map Oprn.c)) := by
 intro h
 refine ACall.of b169 (by simp) ?_
 unfold c169
 refine .seqk fun K1 hK1 => ?_
 refine .reg ?_
 simp
 refine hK1 _ ?_
 clear hK1 K1
 refine .keep [1] ?_
 simp only [keepE, E_cons, E_nil]
 refine .see (upd _ 1 ⟨_, none⟩) [(1, .dptr (Graph.c g))] ⟨T.box (k := 2) (cs := Graph.c g) (by simp [upd]) (by simp [upd]), trivial⟩ (Dies.up (Dies.refl _) (.inr ⟨rfl, Nat.le_refl _⟩)) ?_
 try simp only [E_cons, E_nil]
 refine .seqk fun K2 hK2 => ?_
 refine .reg ?_
 simp
 refine hK2 _ ?_
 clear hK2 K2
 refine .keep [1, 3] ?_
 simp only [keepE, E_cons, E_nil]
 refine .seqk fun K3 hK3 => ?_
 refine .seqk fun K4 hK4 => ?_
 refine .reg ?_
 simp
 refine hK4 _ ?_
 clear hK4 K4
 refine .keep [1, 3, 4] ?_
 simp only [keepE, E_cons, E_nil]
 refine .block ?_
 refine .count 3 (fun q st => ∃ x hh, OutEq hh h ∧ rowOK 28 2 hh x ((opsK g q).map Oprn.c) ∧ st = ⟨E [(4, int ((q : Int) + 1)), (3, x), (1, .dptr (Graph.c g))], hh⟩) 0 (Nat.zero_le _) _ (.cov (by simp) (.refl _)) ⟨.d .nil, _, by simp, .inl ⟨rfl, rfl⟩, rfl⟩ ?_
 rintro q s hi1 ⟨x, hh, hho, hr, rfl⟩ K5 hK5
 refine .seqk fun K6 hK6 => ?_
 refine .seqk fun K7 hK7 => ?_
 refine .reg ?_
 simp
 refine hK7 _ ?_
 clear hK7 K7
 refine .keep [1, 3, 4, 8] ?_
 simp only [keepE, E_cons, E_nil]
 refine .condk _ rfl (fun hc1 => ?_) (fun hc1 => ?_)
 ·simp at hc1
  refine .skip ?_
  refine hK6 _ ?_
  clear hK6 K6
  refine .seqk fun K8 hK8 => ?_
  refine .block ?_
  refine .seqk fun K9 hK9 => ?_
  refine .reg ?_
  simp
  refine hK9 _ ?_
  clear hK9 K9
  refine .keep [1, 3, 4, 5] ?_
  simp only [keepE, E_cons, E_nil]
  refine .seqj (fun hh => hh) (fun ee => [(1, ee 1), (3, ee 3), (4, ee 4), (5, int (bnd g q : Nat))]) (fun K10 hK10 => ?_) ?_
  ·refine .seqk fun K11 hK11 => ?_
   refine .reg ?_
   simp
   refine hK11 _ ?_
   clear hK11 K11
   refine .keep [1, 3, 4, 5, 15] ?_
   simp only [keepE, E_cons, E_nil]
   refine .condk _ rfl (fun hc2 => ?_) (fun hc2 => ?_)
   ·simp at hc2
    have hq0 : q = 0 := by omega
    refine .reg ?_
    simp
    refine hK10 _ (Wk.cov ?_ (.refl _))
    simp [bnd, hq0]
   ·simp at hc2
    have hq0 : ¬ q = 0 := by omega
    refine .skip ?_
    refine hK10 _ (Wk.cov ?_ (.refl _))
    simp [bnd, hq0]
  try simp only [E_cons, E_nil]
  refine .seqk fun K12 hK12 => ?_
  refine .reg ?_
  simp
  refine hK12 _ ?_
  clear hK12 K12
  refine .keep [1, 3, 4, 19, 20] ?_
  simp only [keepE, E_cons, E_nil]
  refine .block ?_
  refine .count (bnd g q) (fun i st => ∃ x hh, OutEq hh h ∧ rowOK 28 2 hh x ((opsK g q ++ opsI q i).map Oprn.c) ∧ st = ⟨E [(20, int i), (19, int (bnd g q : Nat)), (4, int ((q : Int) + 1)), (3, x), (1, .dptr (Graph.c g))], hh⟩) 0 (Nat.zero_le _) _ (.cov (by simp) (.refl _)) ⟨x, hh, hho, by simpa [opsI] using hr, rfl⟩ ?_
  rintro i s hi2 ⟨x, hh, hho, hr, rfl⟩ K13 hK13
  refine .seqk fun K14 hK14 => ?_
  refine .reg ?_
  simp
  refine hK14 _ ?_
  clear hK14 K14
  refine .keep [1, 3, 4, 19, 20, 21] ?_
  simp only [keepE, E_cons, E_nil]
  refine .seqk fun K15 hK15 => ?_
  refine .condk _ rfl (fun hc3 => ?_) (fun hc3 => ?_)
  ·simp at hc3
   have hmx := maxN_le hv
   have hb1 := opsK_len g q
   have hq3 : q * maxN g ≤ 3 * maxN g := Nat.mul_le_mul_right _ (by omega)
   have hb2 := bnd_le g q
   refine .skip ?_
   refine hK15 _ ?_
   clear hK15 K15
   refine .seqk fun K16 hK16 => ?_
   refine .block ?_
   refine .seqk fun K17 hK17 => ?_
   refine .reg ?_
   simp
   refine hK17 _ ?_
   clear hK17 K17
   refine .keep [1, 3, 4, 6, 19, 20] ?_
   simp only [keepE, E_cons, E_nil]
   refine .regvx (α := Nat × Nat) (fun x2 => True) (fun x2 hh => upd (upd hh 27 ⟨(hh 27).ver + 1, none⟩) 28 ⟨x2.1, some ⟨2, dl ((opsK g q ++ opsI q (i + 1)).map Oprn.c)⟩⟩) (fun x2 ee => [(1, ee 1), (3, .sl 28 x2.1 0 ((opsK g q ++ opsI q i).length + 1) x2.2), (4, ee 4), (19, ee 19), (20, ee 20)]) ?_ (fun x2 hx s hs => ?_)
   ·have key : dl ((opsK g q ++ opsI q (i + 1)).map Oprn.c) = dl ((opsK g q ++ opsI q i).map Oprn.c) ++ [[.d (.int .i64 ((q : Int) + 1)), .d (.int .i64 i)]] := by
     rw [opsI_s, ← List.append_assoc, List.map_append]
     simp only [List.map_cons, List.map_nil, dl_snoc]
     rfl
    have hlen : (opsK g q ++ opsI q i).length ≤ 100000 := by rw [List.length_append, opsI_len]; omega
    rw [key]
    generalize opsK g q ++ opsI q i = L at *
    rcases hr with ⟨rfl, hx0⟩ | ⟨v, c, rfl, h55⟩
    ·have hL : L = [] := by simpa using hx0
     subst hL
     simp [upd, getBlk, srcOf]
     exact Dies.up (Dies.up (Dies.refl _) (.inr ⟨rfl, Nat.le_refl _⟩)) (.inl rfl)
    ·have z1 : (L.length + 1) * 16 ≤ 17592186044416 := by omega
     have z2 : L.length ≤ 17592186044415 := by omega
     have zz : ¬ (L.length + 1 ≤ L.length) := by omega
     have tk : List.take L.length (List.map Oprn.c L) = List.map Oprn.c L := List.take_of_length_le (by simp)
     simp [upd, getBlk, srcOf, h55, z1, z2, zz, tk]
     exact Dies.up (Dies.up (Dies.refl _) (.inr ⟨rfl, Nat.le_refl _⟩)) (.inl rfl)
   refine hK16 _ (.weak hs ?_)
   clear hK16 K16 hs s
   try simp only [E_cons, E_nil]
   refine .reg ?_
   simp
   refine hK13 _ _ (by omega) (Wk.cov ?_ (.refl _)) ⟨.sl 28 x2.1 0 ((opsK g q ++ opsI q (i + 1)).map Oprn.c).length x2.2, _, ?_, .inr ⟨x2.1, x2.2, rfl, by simp [upd]⟩, rfl⟩
   ·simp [opsI_s]; exact ⟨wrap64 (by omega) (by omega), by omega⟩
   ·simp [hho]
  ·simp at hc3
   obtain rfl : i = bnd g q := by omega
   refine .exit ?_
   try simp only [then', inBlk, if_true, if_false, reduceIte, Nat.reduceEqDiff]
   refine hK8 _ ?_
   clear hK15 hK13 hK8 K15 K13 K8
   refine .reg ?_
   simp
   refine hK5 _ _ (by omega) (Wk.cov ?_ (.refl _)) ⟨x, hh, hho, ?_, rfl⟩
   ·simp; exact wrap64 (by omega) (by omega)
   ·exact hr
 ·simp at hc1
  obtain rfl : q = 3 := by omega
  refine .exit ?_
  try simp only [then', inBlk, if_true, if_false, reduceIte, Nat.reduceEqDiff]
  refine hK3 _ ?_
  clear hK6 hK5 hK3 K6 K5 K3
  refine .seqk fun K18 hK18 => ?_
  refine .reg ?_
  simp
  refine hK18 _ ?_
  clear hK18 K18
  refine .keep [2] ?_
  simp only [keepE, E_cons, E_nil]
  refine .ret ?_
  refine ret_y (.inr rfl) rfl (rowOK.T hr (by decide)) rfl ?_
  rfl
theorem m222 (l : List Bool) (hm : l.length ≤ 1000000000) (h : Heap) (B : Nat) (hB : lim ≤ B) (hd : (h B).live = none) : ACall Tryz.prog 222 [sl (l.map Bo.c)] h fun r h' => r = .sl B ((h B).ver + 1) 0 l.length l.length ∧ OutEq h' (upd h B ⟨(h B).ver + 1, some ⟨1, dl (l.map Bo.c)⟩⟩) := by
 refine ACall.of b222 (by simp) ?_
 unfold c222
 have hb1 : outer h B = h B := outerB h hB
 have hB2 : (1000000 : Nat) ≤ B := hB
 have hB5 : ¬ B = 5 := by omega
 refine .seqk fun K1 hK1 => ?_
 refine .reg ?_
 simp
 refine hK1 _ ?_
 clear hK1 K1
 refine .keep [0] ?_
 simp only [keepE, E_cons, E_nil]
 refine .seqk fun K2 hK2 => ?_
 refine .seqregx (α := Bool) (fun r => l ≠ [] → r = false) (fun r hh => hh) (fun r ee => [(0, ee 0), (4, bo r)]) ?_ (fun r hx => ?_)
 ·cases l <;> simp
 try simp only [E_cons, E_nil]
 refine .condk _ rfl (fun hc1 => ?_) (fun hc1 => ?_)
 ·have hl0 : l = [] := by cases l <;> simp_all
  subst hl0
  refine .seqk fun K3 hK3 => ?_
  refine .reg ?_
  simp
  refine hK3 _ ?_
  clear hK3 K3
  refine .keep [2] ?_
  simp only [keepE, E_cons, E_nil]
  refine .nil1 (l' := [(2, .sl 5 ((outer h 5).ver + 1) 0 0 0)]) 5 1 (by simp [outer]) (by decide) (by decide) (fun t => by
   by_cases ht : t = 2
   ·right; subst ht; exact ⟨by simp, rfl⟩
   ·left; simp [ht]) ?_
  refine .ren 5 B ((h B).ver + 1) (v := (outer h 5).ver + 1) (blk := ⟨1, []⟩) (by decide) hB (by simp [upd]) (by simp [upd, hB5, hb1, hd]) (by simp [upd, hB5, hb1]) rfl ?_
  simp [renE, renA]
  refine .ret ?_
  try simp only [then', inBlk]
  refine ret_m (.inr rfl) (r := .sl B ((h B).ver + 1) 0 (0) (0)) (by simp) (by simp [outOnly, hB2]) ⟨rfl, ?_⟩
  refine OutEq.both ?_ _ _
  simp
 ·try simp at hc1
  refine .skip ?_
  refine hK2 _ ?_
  clear hK2 K2
  refine .seqregx (α := Nat) (fun x => True) (fun x hh => upd hh 5 ⟨x, some ⟨1, dl (l.map Bo.c)⟩⟩) (fun x ee => [(2, .sl 5 x 0 l.length l.length)]) ?_ (fun x hx => ?_)
  ·have h8 : l.length * 1 ≤ 17592186044416 := by omega
   have h9 : l.length ≤ 17592186044416 := by omega
   by_cases hl0 : l = []
   ·subst hl0
    simp
   ·simp [h8, h9, hl0]
  try simp only [E_cons, E_nil]
  refine .ren 5 B ((h B).ver + 1) (v := x) (blk := ⟨1, dl (l.map Bo.c)⟩) (by decide) hB (by simp [upd]) (by simp [upd, hB5, hb1, hd]) (by simp [upd, hB5, hb1]) (by simp) ?_
  simp [renE, renA]
  refine .ret ?_
  try simp only [then', inBlk]
  refine ret_m (.inr rfl) (r := .sl B ((h B).ver + 1) 0 (l.length) (l.length)) (by simp) (by simp [outOnly, hB2]) ⟨rfl, ?_⟩
  refine OutEq.both ?_ _ _
  simp
def kAt (h : Heap) (k : Kn) : AV := .agg [.sl 1000001 ((h 1000001).ver + 1) 0 k.ns.length k.ns.length, .sl 1000002 ((h 1000002).ver + 1) 0 k.es.length k.es.length]
theorem m170 (k : Kn) (hn : k.ns.length ≤ 1000) (he : k.es.length ≤ 1000) (h : Heap) (d1 : (h 1000001).live = none) (d2 : (h 1000002).live = none) : ACall Tryz.prog 170 [ag (Kn.c k)] h fun r h' => r = kAt h k ∧ OutEq h' (upd (upd h 1000001 ⟨(h 1000001).ver + 1, some ⟨1, dl (k.ns.map Bo.c)⟩⟩) 1000002 ⟨(h 1000002).ver + 1, some ⟨1, dl (k.es.map Bo.c)⟩⟩) := by
 refine ACall.of b170 (by simp) ?_
 unfold c170
 have o1 : outer h 1000001 = h 1000001 := by simp [outer]
 have o2 : outer h 1000002 = h 1000002 := by simp [outer]
 refine .seqk fun K1 hK1 => ?_
 refine .reg ?_
 simp
 refine hK1 _ ?_
 clear hK1 K1
 refine .keep [1, 2] ?_
 simp only [keepE, E_cons, E_nil]
 refine .see (upd (upd _ 1 ⟨_, none⟩) 2 _) [(1, .dptr (Kn.c k)), (2, _)] ⟨T.box (k := 2) (cs := Kn.c k) (by simp [upd]) (by simp [upd]), .refl _, trivial⟩ (Dies.up (Dies.up (Dies.refl _) (.inr ⟨rfl, Nat.le_refl _⟩)) (.inl rfl)) ?_
 try simp only [E_cons, E_nil]
 refine .seqdregnx mixed [] (α := Unit) (fun x => True) (fun x hh => upd (upd (upd hh 1000001 ⟨(h 1000001).ver + 1, some ⟨1, dl (k.ns.map Bo.c)⟩⟩) 1000002 ⟨(h 1000002).ver + 1, some ⟨1, dl (k.es.map Bo.c)⟩⟩) 2 ⟨(hh 2).ver, some ⟨2, [[.sl 1000001 ((h 1000001).ver + 1) 0 k.ns.length k.ns.length, .sl 1000002 ((h 1000002).ver + 1) 0 k.es.length k.es.length]]⟩⟩) (fun x ee => [(2, ee 2)]) ?_ (fun x hx => ?_)
 ·refine Dn.cutk 3 fun K1 hK1 => ?_
  simp only [zt]
  simp [-Bool.exists_bool]
  refine ACall.nc (r := .sl 1000001 ((h 1000001).ver + 1) 0 k.ns.length k.ns.length) (ws := [(1000001, ⟨(h 1000001).ver + 1, some ⟨1, dl (k.ns.map Bo.c)⟩⟩)]) (by intro p hp; simp at hp; subst hp; exact (by decide : lim ≤ 1000001)) (fun h1 hh1 => ?_) ?_
  ·have e1 : h1 1000001 = h 1000001 := by
    have := hh1 _ (List.mem_singleton.2 rfl)
    simpa [upd, outer] using this
   have := m222 k.ns (by omega) h1 1000001 (by decide) (by rw [e1]; assumption)
   rw [e1] at this
   exact this
  refine hK1 _ _ ?_
  refine Dn.cutk 3 fun K2 hK2 => ?_
  simp only [zt]
  simp [-Bool.exists_bool]
  refine ACall.nc (r := .sl 1000002 ((h 1000002).ver + 1) 0 k.es.length k.es.length) (ws := [(1000002, ⟨(h 1000002).ver + 1, some ⟨1, dl (k.es.map Bo.c)⟩⟩)]) (by intro p hp; simp at hp; subst hp; exact (by decide : lim ≤ 1000002)) (fun h1 hh1 => ?_) ?_
  ·have e1 : h1 1000002 = h 1000002 := by
    have := hh1 _ (List.mem_singleton.2 rfl)
    simpa [upd, outer] using this
   have := m222 k.es (by omega) h1 1000002 (by decide) (by rw [e1]; assumption)
   rw [e1] at this
   exact this
  refine hK2 _ _ ?_
  simp
 try simp only [E_cons, E_nil]
 refine .ret ?_
 try simp only [then', inBlk]
 refine ret_m (.inr rfl) (r := kAt h k) (by simp [kAt, upd]) (by simp [kAt]) ⟨rfl, ?_⟩
 refine OutEq.upd ?_ (by decide) _
 exact OutEq.both (OutEq.both (by simp) _ _) _ _
end Go.Abs
set_option linter.unusedVariables false
set_option linter.unusedSimpArgs false
namespace Go.Abs
open Go Go.Proofs
set_option maxHeartbeats 4000000 in
theorem p87 (t : Types) (ht : tOK t) (s : Stat) (hn : s.nodes.length ≤ 1000) (he : s.edges.length ≤ 1000) (hst : statV t s = 0) (g : Graph) (hv : gErr g = 0) (hty : typedB t g = true) (k : Kn) (hf : k.fits g) (o : Oprn) (ho : stepE g k o = 0) (n : Int) (n0 : 0 ≤ n) (n1 : n ≤ 1000000000) : PCall Tryz.prog 87 [ag (Types.c t), ag (Stat.c s), ag (Graph.c g), ag (Kn.c k), ag (Oprn.c o), int n] (int (estI t s g k o n)) := by
 intro h
 refine ACall.of b87 (by simp) ?_
 unfold c87
 have hsv := statV_ok hst
 obtain ⟨htn, hte⟩ := (Bool.and_eq_true _ _ ▸ hty : g.nodes.all (fun n => inI n t.nodes.length) = true ∧ g.edges.all (fun e => inI e.ty t.edges.length) = true)
 
 refine .seqk fun K1 hK1 => ?_
 refine .reg ?_
 simp
 refine hK1 _ ?_
 clear hK1 K1
 refine .keep [5, 6, 7, 8, 9, 10] ?_
 simp only [keepE, E_cons, E_nil]
 refine .see (upd (upd (upd (upd (upd _ 6 ⟨_, none⟩) 7 ⟨_, none⟩) 8 ⟨_, none⟩) 9 ⟨_, none⟩) 10 ⟨_, none⟩) [(5, _), (6, .dptr (Types.c t)), (7, .dptr (Stat.c s)), (8, .dptr (Graph.c g)), (9, .dptr (Kn.c k)), (10, .dptr (Oprn.c o))] ⟨.refl _, T.box (k := 2) (cs := Types.c t) (by simp [upd]) (by simp [upd]), T.box (k := 2) (cs := Stat.c s) (by simp [upd]) (by simp [upd]), T.box (k := 2) (cs := Graph.c g) (by simp [upd]) (by simp [upd]), T.box (k := 2) (cs := Kn.c k) (by simp [upd]) (by simp [upd]), T.box (k := 2) (cs := Oprn.c o) (by simp [upd]) (by simp [upd]), trivial⟩ (Dies.up (Dies.up (Dies.up (Dies.up (Dies.up (Dies.refl _) (.inr ⟨rfl, Nat.le_refl _⟩)) (.inr ⟨rfl, Nat.le_refl _⟩)) (.inr ⟨rfl, Nat.le_refl _⟩)) (.inr ⟨rfl, Nat.le_refl _⟩)) (.inr ⟨rfl, Nat.le_refl _⟩)) ?_
 try simp only [E_cons, E_nil]
 refine .seqk fun K2 hK2 => ?_
 refine .reg ?_
 simp
 refine hK2 _ ?_
 clear hK2 K2
 refine .keep [5, 6, 7, 8, 9, 10, 13] ?_
 simp only [keepE, E_cons, E_nil]
 refine .seqk fun K3 hK3 => ?_
 refine .seqk fun K4 hK4 => ?_
 refine .reg ?_
 simp
 refine hK4 _ ?_
 clear hK4 K4
 refine .keep [5, 6, 7, 8, 9, 10, 13, 20] ?_
 simp only [keepE, E_cons, E_nil]
 refine .condk _ rfl (fun hc1 => ?_) (fun hc1 => ?_)
 ·simp at hc1
  obtain ⟨hz, hy⟩ := stepE_0 hf hv ho
  obtain ⟨hz1, hz2⟩ : 0 ≤ o.el ∧ o.el.toNat < g.nodes.length := by
   refine ⟨hz, ?_⟩
   rcases hy with ⟨_, h1⟩ | ⟨_, h1, _⟩
   ·rw [← hf.1]; exact h1
   ·exact absurd hc1 h1
  obtain ⟨ty, hgt⟩ := get_some hz2
  have hin := List.all_eq_true.1 htn ty (List.mem_of_getElem? hgt)
  have hbd := cntN_bd ht hsv ty
  have hm0 : 0 ≤ n * cntN t s.nodes ty := Int.mul_nonneg n0 hbd.1
  have hm1 : n * cntN t s.nodes ty ≤ 1000000000 * 40 := Int.mul_le_mul n1 hbd.2 hbd.1 (by decide)
  have w1 : IntKind.i64.wrap (n * cntN t s.nodes ty) = n * cntN t s.nodes ty := wrap64 (by omega) (by omega)
  have hE : estI t s g k o n = min 1000000000 (n * cntN t s.nodes ty) := by simp [estI, hc1, nodeC, hgt]
  refine .seqk fun K5 hK5 => ?_
  refine .reg ?_
  refine Sq.cutk 5 fun K6 hK6 => ?_
  simp only [zt]
  simp [w1, mm2, mmA, mm_min]
  refine PCall.sq (e135 t ht s hn he hst g o.el ty hz1 hgt hin) fun h1 he1 => ?_
  simp only [mergeH_eq he1]
  clear he1 h1
  refine hK6 _ ?_
  clear hK6 K6
  simp [w1, mm2, mmA, mm_min]
  refine hK5 _ ?_
  clear hK5 K5
  refine .keep [12] ?_
  simp only [keepE, E_cons, E_nil]
  refine .ret ?_
  refine ret_z (.inr rfl) rfl rfl ?_
  simp [hE]
 ·simp at hc1
  obtain ⟨hz1, hy⟩ := stepE_0 hf hv ho
  obtain ⟨hk2, x, hx, hz2, hs0, ht0, hs1, ht1⟩ : (o.kind = 2 ∨ o.kind = 3) ∧ ∃ x, g.edges[o.el.toNat]? = some x ∧ o.el.toNat < k.es.length ∧ 0 ≤ x.src ∧ 0 ≤ x.tgt ∧ x.src.toNat < k.ns.length ∧ x.tgt.toNat < k.ns.length := by
   rcases hy with ⟨h1, _⟩ | ⟨h1, _, h2⟩
   ·exact absurd h1 hc1
   ·exact ⟨h1, h2⟩
  obtain ⟨a, hga⟩ : ∃ a, g.nodes[x.src.toNat]? = some a := ⟨g.nodes[x.src.toNat]'(by rw [← hf.1]; exact hs1), by simp⟩
  obtain ⟨b, hgb⟩ : ∃ b, g.nodes[x.tgt.toNat]? = some b := ⟨g.nodes[x.tgt.toNat]'(by rw [← hf.1]; exact ht1), by simp⟩
  obtain ⟨ka, hka⟩ : ∃ ka, k.ns[x.src.toNat]? = some ka := ⟨k.ns[x.src.toNat], by simp⟩
  have hae := (List.getElem?_eq_some_iff.1 hka).2
  have hs1i : x.src < (k.ns.length : Int) := by omega
  have hina := List.all_eq_true.1 htn a (List.mem_of_getElem? hga)
  have hinb := List.all_eq_true.1 htn b (List.mem_of_getElem? hgb)
  have hine := List.all_eq_true.1 hte x (List.mem_of_getElem? hx)
  have hba := cntN_bd ht hsv a
  have hbb := cntN_bd ht hsv b
  have hbe := cntE_bd ht hsv x.ty a b
  have hm0 : 0 ≤ n * cntE t s.edges x.ty a b := Int.mul_nonneg n0 hbe.1
  have hm1 : n * cntE t s.edges x.ty a b ≤ 1000000000 * 80 := Int.mul_le_mul n1 hbe.2 hbe.1 (by decide)
  have w1 : IntKind.i64.wrap (n * cntE t s.edges x.ty a b) = n * cntE t s.edges x.ty a b := wrap64 (by omega) (by omega)
  have hE : estI t s g k o n = min 1000000000 (if o.kind = 3 then overI (overI (n * cntE t s.edges x.ty a b) (cntN t s.nodes a)) (cntN t s.nodes b) else if ka then overI (n * cntE t s.edges x.ty a b) (cntN t s.nodes a) else overI (n * cntE t s.edges x.ty a b) (cntN t s.nodes b)) := by
   simp [estI, hc1, hx, nodeC, edgeC, hga, hgb, endK, hka]
  generalize hN : n * cntE t s.edges x.ty a b = N at *
  have ov1 := overI_bd hm0 hba.1
  have ov2 := overI_bd hm0 hbb.1
  have ov3 := overI_bd ov1.1 hbb.1
  refine .skip ?_
  refine hK3 _ ?_
  clear hK3 K3
  refine .seqk fun K7 hK7 => ?_
  refine .reg ?_
  simp [hx, hz1]
  refine hK7 _ ?_
  clear hK7 K7
  refine .keep [5, 6, 7, 8, 9, 10, 13, 14] ?_
  simp only [keepE, E_cons, E_nil]
  refine .see (upd _ 14 ⟨_, none⟩) [(5, _), (6, _), (7, _), (8, _), (9, _), (10, _), (13, _), (14, .dptr (Edge.c x))] ⟨.refl _, .refl _, .refl _, .refl _, .refl _, .refl _, .refl _, T.box (k := 3) (cs := Edge.c x) (by simp [upd]) (by simp [upd]), trivial⟩ (Dies.up (Dies.refl _) (.inr ⟨rfl, Nat.le_refl _⟩)) ?_
  try simp only [E_cons, E_nil]
  refine .seqk fun K8 hK8 => ?_
  refine .dreg mixed ?_
  refine Dr.cutk 17 fun K9 hK9 => ?_
  simp only [zt]
  simp [-Bool.exists_bool, hga, hgb, hs0, ht0]
  refine Dr.pcall (p137 t ht s hn he x.ty a b) ?_
  refine hK9 _ _ ?_
  clear hK9 K9
  try simp [-Bool.exists_bool, hga, hgb, hs0, ht0]
  simp [edgesN_eq hst hine hina hinb]
  refine hK8 _ ?_
  clear hK8 K8
  refine .keep [5, 9, 10, 13, 14, 15] ?_
  simp only [keepE, E_cons, E_nil]
  refine .seqk fun K10 hK10 => ?_
  refine .reg ?_
  simp [hN, w1]
  refine hK10 _ ?_
  clear hK10 K10
  refine .keep [5, 9, 10, 13, 14] ?_
  simp only [keepE, E_cons, E_nil]
  refine .seqk fun K11 hK11 => ?_
  refine .block ?_
  refine .seqk fun K12 hK12 => ?_
  refine .reg ?_
  simp
  refine hK12 _ ?_
  clear hK12 K12
  refine .keep [5, 9, 13, 14, 63] ?_
  simp only [keepE, E_cons, E_nil]
  refine .condk _ rfl (fun hc2 => ?_) (fun hc2 => ?_)
  ·simp at hc2
   refine .dreg mixed ?_
   refine Dr.cutk 5 fun K13 hK13 => ?_
   simp only [zt]
   simp [-Bool.exists_bool]
   refine Dr.pcall (e135 t ht s hn he hst g x.src a hs0 hga hina) ?_
   refine hK13 _ _ ?_
   clear hK13 K13
   refine Dr.cutk 1 fun K14 hK14 => ?_
   simp only [zt]
   simp [-Bool.exists_bool]
   refine Dr.pcall (p138 N (cntN t s.nodes a) (by omega) (by omega) hba.1 (by omega)) ?_
   refine hK14 _ _ ?_
   clear hK14 K14
   refine Dr.cutk 4 fun K15 hK15 => ?_
   simp only [zt]
   simp [-Bool.exists_bool]
   refine Dr.pcall (e135 t ht s hn he hst g x.tgt b ht0 hgb hinb) ?_
   refine hK15 _ _ ?_
   clear hK15 K15
   refine Dr.cutk 1 fun K16 hK16 => ?_
   simp only [zt]
   simp [-Bool.exists_bool]
   refine Dr.pcall (p138 (overI N (cntN t s.nodes a)) (cntN t s.nodes b) (by omega) (by omega) hbb.1 (by omega)) ?_
   refine hK16 _ _ ?_
   clear hK16 K16
   try simp [-Bool.exists_bool]
   refine hK11 _ ?_
   clear hK11 K11
   refine .keep [5] ?_
   simp only [keepE, E_cons, E_nil]
   refine .seqk fun K17 hK17 => ?_
   refine .reg ?_
   simp [mm2, mmA, mm_min]
   refine hK17 _ ?_
   clear hK17 K17
   refine .keep [12] ?_
   simp only [keepE, E_cons, E_nil]
   refine .ret ?_
   refine ret_z (.inr rfl) rfl rfl ?_
   simp [hE, hc2]
  ·simp at hc2
   refine .seqk fun K18 hK18 => ?_
   refine .reg ?_
   simp [hs0, hka, hae, hs1, hs1i]
   refine hK18 _ ?_
   clear hK18 K18
   refine .keep [5, 13, 14, 78] ?_
   simp only [keepE, E_cons, E_nil]
   refine .condk _ rfl (fun hc3 => ?_) (fun hc3 => ?_)
   ·skip
    refine .reg ?_
    refine Sq.cutk 5 fun K19 hK19 => ?_
    simp only [zt]
    simp
    refine PCall.sq (e135 t ht s hn he hst g x.src a hs0 hga hina) fun h1 he1 => ?_
    simp only [mergeH_eq he1]
    clear he1 h1
    refine hK19 _ ?_
    clear hK19 K19
    refine Sq.cutk 1 fun K20 hK20 => ?_
    simp only [zt]
    simp
    refine PCall.sq (p138 N (cntN t s.nodes a) (by omega) (by omega) hba.1 (by omega)) fun h1 he1 => ?_
    simp only [mergeH_eq he1]
    clear he1 h1
    refine hK20 _ ?_
    clear hK20 K20
    simp
    refine hK11 _ ?_
    clear hK11 K11
    refine .keep [5] ?_
    simp only [keepE, E_cons, E_nil]
    refine .seqk fun K21 hK21 => ?_
    refine .reg ?_
    simp [mm2, mmA, mm_min]
    refine hK21 _ ?_
    clear hK21 K21
    refine .keep [12] ?_
    simp only [keepE, E_cons, E_nil]
    refine .ret ?_
    refine ret_z (.inr rfl) rfl rfl ?_
    simp [hE, hc2, hc3]
   ·skip
    refine .reg ?_
    refine Sq.cutk 5 fun K22 hK22 => ?_
    simp only [zt]
    simp
    refine PCall.sq (e135 t ht s hn he hst g x.tgt b ht0 hgb hinb) fun h1 he1 => ?_
    simp only [mergeH_eq he1]
    clear he1 h1
    refine hK22 _ ?_
    clear hK22 K22
    refine Sq.cutk 1 fun K23 hK23 => ?_
    simp only [zt]
    simp
    refine PCall.sq (p138 N (cntN t s.nodes b) (by omega) (by omega) hbb.1 (by omega)) fun h1 he1 => ?_
    simp only [mergeH_eq he1]
    clear he1 h1
    refine hK23 _ ?_
    clear hK23 K23
    simp
    refine hK11 _ ?_
    clear hK11 K11
    refine .keep [5] ?_
    simp only [keepE, E_cons, E_nil]
    refine .seqk fun K24 hK24 => ?_
    refine .reg ?_
    simp [mm2, mmA, mm_min]
    refine hK24 _ ?_
    clear hK24 K24
    refine .keep [12] ?_
    simp only [keepE, E_cons, E_nil]
    refine .ret ?_
    refine ret_z (.inr rfl) rfl rfl ?_
    simp [hE, hc2, hc3]
theorem q44 (l : List Oprn) (hm : l.length ≤ 1000000) (hne : l ≠ []) (h : Heap) (B v c : Nat) (X : List (List D)) (hB : lim ≤ B) (hb : h B = ⟨v, some ⟨2, dl X⟩⟩) (hX : X.take l.length = l.map Oprn.c) (hn : l.length ≤ X.length) : ACall Tryz.prog 44 [.sl B v 0 l.length c] h fun r h' => r = sl (l.map Oprn.c) ∧ OutEq h' h := by
 refine ACall.of b44 (by simp) ?_
 unfold c44
 have hb1 : outer h B = ⟨v, some ⟨2, dl X⟩⟩ := (outerB h hB).trans hb
 have hB2 : (1000000 : Nat) ≤ B := hB
 have hB5 : ¬ B = 5 := by omega
 have hpos : 0 < l.length := List.length_pos_iff.2 hne
 have z1 : l.length * 16 ≤ 17592186044416 := by omega
 have z2 : l.length ≤ 17592186044416 := by omega
 refine .seqk fun K1 hK1 => ?_
 refine .reg ?_
 simp
 refine hK1 _ ?_
 clear hK1 K1
 refine .keep [0] ?_
 simp only [keepE, E_cons, E_nil]
 refine .seqk fun K2 hK2 => ?_
 refine .seqk fun K3 hK3 => ?_
 refine .reg ?_
 simp [getBlk, upd, hb1, hpos]
 refine hK3 _ ?_
 clear hK3 K3
 refine .keep [0, 4] ?_
 simp only [keepE, E_cons, E_nil]
 refine .condk _ rfl (fun hc1 => ?_) (fun hc1 => ?_)
 ·simp at hc1
 ·skip
  refine .skip ?_
  refine hK2 _ ?_
  clear hK2 K2
  refine .seqreg (fun hh => upd hh 5 ⟨(hh 5).ver + 1 + 1, some ⟨2, dl (l.map Oprn.c)⟩⟩) (fun ee => [(2, .sl 5 ((outer h 5).ver + 1 + 1) 0 l.length l.length)]) ?_ ?_
  ·simp [getBlk, upd, hb1, hB5, hn, hX, z1, z2, hne, srcOf]
  try simp only [E_cons, E_nil]
  refine .ret ?_
  refine ret_d (.inr rfl) rfl (T.row (xs := l.map Oprn.c) (k := 2) (by simp) (by simp [upd]) (by simp)) rfl ((OutEq.outer _).upd (by simp) _) ?_
  rfl
theorem m44 (l : List Oprn) (hm : l.length ≤ 1000000) (h : Heap) (B v c : Nat) (X : List (List D)) (hB : lim ≤ B) (hb : h B = ⟨v, some ⟨2, dl X⟩⟩) (hX : X.take l.length = l.map Oprn.c) (hn : l.length ≤ X.length) :
  ACall Tryz.prog 44 [.sl B v 0 l.length c] h fun r h' => r = sl (l.map Oprn.c) ∧ OutEq h' h := by
 by_cases hne : l = []
 ·subst hne
  exact ACall.emp (us := []) (us' := []) hB hb (p44 [] (by simp) h)
 ·exact q44 l hm hne h B v c X hB hb hX hn
abbrev Bst := Option (List Oprn × Int)
def upB (p : List Oprn) (c : Int) : Bst → Bst
 | none => some (p, c)
 | some (q, d) => if c < d then some (p, c) else some (q, d)
def bestR (t : Types) (s : Stat) (g : Graph) : Nat → Kn → Int → Int → List Oprn → Bst → Bst
 | 0, k, n, c, p, b => if allK k then upB p c b else b
 | f + 1, k, n, c, p, b => if allK k then upB p c b else (opsL g).foldl (fun b o => if stepE g k o = 0 then bestR t s g f (afterK g k o) (estI t s g k o n) (min 1000000000 (c + estI t s g k o n)) (p ++ [o]) b else b) b
def bstep (t : Types) (s : Stat) (g : Graph) (f : Nat) (k : Kn) (n c : Int) (p : List Oprn) (b : Bst) (o : Oprn) : Bst := if stepE g k o = 0 then bestR t s g f (afterK g k o) (estI t s g k o n) (min 1000000000 (c + estI t s g k o n)) (p ++ [o]) b else b
theorem foldl_fix {α β : Type} {f : α → β → α} {a : α} (h : ∀ x, f a x = a) : ∀ l : List β, l.foldl f a = a
 | [] => rfl
 | x :: l => by rw [List.foldl_cons, h, foldl_fix h l]
theorem bestR_ge {t : Types} (ht : tOK t) {s : Stat} (hst : statV t s = 0) {g : Graph} : ∀ (f : Nat) (k : Kn) (n c : Int) (p q : List Oprn) (d : Int), 0 ≤ n → d ≤ c → c ≤ 1000000000 → bestR t s g f k n c p (some (q, d)) = some (q, d)
 | 0, k, n, c, p, q, d, h0, h1, h2 => by
  have : ¬ c < d := by omega
  simp [bestR, upB, this]
 | f + 1, k, n, c, p, q, d, h0, h1, h2 => by
  have : ¬ c < d := by omega
  rw [bestR]
  split
  ·simp [upB, this]
  ·refine foldl_fix (fun o => ?_) _
   have he := estI_bd (o := o) (k := k) (g := g) ht hst h0
   split
   ·exact bestR_ge ht hst f _ _ _ _ q d he.1 (by omega) (by omega)
   ·rfl
theorem foldl_take_s {α β : Type} {f : α → β → α} {a : α} {l : List β} {i : Nat} {x : β} (hx : l[i]? = some x) : (l.take (i + 1)).foldl f a = f ((l.take i).foldl f a) x := by
 rw [List.take_add_one, List.foldl_append, hx]
 rfl
def bD : Bst → D
 | none => .nil
 | some (p, _) => .slice (p.map Oprn.c)
def bC : Bst → Int
 | none => 0
 | some (_, c) => c
def ccells (t : Types) (s : Stat) (g : Graph) (pa : AV) (b : Bst) : List AV := [.d (.slice (t.nodes.map NodeType.c)), .d (.slice (t.edges.map EdgeType.c)), .d (.slice (s.nodes.map Count.c)), .d (.slice (s.edges.map Count.c)), .d (ints g.nodes), .d (.slice (g.edges.map Edge.c)), pa, .d (bD b), .d (.int .i64 (bC b)), .d (.bool b.isSome)]
attribute [simp] ccells
def ChS (t : Types) (s : Stat) (g : Graph) (h : Heap) (v1 : Nat) (p : List Oprn) (b : Bst) : Prop := ∃ v2 c2 X, h 1000003 = ⟨v1, some ⟨10, [ccells t s g (.sl 1000004 v2 0 p.length c2) b]⟩⟩ ∧ h 1000004 = ⟨v2, some ⟨2, dl X⟩⟩ ∧ X.take p.length = p.map Oprn.c ∧ p.length ≤ X.length ∧ (h 1000001).live = none ∧ (h 1000002).live = none
theorem ChS.mono {t : Types} {s : Stat} {g : Graph} {h h' : Heap} {v1 : Nat} {p : List Oprn} {b : Bst} (hs : ChS t s g h v1 p b) (he : OutEq h' h) : ChS t s g h' v1 p b := by
 obtain ⟨v2, c2, X, f1, f2, r1, r2, r3, r4⟩ := hs
 exact ⟨v2, c2, X, by rw [he _ (by decide)]; exact f1, by rw [he _ (by decide)]; exact f2, r1, r2, by rw [he _ (by decide)]; exact r3, by rw [he _ (by decide)]; exact r4⟩
theorem mergeH_out (h h' : Heap) : OutEq (mergeH h h') h' := fun b hb => by
 have : ¬ b < 1000000 := Nat.not_lt.2 hb
 simp [mergeH, this]
theorem count_all : ∀ l : List Bool, l.count false = 0 → l.all id = true
 | [], _ => rfl
 | x :: l, h => by
  cases x
  ·simp at h
  ·have := count_all l (by simpa using h)
   simp only [List.all_cons, id, this, Bool.and_self]
theorem unk_pos {k : Kn} (h : allK k = false) : 0 < unk k := by
 rcases Nat.eq_zero_or_pos (unk k) with h0 | h0
 ·unfold unk at h0
  have h1 := count_all k.ns (by omega)
  have h2 := count_all k.es (by omega)
  simp [allK, h1, h2] at h
 ·exact h0
theorem m170' (k : Kn) (hn : k.ns.length ≤ 1000) (he : k.es.length ≤ 1000) (h : Heap) (d1 : (h 1000001).live = none) (d2 : (h 1000002).live = none) : ACall Tryz.prog 170 [ag (Kn.c k)] h fun r h' => ∃ w1 w2, r = .agg [.sl 1000001 w1 0 k.ns.length k.ns.length, .sl 1000002 w2 0 k.es.length k.es.length] ∧ OutEq h' (upd (upd h 1000001 ⟨w1, some ⟨1, dl (k.ns.map Bo.c)⟩⟩) 1000002 ⟨w2, some ⟨1, dl (k.es.map Bo.c)⟩⟩) :=
 (m170 k hn he h d1 d2).mono fun r h' ⟨h1, h2⟩ => ⟨_, _, h1, h2⟩
theorem upB_t {p : List Oprn} {c : Int} {b : Bst} (h : (!b.isSome || decide (c < bC b)) = true) : upB p c b = some (p, c) := by
 cases b with
 | none => rfl
 | some x =>
  have h2 : c < x.2 := of_decide_eq_true (show decide (c < x.2) = true from h)
  simp [upB, h2]
theorem upB_f {p : List Oprn} {c : Int} {b : Bst} (h : (!b.isSome || decide (c < bC b)) = false) : upB p c b = b := by
 cases b with
 | none => simp at h
 | some x =>
  have h2 : ¬ c < x.2 := of_decide_eq_false (show decide (c < x.2) = false from h)
  simp [upB, h2]
theorem bestR_all {t : Types} {s : Stat} {g : Graph} {k : Kn} (h : allK k = true) (f : Nat) (n c : Int) (p : List Oprn) (b : Bst) : bestR t s g f k n c p b = upB p c b := by
 cases f <;> simp [bestR, h]
theorem bestR_fold {t : Types} {s : Stat} {g : Graph} {k : Kn} (h : allK k = false) (f : Nat) (n c : Int) (p : List Oprn) (b : Bst) : bestR t s g (f + 1) k n c p b = (opsL g).foldl (bstep t s g f k n c p) b := by
 rw [bestR, if_neg (by simp [h])]
 rfl
theorem bestR_prune {t : Types} (ht : tOK t) {s : Stat} (hst : statV t s = 0) {g : Graph} {f : Nat} {k : Kn} {n c : Int} {p : List Oprn} {b : Bst} (h : (b.isSome && decide (bC b ≤ c)) = true) (h0 : 0 ≤ n) (h1 : c ≤ 1000000000) : bestR t s g f k n c p b = b := by
 cases b with
 | none => cases h
 | some x => exact bestR_ge ht hst f k n c p x.1 x.2 h0 (of_decide_eq_true (show decide (x.2 ≤ c) = true from h)) h1
theorem app_take {M X : List (List D)} {n : Nat} {r : List D} (hM : X.take n = M) (hn : n ≤ X.length) : (X.take n ++ [r] ++ X.drop (n + 1)).take (n + 1) = M ++ [r] ∧ n + 1 ≤ (X.take n ++ [r] ++ X.drop (n + 1)).length := by
 have hl : M.length = n := by rw [← hM]; simp; omega
 rw [hM]
 refine ⟨?_, by simp [hl]⟩
 rw [List.take_append_of_le_length (by simp [hl])]
 exact List.take_of_length_le (by simp [hl])
theorem app_take2 {M X : List (List D)} {n : Nat} {r : List D} (hM : X.take n = M) (hn : n ≤ X.length) : (X.take n ++ [r]).take (n + 1) = M ++ [r] ∧ n + 1 ≤ (X.take n ++ [r]).length := by
 have hl : M.length = n := by rw [← hM]; simp; omega
 rw [hM]
 exact ⟨List.take_of_length_le (by simp [hl]), by simp [hl]⟩
theorem take_take_le {X M : List (List D)} {n : Nat} (h : X.take (n + 1) = M) : M.take n = X.take n := by
 rw [← h, List.take_take, Nat.min_eq_left (by omega)]
def C114 (t : Types) (s : Stat) (g : Graph) (f : Nat) : Prop := ∀ (k : Kn) (n c : Int) (p : List Oprn) (b : Bst) (h : Heap) (v1 : Nat), k.fits g → unk k ≤ f → 0 ≤ n → n ≤ 1000000000 → 0 ≤ c → c ≤ 1000000000 → p.length + unk k ≤ 100000 → ChS t s g h v1 p b →
  ACall Tryz.prog 114 [.ptr 1000003 v1 0 0, ag (Kn.c k), int n, int c] h fun r h' => r = .tup [] ∧ ChS t s g h' v1 p (bestR t s g f k n c p b)
set_option maxHeartbeats 8000000 in
theorem m114s (t : Types) (ht : tOK t) (s : Stat) (hn : s.nodes.length ≤ 1000) (he : s.edges.length ≤ 1000) (hst : statV t s = 0) (g : Graph) (hv : gErr g = 0) (hty : typedB t g = true) (f : Nat) (ih : ∀ f1, f1 < f → C114 t s g f1) : C114 t s g f := by
 intro k n c p b h v1 hf hu n0 n1 c0 c1 hpl hcs
 refine ACall.of b114 (by simp) ?_
 unfold c114
 obtain ⟨v2, c2, X, f1, f2, x2, l2, d1, d2⟩ := hcs
 have hgl := gErr_len hv
 have hfn := hf.1
 have hfe := hf.2
 have o1 := (outerB h (b := 1000003) (by decide)).trans f1
 have o2 := (outerB h (b := 1000004) (by decide)).trans f2
 have hcs : ChS t s g (outer h) v1 p b := ⟨v2, c2, X, o1, o2, x2, l2, by simpa [outer] using d1, by simpa [outer] using d2⟩
 refine .seqk fun K1 hK1 => ?_
 refine .reg ?_
 simp
 refine hK1 _ ?_
 clear hK1 K1
 refine .keep [0, 2, 3, 5] ?_
 simp only [keepE, E_cons, E_nil]
 refine .see (upd _ 5 ⟨_, none⟩) [(0, _), (2, _), (3, _), (5, .dptr (Kn.c k))] ⟨.refl _, .refl _, .refl _, T.box (k := 2) (cs := Kn.c k) (by simp [upd]) (by simp [upd]), trivial⟩ (Dies.up (Dies.refl _) (.inr ⟨rfl, Nat.le_refl _⟩)) ?_
 try simp only [E_cons, E_nil]
 refine .seqk fun K2 hK2 => ?_
 refine .seqk fun K3 hK3 => ?_
 refine .reg ?_
 simp
 refine PCall.sq (p134 k) fun h1 he1 => ?_
 simp only [mergeH_eq he1]
 clear he1 h1
 try simp
 refine hK3 _ ?_
 clear hK3 K3
 refine .keep [0, 2, 3, 5, 14] ?_
 simp only [keepE, E_cons, E_nil]
 refine .condk _ rfl (fun hc1 => ?_) (fun hc1 => ?_)
 ·skip
  refine .seqk fun K4 hK4 => ?_
  refine .seqreg (fun hh => hh) (fun ee => [(0, ee 0), (3, ee 3), (27, bo (!b.isSome || decide (c < bC b)))]) ?_ ?_
  ·cases b <;> simp [getBlk, upd, o1]
  try simp only [E_cons, E_nil]
  refine .condk _ rfl (fun hc2 => ?_) (fun hc2 => ?_)
  ·skip
   refine .reg ?_
   refine Sq.cutk 8 fun K5 hK5 => ?_
   simp only [zt]
   simp [getBlk, upd, o1, o2]
   refine ACall.mono (m44 p (by omega) _ 1000004 v2 c2 X (by decide) (by simpa [upd] using o2) x2 l2) ?_
   rintro _ h1 ⟨rfl, he1⟩
   simp only [mergeH_eq he1]
   clear he1 h1
   refine hK5 _ ?_
   clear hK5 K5
   simp [getBlk, upd, o1, o2]
   refine hK4 _ ?_
   clear hK4 K4
   refine .keep [] ?_
   simp only [keepE, E_cons, E_nil]
   refine .ret ?_
   try simp only [then', inBlk]
   refine ret_m (.inr rfl) (r := .tup []) (by simp) (by simp) ⟨rfl, ?_⟩
   rw [bestR_all hc1, upB_t (by first | exact hc2 | simpa using hc2)]
   exact ⟨v2, c2, X, by simp [upd, o1, bD, bC], by simp [upd, o2], x2, l2, by simpa [upd, outer] using d1, by simpa [upd, outer] using d2⟩
  ·skip
   refine .skip ?_
   refine hK4 _ ?_
   clear hK4 K4
   refine .ret ?_
   try simp only [then', inBlk]
   refine ret_m (.inr rfl) (r := .tup []) (by simp) (by simp) ⟨rfl, ?_⟩
   rw [bestR_all hc1, upB_f (by first | exact hc2 | simpa using hc2)]
   exact hcs.mono (by simp)
 ·have hk : allK k = false := by simpa using hc1
  have hup := unk_pos hk
  obtain ⟨f, rfl⟩ : ∃ e, f = e + 1 := ⟨f - 1, by omega⟩
  refine .skip ?_
  refine hK2 _ ?_
  clear hK2 K2
  refine .seqk fun K6 hK6 => ?_
  refine .reg ?_
  refine Sq.cutk 5 fun K7 hK7 => ?_
  simp only [zt]
  simp [getBlk, upd, o1]
  refine PCall.sq (p169 g hv) fun h1 he1 => ?_
  simp only [mergeH_eq he1]
  clear he1 h1
  refine hK7 _ ?_
  clear hK7 K7
  simp [getBlk, upd, o1]
  refine hK6 _ ?_
  clear hK6 K6
  refine .keep [0, 2, 3, 5, 47, 48, 49] ?_
  simp only [keepE, E_cons, E_nil]
  refine .block ?_
  refine .count ((opsL g)).length (fun i st => (True) ∧ ∃ hh1, (ChS t s g hh1 v1 p (((opsL g).take i).foldl (bstep t s g f k n c p) b)) ∧ st = ⟨E [(0, .ptr 1000003 v1 0 0), (2, int n), (3, int c), (5, .dptr (Kn.c k)), (47, sl ((opsL g).map Oprn.c)), (48, int ((opsL g).length : Int)), (49, int i)], hh1⟩) 0 (Nat.zero_le _) _ (.cov (by first | (simp; done) | (simp; rfl) | (simp; exact ⟨rfl, rfl⟩)) (.refl _)) ⟨by simp, _, by simpa using hcs.mono (by simp), rfl⟩ ?_
  rintro i s hi1 ⟨hp1, hh1, hho1, rfl⟩ K8 hK8
  refine .seqk fun K9 hK9 => ?_
  refine .reg ?_
  simp
  refine hK9 _ ?_
  clear hK9 K9
  refine .keep [0, 2, 3, 5, 47, 48, 49, 50] ?_
  simp only [keepE, E_cons, E_nil]
  refine .seqk fun K10 hK10 => ?_
  refine .condk _ rfl (fun hc3 => ?_) (fun hc3 => ?_)
  ·simp at hc3
   obtain ⟨x, hx1⟩ := get_some hc3
   obtain ⟨v2, c2, X, f1, f2, x2, l2, d1, d2⟩ := hho1
   have hop := opsK_len g 3
   have hmx := maxN_le hv
   have hol : (opsL g).length ≤ 1000 := by show (opsK g 3).length ≤ 1000; omega
   refine .skip ?_
   refine hK10 _ ?_
   clear hK10 K10
   refine .seqk fun K11 hK11 => ?_
   refine .block ?_
   refine .seqk fun K12 hK12 => ?_
   refine .reg ?_
   simp [hx1]
   refine hK12 _ ?_
   clear hK12 K12
   refine .keep [0, 2, 3, 5, 9, 47, 48, 49] ?_
   simp only [keepE, E_cons, E_nil]
   refine .see (upd _ 9 ⟨_, none⟩) [(0, _), (2, _), (3, _), (5, _), (9, .dptr (Oprn.c x)), (47, _), (48, _), (49, _)] ⟨.refl _, .refl _, .refl _, .refl _, T.box (k := 2) (cs := Oprn.c x) (by simp [upd]) (by simp [upd]), .refl _, .refl _, .refl _, trivial⟩ (Dies.up (Dies.refl _) (.inr ⟨rfl, Nat.le_refl _⟩)) ?_
   try simp only [E_cons, E_nil]
   refine .seqk fun K13 hK13 => ?_
   refine .reg ?_
   refine Sq.cutk 2 fun K14 hK14 => ?_
   simp only [zt]
   simp
   refine ACall.mono (m170' k (by omega) (by omega) _ (by simpa [upd] using d1) (by simpa [upd] using d2)) ?_
   rintro _ h1 ⟨w1, w2, rfl, he1⟩
   rw [mergeH_upd2 he1 (by decide) (by decide)]
   clear he1 h1
   refine hK14 _ ?_
   clear hK14 K14
   simp
   simp only [upd_ne _ _ _ _ (show (10:Nat) ≠ 1000002 by decide), upd_ne _ _ _ _ (show (10:Nat) ≠ 1000001 by decide), upd_ne _ _ _ _ (show (10:Nat) ≠ 9 by decide)]
   refine hK13 _ ?_
   clear hK13 K13
   refine .keep [0, 2, 3, 5, 9, 10, 47, 48, 49] ?_
   simp only [keepE, E_cons, E_nil]
   refine .seqk fun K15 hK15 => ?_
   refine .seqdregnx mixed [] (α := Unit) (fun u => True) (fun u hh => upd (upd hh 1000001 ⟨w1, some ⟨1, dl ((stepK g k x).ns.map Bo.c)⟩⟩) 1000002 ⟨w2, some ⟨1, dl ((stepK g k x).es.map Bo.c)⟩⟩) (fun u ee => [(0, ee 0), (2, ee 2), (3, ee 3), (5, ee 5), (9, ee 9), (10, ee 10), (47, ee 47), (48, ee 48), (49, ee 49), (62, bo (!decide (stepE g k x = 0)))]) ?_ (fun u hx => ?_)
   ·refine Dn.cutk 7 fun K1 hK1 => ?_
    simp only [zt]
    simp [-Bool.exists_bool, getBlk, upd, f1]
    refine ACall.nc (r := int (stepE g k x)) (ws := [(1000001, ⟨w1, some ⟨1, dl ((stepK g k x).ns.map Bo.c)⟩⟩), (1000002, ⟨w2, some ⟨1, dl ((stepK g k x).es.map Bo.c)⟩⟩)]) (by
     intro p hp
     simp at hp
     rcases hp with rfl | rfl
     ·exact (by decide : lim ≤ 1000001)
     ·exact (by decide : lim ≤ 1000002)) (fun h1 hh1 => ?_) ?_
    ·have e1 : h1 1000001 = ⟨w1, some ⟨1, dl (k.ns.map Bo.c)⟩⟩ := by
      have := hh1 _ (List.mem_cons_self ..)
      simpa [upd] using this
     have e2 : h1 1000002 = ⟨w2, some ⟨1, dl (k.es.map Bo.c)⟩⟩ := by
      have := hh1 _ (List.mem_cons_of_mem _ (List.mem_cons_self ..))
      simpa [upd] using this
     exact m88 g k x h1 w1 w2 _ _ hf hv e1 e2
    refine hK1 _ _ ?_
    simp
   try simp only [E_cons, E_nil]
   refine .condk _ rfl (fun hc4 => ?_) (fun hc4 => ?_)
   ·simp at hc4
    refine .see (upd (upd _ 1000001 ⟨_, none⟩) 1000002 ⟨_, none⟩) [(0, _), (2, _), (3, _), (5, _), (47, _), (48, _), (49, _)] ⟨.refl _, .refl _, .refl _, .refl _, .refl _, .refl _, .refl _, trivial⟩ (Dies.up (Dies.up (Dies.refl _) (.inr ⟨rfl, Nat.le_refl _⟩)) (.inr ⟨rfl, Nat.le_refl _⟩)) ?_
    try simp only [E_cons, E_nil]
    refine .exit ?_
    try simp only [then', inBlk, if_true, if_false, reduceIte, Nat.reduceEqDiff]
    refine hK11 _ ?_
    clear hK15 hK11 K15 K11
    refine .reg ?_
    simp
    refine hK8 _ _ (by omega) (Wk.cov ?_ (.refl _)) ⟨?_, _, ?_, rfl⟩
    ·simp; exact wrap64 (by omega) (by omega)
    ·trivial
    ·rw [foldl_take_s hx1, bstep, if_neg hc4]
     exact ⟨v2, c2, X, by simp [upd, f1], by simp [upd, f2], x2, l2, by simp [upd], by simp [upd]⟩
   ·simp at hc4
    have hst2 := step_unk hf hc4
    have hsk : stepK g k x = afterK g k x := by simp [stepK, hc4]
    have haf := afterK_fits hf x
    have hes := estI_bd (o := x) (k := k) (g := g) ht hst n0
    rw [hsk]
    refine .skip ?_
    refine hK15 _ ?_
    clear hK15 K15
    refine .seqk fun K16 hK16 => ?_
    refine .dreg mixed ?_
    refine Dr.cutk 16 fun K17 hK17 => ?_
    simp only [zt]
    simp [-Bool.exists_bool, getBlk, upd, f1]
    refine Dr.pcall (p87 t ht s hn he hst g hv hty k hf x hc4 n n0 n1) ?_
    refine hK17 _ _ ?_
    clear hK17 K17
    try simp [-Bool.exists_bool, getBlk, upd, f1]
    refine hK16 _ ?_
    clear hK16 K16
    refine .keep [0, 2, 3, 5, 9, 10, 11, 47, 48, 49] ?_
    simp only [keepE, E_cons, E_nil]
    refine .seqk fun K18 hK18 => ?_
    have hw : IntKind.i64.wrap (c + (estI t s g k x n)) = c + (estI t s g k x n) := wrap64 (by omega) (by omega)
    refine .reg ?_
    simp [hw, mm2, mmA, mm_min]
    refine hK18 _ ?_
    clear hK18 K18
    refine .keep [0, 2, 3, 5, 9, 10, 11, 12, 47, 48, 49] ?_
    simp only [keepE, E_cons, E_nil]
    refine .seqk fun K19 hK19 => ?_
    refine .seqreg (fun hh => hh) (fun ee => [(0, ee 0), (2, ee 2), (3, ee 3), (5, ee 5), (9, ee 9), (10, ee 10), (11, ee 11), (12, ee 12), (47, ee 47), (48, ee 48), (49, ee 49), (94, bo ((((opsL g).take i).foldl (bstep t s g f k n c p) b).isSome && decide (bC (((opsL g).take i).foldl (bstep t s g f k n c p) b) ≤ (min 1000000000 (c + estI t s g k x n)))))]) ?_ ?_
    ·generalize (((opsL g).take i).foldl (bstep t s g f k n c p) b) = bb at *
     cases bb <;> simp [getBlk, upd, f1]
    try simp only [E_cons, E_nil]
    refine .condk _ rfl (fun hc5 => ?_) (fun hc5 => ?_)
    ·refine .see (upd (upd _ 1000001 ⟨_, none⟩) 1000002 ⟨_, none⟩) [(0, _), (2, _), (3, _), (5, _), (47, _), (48, _), (49, _)] ⟨.refl _, .refl _, .refl _, .refl _, .refl _, .refl _, .refl _, trivial⟩ (Dies.up (Dies.up (Dies.refl _) (.inr ⟨rfl, Nat.le_refl _⟩)) (.inr ⟨rfl, Nat.le_refl _⟩)) ?_
     try simp only [E_cons, E_nil]
     refine .exit ?_
     try simp only [then', inBlk, if_true, if_false, reduceIte, Nat.reduceEqDiff]
     refine hK11 _ ?_
     clear hK19 hK11 K19 K11
     refine .reg ?_
     simp
     refine hK8 _ _ (by omega) (Wk.cov ?_ (.refl _)) ⟨?_, _, ?_, rfl⟩
     ·simp; exact wrap64 (by omega) (by omega)
     ·trivial
     ·rw [foldl_take_s hx1, bstep, if_pos hc4, bestR_prune ht hst hc5 hes.1 (by omega)]
      exact ⟨v2, c2, X, by simp [upd, f1], by simp [upd, f2], x2, l2, by simp [upd], by simp [upd]⟩
    ·skip
     refine .skip ?_
     refine hK19 _ ?_
     clear hK19 K19
     refine .seqdregx mixed (α := Nat × Nat × List (List D)) (fun y => y.2.2.take (p.length + 1) = (p ++ [x]).map Oprn.c ∧ p.length + 1 ≤ y.2.2.length) (fun y hh => upd (upd (upd hh 101 ⟨(hh 101).ver + 1, none⟩) 1000004 ⟨y.1, some ⟨2, dl y.2.2⟩⟩) 1000003 ⟨v1, some ⟨10, [ccells t s g (.sl 1000004 y.1 0 (p.length + 1) y.2.1) (((opsL g).take i).foldl (bstep t s g f k n c p) b)]⟩⟩) (fun y ee => [(0, ee 0), (2, ee 2), (3, ee 3), (5, ee 5), (10, ee 10), (11, ee 11), (12, ee 12), (47, ee 47), (48, ee 48), (49, ee 49)]) ?_ (fun y hx13 => ?_)
     ·have z1 : (p.length + 1) * 16 ≤ 17592186044416 := by omega
      have z2 : p.length ≤ 17592186044415 := by omega
      by_cases hcap : p.length + 1 ≤ c2 ∧ p.length + 1 ≤ X.length
      ·simp [getBlk, upd, srcOf, f1, f2, hcap, z1, z2, l2]
       have hat := app_take (r := Oprn.c x) x2 l2
       refine ⟨v2, c2, X.take p.length ++ [Oprn.c x] ++ X.drop (p.length + 1), ⟨hat.1, hat.2⟩, ?_⟩
       simp only [dl_append, dl_cons, dl_nil, List.append_assoc, List.cons_append, List.nil_append]
       exact Dies.up (Dies.up (Dies.up (Dies.refl _) (.inr ⟨rfl, Nat.le_refl _⟩)) (.inl rfl)) (.inl rfl)
      ·simp [getBlk, upd, srcOf, f1, f2, hcap, z1, z2, l2]
       have hat := app_take2 (r := Oprn.c x) x2 l2
       refine ⟨v2 + 1, p.length + 1, X.take p.length ++ [Oprn.c x], ⟨hat.1, hat.2⟩, ?_⟩
       simp only [dl_append, dl_cons, dl_nil]
       exact Dies.up (Dies.up (Dies.up (Dies.refl _) (.inr ⟨rfl, Nat.le_refl _⟩)) (.inl rfl)) (.inl rfl)
     try simp only [E_cons, E_nil]
     refine .seqregSx (α := Heap) (fun q => ChS t s g q v1 (p ++ [x]) (bestR t s g f (afterK g k x) (estI t s g k x n) (min 1000000000 (c + estI t s g k x n)) (p ++ [x]) (((opsL g).take i).foldl (bstep t s g f k n c p) b))) (fun q hh => q) (fun q ee => [(0, ee 0), (2, ee 2), (3, ee 3), (5, ee 5), (47, ee 47), (48, ee 48), (49, ee 49)]) ?_ (fun q hq => ?_)
     ·refine SQ.cut 2 fun K1 hK1 => ?_
      simp only [zt]
      refine SQ.of ?_
      simp [getBlk, upd]
      refine hK1 _ ?_
      refine SQ.see (upd (upd _ 1000001 ⟨w1, none⟩) 1000002 ⟨w2, none⟩) [(0, _), (2, _), (3, _), (5, _), (47, _), (48, _), (49, _), (105, _), (11, _), (12, _), (106, ag (Kn.c (afterK g k x)))] ⟨.refl _, .refl _, .refl _, .refl _, .refl _, .refl _, .refl _, .refl _, .refl _, .refl _, T.agg2 (T.rowD (k := 1) ((afterK g k x).ns.map Bo.c) (by simp [upd]) (by simp [upd]) (by simp [haf.1, hfn])) (T.rowD (k := 1) ((afterK g k x).es.map Bo.c) (by simp [upd]) (by simp [upd]) (by simp [haf.2, hfe])), trivial⟩ (Dies.tr (Dies.bump _ _ _ (by simp [upd])) (Dies.bump _ _ _ (by simp [upd]))) ?_
      refine SQ.of ?_
      simp
      refine ACall.mono (ih f (by omega) (afterK g k x) (estI t s g k x n) (min 1000000000 (c + estI t s g k x n)) (p ++ [x]) (((opsL g).take i).foldl (bstep t s g f k n c p) b) _ v1 haf (by omega) hes.1 hes.2 (by omega) (by omega) (by simp; omega) ⟨y.1, y.2.1, y.2.2, by simp [upd], by simp [upd], by simpa using hx13.1, by simpa using hx13.2, by simp [upd], by simp [upd]⟩) ?_
      rintro _ h1 ⟨rfl, hq⟩
      exact ⟨_, hq.mono (mergeH_out _ _), Dies.refl _⟩
     try simp only [E_cons, E_nil]
     obtain ⟨v3, c3, X3, g1, g2, x3, l3, y1, y2⟩ := hq
     have hwp : IntKind.i64.wrap (p.length : Int) = p.length := wrapN (by omega)
     have hml : (p.length : Int) ≤ ((max (p.length + 1) c3 : Nat) : Int) := by omega
     refine .dregvx mixed (α := Unit) (fun u => True) (fun u hh => upd hh 1000003 ⟨v1, some ⟨10, [ccells t s g (.sl 1000004 v3 0 p.length (max p.length c3)) (bestR t s g f (afterK g k x) (estI t s g k x n) (min 1000000000 (c + estI t s g k x n)) (p ++ [x]) (((opsL g).take i).foldl (bstep t s g f k n c p) b))]⟩⟩) (fun u ee => [(0, ee 0), (2, ee 2), (3, ee 3), (5, ee 5), (47, ee 47), (48, ee 48), (49, ee 49)]) ?_ (fun u hx s hs => ?_)
     ·simp [getBlk, upd, g1, g2, hwp, hml]
     refine hK11 _ (.weak hs ?_)
     clear hK11 K11 hs s
     try simp only [E_cons, E_nil]
     refine .reg ?_
     simp
     refine hK8 _ _ (by omega) (Wk.cov ?_ (.refl _)) ⟨?_, _, ?_, rfl⟩
     ·simp; exact wrap64 (by omega) (by omega)
     ·trivial
     ·rw [foldl_take_s hx1, bstep, if_pos hc4]
      exact ⟨v3, max p.length c3, X3, by simp [upd], by simp [upd, g2], by rw [← take_take_le (show X3.take (p.length + 1) = (p ++ [x]).map Oprn.c from by simpa using x3)]; simp, by simp at l3; omega, by simp [upd, y1], by simp [upd, y2]⟩
  ·simp at hc3
   have hi1 : i = ((opsL g)).length := by omega
   subst hi1
   refine .exit ?_
   try simp only [then', inBlk, if_true, if_false, reduceIte, Nat.reduceEqDiff]
   try simp only [then', inBlk]
   refine ret_m (.inl rfl) (r := .tup []) (by simp) (by simp) ⟨rfl, ?_⟩
   rw [bestR_fold hk]
   simpa using hho1
end Go.Abs
set_option linter.unusedVariables false
set_option linter.unusedSimpArgs false
namespace Go.Abs
open Go Go.Proofs
theorem ret_t {rs : List Res} {e : AX} {s : St} {Q : AV → Heap → Prop} {v r : AV} (he : e = .normal ∨ e = .ret) (hv : resA s rs = some v) (hT : T s.h (outer s.h) some v r) (hr : outOnly r = true) (hq : Q r s.h) : Ret rs Q e s := by
 rcases he with rfl | rfl <;> exact ⟨v, r, hv, hT, hr, hq⟩
theorem AW.dregnvx {α : Type} {P : Program} {N : Nat} {Q : AX → St → Prop} {e : Env} {h : Heap} {ops : List GOp} {un : List (Nat × Nat)} (hm : P.follows .mixedOrders = true) (als : List Alt) (pre : α → Prop) (h' : α → Heap → Heap) (l : α → Env → List (Nat × AV))
  (ho : Dn P als ops ⟨e, h⟩ fun s fs => conf un fs = true ∧ ∃ x, pre x ∧ Cov (l x e) s.env ∧ Dies s.h (h' x h)) (hw : ∀ x, pre x → ∀ s, Wk s ⟨E (l x e), h' x h⟩ → Q .normal s) : AW P N (.dreg ops un) Q ⟨e, h⟩ :=
 .dregn hm als (ho.mono fun s fs ⟨h0, x, h1, h2, h3⟩ => ⟨h0, hw x h1 s (Wk.cov (env := s.env) (h := s.h) h2 h3)⟩)
theorem T.tup3 {h h' : Heap} {src : Nat → Option Nat} {a b c d e f : AV} (h1 : T h h' src a d) (h2 : T h h' src b e) (h3 : T h h' src c f) : T h h' src (.tup [a, b, c]) (.tup [d, e, f]) :=
 .tup _ _ rfl fun j x y hx hy => by
  match j with
  | 0 => simp at hx hy; subst hx hy; exact h1
  | 1 => simp at hx hy; subst hx hy; exact h2
  | 2 => simp at hx hy; subst hx hy; exact h3
  | j + 3 => simp at hx
theorem T.agg3 {h h' : Heap} {src : Nat → Option Nat} {a b c d e f : AV} (h1 : T h h' src a d) (h2 : T h h' src b e) (h3 : T h h' src c f) : T h h' src (.agg [a, b, c]) (.agg [d, e, f]) :=
 .agg _ _ rfl fun j x y hx hy => by
  match j with
  | 0 => simp at hx hy; subst hx hy; exact h1
  | 1 => simp at hx hy; subst hx hy; exact h2
  | 2 => simp at hx hy; subst hx hy; exact h3
  | j + 3 => simp at hx
theorem m114 (t : Types) (ht : tOK t) (s : Stat) (hn : s.nodes.length ≤ 1000) (he : s.edges.length ≤ 1000) (hst : statV t s = 0) (g : Graph) (hv : gErr g = 0) (hty : typedB t g = true) (f : Nat) : C114 t s g f := by
 induction f using Nat.strongRecOn with
 | _ f ih => exact m114s t ht s hn he hst g hv hty f ih
theorem p86 (g : Graph) (hn : g.nodes.length ≤ 1000) (he : g.edges.length ≤ 1000) : PCall Tryz.prog 86 [ag (Graph.c g)] (ag (Kn.c (freshK g))) := by
 refine PCall.frame rfl rfl ((m86 g h00 hn he rfl rfl).see ?_)
 rintro _ h' ⟨v1, v2, c1, c2, rfl, he1⟩
 have e1 : h' 1000001 = ⟨v1, some ⟨1, dl ((freshK g).ns.map Bo.c)⟩⟩ := by rw [he1 _ (by decide)]; simp [upd]
 have e2 : h' 1000002 = ⟨v2, some ⟨1, dl ((freshK g).es.map Bo.c)⟩⟩ := by rw [he1 _ (by decide)]; simp [upd]
 exact ⟨_, deadH h', deadH_dies h', T.agg2 (frzX _ (by decide) e1 (by simp)) (frzX _ (by decide) e2 (by simp)), rfl, deadH_ok h', rfl⟩
/-! The operations that are possible, in the program's order and in the document's. -/
theorem possI_cut {g : Graph} {k : Kn} {kd : Int} {b : Nat} : ∀ d, (∀ i : Nat, b ≤ i → stepE g k ⟨kd, (i : Int)⟩ ≠ 0) → possI g k kd (b + d) = possI g k kd b
 | 0, _ => rfl
 | d + 1, h => by
  rw [← Nat.add_assoc, possI_s, if_neg (h _ (by omega)), List.append_nil]
  exact possI_cut d h
theorem step_out {g : Graph} {k : Kn} {q i : Nat} (hq : q < 3) (hi : bnd g q ≤ i) : stepE g k ⟨(q : Int) + 1, (i : Int)⟩ ≠ 0 := by
 have hn : ∀ m : Nat, m ≤ i → inI (i : Int) m = false := fun m hm => by simp [inI]; omega
 unfold bnd at hi
 by_cases h0 : q = 0
 ·subst h0
  simp only [if_true] at hi
  simp [stepE, hn _ hi]
 ·rw [if_neg h0] at hi
  have h1 : ¬ ((q : Int) + 1 = 1) := by omega
  have h2 : (q : Int) + 1 = 2 ∨ (q : Int) + 1 = 3 := by omega
  simp only [stepE, if_neg h1, if_pos h2, hn _ hi, if_true]
  decide
theorem possI_bnd {g : Graph} {k : Kn} {q : Nat} (hq : q < 3) : possI g k ((q : Int) + 1) (maxN g) = (opsI q (bnd g q)).filter fun o => decide (stepE g k o = 0) := by
 have hb := bnd_le g q
 have e : maxN g = bnd g q + (maxN g - bnd g q) := by omega
 rw [e, possI_cut _ fun i hi => step_out hq hi]
 rfl
theorem poss_filter (g : Graph) (k : Kn) : poss g k = (opsL g).filter fun o => decide (stepE g k o = 0) := by
 have : ∀ q, q ≤ 3 → possK g k q = (opsK g q).filter fun o => decide (stepE g k o = 0) := by
  intro q
  induction q with
  | zero => intro _; rfl
  | succ q ih =>
   intro hq
   rw [possK, opsK, List.filter_append, ih (by omega), possI_bnd (by omega)]
 exact this 3 (Nat.le_refl _)
theorem bestR_poss {t : Types} {s : Stat} {g : Graph} {k : Kn} (h : allK k = false) (f : Nat) (n c : Int) (p : List Oprn) (b : Bst) : bestR t s g (f + 1) k n c p b = (poss g k).foldl (fun b o => bestR t s g f (afterK g k o) (estI t s g k o n) (min 1000000000 (c + estI t s g k o n)) (p ++ [o]) b) b := by
 rw [bestR_fold h, poss_filter, List.foldl_filter]
 congr 1
 funext b o
 unfold bstep
 by_cases h : stepE g k o = 0 <;> simp [h]
def pstep (t : Types) (s : Stat) (g : Graph) (f : Nat) (k : Kn) (n c : Int) (p : List Oprn) (b : Bst) (o : Oprn) : Bst := bestR t s g f (afterK g k o) (estI t s g k o n) (min 1000000000 (c + estI t s g k o n)) (p ++ [o]) b
theorem bestR_pstep {t : Types} {s : Stat} {g : Graph} {k : Kn} (h : allK k = false) (f : Nat) (n c : Int) (p : List Oprn) (b : Bst) : bestR t s g (f + 1) k n c p b = (poss g k).foldl (pstep t s g f k n c p) b := bestR_poss h f n c p b
def lastN (t : Types) (s : Stat) (g : Graph) : Kn → Int → List Oprn → Int
 | _, n, [] => n
 | k, n, o :: l => lastN t s g (afterK g k o) (estI t s g k o n) l
theorem lastN_snoc {t : Types} {s : Stat} {g : Graph} {o : Oprn} : ∀ {l : List Oprn} {k : Kn} {n : Int}, lastN t s g k n (l ++ [o]) = estI t s g (afterL g k l) o (lastN t s g k n l)
 | [], k, n => rfl
 | x :: l, k, n => lastN_snoc (l := l)
theorem costF_snoc {t : Types} {s : Stat} {g : Graph} {o : Oprn} : ∀ {l : List Oprn} {k : Kn} {n c : Int}, costF t s g k n c (l ++ [o]) = min 1000000000 (costF t s g k n c l + estI t s g (afterL g k l) o (lastN t s g k n l))
 | [], k, n, c => rfl
 | x :: l, k, n, c => costF_snoc (l := l)
def bs3 (b : Bst) : List D := [bD b, .int .i64 (bC b), .bool b.isSome]
attribute [simp] bs3
def C115 (t : Types) (s : Stat) (g : Graph) (f : Nat) : Prop := ∀ (p : List Oprn) (b : Bst), validL g (freshK g) p → unk (afterL g (freshK g) p) ≤ f → p.length + unk (afterL g (freshK g) p) ≤ 100000 →
  PCall Tryz.prog 115 [ag (Types.c t), ag (Stat.c s), ag (Graph.c g), sl (p.map Oprn.c), ag (bs3 b)] (ag (bs3 (bestR t s g f (afterL g (freshK g) p) (lastN t s g (freshK g) 1 p) (costF t s g (freshK g) 1 0 p) p b)))
set_option maxHeartbeats 8000000 in
theorem p115s (t : Types) (ht : tOK t) (s : Stat) (hn : s.nodes.length ≤ 1000) (he : s.edges.length ≤ 1000) (g : Graph) (hp : pricedE t s g = 0) (f : Nat) (ih : ∀ f1, f1 < f → C115 t s g f1) : C115 t s g f := by
 intro p b hvl hu hpl h
 refine ACall.of b115 (by simp) ?_
 unfold c115
 obtain ⟨hst, hv, hty⟩ := pricedE_ok hp
 have hgl := gErr_len hv
 have hf : (afterL g (freshK g) p).fits g := afterL_fits (freshK_fits g)
 have hpll := poss_len hv (afterL g (freshK g) p)
 have hz : planE g (freshK g) p = if allK (afterL g (freshK g) p) then 0 else 20 := planE_valid hvl
 refine .seqk fun K1 hK1 => ?_
 refine .reg ?_
 simp
 refine hK1 _ ?_
 clear hK1 K1
 refine .keep [3, 5, 6, 7, 9, 10] ?_
 simp only [keepE, E_cons, E_nil]
 refine .see (upd (upd (upd (upd (upd _ 5 ⟨_, none⟩) 6 ⟨_, none⟩) 7 ⟨_, none⟩) 9 _) 10 _) [(3, _), (5, .dptr (Types.c t)), (6, .dptr (Stat.c s)), (7, .dptr (Graph.c g)), (9, _), (10, _)] ⟨.refl _, T.box (k := 2) (cs := Types.c t) (by simp [upd]) (by simp [upd]), T.box (k := 2) (cs := Stat.c s) (by simp [upd]) (by simp [upd]), T.box (k := 2) (cs := Graph.c g) (by simp [upd]) (by simp [upd]), .refl _, .refl _, trivial⟩ (Dies.up (Dies.up (Dies.up (Dies.up (Dies.up (Dies.refl _) (.inr ⟨rfl, Nat.le_refl _⟩)) (.inr ⟨rfl, Nat.le_refl _⟩)) (.inr ⟨rfl, Nat.le_refl _⟩)) (.inl rfl)) (.inl rfl)) ?_
 try simp only [E_cons, E_nil]
 refine .seqk fun K2 hK2 => ?_
 refine .reg ?_
 refine Sq.cutk 3 fun K3 hK3 => ?_
 simp only [zt]
 simp
 refine PCall.sq (p83 g p hv (by omega) hvl) fun h1 he1 => ?_
 simp only [mergeH_eq he1]
 clear he1 h1
 refine hK3 _ ?_
 clear hK3 K3
 simp
 refine hK2 _ ?_
 clear hK2 K2
 refine .keep [3, 5, 6, 7, 9, 10, 11] ?_
 simp only [keepE, E_cons, E_nil]
 refine .seqk fun K4 hK4 => ?_
 refine .seqk fun K5 hK5 => ?_
 refine .reg ?_
 simp
 refine hK5 _ ?_
 clear hK5 K5
 refine .keep [3, 5, 6, 7, 9, 10, 11, 19] ?_
 simp only [keepE, E_cons, E_nil]
 refine .condk _ rfl (fun hc1 => ?_) (fun hc1 => ?_)
 ·simp at hc1
  have hall : allK (afterL g (freshK g) p) = true := poss_nil hf hv (by simpa using hc1)
  refine .seqk fun K6 hK6 => ?_
  refine .seqk fun K7 hK7 => ?_
  refine .reg ?_
  refine Sq.cutk 5 fun K8 hK8 => ?_
  simp only [zt]
  simp
  refine PCall.sq (p113 t ht s hn he g hp p (by omega) (by rw [hz, hall]; rfl)) fun h1 he1 => ?_
  simp only [mergeH_eq he1]
  clear he1 h1
  refine hK8 _ ?_
  clear hK8 K8
  simp
  refine hK7 _ ?_
  clear hK7 K7
  refine .keep [3, 9, 10, 12] ?_
  simp only [keepE, E_cons, E_nil]
  refine .seqreg (fun hh => hh) (fun ee => [(3, ee 3), (9, ee 9), (10, ee 10), (12, ee 12), (33, bo (!b.isSome || decide ((costF t s g (freshK g) 1 0 p) < bC b)))]) ?_ ?_
  ·cases b <;> simp [getBlk, upd]
  try simp only [E_cons, E_nil]
  refine .condk _ rfl (fun hc2 => ?_) (fun hc2 => ?_)
  ·skip
   refine .seqregx (α := Nat) (fun y => True) (fun y hh => upd (upd hh 34 ⟨y, some ⟨2, dl (p.map Oprn.c)⟩⟩) 10 ⟨(hh 10).ver, some ⟨3, [[.sl 34 y 0 p.length p.length, .d (.int .i64 (costF t s g (freshK g) 1 0 p)), .d (.bool true)]]⟩⟩) (fun y ee => [(10, ee 10)]) ?_ (fun y hx => ?_)
   ·have z1 : p.length * 16 ≤ 17592186044416 := by omega
    have z2 : p.length ≤ 17592186044416 := by omega
    by_cases hl0 : p = []
    ·subst hl0
     simp [getBlk, upd, srcOf]
     exact ⟨_, Dies.refl _⟩
    ·simp [getBlk, upd, srcOf, z1, z2, hl0]
     exact ⟨_, Dies.refl _⟩
   try simp only [E_cons, E_nil]
   refine .ret ?_
   try simp only [then', inBlk]
   refine ret_t (.inr rfl) (v := .agg [.sl 34 y 0 p.length p.length, .d (.int .i64 (costF t s g (freshK g) 1 0 p)), .d (.bool true)]) (by simp [upd, getBlk]) (T.agg3 (T.row (xs := p.map Oprn.c) (k := 2) (by decide) (by simp [upd]) (by simp)) (.refl _) (.refl _)) rfl ⟨?_, by simp⟩
   rw [bestR_all hall, upB_t (by first | exact hc2 | simpa using hc2)]
   rfl
  ·skip
   refine .skip ?_
   refine hK6 _ ?_
   clear hK6 K6
   refine .seqk fun K9 hK9 => ?_
   refine .reg ?_
   simp
   refine hK9 _ ?_
   clear hK9 K9
   refine .keep [10] ?_
   simp only [keepE, E_cons, E_nil]
   refine .ret ?_
   try simp only [then', inBlk]
   refine ret_m (.inr rfl) (r := ag (bs3 b)) (by simp [upd, getBlk]) (by simp) ⟨?_, by simp⟩
   rw [bestR_all hall, upB_f (by first | exact hc2 | simpa using hc2)]
 ·simp at hc1
  have hall : allK (afterL g (freshK g) p) = false := by
   obtain ⟨x, hx⟩ := List.exists_mem_of_ne_nil _ hc1
   exact (step_unk hf (poss_mem hx)).2
  have hup := unk_pos hall
  obtain ⟨f, rfl⟩ : ∃ e, f = e + 1 := ⟨f - 1, by omega⟩
  refine .skip ?_
  refine hK4 _ ?_
  clear hK4 K4
  refine .seqk fun K10 hK10 => ?_
  refine .seqk fun K11 hK11 => ?_
  refine .reg ?_
  simp
  refine hK11 _ ?_
  clear hK11 K11
  refine .keep [3, 5, 6, 7, 9, 10, 11, 13] ?_
  simp only [keepE, E_cons, E_nil]
  refine .block ?_
  refine .count ((poss g (afterL g (freshK g) p))).length (fun i st => ∃ v9 : Nat, ∃ v10 : Nat, (True) ∧ ∃ hh1, (OutEq hh1 h ∧ hh1 9 = ⟨v9, some ⟨3, [(bs3 (((poss g (afterL g (freshK g) p)).take i).foldl (pstep t s g f (afterL g (freshK g) p) (lastN t s g (freshK g) 1 p) (costF t s g (freshK g) 1 0 p) p) b)).map .d]⟩⟩ ∧ hh1 10 = ⟨v10, some ⟨3, [[.d .nil, .d (.int .i64 0), .d (.bool false)]]⟩⟩) ∧ st = ⟨E [(3, sl (p.map Oprn.c)), (5, .dptr (Types.c t)), (6, .dptr (Stat.c s)), (7, .dptr (Graph.c g)), (9, .ptr 9 v9 0 0), (10, .ptr 10 v10 0 0), (11, sl ((poss g (afterL g (freshK g) p)).map Oprn.c)), (13, int i)], hh1⟩) 0 (Nat.zero_le _) _ (.cov (by first | (simp; done) | (simp; rfl) | (simp; exact ⟨rfl, rfl⟩)) (.refl _)) ⟨_, _, by simp, _, ⟨by simp, by simp [upd], by simp [upd]⟩, rfl⟩ ?_
  rintro i s hi1 ⟨v9, v10, hp1, hh1, hho1, rfl⟩ K12 hK12
  refine .seqk fun K13 hK13 => ?_
  refine .seqk fun K14 hK14 => ?_
  refine .reg ?_
  simp
  refine hK14 _ ?_
  clear hK14 K14
  refine .keep [3, 5, 6, 7, 9, 10, 11, 13, 43] ?_
  simp only [keepE, E_cons, E_nil]
  refine .condk _ rfl (fun hc3 => ?_) (fun hc3 => ?_)
  ·simp at hc3
   obtain ⟨x, hx1⟩ := get_some hc3
   obtain ⟨hho, h9, h10⟩ := hho1
   have hs0 := poss_mem (List.mem_of_getElem? hx1)
   have hst2 := (step_unk hf hs0).1
   have hrec := ih f (by omega) (p ++ [x]) (((poss g (afterL g (freshK g) p)).take i).foldl (pstep t s g f (afterL g (freshK g) p) (lastN t s g (freshK g) 1 p) (costF t s g (freshK g) 1 0 p) p) b) (validL_snoc hvl hs0) (by rw [afterL_snoc]; omega) (by rw [afterL_snoc]; simp; omega)
   rw [afterL_snoc, lastN_snoc, costF_snoc] at hrec
   simp only [List.map_append, List.map_cons, List.map_nil, Oprn.c] at hrec
   refine .skip ?_
   refine hK13 _ ?_
   clear hK13 K13
   refine .seqk fun K15 hK15 => ?_
   refine .block ?_
   refine .dregnvx mixed [.plain, .plain, .plain, .plain, .plain, .plain, .plain, .plain, .plain, .plain, .plain, .frozen ((p ++ [x]).map Oprn.c)] (α := Nat × Nat) (fun y => True) (fun y hh => upd (upd (upd (upd hh 49 ⟨y.1, none⟩) 56 ⟨(hh 56).ver + 1, none⟩) 49 ⟨y.2, none⟩) 9 ⟨v9, some ⟨3, [(bs3 ((pstep t s g f (afterL g (freshK g) p) (lastN t s g (freshK g) 1 p) (costF t s g (freshK g) 1 0 p) p) (((poss g (afterL g (freshK g) p)).take i).foldl (pstep t s g f (afterL g (freshK g) p) (lastN t s g (freshK g) 1 p) (costF t s g (freshK g) 1 0 p) p) b) x)).map .d]⟩⟩) (fun y ee => [(3, ee 3), (5, ee 5), (6, ee 6), (7, ee 7), (9, ee 9), (10, ee 10), (11, ee 11), (13, ee 13)]) ?_ (fun y hx s hs => ?_)
   ·have z1 : p.length * 16 ≤ 17592186044416 := by omega
    have z2 : p.length ≤ 17592186044416 := by omega
    have z3 : (p.length + 1) * 16 ≤ 17592186044416 := by omega
    have z4 : p.length ≤ 17592186044415 := by omega
    have zz : ¬ (p.length + 1 ≤ p.length) := by omega
    have tk : List.take p.length (List.map Oprn.c p) = List.map Oprn.c p := List.take_of_length_le (by simp)
    by_cases hl0 : p = []
    ·subst hl0
     refine Dn.cutk 14 fun K1 hK1 => ?_
     simp only [zt]
     simp [-Bool.exists_bool, getBlk, upd, srcOf, hx1, h9, dl_append, dl_cons, dl_nil]
     refine PCall.nc hrec ?_
     refine hK1 _ _ ?_
     simp [getBlk, upd, h9, pstep]
     exact ⟨_, _, Dies.up (Dies.up (Dies.up (Dies.up (Dies.refl _) (.inr ⟨rfl, Nat.le_refl _⟩)) (.inr ⟨rfl, Nat.le_refl _⟩)) (.inl rfl)) (.inl rfl)⟩
    ·refine Dn.cutk 14 fun K1 hK1 => ?_
     simp only [zt]
     simp [-Bool.exists_bool, getBlk, upd, srcOf, hx1, h9, hl0, z1, z2, z3, z4, zz, tk, dl_append, dl_cons, dl_nil]
     refine PCall.nc hrec ?_
     refine hK1 _ _ ?_
     simp [getBlk, upd, h9, pstep]
     exact ⟨_, _, Dies.up (Dies.up (Dies.up (Dies.up (Dies.refl _) (.inr ⟨rfl, Nat.le_refl _⟩)) (.inr ⟨rfl, Nat.le_refl _⟩)) (.inl rfl)) (.inl rfl)⟩
   refine hK15 _ (.weak hs ?_)
   clear hK15 K15 hs s
   try simp only [E_cons, E_nil]
   refine .reg ?_
   simp
   refine hK12 _ _ (by omega) (Wk.cov ?_ (.refl _)) ⟨v9, v10, ?_, _, ?_, rfl⟩
   ·simp; exact wrap64 (by omega) (by omega)
   ·trivial
   ·exact ⟨by simp [hho], by rw [foldl_take_s hx1]; simp [upd, pstep], by simp [upd, h10]⟩
  ·simp at hc3
   have hi1 : i = ((poss g (afterL g (freshK g) p))).length := by omega
   subst hi1
   obtain ⟨hho, h9, h10⟩ := hho1
   refine .exit ?_
   try simp only [then', inBlk, if_true, if_false, reduceIte, Nat.reduceEqDiff]
   refine hK10 _ ?_
   clear hK13 hK12 hK10 K13 K12 K10
   refine .seqk fun K16 hK16 => ?_
   refine .reg ?_
   simp [getBlk, upd, h9, h10]
   refine hK16 _ ?_
   clear hK16 K16
   refine .keep [10] ?_
   simp only [keepE, E_cons, E_nil]
   refine .ret ?_
   try simp only [then', inBlk]
   refine ret_m (.inr rfl) (r := ag (bs3 (bestR t s g (f + 1) (afterL g (freshK g) p) (lastN t s g (freshK g) 1 p) (costF t s g (freshK g) 1 0 p) p b))) ?_ (by simp) ⟨rfl, by simp [hho]⟩
   rw [bestR_pstep hall]
   simp [upd, getBlk]
end Go.Abs
set_option linter.unusedVariables false
set_option linter.unusedSimpArgs false
namespace Go.Abs
open Go Go.Proofs
theorem p115 (t : Types) (ht : tOK t) (s : Stat) (hn : s.nodes.length ≤ 1000) (he : s.edges.length ≤ 1000) (g : Graph) (hp : pricedE t s g = 0) (f : Nat) : C115 t s g f := by
 induction f using Nat.strongRecOn with
 | _ f ih => exact p115s t ht s hn he g hp f ih
def bLe (b : Bst) (m : Int) : Prop := ∃ q d, b = some (q, d) ∧ d ≤ m
def bGood (t : Types) (s : Stat) (g : Graph) (b : Bst) : Prop := ∀ q d, b = some (q, d) → validL g (freshK g) q ∧ allK (afterL g (freshK g) q) = true ∧ costF t s g (freshK g) 1 0 q = d
theorem foldl_keep {α β : Type} {f : α → β → α} {p : α → Prop} : ∀ (l : List β) {a : α}, (∀ a, ∀ x ∈ l, p a → p (f a x)) → p a → p (l.foldl f a)
 | [], a, _, h => h
 | x :: l, a, hs, h => foldl_keep l (fun a y hy => hs a y (List.mem_cons_of_mem _ hy)) (hs a x (List.mem_cons_self ..) h)
theorem upB_le {p : List Oprn} {c m : Int} {b : Bst} (h : bLe b m) : bLe (upB p c b) m := by
 obtain ⟨q, d, rfl, hd⟩ := h
 by_cases hc : c < d
 ·exact ⟨p, c, by simp [upB, hc], by omega⟩
 ·exact ⟨q, d, by simp [upB, hc], hd⟩
theorem upB_own (p : List Oprn) (c : Int) (b : Bst) : bLe (upB p c b) c := by
 cases b with
 | none => exact ⟨p, c, rfl, Int.le_refl _⟩
 | some x =>
  by_cases hc : c < x.2
  ·exact ⟨p, c, by simp [upB, hc], Int.le_refl _⟩
  ·exact ⟨x.1, x.2, by simp [upB, hc], by omega⟩
theorem bestR_mono {t : Types} {s : Stat} {g : Graph} {m : Int} : ∀ (f : Nat) (k : Kn) (n c : Int) (p : List Oprn) (b : Bst), bLe b m → bLe (bestR t s g f k n c p b) m
 | 0, k, n, c, p, b, h => by
  rw [bestR]
  split
  ·exact upB_le h
  ·exact h
 | f + 1, k, n, c, p, b, h => by
  rw [bestR]
  split
  ·exact upB_le h
  ·refine foldl_keep (p := fun a => bLe a m) _ (fun a o _ ha => ?_) h
   split
   ·exact bestR_mono f _ _ _ _ _ ha
   ·exact ha
theorem mem_ops {g : Graph} {k : Kn} {o : Oprn} (hf : k.fits g) (hv : gErr g = 0) (h : stepE g k o = 0) : o ∈ opsL g := by
 obtain ⟨h0, hy⟩ := stepE_0 hf hv h
 have hI : ∀ (q : Nat), q < 3 → o.kind = (q : Int) + 1 → o.el.toNat < bnd g q → o ∈ opsL g := by
  intro q hq hk hb
  have hm : o ∈ opsI q (bnd g q) := by
   simp only [opsI, List.mem_map, List.mem_range]
   refine ⟨o.el.toNat, hb, ?_⟩
   cases o
   simp only at hk h0
   simp only [hk, Int.toNat_of_nonneg h0]
  simp only [opsL, opsK, List.mem_append]
  match q, hq, hm with
  | 0, _, hm => exact .inl (.inl (.inr hm))
  | 1, _, hm => exact .inl (.inr hm)
  | 2, _, hm => exact .inr hm
 rcases hy with ⟨h1, h2⟩ | ⟨h1, _, x, hx, h2, _⟩
 ·exact hI 0 (by decide) (by omega) (by rw [hf.1] at h2; simpa [bnd] using h2)
 ·rcases h1 with h1 | h1
  ·exact hI 1 (by decide) (by omega) (by rw [hf.2] at h2; simpa [bnd] using h2)
  ·exact hI 2 (by decide) (by omega) (by rw [hf.2] at h2; simpa [bnd] using h2)
theorem bestR_opt {t : Types} {s : Stat} {g : Graph} (hv : gErr g = 0) : ∀ (r : List Oprn) (f : Nat) (k : Kn) (n c : Int) (p : List Oprn) (b : Bst), k.fits g → unk k ≤ f → validL g k r → allK (afterL g k r) = true → bLe (bestR t s g f k n c p b) (costF t s g k n c r)
 | [], f, k, n, c, p, b, hf, hu, hvl, ha => by
  have ha2 : allK k = true := ha
  rw [bestR_all ha2]
  exact upB_own p c b
 | o :: r, f, k, n, c, p, b, hf, hu, ⟨h1, h2⟩, ha => by
  obtain ⟨hlt, hk⟩ := step_unk hf h1
  obtain ⟨f, rfl⟩ : ∃ e, f = e + 1 := ⟨f - 1, by omega⟩
  rw [bestR_fold hk]
  obtain ⟨l1, l2, hl⟩ := List.append_of_mem (mem_ops hf hv h1)
  rw [hl, List.foldl_append, List.foldl_cons]
  refine foldl_keep (p := fun a => bLe a (costF t s g k n c (o :: r))) _ (fun a x _ hax => ?_) ?_
  ·unfold bstep
   split
   ·exact bestR_mono f _ _ _ _ _ hax
   ·exact hax
  ·rw [bstep, if_pos h1]
   exact bestR_opt hv r f _ _ _ _ _ (afterK_fits hf o) (by omega) h2 ha
theorem bestR_good {t : Types} {s : Stat} {g : Graph} : ∀ (f : Nat) (p : List Oprn) (b : Bst), validL g (freshK g) p → bGood t s g b → bGood t s g (bestR t s g f (afterL g (freshK g) p) (lastN t s g (freshK g) 1 p) (costF t s g (freshK g) 1 0 p) p b)
 | f, p, b, hvl, hb => by
  have hup : allK (afterL g (freshK g) p) = true → bGood t s g (upB p (costF t s g (freshK g) 1 0 p) b) := by
   intro ha q d hq
   cases b with
   | none => simp only [upB, Option.some.injEq, Prod.mk.injEq] at hq; obtain ⟨rfl, rfl⟩ := hq; exact ⟨hvl, ha, rfl⟩
   | some x =>
    obtain ⟨x1, x2⟩ := x
    simp only [upB] at hq
    split at hq
    ·simp only [Option.some.injEq, Prod.mk.injEq] at hq; obtain ⟨rfl, rfl⟩ := hq; exact ⟨hvl, ha, rfl⟩
    ·exact hb q d hq
  match f with
  | 0 =>
   rw [bestR]
   split
   ·rename_i ha; exact hup ha
   ·exact hb
  | f + 1 =>
   rw [bestR]
   split
   ·rename_i ha; exact hup ha
   ·refine foldl_keep _ (fun a o _ haa => ?_) hb
    split
    ·rename_i ho
     have := bestR_good f (p ++ [o]) a (validL_snoc hvl ho) haa
     rw [afterL_snoc, lastN_snoc, costF_snoc] at this
     exact this
    ·exact haa
def bestB (t : Types) (s : Stat) (g : Graph) : Bst := bestR t s g (g.nodes.length + g.edges.length) (freshK g) 1 0 [] none
def bestV (t : Types) (s : Stat) (g : Graph) : List Oprn × Int × Int := if pricedE t s g ≠ 0 then ([], 0, pricedE t s g) else if (6 : Int) < (g.nodes.length : Int) + g.edges.length then ([], 0, 3) else match bestB t s g with
 | some (q, c) => (q, c, 0)
 | none => ([], 0, 0)
def bestAV (t : Types) (s : Stat) (g : Graph) : AV := .tup [sl ((bestV t s g).1.map Oprn.c), int (bestV t s g).2.1, int (bestV t s g).2.2]
theorem made_full {g : Graph} (s : List Int) (hv : gErr g = 0) : validL g (freshK g) (madeL g s 200 0 []) ∧ allK (afterL g (freshK g) (madeL g s 200 0 [])) = true := by
 have hgl := gErr_len hv
 obtain ⟨h1, h2, h3⟩ := madeL_ok g s 200 0 [] trivial (.inl rfl) (by show unk (freshK g) < 200; rw [fresh_unk]; omega)
 exact ⟨h1, poss_nil (afterL_fits (freshK_fits g)) hv h3⟩
theorem best_is (t : Types) (s : Stat) (g : Graph) (hv : gErr g = 0) : ∃ q c, bestB t s g = some (q, c) ∧ validL g (freshK g) q ∧ allK (afterL g (freshK g) q) = true ∧ costF t s g (freshK g) 1 0 q = c ∧ ∀ r, validL g (freshK g) r → allK (afterL g (freshK g) r) = true → c ≤ costF t s g (freshK g) 1 0 r := by
 obtain ⟨m1, m2⟩ := made_full (g := g) [] hv
 have hopt := fun r h1 h2 => bestR_opt (t := t) (s := s) hv r (g.nodes.length + g.edges.length) (freshK g) 1 0 [] none (freshK_fits g) (by rw [fresh_unk]; exact Nat.le_refl _) h1 h2
 obtain ⟨q, c, hq, _⟩ := hopt _ m1 m2
 have hgd := bestR_good (t := t) (s := s) (g := g) (g.nodes.length + g.edges.length) [] none trivial (by intro q d h; cases h) q c hq
 refine ⟨q, c, hq, hgd.1, hgd.2.1, hgd.2.2, fun r h1 h2 => ?_⟩
 obtain ⟨q2, c2, hq2, hle⟩ := hopt r h1 h2
 rw [hq] at hq2
 simp only [Option.some.injEq, Prod.mk.injEq] at hq2
 obtain ⟨rfl, rfl⟩ := hq2
 exact hle
set_option maxHeartbeats 4000000 in
theorem m59 (t : Types) (ht : tOK t) (s : Stat) (hn : s.nodes.length ≤ 1000) (he : s.edges.length ≤ 1000) (g : Graph) : ACall Tryz.prog 59 [ag (Types.c t), ag (Stat.c s), ag (Graph.c g)] h00 fun r _ => r = bestAV t s g := by
 refine ACall.of b59 (by simp) ?_
 unfold c59
 rw [outer_h00]
 refine .seqk fun K1 hK1 => ?_
 refine .reg ?_
 simp
 refine hK1 _ ?_
 clear hK1 K1
 refine .keep [3, 4, 5] ?_
 simp only [keepE, E_cons, E_nil]
 refine .see (upd (upd (upd _ 3 ⟨_, none⟩) 4 ⟨_, none⟩) 5 ⟨_, none⟩) [(3, .dptr (Types.c t)), (4, .dptr (Stat.c s)), (5, .dptr (Graph.c g))] ⟨T.box (k := 2) (cs := Types.c t) (by simp [upd]) (by simp [upd]), T.box (k := 2) (cs := Stat.c s) (by simp [upd]) (by simp [upd]), T.box (k := 2) (cs := Graph.c g) (by simp [upd]) (by simp [upd]), trivial⟩ (Dies.up (Dies.up (Dies.up (Dies.refl _) (.inr ⟨rfl, Nat.le_refl _⟩)) (.inr ⟨rfl, Nat.le_refl _⟩)) (.inr ⟨rfl, Nat.le_refl _⟩)) ?_
 try simp only [E_cons, E_nil]
 refine .seqk fun K2 hK2 => ?_
 refine .seqk fun K3 hK3 => ?_
 refine .reg ?_
 refine Sq.cutk 4 fun K4 hK4 => ?_
 simp only [zt]
 simp
 refine PCall.sq (p84 t ht s hn he g) fun h1 he1 => ?_
 simp only [mergeH_eq he1]
 clear he1 h1
 refine hK4 _ ?_
 clear hK4 K4
 simp
 refine hK3 _ ?_
 clear hK3 K3
 refine .keep [3, 4, 5, 9] ?_
 simp only [keepE, E_cons, E_nil]
 refine .seqk fun K5 hK5 => ?_
 refine .reg ?_
 simp
 refine hK5 _ ?_
 clear hK5 K5
 refine .keep [3, 4, 5, 9, 16] ?_
 simp only [keepE, E_cons, E_nil]
 refine .condk _ rfl (fun hc1 => ?_) (fun hc1 => ?_)
 ·simp at hc1
  refine .seqk fun K6 hK6 => ?_
  refine .reg ?_
  simp
  refine hK6 _ ?_
  clear hK6 K6
  refine .keep [6, 7, 8] ?_
  simp only [keepE, E_cons, E_nil]
  refine .ret ?_
  try simp only [then', inBlk]
  refine ret_t (.inr rfl) (v := .tup [.d .nil, int 0, int (pricedE t s g)]) (r := .tup [sl [], int 0, int (pricedE t s g)]) (by simp) (T.tup3 (.d _ _ .nil) (.refl _) (.refl _)) rfl ?_
  simp [bestAV, bestV, hc1]
 ·simp at hc1
  obtain ⟨hst, hv, hty⟩ := pricedE_ok hc1
  have hgl := gErr_len hv
  have hw : IntKind.i64.wrap ((g.nodes.length : Int) + g.edges.length) = (g.nodes.length : Int) + g.edges.length := wrap64 (by omega) (by omega)
  refine .skip ?_
  refine hK2 _ ?_
  clear hK2 K2
  refine .seqk fun K7 hK7 => ?_
  refine .seqk fun K8 hK8 => ?_
  refine .reg ?_
  simp [hw]
  refine hK8 _ ?_
  clear hK8 K8
  refine .keep [3, 4, 5, 25] ?_
  simp only [keepE, E_cons, E_nil]
  refine .condk _ rfl (fun hc2 => ?_) (fun hc2 => ?_)
  ·simp at hc2
   refine .seqk fun K9 hK9 => ?_
   refine .reg ?_
   simp
   refine hK9 _ ?_
   clear hK9 K9
   refine .keep [6, 7, 8] ?_
   simp only [keepE, E_cons, E_nil]
   refine .ret ?_
   try simp only [then', inBlk]
   refine ret_t (.inr rfl) (v := .tup [.d .nil, int 0, int 3]) (r := .tup [sl [], int 0, int 3]) (by simp) (T.tup3 (.d _ _ .nil) (.refl _) (.refl _)) rfl ?_
   simp [bestAV, bestV, hc1, hc2]
  ·simp at hc2
   have hc3 : ¬ (6 : Int) < (g.nodes.length : Int) + g.edges.length := by omega
   refine .skip ?_
   refine hK7 _ ?_
   clear hK7 K7
   refine .seqk fun K10 hK10 => ?_
   refine .reg ?_
   simp [upd, h00_at]
   refine hK10 _ ?_
   clear hK10 K10
   refine .keep [5, 10] ?_
   simp only [keepE, E_cons, E_nil]
   refine .ren 30 1000003 1 (v := 1) (blk := ⟨10, [ccells t s g (.d .nil) none]⟩) (by decide) (by decide) (by simp [upd, h00_at, bD, bC]) (by simp [upd, h00_at]) (by simp [upd, h00_at]) (by simp) ?_
   simp [renE, renA]
   refine .nilC 1000003 1 10 (ccells t s g (.d .nil) none) 6 1000004 1 2 (by simp [upd]) (by simp) (by simp [upd, h00_at]) (by decide) (by simp [upd, h00_at]) (fun _ => by decide) ?_
   refine .seqk fun K11 hK11 => ?_
   refine .reg ?_
   refine Sq.cutk 3 fun K12 hK12 => ?_
   simp only [zt]
   simp
   refine PCall.sq (p86 g (by omega) (by omega)) fun h1 he1 => ?_
   simp only [mergeH_eq he1]
   clear he1 h1
   refine hK12 _ ?_
   clear hK12 K12
   simp
   refine ACall.mono (m114 t ht s hn he hst g hv hty (g.nodes.length + g.edges.length) (freshK g) 1 0 [] none _ 1 (freshK_fits g) (by rw [fresh_unk]; exact Nat.le_refl _) (by decide) (by decide) (by decide) (by decide) (by rw [fresh_unk]; simp; omega) ⟨1, 0, [], by simp [upd], by simp [upd, dl], rfl, Nat.le_refl _, by simp [upd, h00_at], by simp [upd, h00_at]⟩) ?_
   rintro _ h1 ⟨rfl, hq⟩
   obtain ⟨v2, c2, X, f1, f2, x2, l2, d1, d2⟩ := hq
   try simp
   refine hK11 _ ?_
   clear hK11 K11
   refine .keep [10] ?_
   simp only [keepE, E_cons, E_nil]
   refine .seqk fun K13 hK13 => ?_
   refine .dreg mixed ?_
   simp [getBlk, mergeH, f1]
   refine hK13 _ ?_
   clear hK13 K13
   refine .keep [6, 7, 8] ?_
   simp only [keepE, E_cons, E_nil]
   refine .ret ?_
   try simp only [then', inBlk]
   obtain ⟨q, c, hB, _⟩ := best_is t s g hv
   refine ret_m (.inr rfl) (r := bestAV t s g) ?_ rfl rfl
   have hB2 : bestR t s g (g.nodes.length + g.edges.length) (freshK g) 1 0 [] none = some (q, c) := hB
   simp [bestAV, bestV, hc1, hc3, hB, hB2, bD, bC]
theorem p59 (t : Types) (ht : tOK t) (s : Stat) (hn : s.nodes.length ≤ 1000) (he : s.edges.length ≤ 1000) (g : Graph) : PCall Tryz.prog 59 [ag (Types.c t), ag (Stat.c s), ag (Graph.c g)] (bestAV t s g) := PCall.frame rfl rfl (m59 t ht s hn he g)
set_option maxHeartbeats 4000000 in
theorem p60 (t : Types) (ht : tOK t) (s : Stat) (hn : s.nodes.length ≤ 1000) (he : s.edges.length ≤ 1000) (g : Graph) : PCall Tryz.prog 60 [ag (Types.c t), ag (Stat.c s), ag (Graph.c g)] (bestAV t s g) := by
 intro h
 refine ACall.of b60 (by simp) ?_
 unfold c60
 refine .seqk fun K1 hK1 => ?_
 refine .reg ?_
 simp
 refine hK1 _ ?_
 clear hK1 K1
 refine .keep [3, 4, 5] ?_
 simp only [keepE, E_cons, E_nil]
 refine .see (upd (upd (upd _ 3 ⟨_, none⟩) 4 ⟨_, none⟩) 5 ⟨_, none⟩) [(3, .dptr (Types.c t)), (4, .dptr (Stat.c s)), (5, .dptr (Graph.c g))] ⟨T.box (k := 2) (cs := Types.c t) (by simp [upd]) (by simp [upd]), T.box (k := 2) (cs := Stat.c s) (by simp [upd]) (by simp [upd]), T.box (k := 2) (cs := Graph.c g) (by simp [upd]) (by simp [upd]), trivial⟩ (Dies.up (Dies.up (Dies.up (Dies.refl _) (.inr ⟨rfl, Nat.le_refl _⟩)) (.inr ⟨rfl, Nat.le_refl _⟩)) (.inr ⟨rfl, Nat.le_refl _⟩)) ?_
 try simp only [E_cons, E_nil]
 refine .seqk fun K2 hK2 => ?_
 refine .seqk fun K3 hK3 => ?_
 refine .reg ?_
 refine Sq.cutk 4 fun K4 hK4 => ?_
 simp only [zt]
 simp
 refine PCall.sq (p112 t ht s hn he g) fun h1 he1 => ?_
 simp only [mergeH_eq he1]
 clear he1 h1
 refine hK4 _ ?_
 clear hK4 K4
 simp
 refine hK3 _ ?_
 clear hK3 K3
 refine .keep [3, 4, 5, 9] ?_
 simp only [keepE, E_cons, E_nil]
 refine .seqk fun K5 hK5 => ?_
 refine .reg ?_
 simp
 refine hK5 _ ?_
 clear hK5 K5
 refine .keep [3, 4, 5, 9, 16] ?_
 simp only [keepE, E_cons, E_nil]
 refine .condk _ rfl (fun hc1 => ?_) (fun hc1 => ?_)
 ·simp at hc1
  refine .seqk fun K6 hK6 => ?_
  refine .reg ?_
  simp
  refine hK6 _ ?_
  clear hK6 K6
  refine .keep [6, 7, 8] ?_
  simp only [keepE, E_cons, E_nil]
  refine .ret ?_
  try simp only [then', inBlk]
  refine ret_t (.inr rfl) (v := .tup [.d .nil, int 0, int (pricedE t s g)]) (r := .tup [sl [], int 0, int (pricedE t s g)]) (by simp) (T.tup3 (.d _ _ .nil) (.refl _) (.refl _)) rfl ?_
  exact ⟨by simp [bestAV, bestV, hc1], by simp⟩
 ·simp at hc1
  obtain ⟨hst, hv, hty⟩ := pricedE_ok hc1
  have hgl := gErr_len hv
  have hw : IntKind.i64.wrap ((g.nodes.length : Int) + g.edges.length) = (g.nodes.length : Int) + g.edges.length := wrap64 (by omega) (by omega)
  refine .skip ?_
  refine hK2 _ ?_
  clear hK2 K2
  refine .seqk fun K7 hK7 => ?_
  refine .seqk fun K8 hK8 => ?_
  refine .reg ?_
  simp [hw]
  refine hK8 _ ?_
  clear hK8 K8
  refine .keep [3, 4, 5, 25] ?_
  simp only [keepE, E_cons, E_nil]
  refine .condk _ rfl (fun hc2 => ?_) (fun hc2 => ?_)
  ·simp at hc2
   refine .seqk fun K9 hK9 => ?_
   refine .reg ?_
   simp
   refine hK9 _ ?_
   clear hK9 K9
   refine .keep [6, 7, 8] ?_
   simp only [keepE, E_cons, E_nil]
   refine .ret ?_
   try simp only [then', inBlk]
   refine ret_t (.inr rfl) (v := .tup [.d .nil, int 0, int 3]) (r := .tup [sl [], int 0, int 3]) (by simp) (T.tup3 (.d _ _ .nil) (.refl _) (.refl _)) rfl ?_
   exact ⟨by simp [bestAV, bestV, hc1, hc2], by simp⟩
  ·simp at hc2
   have hc3 : ¬ (6 : Int) < (g.nodes.length : Int) + g.edges.length := by omega
   refine .skip ?_
   refine hK7 _ ?_
   clear hK7 K7
   refine .seqk fun K10 hK10 => ?_
   refine .reg ?_
   refine Sq.cutk 5 fun K11 hK11 => ?_
   simp only [zt]
   simp
   refine PCall.sq (PCall.nilA (us := [ag (Types.c t), ag (Stat.c s), ag (Graph.c g)]) (us' := [ag (bs3 none)]) (p115 t ht s hn he g hc1 (g.nodes.length + g.edges.length) [] none trivial (by show unk (freshK g) ≤ _; rw [fresh_unk]; exact Nat.le_refl _) (by show 0 + unk (freshK g) ≤ _; rw [fresh_unk]; omega))) fun h1 he1 => ?_
   simp only [mergeH_eq he1]
   clear he1 h1
   refine hK11 _ ?_
   clear hK11 K11
   simp
   refine hK10 _ ?_
   clear hK10 K10
   refine .keep [10] ?_
   simp only [keepE, E_cons, E_nil]
   refine .seqk fun K12 hK12 => ?_
   refine .dreg mixed ?_
   simp
   refine hK12 _ ?_
   clear hK12 K12
   refine .keep [6, 7, 8] ?_
   simp only [keepE, E_cons, E_nil]
   refine .ret ?_
   try simp only [then', inBlk]
   obtain ⟨q, c, hB, _⟩ := best_is t s g hv
   have hB2 : bestR t s g (g.nodes.length + g.edges.length) (afterL g (freshK g) []) (lastN t s g (freshK g) 1 []) (costF t s g (freshK g) 1 0 []) [] none = some (q, c) := hB
   refine ret_m (.inr rfl) (r := bestAV t s g) ?_ rfl ⟨rfl, by simp⟩
   simp [upd, bestAV, bestV, hc1, hc3, hB, hB2, bD, bC]
end Go.Abs
set_option linter.unusedVariables false
set_option linter.unusedSimpArgs false
namespace Go.Abs
open Go Go.Proofs
theorem valid_len {g : Graph} : ∀ {l : List Oprn} {k : Kn}, k.fits g → validL g k l → l.length ≤ unk k
 | [], k, _, _ => Nat.zero_le _
 | o :: l, k, hf, ⟨h1, h2⟩ => by
  have := valid_len (afterK_fits hf o) h2
  have := (step_unk hf h1).1
  simp only [List.length_cons]
  omega
theorem made_len {g : Graph} (s : List Int) (hv : gErr g = 0) : (madeL g s 200 0 []).length ≤ 1000 := by
 have h1 := valid_len (freshK_fits g) (made_full s hv).1
 have hgl := gErr_len hv
 rw [fresh_unk] at h1
 omega
theorem costV_full {t : Types} {s : Stat} {g : Graph} (hp : pricedE t s g = 0) {l : List Oprn} (h1 : validL g (freshK g) l) (h2 : allK (afterL g (freshK g) l) = true) : costV t s g l = (costF t s g (freshK g) 1 0 l, 0) := by
 have hz : planE g (freshK g) l = 0 := by rw [planE_valid h1, h2]; rfl
 simp [costV, hp, hz]
theorem bestV_len (t : Types) (s : Stat) (g : Graph) : (bestV t s g).1.length ≤ 1000 := by
 unfold bestV
 split
 ·simp
 ·rename_i hp
  split
  ·simp
  ·have hp : pricedE t s g = 0 := by simpa using hp
   obtain ⟨hst, hv, hty⟩ := pricedE_ok hp
   obtain ⟨q, c, hB, h1, _⟩ := best_is t s g hv
   have h1 := valid_len (freshK_fits g) h1
   have hgl := gErr_len hv
   rw [fresh_unk] at h1
   rw [hB]
   show q.length ≤ 1000
   omega
theorem bestV_ok {t : Types} {s : Stat} {g : Graph} (h : (bestV t s g).2.2 = 0) : pricedE t s g = 0 ∧ ∃ q c, bestV t s g = (q, c, 0) ∧ validL g (freshK g) q ∧ allK (afterL g (freshK g) q) = true ∧ costF t s g (freshK g) 1 0 q = c ∧ ∀ r, validL g (freshK g) r → allK (afterL g (freshK g) r) = true → c ≤ costF t s g (freshK g) 1 0 r := by
 unfold bestV at h ⊢
 split at h
 ·rename_i hp; exact absurd h hp
 ·rename_i hp
  split at h
  ·cases h
  ·rename_i h6
   have hp : pricedE t s g = 0 := by simpa using hp
   obtain ⟨hst, hv, hty⟩ := pricedE_ok hp
   obtain ⟨q, c, hB, hr⟩ := best_is t s g hv
   refine ⟨hp, q, c, ?_, hr⟩
   rw [if_neg (by simp [hp]), if_neg h6, hB]
set_option maxHeartbeats 2000000 in
theorem p17 (t : Types) (hs : smT t) (s : Stat) (g : Graph) (rem : List Int) (hb : ∀ n ∈ rem, byteI n) : PCall Tryz.prog 17 [ag (Types.c t ++ Stat.c s ++ Graph.c g), sl (rem.map U8.c)] (bo true) := by
 intro h
 refine ACall.of b17 (by simp) ?_
 unfold c17
 refine .seqk fun K1 hK1 => ?_
 refine .reg ?_
 simp
 refine hK1 _ ?_
 clear hK1 K1
 refine .keep [1, 2] ?_
 simp only [keepE, E_cons, E_nil]
 refine .see (upd _ 2 ⟨_, none⟩) [(1, _), (2, .dptr (Types.c t ++ Stat.c s ++ Graph.c g))] ⟨.refl _, T.box (k := 6) (cs := Types.c t ++ Stat.c s ++ Graph.c g) (by simp [upd]) (by simp [upd]), trivial⟩ (Dies.up (Dies.refl _) (.inr ⟨rfl, Nat.le_refl _⟩)) ?_
 try simp only [E_cons, E_nil]
 refine .seqk fun K2 hK2 => ?_
 refine .seqreg (fun hh => hh) (fun ee => [(1, ee 1), (2, ee 2), (31, bo (!(fewT t && fewS s && fewG g) || decide ((20 : Int) < rem.length)))]) ?_ ?_
 ·refine Sq.cutk 1 fun KC1 hKC1 => ?_
  simp only [zt]
  simp [true_and]
  refine PCall.sq (p34) fun _ he1 => ?_
  simp only [mergeH_eq he1]
  refine hKC1 _ ?_
  refine Sq.cutk 9 fun KC2 hKC2 => ?_
  simp only [zt]
  simp [true_and]
  refine PCall.sq (n57 t hs s g) fun _ he2 => ?_
  simp only [mergeH_eq he2]
  refine hKC2 _ ?_
  by_cases h1 : (fewT t && fewS s && fewG g) = true
  rotate_left
  ·simp [h1, true_and]
  simp [h1, true_and]
 try simp only [E_cons, E_nil]
 refine .condk _ rfl (fun hc1 => ?_) (fun hc1 => ?_)
 ·skip
  refine .seqk fun K3 hK3 => ?_
  refine .reg ?_
  refine Sq.cutk 1 fun K4 hK4 => ?_
  simp only [zt]
  simp
  refine PCall.sq (p34) fun h1 he1 => ?_
  simp only [mergeH_eq he1]
  clear he1 h1
  refine hK4 _ ?_
  clear hK4 K4
  simp
  refine hK3 _ ?_
  clear hK3 K3
  refine .keep [4] ?_
  simp only [keepE, E_cons, E_nil]
  refine .ret ?_
  refine ret_z (.inr rfl) rfl rfl ?_
  simp
 ·have hsm : (!(fewT t && fewS s && fewG g)) = false ∧ ¬ (20 : Int) < rem.length := by simpa using hc1
  obtain ⟨hsm, hrl⟩ := hsm
  have hsm := bnF hsm
  simp only [Bool.and_eq_true] at hsm
  obtain ⟨⟨hf1, hf2⟩, hf3⟩ := hsm
  have ht := fewT_ok hf1
  have hn : s.nodes.length ≤ 1000 := by simp [fewS] at hf2; omega
  have he : s.edges.length ≤ 1000 := by simp [fewS] at hf2; omega
  have hg1 : g.nodes.length ≤ 1000000000 := by simp [fewG] at hf3; omega
  have hg2 : g.edges.length ≤ 1000000000 := by simp [fewG] at hf3; omega
  have hbl := bestV_len t s g
  refine .skip ?_
  refine hK2 _ ?_
  clear hK2 K2
  refine .seqk fun K5 hK5 => ?_
  refine .dreg mixed ?_
  refine Dr.cutk 7 fun K6 hK6 => ?_
  simp only [zt]
  simp [-Bool.exists_bool, bestAV]
  refine Dr.pcall (p41 g hg1 hg2) ?_
  refine hK6 _ _ ?_
  clear hK6 K6
  refine Dr.cutk 1 fun K7 hK7 => ?_
  simp only [zt]
  simp [-Bool.exists_bool, bestAV]
  refine Dr.pcall (p59 t ht s hn he g) ?_
  refine hK7 _ _ ?_
  clear hK7 K7
  try simp [-Bool.exists_bool, bestAV]
  refine hK5 _ ?_
  clear hK5 K5
  refine .keep [1, 2, 5, 6, 7] ?_
  simp only [keepE, E_cons, E_nil]
  refine .seqk fun K8 hK8 => ?_
  refine .reg ?_
  refine Sq.cutk 7 fun K9 hK9 => ?_
  simp only [zt]
  simp [bestAV]
  refine PCall.sq (p60 t ht s hn he g) fun h1 he1 => ?_
  simp only [mergeH_eq he1]
  clear he1 h1
  refine hK9 _ ?_
  clear hK9 K9
  simp [bestAV]
  refine hK8 _ ?_
  clear hK8 K8
  refine .keep [1, 2, 5, 6, 7, 8, 9, 10] ?_
  simp only [keepE, E_cons, E_nil]
  refine .seqk fun K10 hK10 => ?_
  refine .seqreg (fun hh => hh) (fun ee => [(1, ee 1), (2, ee 2), (5, ee 5), (6, ee 6), (7, ee 7), (8, ee 8), (9, ee 9), (10, ee 10), (73, bo (!decide ((bestV t s g).2.2 = 0)))]) ?_ ?_
  ·refine Sq.cutk 3 fun KC1 hKC1 => ?_
   simp only [zt]
   simp [true_and]
   refine PCall.sq (p46 (bestV t s g).1 (bestV t s g).1 (by omega)) fun _ he1 => ?_
   simp only [mergeH_eq he1]
   refine hKC1 _ ?_
   rw [eqO_refl]
   simp [true_and]
  try simp only [E_cons, E_nil]
  refine .condk _ rfl (fun hc2 => ?_) (fun hc2 => ?_)
  ·skip
   refine .seqreg (fun hh => hh) (fun ee => [(4, bo true)]) ?_ ?_
   ·refine Sq.cutk 3 fun KC1 hKC1 => ?_
    simp only [zt]
    simp [true_and]
    refine PCall.sq (p46 (bestV t s g).1 (bestV t s g).1 (by omega)) fun _ he1 => ?_
    simp only [mergeH_eq he1]
    refine hKC1 _ ?_
    rw [eqO_refl]
    simp [true_and]
   try simp only [E_cons, E_nil]
   refine .ret ?_
   refine ret_z (.inr rfl) rfl rfl ?_
   simp
  ·have her : (bestV t s g).2.2 = 0 := by simpa using hc2
   obtain ⟨hp, q, c, hq, q1, q2, q3, q4⟩ := bestV_ok her
   obtain ⟨hst, hv, hty⟩ := pricedE_ok hp
   have hml := made_len rem hv
   obtain ⟨m1, m2⟩ := made_full rem hv
   have e1 := costV_full hp m1 m2
   have e2 := costV_full hp q1 q2
   have hle := q4 _ m1 m2
   refine .skip ?_
   refine hK10 _ ?_
   clear hK10 K10
   refine .seqk fun K11 hK11 => ?_
   refine .dreg mixed ?_
   refine Dr.cutk 10 fun K12 hK12 => ?_
   simp only [zt]
   simp [-Bool.exists_bool]
   refine Dr.pcall (p36 g rem hv (by omega) hb) ?_
   refine hK12 _ _ ?_
   clear hK12 K12
   refine Dr.cutk 1 fun K13 hK13 => ?_
   simp only [zt]
   simp [-Bool.exists_bool]
   refine Dr.pcall (p37 t ht s hn he g (madeL g rem 200 0 []) (by omega)) ?_
   refine hK13 _ _ ?_
   clear hK13 K13
   try simp [-Bool.exists_bool]
   refine hK11 _ ?_
   clear hK11 K11
   refine .keep [2, 5, 6, 11, 12] ?_
   simp only [keepE, E_cons, E_nil]
   refine .seqk fun K14 hK14 => ?_
   refine .reg ?_
   refine Sq.cutk 8 fun K15 hK15 => ?_
   simp only [zt]
   simp
   refine PCall.sq (p37 t ht s hn he g (bestV t s g).1 (by omega)) fun h1 he1 => ?_
   simp only [mergeH_eq he1]
   clear he1 h1
   refine hK15 _ ?_
   clear hK15 K15
   simp
   refine hK14 _ ?_
   clear hK14 K14
   refine .keep [6, 11, 12, 13, 14] ?_
   simp only [keepE, E_cons, E_nil]
   refine .seqreg (fun hh => hh) (fun ee => [(4, bo true)]) ?_ ?_
   ·simp [hq, e1, e2, q3, hle]
   try simp only [E_cons, E_nil]
   refine .ret ?_
   refine ret_z (.inr rfl) rfl rfl ?_
   simp
end Go.Abs
