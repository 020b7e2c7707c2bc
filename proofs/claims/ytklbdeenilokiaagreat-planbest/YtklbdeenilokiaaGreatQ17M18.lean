/- Contracts of functions of the program, and what they lean on: a part of the proof that planBest_proved stands; no condition. -/
import Derived.Test.YtklbdeenilokiaaGreatProg
import Derived.Test.YtklbdeenilokiaaGreatQ17M17
set_option linter.unusedVariables false
set_option linter.unusedSimpArgs false
namespace Go.Abs
open Go Go.Proofs
theorem same2 {h : Heap} {x y : HB} (e1 : h 1000001 = x) (e2 : h 1000002 = y) : Go.Abs.upd (Go.Abs.upd h 1000001 x) 1000002 y = h := by
 funext b
 by_cases h2 : b = 1000002
 ·subst h2; rw [upd_same, e2]
 ·rw [upd_ne _ _ _ _ h2]
  by_cases h1 : b = 1000001
  ·subst h1; rw [upd_same, e1]
  ·rw [upd_ne _ _ _ _ h1]
set_option maxHeartbeats 8000000 in
theorem m88 (g : Graph) (k : Kn) (o : Oprn) (h : Heap) (v1 v2 c1 c2 : Nat) (hf : k.fits g) (hv : gErr g = 0) (e1 : h 1000001 = ⟨v1, some ⟨1, dl (k.ns.map Bo.c)⟩⟩) (e2 : h 1000002 = ⟨v2, some ⟨1, dl (k.es.map Bo.c)⟩⟩) : ACall Tryz.prog 88 [.agg [.sl 1000001 v1 0 k.ns.length c1, .sl 1000002 v2 0 k.es.length c2], ag (Graph.c g), ag (Oprn.c o)] h fun r h' => r = int (stepE g k o) ∧ OutEq h' (upd (upd h 1000001 ⟨v1, some ⟨1, dl ((stepK g k o).ns.map Bo.c)⟩⟩) 1000002 ⟨v2, some ⟨1, dl ((stepK g k o).es.map Bo.c)⟩⟩) := by
 refine ACall.of b88 (by simp) ?_
 unfold c88
 have o1 : outer h 1000001 = ⟨v1, some ⟨1, dl (k.ns.map Bo.c)⟩⟩ := by simp [outer, e1]
 have o2 : outer h 1000002 = ⟨v2, some ⟨1, dl (k.es.map Bo.c)⟩⟩ := by simp [outer, e2]
 refine .seqk fun K1 hK1 => ?_
 refine .reg ?_
 simp
 refine hK1 _ ?_
 clear hK1 K1
 refine .keep [3, 4, 5, 18, 19, 20, 21, 22, 23, 43, 44, 45, 46, 47, 48, 63, 64, 65, 66, 67, 68, 77, 78, 79, 80, 81, 82, 91, 92, 93, 94, 95, 96, 97, 100, 101, 102, 103, 104, 105, 106, 107, 108, 109] ?_
 simp only [keepE, E_cons, E_nil]
 refine .see (upd (upd (upd _ 3 _) 4 ⟨_, none⟩) 5 ⟨_, none⟩) [(3, .ptr 3 ((outer h 3).ver + 1) 0 0), (4, .dptr (Graph.c g)), (5, .dptr (Oprn.c o))] ⟨.refl _, T.box (k := 2) (cs := Graph.c g) (by simp [upd]) (by simp [upd]), T.box (k := 2) (cs := Oprn.c o) (by simp [upd]) (by simp [upd]), trivial⟩ (Dies.up (Dies.up (Dies.up (Dies.refl _) (.inl rfl)) (.inr ⟨rfl, Nat.le_refl _⟩)) (.inr ⟨rfl, Nat.le_refl _⟩)) ?_
 refine .seqk fun K2 hK2 => ?_
 refine .seqk fun K3 hK3 => ?_
 refine .reg ?_
 simp
 refine hK3 _ ?_
 clear hK3 K3
 refine .block ?_
 refine .seqk fun K4 hK4 => ?_
 refine .reg ?_
 simp
 refine hK4 _ ?_
 clear hK4 K4
 refine .condk _ rfl (fun hc1 => ?_) (fun hc1 => ?_)
 ·simp at hc1
  refine .seqk fun K5 hK5 => ?_
  refine .seqreg (fun hh => hh) (fun ee => [(3, ee 3), (5, ee 5), (24, bo (!inI o.el g.nodes.length))]) ?_ ?_
  ·by_cases h0 : o.el < 0 <;> by_cases h1 : (g.nodes.length : Int) ≤ o.el <;> simp [h0, h1, inI] <;> omega
  try simp only [E_cons, E_nil]
  refine .condk _ rfl (fun hc2 => ?_) (fun hc2 => ?_)
  ·simp at hc2
   refine .seqk fun K6 hK6 => ?_
   refine .reg ?_
   simp
   refine hK6 _ ?_
   clear hK6 K6
   refine .ret ?_
   try simp only [then', inBlk]
   have hst : stepE g k o = 6 := by simp [stepE, hc1, hc2]
   have hsk : stepK g k o = k := by simp [stepK, hst]
   refine ret_m (.inr rfl) (r := int 6) ?_ (by simp) ?_
   ·simp
   ·refine ⟨by rw [hst], ?_⟩
    rw [hsk, same2 e1 e2]
    simp
  ·simp at hc2
   obtain ⟨h0, a, ha, hea⟩ := Kn.get hf hc2
   have hi : o.el < (k.ns.length : Int) := by have := (List.getElem?_eq_some_iff.1 ha).1; omega
   have hae := (List.getElem?_eq_some_iff.1 ha).2
   refine .skip ?_
   refine hK5 _ ?_
   clear hK5 K5
   refine .seqk fun K7 hK7 => ?_
   refine .seqk fun K8 hK8 => ?_
   refine .reg ?_
   simp [h0, hi, ha, hae, dl_getE, getBlk, upd, o1, o2]
   refine hK8 _ ?_
   clear hK8 K8
   refine .keep [3, 5, 30] ?_
   simp only [keepE, E_cons, E_nil]
   refine .condk _ rfl (fun hc3 => ?_) (fun hc3 => ?_)
   ·skip
    refine .seqk fun K9 hK9 => ?_
    refine .reg ?_
    simp
    refine hK9 _ ?_
    clear hK9 K9
    refine .ret ?_
    try simp only [then', inBlk]
    have hst : stepE g k o = 8 := by simp [stepE, hc1, hc2, hea, hc3]
    have hsk : stepK g k o = k := by simp [stepK, hst]
    refine ret_m (.inr rfl) (r := int 8) ?_ (by simp) ?_
    ·simp
    ·refine ⟨by rw [hst], ?_⟩
     rw [hsk, same2 e1 e2]
     simp
   ·skip
    refine .skip ?_
    refine hK7 _ ?_
    clear hK7 K7
    refine .seqk fun K10 hK10 => ?_
    refine .reg ?_
    simp [h0, hi, ha, dl_setB, dl_getE, -List.map_set, getBlk, upd, o1, o2]
    refine hK10 _ ?_
    clear hK10 K10
    refine .keep [] ?_
    simp only [keepE, E_cons, E_nil]
    refine .seqk fun K11 hK11 => ?_
    refine .reg ?_
    simp
    refine hK11 _ ?_
    clear hK11 K11
    refine .ret ?_
    try simp only [then', inBlk]
    have hst : stepE g k o = 0 := by simp [stepE, hc1, hc2, hea, hc3]
    have hsk : stepK g k o = afterK g k o := by simp [stepK, hst]
    refine ret_m (.inr rfl) (r := int 0) ?_ (by simp) ?_
    ·simp
    ·refine ⟨by rw [hst], ?_⟩
     rw [hsk]
     intro b hb
     have hb1 : 1000000 ≤ b := hb
     have n3 : b ≠ 3 := by omega
     have n4 : b ≠ 4 := by omega
     have n5 : b ≠ 5 := by omega
     have n7 : b ≠ 7 := by omega
     by_cases m1 : b = 1000001 <;> by_cases m2 : b = 1000002 <;> simp [upd, outer, afterK, hc1, m1, m2, n3, n4, n5, n7, Nat.not_lt.2 hb1, e1, e2]
 ·simp at hc1
  refine .seqk fun K12 hK12 => ?_
  refine .seqk fun K13 hK13 => ?_
  refine .reg ?_
  simp
  refine hK13 _ ?_
  clear hK13 K13
  refine .condk _ rfl (fun hc4 => ?_) (fun hc4 => ?_)
  ·simp at hc4
   refine .skip ?_
   refine hK12 _ ?_
   clear hK12 K12
   refine .condk _ rfl (fun hc5 => ?_) (fun hc5 => ?_)
   ·simp at hc5
    have hk2 : o.kind = 2 ∨ o.kind = 3 := by omega
    refine .skip ?_
    refine hK2 _ ?_
    clear hK2 K2
    refine .seqk fun K14 hK14 => ?_
    refine .seqreg (fun hh => hh) (fun ee => [(3, ee 3), (4, ee 4), (5, ee 5), (49, bo (!inI o.el g.edges.length)), (63, ee 63), (64, ee 64), (65, ee 65), (66, ee 66), (67, ee 67), (68, ee 68), (77, ee 77), (78, ee 78), (79, ee 79), (80, ee 80), (81, ee 81), (82, ee 82), (91, ee 91), (92, ee 92), (93, ee 93), (94, ee 94), (95, ee 95), (96, ee 96), (97, ee 97), (100, ee 100), (101, ee 101), (102, ee 102), (103, ee 103), (104, ee 104), (105, ee 105), (106, ee 106), (107, ee 107), (108, ee 108), (109, ee 109)]) ?_ ?_
    ·by_cases h0 : o.el < 0 <;> by_cases h1 : (g.edges.length : Int) ≤ o.el <;> simp [h0, h1, inI] <;> omega
    try simp only [E_cons, E_nil]
    refine .condk _ rfl (fun hc6 => ?_) (fun hc6 => ?_)
    ·simp at hc6
     refine .seqk fun K15 hK15 => ?_
     refine .reg ?_
     simp
     refine hK15 _ ?_
     clear hK15 K15
     refine .ret ?_
     try simp only [then', inBlk]
     have hst : stepE g k o = 6 := by rcases hk2 with h2 | h2 <;> simp [stepE, h2, hc6]
     have hsk : stepK g k o = k := by simp [stepK, hst]
     refine ret_m (.inr rfl) (r := int 6) ?_ (by simp) ?_
     ·simp
     ·refine ⟨by rw [hst], ?_⟩
      rw [hsk, same2 e1 e2]
      simp
    ·simp at hc6
     have h0 : 0 ≤ o.el ∧ o.el < g.edges.length := by simpa [inI] using hc6
     obtain ⟨h0, hle⟩ := h0
     obtain ⟨x, hx⟩ : ∃ x, g.edges[o.el.toNat]? = some x := ⟨g.edges[o.el.toNat]'(by omega), by simp⟩
     have hel : o.el.toNat < k.es.length := by rw [hf.2]; omega
     have hi : o.el < (k.es.length : Int) := by omega
     obtain ⟨e, he⟩ : ∃ e, k.es[o.el.toNat]? = some e := ⟨_, List.getElem?_eq_getElem hel⟩
     obtain ⟨i1, i2⟩ := gErr_edge hv (List.mem_of_getElem? hx)
     obtain ⟨hs0, a, ha, hea⟩ := Kn.get hf i1
     obtain ⟨ht0, b, hb, heb⟩ := Kn.get hf i2
     have hae := (List.getElem?_eq_some_iff.1 ha).2
     have hbe := (List.getElem?_eq_some_iff.1 hb).2
     have hee := (List.getElem?_eq_some_iff.1 he).2
     have hi2 : x.src < (k.ns.length : Int) := by have := (List.getElem?_eq_some_iff.1 ha).1; omega
     have hi3 : x.tgt < (k.ns.length : Int) := by have := (List.getElem?_eq_some_iff.1 hb).1; omega
     have hks : (if (e || (decide (o.kind = 3) && !(a && b)) || (decide (o.kind = 2) && ((a && b) || !(a || b)))) = true then (8 : Int) else 0) = stepE g k o := by
      rcases hk2 with h2 | h2 <;> simp [stepE, h2, hc6, hx, he, hea, heb]
     have hne1 : ¬ o.kind = 1 := hc1
     refine .skip ?_
     refine hK14 _ ?_
     clear hK14 K14
     refine .seqk fun K16 hK16 => ?_
     refine .reg ?_
     simp [h0, hx]
     refine hK16 _ ?_
     clear hK16 K16
     refine .keep [3, 5, 7, 63, 64, 65, 66, 67, 68, 77, 78, 79, 80, 81, 82, 91, 92, 93, 94, 95, 96, 97, 100, 101, 102, 103, 104, 105, 106, 107, 108, 109] ?_
     simp only [keepE, E_cons, E_nil]
     refine .see (upd _ 7 ⟨_, none⟩) [(3, .ptr 3 ((outer h 3).ver + 1) 0 0), (5, .dptr (Oprn.c o)), (7, .dptr (Edge.c x))] ⟨.refl _, .refl _, T.box (k := 3) (cs := Edge.c x) (by simp [upd]) (by simp [upd]), trivial⟩ (Dies.kill _ _ _ _) ?_
     refine .seqdreg mixed (fun hh => hh) (fun ee => [(3, ee 3), (5, ee 5), (7, ee 7), (8, bo (a && b)), (9, bo (a || b)), (91, ee 91), (92, ee 92), (93, ee 93), (94, ee 94), (95, ee 95), (96, ee 96), (97, ee 97), (100, ee 100), (101, ee 101), (102, ee 102), (103, ee 103), (104, ee 104), (105, ee 105), (106, ee 106), (107, ee 107), (108, ee 108), (109, ee 109)]) ?_ ?_
     ·cases a <;> cases b <;> simp [hs0, ht0, hi2, hi3, ha, hb, hae, hbe, dl_getE, getBlk, upd, o1, o2]
     try simp only [E_cons, E_nil]
     refine .seqk fun K17 hK17 => ?_
     refine .seqreg (fun hh => hh) (fun ee => [(3, ee 3), (5, ee 5), (7, ee 7), (110, bo (e || (decide (o.kind = 3) && !(a && b)) || (decide (o.kind = 2) && ((a && b) || !(a || b)))))]) ?_ ?_
     ·rcases hk2 with h2 | h2 <;> cases a <;> cases b <;> cases e <;> simp [h0, hi, he, hee, h2, dl_getE, getBlk, upd, o1, o2]
     try simp only [E_cons, E_nil]
     refine .condk _ rfl (fun hc7 => ?_) (fun hc7 => ?_)
     ·rw [if_pos hc7] at hks
      refine .seqk fun K18 hK18 => ?_
      refine .reg ?_
      simp
      refine hK18 _ ?_
      clear hK18 K18
      refine .ret ?_
      try simp only [then', inBlk]
      have hst : stepE g k o = 8 := by exact hks.symm
      have hsk : stepK g k o = k := by simp [stepK, hst]
      refine ret_m (.inr rfl) (r := int 8) ?_ (by simp) ?_
      ·simp
      ·refine ⟨by rw [hst], ?_⟩
       rw [hsk, same2 e1 e2]
       simp
     ·rw [hc7] at hks
      simp only [Bool.false_eq_true, if_false] at hks
      refine .skip ?_
      refine hK17 _ ?_
      clear hK17 K17
      refine .seqk fun K19 hK19 => ?_
      obtain ⟨b2, hb2⟩ : ∃ b2, (k.ns.set x.src.toNat true)[x.tgt.toNat]? = some b2 := ⟨_, List.getElem?_eq_getElem (by rw [List.length_set]; omega)⟩
      refine .dreg mixed ?_
      simp [h0, hi, he, hs0, ht0, hi2, hi3, ha, hb2, dl_setB, dl_getE, -List.map_set, getBlk, upd, o1, o2]
      refine hK19 _ ?_
      clear hK19 K19
      refine .keep [] ?_
      simp only [keepE, E_cons, E_nil]
      refine .seqk fun K20 hK20 => ?_
      refine .reg ?_
      simp
      refine hK20 _ ?_
      clear hK20 K20
      refine .ret ?_
      try simp only [then', inBlk]
      have hst : stepE g k o = 0 := by exact hks.symm
      have hsk : stepK g k o = afterK g k o := by simp [stepK, hst]
      refine ret_m (.inr rfl) (r := int 0) ?_ (by simp) ?_
      ·simp
      ·refine ⟨by rw [hst], ?_⟩
       rw [hsk]
       intro b hb
       have hb1 : 1000000 ≤ b := hb
       have n3 : b ≠ 3 := by omega
       have n4 : b ≠ 4 := by omega
       have n5 : b ≠ 5 := by omega
       have n7 : b ≠ 7 := by omega
       by_cases m1 : b = 1000001 <;> by_cases m2 : b = 1000002 <;> simp [upd, outer, afterK, hne1, hx, m1, m2, n3, n4, n5, n7, Nat.not_lt.2 hb1, e1, e2]
   ·simp at hc5
    refine .seqk fun K21 hK21 => ?_
    refine .reg ?_
    simp
    refine hK21 _ ?_
    clear hK21 K21
    refine .ret ?_
    try simp only [then', inBlk]
    have hst : stepE g k o = 6 := by simp_all [stepE]
    have hsk : stepK g k o = k := by simp [stepK, hst]
    refine ret_m (.inr rfl) (r := int 6) ?_ (by simp) ?_
    ·simp
    ·refine ⟨by rw [hst], ?_⟩
     rw [hsk, same2 e1 e2]
     simp
  ·simp at hc4
   refine .reg ?_
   simp
   refine hK12 _ ?_
   clear hK12 K12
   refine .condk _ rfl (fun hc5 => ?_) (fun hc5 => ?_)
   ·simp at hc5
    have hk2 : o.kind = 2 ∨ o.kind = 3 := by omega
    refine .skip ?_
    refine hK2 _ ?_
    clear hK2 K2
    refine .seqk fun K22 hK22 => ?_
    refine .seqreg (fun hh => hh) (fun ee => [(3, ee 3), (4, ee 4), (5, ee 5), (49, bo (!inI o.el g.edges.length)), (63, ee 63), (64, ee 64), (65, ee 65), (66, ee 66), (67, ee 67), (68, ee 68), (77, ee 77), (78, ee 78), (79, ee 79), (80, ee 80), (81, ee 81), (82, ee 82), (91, ee 91), (92, ee 92), (93, ee 93), (94, ee 94), (95, ee 95), (96, ee 96), (97, ee 97), (100, ee 100), (101, ee 101), (102, ee 102), (103, ee 103), (104, ee 104), (105, ee 105), (106, ee 106), (107, ee 107), (108, ee 108), (109, ee 109)]) ?_ ?_
    ·by_cases h0 : o.el < 0 <;> by_cases h1 : (g.edges.length : Int) ≤ o.el <;> simp [h0, h1, inI] <;> omega
    try simp only [E_cons, E_nil]
    refine .condk _ rfl (fun hc6 => ?_) (fun hc6 => ?_)
    ·simp at hc6
     refine .seqk fun K23 hK23 => ?_
     refine .reg ?_
     simp
     refine hK23 _ ?_
     clear hK23 K23
     refine .ret ?_
     try simp only [then', inBlk]
     have hst : stepE g k o = 6 := by rcases hk2 with h2 | h2 <;> simp [stepE, h2, hc6]
     have hsk : stepK g k o = k := by simp [stepK, hst]
     refine ret_m (.inr rfl) (r := int 6) ?_ (by simp) ?_
     ·simp
     ·refine ⟨by rw [hst], ?_⟩
      rw [hsk, same2 e1 e2]
      simp
    ·simp at hc6
     have h0 : 0 ≤ o.el ∧ o.el < g.edges.length := by simpa [inI] using hc6
     obtain ⟨h0, hle⟩ := h0
     obtain ⟨x, hx⟩ : ∃ x, g.edges[o.el.toNat]? = some x := ⟨g.edges[o.el.toNat]'(by omega), by simp⟩
     have hel : o.el.toNat < k.es.length := by rw [hf.2]; omega
     have hi : o.el < (k.es.length : Int) := by omega
     obtain ⟨e, he⟩ : ∃ e, k.es[o.el.toNat]? = some e := ⟨_, List.getElem?_eq_getElem hel⟩
     obtain ⟨i1, i2⟩ := gErr_edge hv (List.mem_of_getElem? hx)
     obtain ⟨hs0, a, ha, hea⟩ := Kn.get hf i1
     obtain ⟨ht0, b, hb, heb⟩ := Kn.get hf i2
     have hae := (List.getElem?_eq_some_iff.1 ha).2
     have hbe := (List.getElem?_eq_some_iff.1 hb).2
     have hee := (List.getElem?_eq_some_iff.1 he).2
     have hi2 : x.src < (k.ns.length : Int) := by have := (List.getElem?_eq_some_iff.1 ha).1; omega
     have hi3 : x.tgt < (k.ns.length : Int) := by have := (List.getElem?_eq_some_iff.1 hb).1; omega
     have hks : (if (e || (decide (o.kind = 3) && !(a && b)) || (decide (o.kind = 2) && ((a && b) || !(a || b)))) = true then (8 : Int) else 0) = stepE g k o := by
      rcases hk2 with h2 | h2 <;> simp [stepE, h2, hc6, hx, he, hea, heb]
     have hne1 : ¬ o.kind = 1 := hc1
     refine .skip ?_
     refine hK22 _ ?_
     clear hK22 K22
     refine .seqk fun K24 hK24 => ?_
     refine .reg ?_
     simp [h0, hx]
     refine hK24 _ ?_
     clear hK24 K24
     refine .keep [3, 5, 7, 63, 64, 65, 66, 67, 68, 77, 78, 79, 80, 81, 82, 91, 92, 93, 94, 95, 96, 97, 100, 101, 102, 103, 104, 105, 106, 107, 108, 109] ?_
     simp only [keepE, E_cons, E_nil]
     refine .see (upd _ 7 ⟨_, none⟩) [(3, .ptr 3 ((outer h 3).ver + 1) 0 0), (5, .dptr (Oprn.c o)), (7, .dptr (Edge.c x))] ⟨.refl _, .refl _, T.box (k := 3) (cs := Edge.c x) (by simp [upd]) (by simp [upd]), trivial⟩ (Dies.kill _ _ _ _) ?_
     refine .seqdreg mixed (fun hh => hh) (fun ee => [(3, ee 3), (5, ee 5), (7, ee 7), (8, bo (a && b)), (9, bo (a || b)), (91, ee 91), (92, ee 92), (93, ee 93), (94, ee 94), (95, ee 95), (96, ee 96), (97, ee 97), (100, ee 100), (101, ee 101), (102, ee 102), (103, ee 103), (104, ee 104), (105, ee 105), (106, ee 106), (107, ee 107), (108, ee 108), (109, ee 109)]) ?_ ?_
     ·cases a <;> cases b <;> simp [hs0, ht0, hi2, hi3, ha, hb, hae, hbe, dl_getE, getBlk, upd, o1, o2]
     try simp only [E_cons, E_nil]
     refine .seqk fun K25 hK25 => ?_
     refine .seqreg (fun hh => hh) (fun ee => [(3, ee 3), (5, ee 5), (7, ee 7), (110, bo (e || (decide (o.kind = 3) && !(a && b)) || (decide (o.kind = 2) && ((a && b) || !(a || b)))))]) ?_ ?_
     ·rcases hk2 with h2 | h2 <;> cases a <;> cases b <;> cases e <;> simp [h0, hi, he, hee, h2, dl_getE, getBlk, upd, o1, o2]
     try simp only [E_cons, E_nil]
     refine .condk _ rfl (fun hc7 => ?_) (fun hc7 => ?_)
     ·rw [if_pos hc7] at hks
      refine .seqk fun K26 hK26 => ?_
      refine .reg ?_
      simp
      refine hK26 _ ?_
      clear hK26 K26
      refine .ret ?_
      try simp only [then', inBlk]
      have hst : stepE g k o = 8 := by exact hks.symm
      have hsk : stepK g k o = k := by simp [stepK, hst]
      refine ret_m (.inr rfl) (r := int 8) ?_ (by simp) ?_
      ·simp
      ·refine ⟨by rw [hst], ?_⟩
       rw [hsk, same2 e1 e2]
       simp
     ·rw [hc7] at hks
      simp only [Bool.false_eq_true, if_false] at hks
      refine .skip ?_
      refine hK25 _ ?_
      clear hK25 K25
      refine .seqk fun K27 hK27 => ?_
      obtain ⟨b2, hb2⟩ : ∃ b2, (k.ns.set x.src.toNat true)[x.tgt.toNat]? = some b2 := ⟨_, List.getElem?_eq_getElem (by rw [List.length_set]; omega)⟩
      refine .dreg mixed ?_
      simp [h0, hi, he, hs0, ht0, hi2, hi3, ha, hb2, dl_setB, dl_getE, -List.map_set, getBlk, upd, o1, o2]
      refine hK27 _ ?_
      clear hK27 K27
      refine .keep [] ?_
      simp only [keepE, E_cons, E_nil]
      refine .seqk fun K28 hK28 => ?_
      refine .reg ?_
      simp
      refine hK28 _ ?_
      clear hK28 K28
      refine .ret ?_
      try simp only [then', inBlk]
      have hst : stepE g k o = 0 := by exact hks.symm
      have hsk : stepK g k o = afterK g k o := by simp [stepK, hst]
      refine ret_m (.inr rfl) (r := int 0) ?_ (by simp) ?_
      ·simp
      ·refine ⟨by rw [hst], ?_⟩
       rw [hsk]
       intro b hb
       have hb1 : 1000000 ≤ b := hb
       have n3 : b ≠ 3 := by omega
       have n4 : b ≠ 4 := by omega
       have n5 : b ≠ 5 := by omega
       have n7 : b ≠ 7 := by omega
       by_cases m1 : b = 1000001 <;> by_cases m2 : b = 1000002 <;> simp [upd, outer, afterK, hne1, hx, m1, m2, n3, n4, n5, n7, Nat.not_lt.2 hb1, e1, e2]
   ·simp at hc5
    refine .seqk fun K29 hK29 => ?_
    refine .reg ?_
    simp
    refine hK29 _ ?_
    clear hK29 K29
    refine .ret ?_
    try simp only [then', inBlk]
    have hst : stepE g k o = 6 := by simp_all [stepE]
    have hsk : stepK g k o = k := by simp [stepK, hst]
    refine ret_m (.inr rfl) (r := int 6) ?_ (by simp) ?_
    ·simp
    ·refine ⟨by rw [hst], ?_⟩
     rw [hsk, same2 e1 e2]
     simp
end Go.Abs
set_option linter.unusedVariables false
set_option linter.unusedSimpArgs false
namespace Go.Abs
open Go Go.Proofs
theorem Dies.tr {a b c : Heap} (h1 : Dies a b) (h2 : Dies b c) : Dies a c := by
 intro x
 rcases h1 x with e1 | ⟨l1, v1⟩ <;> rcases h2 x with e2 | ⟨l2, v2⟩
 ·exact .inl (e2.trans e1)
 ·exact .inr ⟨l2, by rw [← e1]; exact v2⟩
 ·exact .inr ⟨by rw [e2]; exact l1, by rw [e2]; exact v1⟩
 ·exact .inr ⟨l2, Nat.le_trans v1 v2⟩
theorem stepK_fits {g : Graph} {k : Kn} (h : k.fits g) (o : Oprn) : (stepK g k o).fits g := by
 unfold stepK
 split
 ·exact afterK_fits h o
 ·exact h
set_option maxHeartbeats 4000000 in
theorem m85 (g : Graph) (l : List Oprn) (hv : gErr g = 0) (hm : l.length ≤ 9223372036854775807) : ACall Tryz.prog 85 [ag (Graph.c g), sl (l.map Oprn.c)] h00 fun r h' => r = int (planE g (freshK g) l) := by
 refine ACall.of b85 (by simp) ?_
 unfold c85
 have hgl := gErr_len hv
 rw [outer_h00]
 refine .seqk fun K1 hK1 => ?_
 refine .reg ?_
 simp
 refine hK1 _ ?_
 clear hK1 K1
 refine .keep [1, 2] ?_
 simp only [keepE, E_cons, E_nil]
 refine .see (upd _ 2 ⟨_, none⟩) [(1, sl (l.map Oprn.c)), (2, .dptr (Graph.c g))] ⟨.refl _, T.box (k := 2) (cs := Graph.c g) (by simp [upd]) (by simp [upd]), trivial⟩ (Dies.up (Dies.refl _) (.inr ⟨rfl, Nat.le_refl _⟩)) ?_
 refine .seqk fun K2 hK2 => ?_
 refine .reg ?_
 refine Sq.cutk 2 fun K3 hK3 => ?_
 simp only [zt]
 simp
 refine ACall.mono (m86 g _ (by omega) (by omega) (by simp [upd, h00_at]) (by simp [upd, h00_at])) ?_
 rintro _ h1 ⟨v1, v2, c1, c2, rfl, he1⟩
 rw [mergeH_upd2 he1 (by decide) (by decide)]
 clear he1 h1
 refine hK3 _ ?_
 clear hK3 K3
 simp
 refine hK2 _ ?_
 clear hK2 K2
 refine .keep [1, 2, 5] ?_
 simp only [keepE, E_cons, E_nil]
 refine .seqk fun K4 hK4 => ?_
 refine .seqk fun K5 hK5 => ?_
 refine .reg ?_
 simp
 refine hK5 _ ?_
 clear hK5 K5
 refine .keep [2, 5, 11, 12, 13] ?_
 simp only [keepE, E_cons, E_nil]
 refine .block ?_
 refine .count l.length (fun i st => ∃ k v v1 v2 c1 c2 hh, k.fits g ∧ planE g k (l.drop i) = planE g (freshK g) l ∧ hh 1000001 = ⟨v1, some ⟨1, dl (k.ns.map Bo.c)⟩⟩ ∧ hh 1000002 = ⟨v2, some ⟨1, dl (k.es.map Bo.c)⟩⟩ ∧ hh 5 = ⟨v, some ⟨2, [[.sl 1000001 v1 0 k.ns.length c1, .sl 1000002 v2 0 k.es.length c2]]⟩⟩ ∧ st = ⟨E [(13, int i), (12, int (l.length : Int)), (11, sl (l.map Oprn.c)), (2, .dptr (Graph.c g)), (5, .ptr 5 v 0 0)], hh⟩) 0 (Nat.zero_le _) _ (.cov (by simp; rfl) (.refl _)) ⟨freshK g, _, v1, v2, c1, c2, _, freshK_fits g, by simp, by simp [upd], by simp [upd], by simp [upd], rfl⟩ ?_
 rintro i s hi1 ⟨k, v, v1, v2, c1, c2, hh, hf, hp, e1, e2, h5, rfl⟩ K6 hK6
 refine .seqk fun K7 hK7 => ?_
 refine .reg ?_
 simp
 refine hK7 _ ?_
 clear hK7 K7
 refine .seqk fun K8 hK8 => ?_
 refine .condk _ rfl (fun hc1 => ?_) (fun hc1 => ?_)
 ·simp at hc1
  obtain ⟨x, hx⟩ := get_some hc1
  refine .skip ?_
  refine hK8 _ ?_
  clear hK8 K8
  refine .seqk fun K9 hK9 => ?_
  refine .block ?_
  refine .seqk fun K10 hK10 => ?_
  refine .reg ?_
  simp [hx]
  refine hK10 _ ?_
  clear hK10 K10
  refine .keep [2, 5, 7, 11, 12, 13] ?_
  simp only [keepE, E_cons, E_nil]
  refine .see (upd _ 7 ⟨_, none⟩) [(2, .dptr (Graph.c g)), (5, .ptr 5 v 0 0), (7, .dptr (Oprn.c x)), (11, sl (l.map Oprn.c)), (12, int (l.length : Int)), (13, int i)] ⟨.refl _, .refl _, T.box (k := 2) (cs := Oprn.c x) (by simp [upd]) (by simp [upd]), .refl _, .refl _, .refl _, trivial⟩ (Dies.kill _ _ _ _) ?_
  refine .seqk fun K11 hK11 => ?_
  refine .reg ?_
  refine Sq.cutk 4 fun K12 hK12 => ?_
  simp only [zt]
  simp [getBlk, upd, h5]
  refine ACall.mono (m88 g k x _ v1 v2 c1 c2 hf hv (by simp [upd, e1]) (by simp [upd, e2])) ?_
  rintro _ h1 ⟨rfl, he1⟩
  rw [mergeH_upd2 he1 (by decide) (by decide)]
  clear he1 h1
  refine hK12 _ ?_
  clear hK12 K12
  simp [getBlk, upd, h5]
  refine hK11 _ ?_
  clear hK11 K11
  refine .keep [2, 5, 8, 11, 12, 13] ?_
  simp only [keepE, E_cons, E_nil]
  refine .seqk fun K13 hK13 => ?_
  refine .reg ?_
  simp
  refine hK13 _ ?_
  clear hK13 K13
  refine .condk _ rfl (fun hc2 => ?_) (fun hc2 => ?_)
  ·simp at hc2
   refine .seqk fun K14 hK14 => ?_
   refine .reg ?_
   simp
   refine hK14 _ ?_
   clear hK14 K14
   refine .ret ?_
   try simp only [then', inBlk]
   refine ret_m (.inr rfl) (r := int (stepE g k x)) (by simp) (by simp) (by rw [← hp, drop_cons hx]; simp [planE, hc2])
  ·simp at hc2
   refine .skip ?_
   refine hK9 _ ?_
   clear hK9 K9
   refine .reg ?_
   simp
   refine hK6 _ _ (by omega) (Wk.cov ?_ (.refl _)) ⟨stepK g k x, v, v1, v2, c1, c2, _, stepK_fits hf x, ?_, ?_, ?_, ?_, rfl⟩
   ·simp; exact wrap64 (by omega) (by omega)
   ·rw [← hp, drop_cons hx]; simp [planE, hc2, stepK]
   ·simp [upd]
   ·simp [upd]
   ·simp [upd, h5, (stepK_fits hf x).1, (stepK_fits hf x).2, hf.1, hf.2]
 ·simp at hc1
  have hi : i = l.length := by omega
  have hpe : planE g (freshK g) l = if allK k then 0 else 20 := by rw [← hp, hi]; simp [planE]
  refine .exit ?_
  try simp only [then', inBlk, if_true, if_false, reduceIte, Nat.reduceEqDiff]
  refine hK4 _ ?_
  clear hK8 hK6 hK4 K8 K6 K4
  refine .seqk fun K15 hK15 => ?_
  refine .seqregS (fun hh => upd (upd hh 1000001 ⟨v1, none⟩) 1000002 ⟨v2, none⟩) (fun ee => [(27, bo (!allK k))]) ?_ ?_
  ·refine SQ.cut 1 fun K1 hK1 => ?_
   simp only [zt]
   refine SQ.of ?_
   simp [getBlk, h5]
   refine hK1 _ ?_
   refine SQ.see (upd (upd hh 1000001 ⟨v1, none⟩) 1000002 ⟨v2, none⟩) [(25, ag (Kn.c k))] ⟨T.agg2 (T.rowD (k := 1) (k.ns.map Bo.c) e1 (by simp [upd]) (by simp)) (T.rowD (k := 1) (k.es.map Bo.c) e2 (by simp [upd]) (by simp)), trivial⟩ (Dies.tr (Dies.bump _ _ _ (by simp [e1])) (Dies.bump _ _ _ (by simp [upd, e2]))) ?_
   refine SQ.of ?_
   simp
   refine PCall.sq (p134 k) fun _ he => ?_
   simp only [mergeH_eq he]
   simp
  try simp only [E_cons, E_nil]
  refine .condk _ rfl (fun hc3 => ?_) (fun hc3 => ?_)
  ·simp at hc3
   refine .seqk fun K16 hK16 => ?_
   refine .reg ?_
   simp
   refine hK16 _ ?_
   clear hK16 K16
   refine .ret ?_
   try simp only [then']
   refine ret_m (.inr rfl) (r := int 20) (by simp) (by simp) (by simp [hpe, hc3])
  ·simp at hc3
   refine .skip ?_
   refine hK15 _ ?_
   clear hK15 K15
   refine .seqk fun K17 hK17 => ?_
   refine .reg ?_
   simp
   refine hK17 _ ?_
   clear hK17 K17
   refine .ret ?_
   try simp only [then']
   refine ret_m (.inr rfl) (r := int 0) (by simp) (by simp) (by simp [hpe, hc3])
theorem p85 (g : Graph) (l : List Oprn) (hv : gErr g = 0) (hm : l.length ≤ 9223372036854775807) : PCall Tryz.prog 85 [ag (Graph.c g), sl (l.map Oprn.c)] (int (planE g (freshK g) l)) := PCall.frame rfl rfl (m85 g l hv hm)
end Go.Abs
