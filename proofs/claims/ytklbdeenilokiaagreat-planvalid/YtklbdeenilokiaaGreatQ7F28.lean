/- Contracts of functions of the program, and what they lean on: a part of the proof that planValid_proved stands; no condition. -/
import Derived.Test.YtklbdeenilokiaaGreatProg
import Derived.Test.YtklbdeenilokiaaGreatQ7M17
set_option linter.unusedVariables false
set_option linter.unusedSimpArgs false
namespace Go.Abs
open Go Go.Proofs

theorem Dies.tr {a b c : Heap} (h1 : Dies a b) (h2 : Dies b c) : Dies a c := by
  intro x
  rcases h1 x with e1 | ⟨l1, v1⟩ <;> rcases h2 x with e2 | ⟨l2, v2⟩
  · exact .inl (e2.trans e1)
  · exact .inr ⟨l2, by rw [← e1]; exact v2⟩
  · exact .inr ⟨by rw [e2]; exact l1, by rw [e2]; exact v1⟩
  · exact .inr ⟨l2, Nat.le_trans v1 v2⟩
theorem stepK_fits {g : Graph} {k : Kn} (h : k.fits g) (o : Oprn) : (stepK g k o).fits g := by
  unfold stepK
  split
  · exact afterK_fits h o
  · exact h
set_option maxHeartbeats 4000000 in
theorem m85 (g : Graph) (l : List Oprn) (hv : gErr g = 0) (hm : l.length ≤ 9223372036854775807) : ACall Tryz.prog 85 [ag (Graph.c g), sl (l.map Oprn.c)] h00 fun r h' => r = int (planE g (freshK g) l) := by
  refine ACall.of b85 (by simp) ?_
  unfold c85
  have hgl := gErr_len hv
  rw [outer_h00]
  refine .seqk fun K1 hK1 => ?_
  refine .reg ?_
  simp
  refine hK1 _ ?_
  clear hK1 K1
  refine .keep [1, 2] ?_
  simp only [keepE, E_cons, E_nil, reduceIte, Nat.reduceEqDiff]
  refine .see (upd _ 2 ⟨_, none⟩) [(1, sl (l.map Oprn.c)), (2, .dptr (Graph.c g))] ⟨.refl _, T.box (k := 2) (cs := Graph.c g) (by simp [upd]) (by simp [upd]), trivial⟩ (Dies.up (Dies.refl _) (.inr ⟨rfl, Nat.le_refl _⟩)) ?_
  refine .seqk fun K2 hK2 => ?_
  refine .reg ?_
  refine Sq.cutk 2 fun K3 hK3 => ?_
  simp only [List.take_succ_cons, List.take_zero, List.drop_succ_cons, List.drop_zero]
  simp
  refine ACall.mono (m86 g _ (by omega) (by omega) (by simp [upd, h00_at]) (by simp [upd, h00_at])) ?_
  rintro _ h1 ⟨v1, v2, c1, c2, rfl, he1⟩
  rw [mergeH_upd2 he1 (by decide) (by decide)]
  clear he1 h1
  refine hK3 _ ?_
  clear hK3 K3
  simp
  refine hK2 _ ?_
  clear hK2 K2
  refine .keep [1, 2, 5] ?_
  simp only [keepE, E_cons, E_nil, reduceIte, Nat.reduceEqDiff]
  refine .seqk fun K4 hK4 => ?_
  refine .seqk fun K5 hK5 => ?_
  refine .reg ?_
  simp
  refine hK5 _ ?_
  clear hK5 K5
  refine .keep [2, 5, 11, 12, 13] ?_
  simp only [keepE, E_cons, E_nil, reduceIte, Nat.reduceEqDiff]
  refine .block ?_
  refine .count l.length (fun i st => ∃ k v v1 v2 c1 c2 hh, k.fits g ∧ planE g k (l.drop i) = planE g (freshK g) l ∧ hh 1000001 = ⟨v1, some ⟨1, dl (k.ns.map Bo.c)⟩⟩ ∧ hh 1000002 = ⟨v2, some ⟨1, dl (k.es.map Bo.c)⟩⟩ ∧ hh 5 = ⟨v, some ⟨2, [[.sl 1000001 v1 0 k.ns.length c1, .sl 1000002 v2 0 k.es.length c2]]⟩⟩ ∧ st = ⟨E [(13, int i), (12, int (l.length : Int)), (11, sl (l.map Oprn.c)), (2, .dptr (Graph.c g)), (5, .ptr 5 v 0 0)], hh⟩) 0 (Nat.zero_le _) _ (.cov (by simp; rfl) (.refl _)) ⟨freshK g, _, v1, v2, c1, c2, _, freshK_fits g, by simp, by simp [upd], by simp [upd], by simp [upd], rfl⟩ ?_
  rintro i s hi1 ⟨k, v, v1, v2, c1, c2, hh, hf, hp, e1, e2, h5, rfl⟩ K6 hK6
  refine .seqk fun K7 hK7 => ?_
  refine .reg ?_
  simp
  refine hK7 _ ?_
  clear hK7 K7
  refine .seqk fun K8 hK8 => ?_
  refine .condk _ rfl (fun hc1 => ?_) (fun hc1 => ?_)
  · simp at hc1
    obtain ⟨x, hx⟩ := get_some hc1
    refine .skip ?_
    refine hK8 _ ?_
    clear hK8 K8
    refine .seqk fun K9 hK9 => ?_
    refine .block ?_
    refine .seqk fun K10 hK10 => ?_
    refine .reg ?_
    simp [hx]
    refine hK10 _ ?_
    clear hK10 K10
    refine .keep [2, 5, 7, 11, 12, 13] ?_
    simp only [keepE, E_cons, E_nil, reduceIte, Nat.reduceEqDiff]
    refine .see (upd _ 7 ⟨_, none⟩) [(2, .dptr (Graph.c g)), (5, .ptr 5 v 0 0), (7, .dptr (Oprn.c x)), (11, sl (l.map Oprn.c)), (12, int (l.length : Int)), (13, int i)] ⟨.refl _, .refl _, T.box (k := 2) (cs := Oprn.c x) (by simp [upd]) (by simp [upd]), .refl _, .refl _, .refl _, trivial⟩ (Dies.kill _ _ _ _) ?_
    refine .seqk fun K11 hK11 => ?_
    refine .reg ?_
    refine Sq.cutk 4 fun K12 hK12 => ?_
    simp only [List.take_succ_cons, List.take_zero, List.drop_succ_cons, List.drop_zero]
    simp [getBlk, upd, h5]
    refine ACall.mono (m88 g k x _ v1 v2 c1 c2 hf hv (by simp [upd, e1]) (by simp [upd, e2])) ?_
    rintro _ h1 ⟨rfl, he1⟩
    rw [mergeH_upd2 he1 (by decide) (by decide)]
    clear he1 h1
    refine hK12 _ ?_
    clear hK12 K12
    simp [getBlk, upd, h5]
    refine hK11 _ ?_
    clear hK11 K11
    refine .keep [2, 5, 8, 11, 12, 13] ?_
    simp only [keepE, E_cons, E_nil, reduceIte, Nat.reduceEqDiff]
    refine .seqk fun K13 hK13 => ?_
    refine .reg ?_
    simp
    refine hK13 _ ?_
    clear hK13 K13
    refine .condk _ rfl (fun hc2 => ?_) (fun hc2 => ?_)
    · simp at hc2
      refine .seqk fun K14 hK14 => ?_
      refine .reg ?_
      simp
      refine hK14 _ ?_
      clear hK14 K14
      refine .ret ?_
      -- leaf 1
      try simp only [then', inBlk]
      refine ret_m (.inr rfl) (r := int (stepE g k x)) (by simp) (by simp) (by rw [← hp, drop_cons hx]; simp [planE, hc2])
    · simp at hc2
      refine .skip ?_
      refine hK9 _ ?_
      clear hK9 K9
      refine .reg ?_
      simp
      -- loop back, leaf 2
      refine hK6 _ _ (by omega) (Wk.cov ?_ (.refl _)) ⟨stepK g k x, v, v1, v2, c1, c2, _, stepK_fits hf x, ?_, ?_, ?_, ?_, rfl⟩
      · simp; exact wrap64 (by omega) (by omega)
      · rw [← hp, drop_cons hx]; simp [planE, hc2, stepK]
      · simp [upd]
      · simp [upd]
      · simp [upd, h5, (stepK_fits hf x).1, (stepK_fits hf x).2, hf.1, hf.2]
  · simp at hc1
    have hi : i = l.length := by omega
    have hpe : planE g (freshK g) l = if allK k then 0 else 20 := by rw [← hp, hi]; simp [planE]
    refine .exit ?_
    try simp only [then', inBlk, if_true, if_false, reduceIte, Nat.reduceEqDiff]
    refine hK4 _ ?_
    clear hK8 hK6 hK4 K8 K6 K4
    refine .seqk fun K15 hK15 => ?_
    refine .seqregS (fun hh => upd (upd hh 1000001 ⟨v1, none⟩) 1000002 ⟨v2, none⟩) (fun ee => [(27, bo (!allK k))]) ?_ ?_
    · refine SQ.cut 1 fun K1 hK1 => ?_
      simp only [List.take_succ_cons, List.take_zero, List.drop_succ_cons, List.drop_zero]
      refine SQ.of ?_
      simp [getBlk, h5]
      refine hK1 _ ?_
      refine SQ.see (upd (upd hh 1000001 ⟨v1, none⟩) 1000002 ⟨v2, none⟩) [(25, ag (Kn.c k))] ⟨T.agg2 (T.rowD (k := 1) (k.ns.map Bo.c) e1 (by simp [upd]) (by simp)) (T.rowD (k := 1) (k.es.map Bo.c) e2 (by simp [upd]) (by simp)), trivial⟩ (Dies.tr (Dies.bump _ _ _ (by simp [e1])) (Dies.bump _ _ _ (by simp [upd, e2]))) ?_
      refine SQ.of ?_
      simp
      refine PCall.sq (p134 k) fun _ he => ?_
      simp only [mergeH_eq he]
      simp
    try simp only [E_cons, E_nil, reduceIte, Nat.reduceEqDiff]
    refine .condk _ rfl (fun hc3 => ?_) (fun hc3 => ?_)
    · simp at hc3
      refine .seqk fun K16 hK16 => ?_
      refine .reg ?_
      simp
      refine hK16 _ ?_
      clear hK16 K16
      refine .ret ?_
      -- leaf 3
      try simp only [then']
      refine ret_m (.inr rfl) (r := int 20) (by simp) (by simp) (by simp [hpe, hc3])
    · simp at hc3
      refine .skip ?_
      refine hK15 _ ?_
      clear hK15 K15
      refine .seqk fun K17 hK17 => ?_
      refine .reg ?_
      simp
      refine hK17 _ ?_
      clear hK17 K17
      refine .ret ?_
      -- leaf 4
      try simp only [then']
      refine ret_m (.inr rfl) (r := int 0) (by simp) (by simp) (by simp [hpe, hc3])

theorem p85 (g : Graph) (l : List Oprn) (hv : gErr g = 0) (hm : l.length ≤ 9223372036854775807) : PCall Tryz.prog 85 [ag (Graph.c g), sl (l.map Oprn.c)] (int (planE g (freshK g) l)) := PCall.frame rfl rfl (m85 g l hv hm)
end Go.Abs
