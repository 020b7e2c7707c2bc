/- Contracts of functions of the program, and what they lean on: a part of the proof that planCost_proved stands; no condition. -/
import Derived.Test.YtklbdeenilokiaaGreatProg
import Derived.Test.YtklbdeenilokiaaGreatQ16M21
set_option linter.unusedVariables false
set_option linter.unusedSimpArgs false
namespace Go.Abs
open Go Go.Proofs
theorem attrsG_nat (t : Types) (i : Nat) : attrsG t i = attrsT t i := by
 have : ¬ (i : Int) < 0 := by omega
 simp [attrsG, this]
set_option maxHeartbeats 2000000 in
theorem p158 (t : Types) (ht : tOK t) (i : Nat) (n : NodeType) (hn : t.nodes[i]? = some n) (hp : parOK t i) : PCall Tryz.prog 158 [ag (Types.c t), int i] (int (nodeE t i n)) := by
 intro h
 refine ACall.of b158 (by simp) ?_
 unfold c158
 obtain ⟨hnm, hnl, hna⟩ := ht.nn n (List.mem_of_getElem? hn)
 have hin : i < t.nodes.length := (List.getElem?_eq_some_iff.1 hn).1
 have htl := ht.nl
 have hw1 : IntKind.i64.wrap ((i : Int) - 1) = (i : Int) - 1 := wrap64 (by omega) (by omega)
 refine .seqk fun K1 hK1 => ?_
 refine .reg ?_
 simp
 refine hK1 _ ?_
 clear hK1 K1
 refine .keep [1, 2] ?_
 simp only [keepE, E_cons, E_nil, reduceIte, Nat.reduceEqDiff]
 refine .see (upd _ 2 ⟨_, none⟩) [(1, _), (2, .dptr (Types.c t))] ⟨.refl _, T.box (k := 2) (cs := Types.c t) (by simp [upd]) (by simp [upd]), trivial⟩ (Dies.up (Dies.refl _) (.inr ⟨rfl, Nat.le_refl _⟩)) ?_
 try simp only [E_cons, E_nil, reduceIte, Nat.reduceEqDiff]
 refine .seqk fun K2 hK2 => ?_
 refine .reg ?_
 simp [hn]
 refine hK2 _ ?_
 clear hK2 K2
 refine .keep [1, 2, 5] ?_
 simp only [keepE, E_cons, E_nil, reduceIte, Nat.reduceEqDiff]
 refine .see (upd _ 5 ⟨_, none⟩) [(1, _), (2, _), (5, .dptr (NodeType.c n))] ⟨.refl _, .refl _, T.box (k := 4) (cs := NodeType.c n) (by simp [upd]) (by simp [upd]), trivial⟩ (Dies.up (Dies.refl _) (.inr ⟨rfl, Nat.le_refl _⟩)) ?_
 try simp only [E_cons, E_nil, reduceIte, Nat.reduceEqDiff]
 refine .seqk fun K3 hK3 => ?_
 refine .seqk fun K4 hK4 => ?_
 refine .reg ?_
 refine Sq.cutk 3 fun K5 hK5 => ?_
 simp only [List.take_succ_cons, List.take_zero, List.drop_succ_cons, List.drop_zero]
 simp
 refine PCall.sq (p209 n.name hnm) fun h1 he1 => ?_
 simp only [mergeH_eq he1]
 clear he1 h1
 refine hK5 _ ?_
 clear hK5 K5
 simp
 refine hK4 _ ?_
 clear hK4 K4
 refine .keep [1, 2, 5, 19] ?_
 simp only [keepE, E_cons, E_nil, reduceIte, Nat.reduceEqDiff]
 refine .condk _ rfl (fun hc1 => ?_) (fun hc1 => ?_)
 ·simp [← wholeI_eq] at hc1
  refine .seqk fun K6 hK6 => ?_
  refine .reg ?_
  simp
  refine hK6 _ ?_
  clear hK6 K6
  refine .keep [4] ?_
  simp only [keepE, E_cons, E_nil, reduceIte, Nat.reduceEqDiff]
  refine .ret ?_
  -- leaf 1
  refine ret_d (.inr rfl) rfl (.refl _) rfl (by first | exact OutEq.outer _ | assumption | (simp; done) | (simp; assumption)) ?_
  simp [nodeE, hc1]
 ·simp [← wholeI_eq] at hc1
  refine .skip ?_
  refine hK3 _ ?_
  clear hK3 K3
  refine .seqk fun K7 hK7 => ?_
  refine .seqk fun K8 hK8 => ?_
  refine .reg ?_
  simp
  refine hK8 _ ?_
  clear hK8 K8
  refine .keep [1, 2, 5, 6] ?_
  simp only [keepE, E_cons, E_nil, reduceIte, Nat.reduceEqDiff]
  refine .block ?_
  refine .count i (fun k st => (∀ j y, j < k → t.nodes[j]? = some y → (y.name.toList == n.name.toList) = false) ∧ ∃ hh1, OutEq hh1 h ∧ st = ⟨E [(1, int i), (2, .dptr (Types.c t)), (5, .dptr (NodeType.c n)), (6, int k)], hh1⟩) 0 (Nat.zero_le _) _ (.cov (by first | (simp; done) | (simp; rfl) | (simp; exact ⟨rfl, rfl⟩)) (.refl _)) ⟨fun j y hj => absurd hj (by omega), _, by first | (simp; done) | (simp; assumption) | (simp [*]; done), rfl⟩ ?_
  rintro k s hi1 ⟨hp1, hh1, hho1, rfl⟩ K9 hK9
  refine .seqk fun K10 hK10 => ?_
  refine .seqk fun K11 hK11 => ?_
  refine .reg ?_
  simp
  refine hK11 _ ?_
  clear hK11 K11
  refine .keep [1, 2, 5, 6, 22] ?_
  simp only [keepE, E_cons, E_nil, reduceIte, Nat.reduceEqDiff]
  refine .condk _ rfl (fun hc2 => ?_) (fun hc2 => ?_)
  ·simp at hc2
   obtain ⟨y, hy⟩ := get_some (l := t.nodes) (i := k) (by omega)
   refine .skip ?_
   refine hK10 _ ?_
   clear hK10 K10
   refine .seqk fun K12 hK12 => ?_
   refine .block ?_
   refine .seqk fun K13 hK13 => ?_
   refine .dreg mixed ?_
   simp [hy]
   refine hK13 _ ?_
   clear hK13 K13
   refine .keep [1, 2, 5, 6, 33] ?_
   simp only [keepE, E_cons, E_nil, reduceIte, Nat.reduceEqDiff]
   refine .condk _ rfl (fun hc3 => ?_) (fun hc3 => ?_)
   ·skip
    refine .seqk fun K14 hK14 => ?_
    refine .reg ?_
    simp
    refine hK14 _ ?_
    clear hK14 K14
    refine .keep [4] ?_
    simp only [keepE, E_cons, E_nil, reduceIte, Nat.reduceEqDiff]
    refine .ret ?_
    -- leaf 2
    refine ret_d (.inr rfl) rfl (.refl _) rfl (by first | exact OutEq.outer _ | assumption | (simp; done) | (simp; assumption)) ?_
    have ha : (t.nodes.take i).any (fun m => m.name.toList == n.name.toList) = true := any_take_t hy (by omega) (by simpa using hc3)
    simp only [nodeE]; simp [hc1, ha]
   ·skip
    refine .skip ?_
    refine hK12 _ ?_
    clear hK12 K12
    refine .reg ?_
    simp
    -- loop back, leaf 3
    refine hK9 _ _ (by omega) (Wk.cov ?_ (.refl _)) ⟨?_, _, ?_, rfl⟩
    ·simp; exact wrap64 (by omega) (by omega)
    ·intro j y2 hj hy2
     by_cases hjk : j = k
     ·subst hjk; rw [hy] at hy2; cases hy2; simpa using hc3
     ·exact hp1 j y2 (by omega) hy2
    ·first | assumption | (simp; done) | (simp; assumption) | (simp [hho1]; done)
  ·simp at hc2
   have hi1 : k = i := by omega
   have ha : (t.nodes.take i).any (fun m => m.name.toList == n.name.toList) = false := any_take_f (fun j y hj hy => hp1 j y (by omega) hy)
   refine .exit ?_
   try simp only [then', inBlk, if_true, if_false, reduceIte, Nat.reduceEqDiff]
   refine hK7 _ ?_
   clear hK10 hK9 hK7 K10 K9 K7
   refine .seqk fun K15 hK15 => ?_
   refine .seqk fun K16 hK16 => ?_
   refine .reg ?_
   refine Sq.cutk 5 fun K17 hK17 => ?_
   simp only [List.take_succ_cons, List.take_zero, List.drop_succ_cons, List.drop_zero]
   simp [hw1]
   refine PCall.sq (p127 n.parent (-1) ((i : Int) - 1)) fun h1 he1 => ?_
   simp only [mergeH_eq he1]
   clear he1 h1
   refine hK17 _ ?_
   clear hK17 K17
   simp [hw1]
   refine hK16 _ ?_
   clear hK16 K16
   refine .keep [1, 2, 5, 39] ?_
   simp only [keepE, E_cons, E_nil, reduceIte, Nat.reduceEqDiff]
   refine .condk _ rfl (fun hc4 => ?_) (fun hc4 => ?_)
   ·simp at hc4
    have hpar : n.parent < -1 ∨ (i : Int) ≤ n.parent := by simp only [inB, Bool.and_eq_false_iff, decide_eq_false_iff_not] at hc4; omega
    refine .seqk fun K18 hK18 => ?_
    refine .reg ?_
    simp
    refine hK18 _ ?_
    clear hK18 K18
    refine .keep [4] ?_
    simp only [keepE, E_cons, E_nil, reduceIte, Nat.reduceEqDiff]
    refine .ret ?_
    -- leaf 4
    refine ret_d (.inr rfl) rfl (.refl _) rfl (by first | exact OutEq.outer _ | assumption | (simp; done) | (simp; assumption)) ?_
    simp only [nodeE]; simp only [hc1, ha]; simp [hpar]
   ·simp at hc4
    have hpar : ¬ (n.parent < -1 ∨ (i : Int) ≤ n.parent) := by have := inB_iff.1 hc4; omega
    have hq1 : parOK t (i + 1) := fun j hj m hm => by
     by_cases hji : j = i
     ·subst hji; rw [hn] at hm; cases hm; omega
     ·exact hp j (by omega) m hm
    refine .skip ?_
    refine hK15 _ ?_
    clear hK15 K15
    refine .seqk fun K19 hK19 => ?_
    refine .reg ?_
    refine Sq.cutk 3 fun K20 hK20 => ?_
    simp only [List.take_succ_cons, List.take_zero, List.drop_succ_cons, List.drop_zero]
    simp
    refine PCall.sq (p210 t ht i (by omega) (fun j hj => hq1 j (by omega))) fun h1 he1 => ?_
    simp only [mergeH_eq he1]
    clear he1 h1
    refine hK20 _ ?_
    clear hK20 K20
    simp
    refine hK19 _ ?_
    clear hK19 K19
    refine .keep [5, 7] ?_
    simp only [keepE, E_cons, E_nil, reduceIte, Nat.reduceEqDiff]
    have hok : ∀ x ∈ attrsT t i, attrOK x := attrsF_ok ht _ _
    have hT := attrsT_eq hn hq1
    have hlen : (attrsT t i).length ≤ (i + 1) * 1000 := attrsF_len ht _ _
    have hlT : n.attrs.length ≤ (attrsT t i).length := by rw [hT]; simp
    have hdT : (attrsT t i).drop ((attrsT t i).length - n.attrs.length) = n.attrs := by rw [hT]; simp
    simp only [attrsG_nat]
    generalize hTT : attrsT t i = T at *
    refine .seqk fun K21 hK21 => ?_
    refine .seqreg (fun hh => hh) (fun ee => [(5, ee 5), (7, ee 7), (51, bo (decide (4 < n.attrs.length) || decide (8 < T.length)))]) ?_ ?_
    ·by_cases h0 : (4 : Int) < n.attrs.length <;> by_cases h1 : (8 : Int) < T.length <;> simp [h0, h1, True] <;> omega
    try simp only [E_cons, E_nil, reduceIte, Nat.reduceEqDiff]
    refine .condk _ rfl (fun hc5 => ?_) (fun hc5 => ?_)
    ·simp at hc5
     refine .seqk fun K22 hK22 => ?_
     refine .reg ?_
     simp
     refine hK22 _ ?_
     clear hK22 K22
     refine .keep [4] ?_
     simp only [keepE, E_cons, E_nil, reduceIte, Nat.reduceEqDiff]
     refine .ret ?_
     -- leaf 5
     refine ret_d (.inr rfl) rfl (.refl _) rfl (by first | exact OutEq.outer _ | assumption | (simp; done) | (simp; assumption)) ?_
     simp only [nodeE]; simp [hc1, ha, hpar, hTT]; omega
    ·simp at hc5
     have hw : IntKind.i64.wrap ((T.length : Int) - (n.attrs.length : Int)) = ((T.length - n.attrs.length : Nat) : Int) := by rw [wrap64 (by omega) (by omega)]; omega
     have hV : nodeE t i n = attrsE T (T.length - n.attrs.length) n.attrs := by simp only [nodeE]; simp [hc1, ha, hpar, hTT]; omega
     refine .skip ?_
     refine hK21 _ ?_
     clear hK21 K21
     refine .seqk fun K23 hK23 => ?_
     refine .seqk fun K24 hK24 => ?_
     refine .reg ?_
     simp [hw]
     refine hK24 _ ?_
     clear hK24 K24
     refine .keep [7, 8] ?_
     simp only [keepE, E_cons, E_nil, reduceIte, Nat.reduceEqDiff]
     refine .block ?_
     refine .count (T).length (fun q st => (attrsE T q (T.drop q) = attrsE T (T.length - n.attrs.length) n.attrs) ∧ ∃ hh2, OutEq hh2 h ∧ st = ⟨E [(7, sl (T.map Attr.c)), (8, int q)], hh2⟩) (T.length - n.attrs.length) (by omega) _ (.cov (by first | (simp; done) | (simp; rfl) | (simp; exact ⟨rfl, rfl⟩)) (.refl _)) ⟨by rw [hdT], _, by first | (simp; done) | (simp; assumption) | (simp [*]; done), rfl⟩ ?_
     rintro q s hi2 ⟨hp2, hh2, hho2, rfl⟩ K25 hK25
     refine .seqk fun K26 hK26 => ?_
     refine .seqk fun K27 hK27 => ?_
     refine .reg ?_
     simp
     refine hK27 _ ?_
     clear hK27 K27
     refine .keep [7, 8, 61] ?_
     simp only [keepE, E_cons, E_nil, reduceIte, Nat.reduceEqDiff]
     refine .condk _ rfl (fun hc6 => ?_) (fun hc6 => ?_)
     ·simp at hc6
      obtain ⟨x, hx2⟩ := get_some hc6
      refine .skip ?_
      refine hK26 _ ?_
      clear hK26 K26
      refine .seqk fun K28 hK28 => ?_
      refine .block ?_
      refine .seqk fun K29 hK29 => ?_
      refine .seqk fun K30 hK30 => ?_
      refine .reg ?_
      refine Sq.cutk 6 fun K31 hK31 => ?_
      simp only [List.take_succ_cons, List.take_zero, List.drop_succ_cons, List.drop_zero]
      simp [hx2]
      refine PCall.sq (p209 x.name (hok x (List.mem_of_getElem? hx2)).1) fun h1 he1 => ?_
      simp only [mergeH_eq he1]
      clear he1 h1
      refine hK31 _ ?_
      clear hK31 K31
      simp [hx2]
      refine hK30 _ ?_
      clear hK30 K30
      refine .keep [7, 8, 70] ?_
      simp only [keepE, E_cons, E_nil, reduceIte, Nat.reduceEqDiff]
      refine .condk _ rfl (fun hc7 => ?_) (fun hc7 => ?_)
      ·simp [← wholeI_eq] at hc7
       refine .seqk fun K32 hK32 => ?_
       refine .reg ?_
       simp
       refine hK32 _ ?_
       clear hK32 K32
       refine .keep [4] ?_
       simp only [keepE, E_cons, E_nil, reduceIte, Nat.reduceEqDiff]
       refine .ret ?_
       -- leaf 6
       refine ret_d (.inr rfl) rfl (.refl _) rfl (by first | exact OutEq.outer _ | assumption | (simp; done) | (simp; assumption)) ?_
       rw [hV, ← hp2, drop_cons hx2]; simp [attrsE, attrE_eq, hc7]
      ·simp [← wholeI_eq] at hc7
       refine .skip ?_
       refine hK29 _ ?_
       clear hK29 K29
       refine .seqk fun K33 hK33 => ?_
       refine .seqk fun K34 hK34 => ?_
       refine .reg ?_
       simp
       refine hK34 _ ?_
       clear hK34 K34
       refine .keep [7, 8, 9] ?_
       simp only [keepE, E_cons, E_nil, reduceIte, Nat.reduceEqDiff]
       refine .block ?_
       refine .count q (fun k st => (∀ j y, j < k → T[j]? = some y → (y.name.toList == x.name.toList) = false) ∧ ∃ hh3, OutEq hh3 h ∧ st = ⟨E [(7, sl (T.map Attr.c)), (8, int q), (9, int k)], hh3⟩) 0 (Nat.zero_le _) _ (.cov (by first | (simp; done) | (simp; rfl) | (simp; exact ⟨rfl, rfl⟩)) (.refl _)) ⟨fun j y hj => absurd hj (by omega), _, by first | (simp; done) | (simp; assumption) | (simp [*]; done), rfl⟩ ?_
       rintro k s hi3 ⟨hp3, hh3, hho3, rfl⟩ K35 hK35
       refine .seqk fun K36 hK36 => ?_
       refine .seqk fun K37 hK37 => ?_
       refine .reg ?_
       simp
       refine hK37 _ ?_
       clear hK37 K37
       refine .keep [7, 8, 9, 73] ?_
       simp only [keepE, E_cons, E_nil, reduceIte, Nat.reduceEqDiff]
       refine .condk _ rfl (fun hc8 => ?_) (fun hc8 => ?_)
       ·simp at hc8
        obtain ⟨y, hy⟩ := get_some (l := T) (i := k) (by omega)
        refine .skip ?_
        refine hK36 _ ?_
        clear hK36 K36
        refine .seqk fun K38 hK38 => ?_
        refine .block ?_
        refine .seqk fun K39 hK39 => ?_
        refine .dreg mixed ?_
        simp [hx2, hy]
        refine hK39 _ ?_
        clear hK39 K39
        refine .keep [7, 8, 9, 86] ?_
        simp only [keepE, E_cons, E_nil, reduceIte, Nat.reduceEqDiff]
        refine .condk _ rfl (fun hc9 => ?_) (fun hc9 => ?_)
        ·skip
         refine .seqk fun K40 hK40 => ?_
         refine .reg ?_
         simp
         refine hK40 _ ?_
         clear hK40 K40
         refine .keep [4] ?_
         simp only [keepE, E_cons, E_nil, reduceIte, Nat.reduceEqDiff]
         refine .ret ?_
         -- leaf 7
         refine ret_d (.inr rfl) rfl (.refl _) rfl (by first | exact OutEq.outer _ | assumption | (simp; done) | (simp; assumption)) ?_
         have hb : (T.take q).any (fun y => y.name.toList == x.name.toList) = true := any_take_t hy (by omega) (by simpa using hc9)
         rw [hV, ← hp2, drop_cons hx2]; simp [attrsE, attrE_eq, hc7, hb]
        ·skip
         refine .skip ?_
         refine hK38 _ ?_
         clear hK38 K38
         refine .reg ?_
         simp
         -- loop back, leaf 8
         refine hK35 _ _ (by omega) (Wk.cov ?_ (.refl _)) ⟨?_, _, ?_, rfl⟩
         ·simp; exact wrap64 (by omega) (by omega)
         ·intro j y2 hj hy2
          by_cases hjk : j = k
          ·subst hjk; rw [hy] at hy2; cases hy2; simpa using hc9
          ·exact hp3 j y2 (by omega) hy2
         ·first | assumption | (simp; done) | (simp; assumption) | (simp [hho3]; done)
       ·simp at hc8
        have hi3 : k = q := by omega
        refine .exit ?_
        try simp only [then', inBlk, if_true, if_false, reduceIte, Nat.reduceEqDiff]
        refine hK33 _ ?_
        clear hK36 hK35 hK33 K36 K35 K33
        refine .seqk fun K41 hK41 => ?_
        refine .reg ?_
        refine Sq.cutk 5 fun K42 hK42 => ?_
        simp only [List.take_succ_cons, List.take_zero, List.drop_succ_cons, List.drop_zero]
        simp [hx2]
        refine PCall.sq (p211 x (hok x (List.mem_of_getElem? hx2))) fun h1 he1 => ?_
        simp only [mergeH_eq he1]
        clear he1 h1
        refine hK42 _ ?_
        clear hK42 K42
        simp [hx2]
        refine hK41 _ ?_
        clear hK41 K41
        refine .keep [7, 8, 10] ?_
        simp only [keepE, E_cons, E_nil, reduceIte, Nat.reduceEqDiff]
        refine .seqk fun K43 hK43 => ?_
        refine .reg ?_
        simp
        refine hK43 _ ?_
        clear hK43 K43
        refine .keep [7, 8, 10, 93] ?_
        simp only [keepE, E_cons, E_nil, reduceIte, Nat.reduceEqDiff]
        refine .condk _ rfl (fun hc10 => ?_) (fun hc10 => ?_)
        ·simp at hc10
         refine .seqk fun K44 hK44 => ?_
         refine .reg ?_
         simp
         refine hK44 _ ?_
         clear hK44 K44
         refine .keep [4] ?_
         simp only [keepE, E_cons, E_nil, reduceIte, Nat.reduceEqDiff]
         refine .ret ?_
         -- leaf 9
         refine ret_d (.inr rfl) rfl (.refl _) rfl (by first | exact OutEq.outer _ | assumption | (simp; done) | (simp; assumption)) ?_
         have hb : (T.take q).any (fun y => y.name.toList == x.name.toList) = false := any_take_f (fun j y hj hy => hp3 j y (by omega) hy)
         rw [hV, ← hp2, drop_cons hx2]; simp [attrsE, attrE_eq, hc7, hb, hc10]
        ·simp at hc10
         refine .skip ?_
         refine hK28 _ ?_
         clear hK28 K28
         refine .reg ?_
         simp
         -- loop back, leaf 10
         refine hK25 _ _ (by omega) (Wk.cov ?_ (.refl _)) ⟨?_, _, ?_, rfl⟩
         ·simp; exact wrap64 (by omega) (by omega)
         ·have hb : (T.take q).any (fun y => y.name.toList == x.name.toList) = false := any_take_f (fun j y hj hy => hp3 j y (by omega) hy)
          rw [← hp2, drop_cons hx2]; simp [attrsE, attrE_eq, hc7, hb, hc10]
         ·first | assumption | (simp; done) | (simp; assumption) | (simp [hho2]; done)
     ·simp at hc6
      have hi2 : q = (T).length := by omega
      subst hi2
      refine .exit ?_
      try simp only [then', inBlk, if_true, if_false, reduceIte, Nat.reduceEqDiff]
      refine hK23 _ ?_
      clear hK26 hK25 hK23 K26 K25 K23
      refine .seqk fun K45 hK45 => ?_
      refine .reg ?_
      simp
      refine hK45 _ ?_
      clear hK45 K45
      refine .keep [4] ?_
      simp only [keepE, E_cons, E_nil, reduceIte, Nat.reduceEqDiff]
      refine .ret ?_
      -- leaf 11
      refine ret_d (.inr rfl) rfl (.refl _) rfl (by first | exact OutEq.outer _ | assumption | (simp; done) | (simp; assumption)) ?_
      rw [hV, ← hp2]; simp [attrsE]
theorem p212 (a b : Int) : PCall Tryz.prog 212 [int a, int b] (bo (bndI a b)) := by
 intro h
 refine ACall.of b212 (by simp) ?_
 unfold c212
 refine .seqk fun K1 hK1 => ?_
 refine .reg ?_
 simp
 refine hK1 _ ?_
 clear hK1 K1
 refine .seqreg (fun hh => hh) (fun ee => [(4, bo (bndI a b))]) ?_ ?_
 ·have e : bndI a b = (inB a 0 40 && (decide (b = -1) || inB b a 40)) := rfl
  rw [e]
  refine Sq.cutk 2 fun KC1 hKC1 => ?_
  simp only [List.take_succ_cons, List.take_zero, List.drop_succ_cons, List.drop_zero]
  simp [true_and]
  refine PCall.sq (p127 a 0 40) fun _ he1 => ?_
  simp only [mergeH_eq he1]
  refine hKC1 _ ?_
  by_cases h1 : inB a 0 40 = true
  rotate_left
  ·simp [h1, true_and]
  by_cases h2 : b = -1
  ·simp [h1, h2, true_and]
  refine Sq.cutk 7 fun KC2 hKC2 => ?_
  simp only [List.take_succ_cons, List.take_zero, List.drop_succ_cons, List.drop_zero]
  simp [h1, h2, true_and]
  refine PCall.sq (p127 b a 40) fun _ he2 => ?_
  simp only [mergeH_eq he2]
  refine hKC2 _ ?_
  simp [h1, h2, true_and]
 try simp only [E_cons, E_nil, reduceIte, Nat.reduceEqDiff]
 refine .ret ?_
 -- leaf 1
 refine ret_d (.inr rfl) rfl (.refl _) rfl (by first | exact OutEq.outer _ | assumption | (simp; done) | (simp; assumption)) ?_
 simp
theorem p159 (t : Types) (ht : tOK t) (i : Nat) (n : EdgeType) (hn : t.edges[i]? = some n) : PCall Tryz.prog 159 [ag (Types.c t), int i] (int (edgeE t i n)) := by
 intro h
 refine ACall.of b159 (by simp) ?_
 unfold c159
 have hin : i < t.edges.length := (List.getElem?_eq_some_iff.1 hn).1
 have htl := ht.nl
 have htl2 := ht.el
 have hw1 : IntKind.i64.wrap ((t.nodes.length : Int) - 1) = (t.nodes.length : Int) - 1 := wrap64 (by omega) (by omega)
 refine .seqk fun K1 hK1 => ?_
 refine .reg ?_
 simp
 refine hK1 _ ?_
 clear hK1 K1
 refine .keep [1, 2] ?_
 simp only [keepE, E_cons, E_nil, reduceIte, Nat.reduceEqDiff]
 refine .see (upd _ 2 ⟨_, none⟩) [(1, _), (2, .dptr (Types.c t))] ⟨.refl _, T.box (k := 2) (cs := Types.c t) (by simp [upd]) (by simp [upd]), trivial⟩ (Dies.up (Dies.refl _) (.inr ⟨rfl, Nat.le_refl _⟩)) ?_
 try simp only [E_cons, E_nil, reduceIte, Nat.reduceEqDiff]
 refine .seqk fun K2 hK2 => ?_
 refine .reg ?_
 simp [hn]
 refine hK2 _ ?_
 clear hK2 K2
 refine .keep [1, 2, 5] ?_
 simp only [keepE, E_cons, E_nil, reduceIte, Nat.reduceEqDiff]
 refine .see (upd _ 5 ⟨_, none⟩) [(1, _), (2, _), (5, .dptr (EdgeType.c n))] ⟨.refl _, .refl _, T.box (k := 7) (cs := EdgeType.c n) (by simp [upd]) (by simp [upd]), trivial⟩ (Dies.up (Dies.refl _) (.inr ⟨rfl, Nat.le_refl _⟩)) ?_
 try simp only [E_cons, E_nil, reduceIte, Nat.reduceEqDiff]
 refine .seqk fun K3 hK3 => ?_
 refine .seqk fun K4 hK4 => ?_
 refine .reg ?_
 refine Sq.cutk 3 fun K5 hK5 => ?_
 simp only [List.take_succ_cons, List.take_zero, List.drop_succ_cons, List.drop_zero]
 simp
 refine PCall.sq (p209 n.name (ht.ee n (List.mem_of_getElem? hn))) fun h1 he1 => ?_
 simp only [mergeH_eq he1]
 clear he1 h1
 refine hK5 _ ?_
 clear hK5 K5
 simp
 refine hK4 _ ?_
 clear hK4 K4
 refine .keep [1, 2, 5, 16] ?_
 simp only [keepE, E_cons, E_nil, reduceIte, Nat.reduceEqDiff]
 refine .condk _ rfl (fun hc1 => ?_) (fun hc1 => ?_)
 ·simp [← wholeI_eq] at hc1
  refine .seqk fun K6 hK6 => ?_
  refine .reg ?_
  simp
  refine hK6 _ ?_
  clear hK6 K6
  refine .keep [4] ?_
  simp only [keepE, E_cons, E_nil, reduceIte, Nat.reduceEqDiff]
  refine .ret ?_
  -- leaf 1
  refine ret_d (.inr rfl) rfl (.refl _) rfl (by first | exact OutEq.outer _ | assumption | (simp; done) | (simp; assumption)) ?_
  simp [edgeE, hc1]
 ·simp [← wholeI_eq] at hc1
  refine .skip ?_
  refine hK3 _ ?_
  clear hK3 K3
  refine .seqk fun K7 hK7 => ?_
  refine .seqk fun K8 hK8 => ?_
  refine .reg ?_
  simp
  refine hK8 _ ?_
  clear hK8 K8
  refine .keep [1, 2, 5, 6] ?_
  simp only [keepE, E_cons, E_nil, reduceIte, Nat.reduceEqDiff]
  refine .block ?_
  refine .count i (fun k st => (∀ j y, j < k → t.edges[j]? = some y → (y.name.toList == n.name.toList) = false) ∧ ∃ hh1, OutEq hh1 h ∧ st = ⟨E [(1, int i), (2, .dptr (Types.c t)), (5, .dptr (EdgeType.c n)), (6, int k)], hh1⟩) 0 (Nat.zero_le _) _ (.cov (by first | (simp; done) | (simp; rfl) | (simp; exact ⟨rfl, rfl⟩)) (.refl _)) ⟨fun j y hj => absurd hj (by omega), _, by first | (simp; done) | (simp; assumption) | (simp [*]; done), rfl⟩ ?_
  rintro k s hi1 ⟨hp1, hh1, hho1, rfl⟩ K9 hK9
  refine .seqk fun K10 hK10 => ?_
  refine .seqk fun K11 hK11 => ?_
  refine .reg ?_
  simp
  refine hK11 _ ?_
  clear hK11 K11
  refine .keep [1, 2, 5, 6, 19] ?_
  simp only [keepE, E_cons, E_nil, reduceIte, Nat.reduceEqDiff]
  refine .condk _ rfl (fun hc2 => ?_) (fun hc2 => ?_)
  ·simp at hc2
   obtain ⟨y, hy⟩ := get_some (l := t.edges) (i := k) (by omega)
   refine .skip ?_
   refine hK10 _ ?_
   clear hK10 K10
   refine .seqk fun K12 hK12 => ?_
   refine .block ?_
   refine .seqk fun K13 hK13 => ?_
   refine .dreg mixed ?_
   simp [hy]
   refine hK13 _ ?_
   clear hK13 K13
   refine .keep [1, 2, 5, 6, 30] ?_
   simp only [keepE, E_cons, E_nil, reduceIte, Nat.reduceEqDiff]
   refine .condk _ rfl (fun hc3 => ?_) (fun hc3 => ?_)
   ·skip
    refine .seqk fun K14 hK14 => ?_
    refine .reg ?_
    simp
    refine hK14 _ ?_
    clear hK14 K14
    refine .keep [4] ?_
    simp only [keepE, E_cons, E_nil, reduceIte, Nat.reduceEqDiff]
    refine .ret ?_
    -- leaf 2
    refine ret_d (.inr rfl) rfl (.refl _) rfl (by first | exact OutEq.outer _ | assumption | (simp; done) | (simp; assumption)) ?_
    have ha : (t.edges.take i).any (fun m => m.name.toList == n.name.toList) = true := any_take_t hy (by omega) (by simpa using hc3)
    simp only [edgeE]; simp [hc1, ha]
   ·skip
    refine .skip ?_
    refine hK12 _ ?_
    clear hK12 K12
    refine .reg ?_
    simp
    -- loop back, leaf 3
    refine hK9 _ _ (by omega) (Wk.cov ?_ (.refl _)) ⟨?_, _, ?_, rfl⟩
    ·simp; exact wrap64 (by omega) (by omega)
    ·intro j y2 hj hy2
     by_cases hjk : j = k
     ·subst hjk; rw [hy] at hy2; cases hy2; simpa using hc3
     ·exact hp1 j y2 (by omega) hy2
    ·first | assumption | (simp; done) | (simp; assumption) | (simp [hho1]; done)
  ·simp at hc2
   have hi1 : k = i := by omega
   have ha : (t.edges.take i).any (fun m => m.name.toList == n.name.toList) = false := any_take_f (fun j y hj hy => hp1 j y (by omega) hy)
   refine .exit ?_
   try simp only [then', inBlk, if_true, if_false, reduceIte, Nat.reduceEqDiff]
   refine hK7 _ ?_
   clear hK10 hK9 hK7 K10 K9 K7
   refine .seqk fun K15 hK15 => ?_
   refine .reg ?_
   simp [hw1]
   refine hK15 _ ?_
   clear hK15 K15
   refine .keep [5, 7] ?_
   simp only [keepE, E_cons, E_nil, reduceIte, Nat.reduceEqDiff]
   refine .seqk fun K16 hK16 => ?_
   refine .seqreg (fun hh => hh) (fun ee => [(62, bo (!(inI n.src t.nodes.length && inI n.tgt t.nodes.length && bndI n.ol n.oh && bndI n.il n.ih)))]) ?_ ?_
   ·refine Sq.cutk 4 fun KC1 hKC1 => ?_
    simp only [List.take_succ_cons, List.take_zero, List.drop_succ_cons, List.drop_zero]
    simp [inB_inI, true_and]
    refine PCall.sq (p127 n.src 0 ((t.nodes.length : Int) - 1)) fun _ he1 => ?_
    simp only [mergeH_eq he1]
    refine hKC1 _ ?_
    by_cases h1 : inI n.src t.nodes.length = true
    rotate_left
    ·simp [inB_inI, h1, true_and]
    refine Sq.cutk 6 fun KC2 hKC2 => ?_
    simp only [List.take_succ_cons, List.take_zero, List.drop_succ_cons, List.drop_zero]
    simp [inB_inI, h1, true_and]
    refine PCall.sq (p127 n.tgt 0 ((t.nodes.length : Int) - 1)) fun _ he2 => ?_
    simp only [mergeH_eq he2]
    refine hKC2 _ ?_
    by_cases h2 : inI n.tgt t.nodes.length = true
    rotate_left
    ·simp [inB_inI, h1, h2, true_and]
    refine Sq.cutk 8 fun KC3 hKC3 => ?_
    simp only [List.take_succ_cons, List.take_zero, List.drop_succ_cons, List.drop_zero]
    simp [inB_inI, h1, h2, true_and]
    refine PCall.sq (p212 n.ol n.oh) fun _ he3 => ?_
    simp only [mergeH_eq he3]
    refine hKC3 _ ?_
    by_cases h3 : bndI n.ol n.oh = true
    rotate_left
    ·simp [inB_inI, h1, h2, h3, true_and]
    refine Sq.cutk 8 fun KC4 hKC4 => ?_
    simp only [List.take_succ_cons, List.take_zero, List.drop_succ_cons, List.drop_zero]
    simp [inB_inI, h1, h2, h3, true_and]
    refine PCall.sq (p212 n.il n.ih) fun _ he4 => ?_
    simp only [mergeH_eq he4]
    refine hKC4 _ ?_
    simp [inB_inI, h1, h2, h3, true_and]
   try simp only [E_cons, E_nil, reduceIte, Nat.reduceEqDiff]
   refine .condk _ rfl (fun hc4 => ?_) (fun hc4 => ?_)
   ·skip
    refine .seqk fun K17 hK17 => ?_
    refine .reg ?_
    simp
    refine hK17 _ ?_
    clear hK17 K17
    refine .keep [4] ?_
    simp only [keepE, E_cons, E_nil, reduceIte, Nat.reduceEqDiff]
    refine .ret ?_
    -- leaf 4
    refine ret_d (.inr rfl) rfl (.refl _) rfl (by first | exact OutEq.outer _ | assumption | (simp; done) | (simp; assumption)) ?_
    have e : edgeE t i n = 6 := by
     simp only [edgeE]
     rw [if_neg (by simp [hc1]), if_neg (by simp [ha]), if_pos (bnT hc4)]
    simp [e]
   ·skip
    refine .skip ?_
    refine hK16 _ ?_
    clear hK16 K16
    refine .seqk fun K18 hK18 => ?_
    refine .reg ?_
    simp
    refine hK18 _ ?_
    clear hK18 K18
    refine .keep [4] ?_
    simp only [keepE, E_cons, E_nil, reduceIte, Nat.reduceEqDiff]
    refine .ret ?_
    -- leaf 5
    refine ret_d (.inr rfl) rfl (.refl _) rfl (by first | exact OutEq.outer _ | assumption | (simp; done) | (simp; assumption)) ?_
    have e : edgeE t i n = 0 := by
     simp only [edgeE]
     rw [if_neg (by simp [hc1]), if_neg (by simp [ha]), if_neg (by rw [bnF hc4]; decide)]
    simp [e]
set_option maxHeartbeats 1000000 in
theorem p101 (t : Types) (ht : tOK t) : PCall Tryz.prog 101 [ag (Types.c t)] (.tup [stri (typesV t).1, int (typesV t).2]) := by
 intro h
 refine ACall.of b101 (by simp) ?_
 unfold c101
 have hnl := ht.nl
 have hel := ht.el
 refine .seqk fun K1 hK1 => ?_
 refine .reg ?_
 simp
 refine hK1 _ ?_
 clear hK1 K1
 refine .keep [1] ?_
 simp only [keepE, E_cons, E_nil, reduceIte, Nat.reduceEqDiff]
 refine .see (upd _ 1 ⟨_, none⟩) [(1, .dptr (Types.c t))] ⟨T.box (k := 2) (cs := Types.c t) (by simp [upd]) (by simp [upd]), trivial⟩ (Dies.up (Dies.refl _) (.inr ⟨rfl, Nat.le_refl _⟩)) ?_
 try simp only [E_cons, E_nil, reduceIte, Nat.reduceEqDiff]
 refine .seqk fun K2 hK2 => ?_
 refine .seqk fun K3 hK3 => ?_
 refine .reg ?_
 simp
 refine hK3 _ ?_
 clear hK3 K3
 refine .keep [1, 11] ?_
 simp only [keepE, E_cons, E_nil, reduceIte, Nat.reduceEqDiff]
 refine .condk _ rfl (fun hc1 => ?_) (fun hc1 => ?_)
 ·simp at hc1
  refine .seqk fun K4 hK4 => ?_
  refine .reg ?_
  simp
  refine hK4 _ ?_
  clear hK4 K4
  refine .keep [2, 3] ?_
  simp only [keepE, E_cons, E_nil, reduceIte, Nat.reduceEqDiff]
  refine .ret ?_
  -- leaf 1
  refine ret_d (.inr rfl) rfl (.refl _) rfl (by first | exact OutEq.outer _ | assumption | (simp; done) | (simp; assumption)) ?_
  simp [typesV, hc1, noS]
 ·simp at hc1
  refine .skip ?_
  refine hK2 _ ?_
  clear hK2 K2
  refine .seqk fun K5 hK5 => ?_
  refine .seqreg (fun hh => hh) (fun ee => [(1, ee 1), (21, bo (decide ((12 : Int) < t.nodes.length) || decide ((20 : Int) < t.edges.length)))]) ?_ ?_
  ·by_cases h0 : (12 : Int) < t.nodes.length <;> by_cases h1 : (20 : Int) < t.edges.length <;> simp [h0, h1, True]
  try simp only [E_cons, E_nil, reduceIte, Nat.reduceEqDiff]
  refine .condk _ rfl (fun hc2 => ?_) (fun hc2 => ?_)
  ·simp at hc2
   have hc2' : 12 < t.nodes.length ∨ 20 < t.edges.length := by omega
   refine .seqk fun K6 hK6 => ?_
   refine .reg ?_
   simp
   refine hK6 _ ?_
   clear hK6 K6
   refine .keep [2, 3] ?_
   simp only [keepE, E_cons, E_nil, reduceIte, Nat.reduceEqDiff]
   refine .ret ?_
   -- leaf 2
   refine ret_d (.inr rfl) rfl (.refl _) rfl (by first | exact OutEq.outer _ | assumption | (simp; done) | (simp; assumption)) ?_
   simp only [typesV]; rw [if_neg (by simpa using hc1), if_pos hc2']; rfl
  ·simp at hc2
   have hc2' : ¬ (12 < t.nodes.length ∨ 20 < t.edges.length) := by omega
   have hV : typesV t = if (nodesE t 0 t.nodes).2 ≠ 0 then nodesE t 0 t.nodes else edgesE t 0 t.edges := by simp only [typesV]; rw [if_neg (by simpa using hc1), if_neg hc2']
   refine .skip ?_
   refine hK5 _ ?_
   clear hK5 K5
   refine .seqk fun K7 hK7 => ?_
   refine .seqk fun K8 hK8 => ?_
   refine .reg ?_
   simp
   refine hK8 _ ?_
   clear hK8 K8
   refine .keep [1, 4] ?_
   simp only [keepE, E_cons, E_nil, reduceIte, Nat.reduceEqDiff]
   refine .block ?_
   refine .count (t.nodes).length (fun i st => (nodesE t i (t.nodes.drop i) = nodesE t 0 t.nodes ∧ ∀ j, j < i → ∀ m, t.nodes[j]? = some m → nodeE t j m = 0) ∧ ∃ hh1, OutEq hh1 h ∧ st = ⟨E [(1, .dptr (Types.c t)), (4, int i)], hh1⟩) 0 (Nat.zero_le _) _ (.cov (by first | (simp; done) | (simp; rfl) | (simp; exact ⟨rfl, rfl⟩)) (.refl _)) ⟨⟨by simp, fun j hj => absurd hj (by omega)⟩, _, by first | (simp; done) | (simp; assumption) | (simp [*]; done), rfl⟩ ?_
   rintro i s hi1 ⟨⟨hp1, hq1⟩, hh1, hho1, rfl⟩ K9 hK9
   refine .seqk fun K10 hK10 => ?_
   refine .seqk fun K11 hK11 => ?_
   refine .reg ?_
   simp
   refine hK11 _ ?_
   clear hK11 K11
   refine .keep [1, 4, 26] ?_
   simp only [keepE, E_cons, E_nil, reduceIte, Nat.reduceEqDiff]
   refine .condk _ rfl (fun hc3 => ?_) (fun hc3 => ?_)
   ·simp at hc3
    obtain ⟨x, hx1⟩ := get_some hc3
    refine .skip ?_
    refine hK10 _ ?_
    clear hK10 K10
    refine .seqk fun K12 hK12 => ?_
    refine .block ?_
    refine .seqk fun K13 hK13 => ?_
    refine .reg ?_
    refine Sq.cutk 3 fun K14 hK14 => ?_
    simp only [List.take_succ_cons, List.take_zero, List.drop_succ_cons, List.drop_zero]
    simp [hx1]
    refine PCall.sq (p158 t ht i x hx1 (fun j hj m hm => (nodeE_par (hq1 j hj m hm)).2)) fun h1 he1 => ?_
    simp only [mergeH_eq he1]
    clear he1 h1
    refine hK14 _ ?_
    clear hK14 K14
    simp [hx1]
    refine hK13 _ ?_
    clear hK13 K13
    refine .keep [1, 4, 5] ?_
    simp only [keepE, E_cons, E_nil, reduceIte, Nat.reduceEqDiff]
    refine .seqk fun K15 hK15 => ?_
    refine .reg ?_
    simp
    refine hK15 _ ?_
    clear hK15 K15
    refine .keep [1, 4, 5, 33] ?_
    simp only [keepE, E_cons, E_nil, reduceIte, Nat.reduceEqDiff]
    refine .condk _ rfl (fun hc4 => ?_) (fun hc4 => ?_)
    ·simp at hc4
     refine .seqk fun K16 hK16 => ?_
     refine .reg ?_
     simp [hx1]
     refine hK16 _ ?_
     clear hK16 K16
     refine .keep [2, 3] ?_
     simp only [keepE, E_cons, E_nil, reduceIte, Nat.reduceEqDiff]
     refine .ret ?_
     -- leaf 3
     refine ret_d (.inr rfl) rfl (.refl _) rfl (by first | exact OutEq.outer _ | assumption | (simp; done) | (simp; assumption)) ?_
     have e : nodesE t 0 t.nodes = (x.name, nodeE t i x) := by rw [← hp1, drop_cons hx1]; simp [nodesE, hc4]
     simp [hV, e, hc4]
    ·simp at hc4
     refine .skip ?_
     refine hK12 _ ?_
     clear hK12 K12
     refine .reg ?_
     simp
     -- loop back, leaf 4
     refine hK9 _ _ (by omega) (Wk.cov ?_ (.refl _)) ⟨?_, _, ?_, rfl⟩
     ·simp; exact wrap64 (by omega) (by omega)
     ·refine ⟨by rw [← hp1, drop_cons hx1]; simp [nodesE, hc1, hc2, hc4], fun j hj m hm => ?_⟩
      by_cases hji : j = i
      ·subst hji; rw [hx1] at hm; cases hm; exact hc4
      ·exact hq1 j (by omega) m hm
     ·first | assumption | (simp; done) | (simp; assumption) | (simp [hho1]; done)
   ·simp at hc3
    have hi1 : i = (t.nodes).length := by omega
    subst hi1
    have hn0 : nodesE t 0 t.nodes = (noS, 0) := by rw [← hp1]; simp [nodesE]
    refine .exit ?_
    try simp only [then', inBlk, if_true, if_false, reduceIte, Nat.reduceEqDiff]
    refine hK7 _ ?_
    clear hK10 hK9 hK7 K10 K9 K7
    refine .seqk fun K17 hK17 => ?_
    refine .seqk fun K18 hK18 => ?_
    refine .reg ?_
    simp
    refine hK18 _ ?_
    clear hK18 K18
    refine .keep [1, 6] ?_
    simp only [keepE, E_cons, E_nil, reduceIte, Nat.reduceEqDiff]
    refine .block ?_
    refine .count (t.edges).length (fun i st => (edgesE t i (t.edges.drop i) = edgesE t 0 t.edges) ∧ ∃ hh2, OutEq hh2 h ∧ st = ⟨E [(1, .dptr (Types.c t)), (6, int i)], hh2⟩) 0 (Nat.zero_le _) _ (.cov (by first | (simp; done) | (simp; rfl) | (simp; exact ⟨rfl, rfl⟩)) (.refl _)) ⟨by simp, _, by first | (simp; done) | (simp; assumption) | (simp [*]; done), rfl⟩ ?_
    rintro i s hi2 ⟨hp2, hh2, hho2, rfl⟩ K19 hK19
    refine .seqk fun K20 hK20 => ?_
    refine .seqk fun K21 hK21 => ?_
    refine .reg ?_
    simp
    refine hK21 _ ?_
    clear hK21 K21
    refine .keep [1, 6, 45] ?_
    simp only [keepE, E_cons, E_nil, reduceIte, Nat.reduceEqDiff]
    refine .condk _ rfl (fun hc5 => ?_) (fun hc5 => ?_)
    ·simp at hc5
     obtain ⟨x, hx2⟩ := get_some hc5
     refine .skip ?_
     refine hK20 _ ?_
     clear hK20 K20
     refine .seqk fun K22 hK22 => ?_
     refine .block ?_
     refine .seqk fun K23 hK23 => ?_
     refine .reg ?_
     refine Sq.cutk 3 fun K24 hK24 => ?_
     simp only [List.take_succ_cons, List.take_zero, List.drop_succ_cons, List.drop_zero]
     simp
     refine PCall.sq (p159 t ht i x hx2) fun h1 he1 => ?_
     simp only [mergeH_eq he1]
     clear he1 h1
     refine hK24 _ ?_
     clear hK24 K24
     simp
     refine hK23 _ ?_
     clear hK23 K23
     refine .keep [1, 6, 7] ?_
     simp only [keepE, E_cons, E_nil, reduceIte, Nat.reduceEqDiff]
     refine .seqk fun K25 hK25 => ?_
     refine .reg ?_
     simp
     refine hK25 _ ?_
     clear hK25 K25
     refine .keep [1, 6, 7, 52] ?_
     simp only [keepE, E_cons, E_nil, reduceIte, Nat.reduceEqDiff]
     refine .condk _ rfl (fun hc6 => ?_) (fun hc6 => ?_)
     ·simp at hc6
      refine .seqk fun K26 hK26 => ?_
      refine .reg ?_
      simp [hx2]
      refine hK26 _ ?_
      clear hK26 K26
      refine .keep [2, 3] ?_
      simp only [keepE, E_cons, E_nil, reduceIte, Nat.reduceEqDiff]
      refine .ret ?_
      -- leaf 5
      refine ret_d (.inr rfl) rfl (.refl _) rfl (by first | exact OutEq.outer _ | assumption | (simp; done) | (simp; assumption)) ?_
      have e : edgesE t 0 t.edges = (x.name, edgeE t i x) := by rw [← hp2, drop_cons hx2]; simp [edgesE, hc6]
      simp [hV, e, hn0]
     ·simp at hc6
      refine .skip ?_
      refine hK22 _ ?_
      clear hK22 K22
      refine .reg ?_
      simp
      -- loop back, leaf 6
      refine hK19 _ _ (by omega) (Wk.cov ?_ (.refl _)) ⟨?_, _, ?_, rfl⟩
      ·simp; exact wrap64 (by omega) (by omega)
      ·rw [← hp2, drop_cons hx2]; simp [edgesE, hc1, hc2, hc6]
      ·first | assumption | (simp; done) | (simp; assumption) | (simp [hho2]; done)
    ·simp at hc5
     have hi2 : i = (t.edges).length := by omega
     subst hi2
     refine .exit ?_
     try simp only [then', inBlk, if_true, if_false, reduceIte, Nat.reduceEqDiff]
     refine hK17 _ ?_
     clear hK20 hK19 hK17 K20 K19 K17
     refine .seqk fun K27 hK27 => ?_
     refine .reg ?_
     simp
     refine hK27 _ ?_
     clear hK27 K27
     refine .keep [2, 3] ?_
     simp only [keepE, E_cons, E_nil, reduceIte, Nat.reduceEqDiff]
     refine .ret ?_
     -- leaf 7
     refine ret_d (.inr rfl) rfl (.refl _) rfl (by first | exact OutEq.outer _ | assumption | (simp; done) | (simp; assumption)) ?_
     have e : edgesE t 0 t.edges = (noS, 0) := by rw [← hp2]; simp [edgesE]
     simp [hV, e, hn0]; rfl
theorem p126 (t : Types) (ht : tOK t) (a b : Int) : PCall Tryz.prog 126 [ag (Types.c t), int a, int b] (int (givenV t [a, b])) := by
 intro h
 refine ACall.of b126 (by simp) ?_
 unfold c126
 have htl := ht.nl
 have htl2 := ht.el
 have hw1 : IntKind.i64.wrap ((t.nodes.length : Int) - 1) = (t.nodes.length : Int) - 1 := wrap64 (by omega) (by omega)
 have hw2 : IntKind.i64.wrap ((t.edges.length : Int) - 1) = (t.edges.length : Int) - 1 := wrap64 (by omega) (by omega)
 refine .seqk fun K1 hK1 => ?_
 refine .reg ?_
 simp
 refine hK1 _ ?_
 clear hK1 K1
 refine .keep [1, 2, 3] ?_
 simp only [keepE, E_cons, E_nil, reduceIte, Nat.reduceEqDiff]
 refine .see (upd _ 3 ⟨_, none⟩) [(1, _), (2, _), (3, .dptr (Types.c t))] ⟨.refl _, .refl _, T.box (k := 2) (cs := Types.c t) (by simp [upd]) (by simp [upd]), trivial⟩ (Dies.up (Dies.refl _) (.inr ⟨rfl, Nat.le_refl _⟩)) ?_
 try simp only [E_cons, E_nil, reduceIte, Nat.reduceEqDiff]
 refine .seqk fun K2 hK2 => ?_
 refine .seqk fun K3 hK3 => ?_
 refine .reg ?_
 refine Sq.cutk 2 fun K4 hK4 => ?_
 simp only [List.take_succ_cons, List.take_zero, List.drop_succ_cons, List.drop_zero]
 simp
 refine PCall.sq (p101 t ht) fun h1 he1 => ?_
 simp only [mergeH_eq he1]
 clear he1 h1
 refine hK4 _ ?_
 clear hK4 K4
 simp
 refine hK3 _ ?_
 clear hK3 K3
 refine .keep [1, 2, 3, 8] ?_
 simp only [keepE, E_cons, E_nil, reduceIte, Nat.reduceEqDiff]
 refine .seqk fun K5 hK5 => ?_
 refine .reg ?_
 simp
 refine hK5 _ ?_
 clear hK5 K5
 refine .keep [1, 2, 3, 8, 15] ?_
 simp only [keepE, E_cons, E_nil, reduceIte, Nat.reduceEqDiff]
 refine .condk _ rfl (fun hc1 => ?_) (fun hc1 => ?_)
 ·simp at hc1
  refine .seqk fun K6 hK6 => ?_
  refine .reg ?_
  simp
  refine hK6 _ ?_
  clear hK6 K6
  refine .keep [6] ?_
  simp only [keepE, E_cons, E_nil, reduceIte, Nat.reduceEqDiff]
  refine .ret ?_
  -- leaf 1
  refine ret_d (.inr rfl) rfl (.refl _) rfl (by first | exact OutEq.outer _ | assumption | (simp; done) | (simp; assumption)) ?_
  simp [givenV, hc1]
 ·simp at hc1
  refine .skip ?_
  refine hK2 _ ?_
  clear hK2 K2
  refine .seqk fun K7 hK7 => ?_
  refine .seqreg (fun hh => hh) (fun ee => [(32, bo (!(inI a t.nodes.length && inI b t.nodes.length)))]) ?_ ?_
  ·refine Sq.cutk 6 fun KC1 hKC1 => ?_
   simp only [List.take_succ_cons, List.take_zero, List.drop_succ_cons, List.drop_zero]
   simp [inB_inI, hw1, true_and]
   refine PCall.sq (p127 a 0 ((t.nodes.length : Int) - 1)) fun _ he1 => ?_
   simp only [mergeH_eq he1]
   refine hKC1 _ ?_
   by_cases h1 : inI a t.nodes.length = true
   rotate_left
   ·simp [inB_inI, h1, true_and]
   refine Sq.cutk 8 fun KC2 hKC2 => ?_
   simp only [List.take_succ_cons, List.take_zero, List.drop_succ_cons, List.drop_zero]
   simp [inB_inI, h1, hw1, true_and]
   refine PCall.sq (p127 b 0 ((t.nodes.length : Int) - 1)) fun _ he2 => ?_
   simp only [mergeH_eq he2]
   refine hKC2 _ ?_
   simp [inB_inI, h1, true_and]
  try simp only [E_cons, E_nil, reduceIte, Nat.reduceEqDiff]
  refine .condk _ rfl (fun hc2 => ?_) (fun hc2 => ?_)
  ·skip
   refine .seqk fun K8 hK8 => ?_
   refine .reg ?_
   simp
   refine hK8 _ ?_
   clear hK8 K8
   refine .keep [6] ?_
   simp only [keepE, E_cons, E_nil, reduceIte, Nat.reduceEqDiff]
   refine .ret ?_
   -- leaf 2
   refine ret_d (.inr rfl) rfl (.refl _) rfl (by first | exact OutEq.outer _ | assumption | (simp; done) | (simp; assumption)) ?_
   have e : givenV t [a, b] = 6 := by
    have h3 := bnT hc2
    simp only [givenV]
    rw [if_neg (by simp [hc1])]
    cases h1 : inI a t.nodes.length <;> cases h2 : inI b t.nodes.length <;> simp [h1, h2] at h3 ⊢
   simp [e]
  ·skip
   refine .skip ?_
   refine hK7 _ ?_
   clear hK7 K7
   refine .seqk fun K9 hK9 => ?_
   refine .reg ?_
   simp
   refine hK9 _ ?_
   clear hK9 K9
   refine .keep [6] ?_
   simp only [keepE, E_cons, E_nil, reduceIte, Nat.reduceEqDiff]
   refine .ret ?_
   -- leaf 3
   refine ret_d (.inr rfl) rfl (.refl _) rfl (by first | exact OutEq.outer _ | assumption | (simp; done) | (simp; assumption)) ?_
   have e : givenV t [a, b] = 0 := by
    have h3 := bnF hc2
    simp only [givenV]
    rw [if_neg (by simp [hc1])]
    cases h1 : inI a t.nodes.length <;> cases h2 : inI b t.nodes.length <;> simp [h1, h2] at h3 ⊢
   simp [e]
theorem s128 (t : Types) (hv : tV t) (a b : Int) (hb : 0 ≤ b) (ha : a < t.nodes.length) (ih : ∀ p : Int, p < a → PCall Tryz.prog 128 [ag (Types.c t), int p, int b] (bo (below t p b))) : PCall Tryz.prog 128 [ag (Types.c t), int a, int b] (bo (below t a b)) := by
 intro h
 refine ACall.of b128 (by simp) ?_
 unfold c128
 refine .seqk fun K1 hK1 => ?_
 refine .reg ?_
 simp
 refine hK1 _ ?_
 clear hK1 K1
 refine .keep [1, 2, 3] ?_
 simp only [keepE, E_cons, E_nil, reduceIte, Nat.reduceEqDiff]
 refine .see (upd _ 3 ⟨_, none⟩) [(1, _), (2, _), (3, .dptr (Types.c t))] ⟨.refl _, .refl _, T.box (k := 2) (cs := Types.c t) (by simp [upd]) (by simp [upd]), trivial⟩ (Dies.up (Dies.refl _) (.inr ⟨rfl, Nat.le_refl _⟩)) ?_
 try simp only [E_cons, E_nil, reduceIte, Nat.reduceEqDiff]
 refine .seqdreg mixed (fun hh => hh) (fun ee => [(6, bo (below t a b))]) ?_ ?_
 ·by_cases h0 : 0 ≤ a
  rotate_left
  ·have hbl : below t a b = false := by simp [below, chainT_neg (show a < 0 by omega)]
   have h1 : ¬ a = b := by omega
   simp [-Bool.exists_bool, h0, h1, hbl]
  obtain ⟨n, hn⟩ : ∃ n, t.nodes[a.toNat]? = some n := ⟨t.nodes[a.toNat]'(by omega), by simp⟩
  have hbl : below t a b = (decide (a = b) || below t n.parent b) := by
   unfold below
   rw [chainT_pos hv h0 hn, List.any_cons]
   congr 1
   by_cases h : b = a
   ·subst h; simp
   ·have : ¬ a = b := fun e => h e.symm
    simp [h, this]
  have hpar := (hv.par1 hn).2
  rw [hbl]
  by_cases h1 : a = b
  ·simp [-Bool.exists_bool, h0, hn, h1, true_and]
  refine Dr.cutk 16 fun KC1 hKC1 => ?_
  simp only [List.take_succ_cons, List.take_zero, List.drop_succ_cons, List.drop_zero]
  simp [-Bool.exists_bool, h0, hn, h1, true_and]
  refine Dr.pcall (ih n.parent (by omega)) ?_
  refine hKC1 _ _ ?_
  simp [-Bool.exists_bool, h0, hn, h1, true_and]
 try simp only [E_cons, E_nil, reduceIte, Nat.reduceEqDiff]
 refine .ret ?_
 -- leaf 1
 refine ret_d (.inr rfl) rfl (.refl _) rfl (by first | exact OutEq.outer _ | assumption | (simp; done) | (simp; assumption)) ?_
 simp
theorem n128 (t : Types) (a b : Int) (hb : 0 ≤ b) (ha : a < 0) : PCall Tryz.prog 128 [ag (Types.c t), int a, int b] (bo (below t a b)) := by
 intro h
 refine ACall.of b128 (by simp) ?_
 unfold c128
 refine .seqk fun K1 hK1 => ?_
 refine .reg ?_
 simp
 refine hK1 _ ?_
 clear hK1 K1
 refine .keep [1, 2, 3] ?_
 simp only [keepE, E_cons, E_nil, reduceIte, Nat.reduceEqDiff]
 refine .see (upd _ 3 ⟨_, none⟩) [(1, _), (2, _), (3, .dptr (Types.c t))] ⟨.refl _, .refl _, T.box (k := 2) (cs := Types.c t) (by simp [upd]) (by simp [upd]), trivial⟩ (Dies.up (Dies.refl _) (.inr ⟨rfl, Nat.le_refl _⟩)) ?_
 try simp only [E_cons, E_nil, reduceIte, Nat.reduceEqDiff]
 refine .seqdreg mixed (fun hh => hh) (fun ee => [(6, bo (below t a b))]) ?_ ?_
 ·have hbl : below t a b = false := by simp [below, chainT_neg ha]
  have h1 : ¬ a = b := by omega
  have h0 : ¬ 0 ≤ a := by omega
  simp [-Bool.exists_bool, h0, h1, hbl]
 try simp only [E_cons, E_nil, reduceIte, Nat.reduceEqDiff]
 refine .ret ?_
 -- leaf 1
 refine ret_d (.inr rfl) rfl (.refl _) rfl (by first | exact OutEq.outer _ | assumption | (simp; done) | (simp; assumption)) ?_
 simp
theorem p128 (t : Types) (hv : tV t) (b : Int) (hb : 0 ≤ b) (a : Int) (ha : a < t.nodes.length) : PCall Tryz.prog 128 [ag (Types.c t), int a, int b] (bo (below t a b)) := by
 have key : ∀ (k : Nat) (a : Int), a < k → a < t.nodes.length → PCall Tryz.prog 128 [ag (Types.c t), int a, int b] (bo (below t a b)) := by
  intro k
  induction k with
  | zero =>
   intro a hk ha
   exact n128 t a b hb (by omega)
  | succ k ih => exact fun a hk ha => s128 t hv a b hb ha fun p hpa => ih p (by omega) (by omega)
 exact key (a + 1).toNat a (by omega) ha
theorem p79 (t : Types) (ht : tOK t) (e a b : Int) : PCall Tryz.prog 79 [ag (Types.c t), int e, int a, int b] (bo (fitsT t e a b)) := by
 intro h
 refine ACall.of b79 (by simp) ?_
 unfold c79
 have htl := ht.nl
 have htl2 := ht.el
 have hw1 : IntKind.i64.wrap ((t.nodes.length : Int) - 1) = (t.nodes.length : Int) - 1 := wrap64 (by omega) (by omega)
 have hw2 : IntKind.i64.wrap ((t.edges.length : Int) - 1) = (t.edges.length : Int) - 1 := wrap64 (by omega) (by omega)
 refine .seqk fun K1 hK1 => ?_
 refine .reg ?_
 simp
 refine hK1 _ ?_
 clear hK1 K1
 refine .keep [1, 2, 3, 4] ?_
 simp only [keepE, E_cons, E_nil, reduceIte, Nat.reduceEqDiff]
 refine .see (upd _ 4 ⟨_, none⟩) [(1, _), (2, _), (3, _), (4, .dptr (Types.c t))] ⟨.refl _, .refl _, .refl _, T.box (k := 2) (cs := Types.c t) (by simp [upd]) (by simp [upd]), trivial⟩ (Dies.up (Dies.refl _) (.inr ⟨rfl, Nat.le_refl _⟩)) ?_
 try simp only [E_cons, E_nil, reduceIte, Nat.reduceEqDiff]
 refine .seqk fun K2 hK2 => ?_
 refine .seqreg (fun hh => hh) (fun ee => [(1, ee 1), (2, ee 2), (3, ee 3), (4, ee 4), (22, bo (!(decide (givenV t [a, b] = 0) && inI e t.edges.length)))]) ?_ ?_
 ·refine Sq.cutk 4 fun KC1 hKC1 => ?_
  simp only [List.take_succ_cons, List.take_zero, List.drop_succ_cons, List.drop_zero]
  simp [inB_inI, true_and]
  refine PCall.sq (p126 t ht a b) fun _ he1 => ?_
  simp only [mergeH_eq he1]
  refine hKC1 _ ?_
  by_cases h1 : givenV t [a, b] = 0
  rotate_left
  ·simp [inB_inI, h1, true_and]
  refine Sq.cutk 8 fun KC2 hKC2 => ?_
  simp only [List.take_succ_cons, List.take_zero, List.drop_succ_cons, List.drop_zero]
  simp [inB_inI, h1, hw2, true_and]
  refine PCall.sq (p127 e 0 ((t.edges.length : Int) - 1)) fun _ he2 => ?_
  simp only [mergeH_eq he2]
  refine hKC2 _ ?_
  simp [inB_inI, h1, true_and]
 try simp only [E_cons, E_nil, reduceIte, Nat.reduceEqDiff]
 refine .condk _ rfl (fun hc1 => ?_) (fun hc1 => ?_)
 ·skip
  refine .seqk fun K3 hK3 => ?_
  refine .reg ?_
  simp
  refine hK3 _ ?_
  clear hK3 K3
  refine .keep [8] ?_
  simp only [keepE, E_cons, E_nil, reduceIte, Nat.reduceEqDiff]
  refine .ret ?_
  -- leaf 1
  refine ret_d (.inr rfl) rfl (.refl _) rfl (by first | exact OutEq.outer _ | assumption | (simp; done) | (simp; assumption)) ?_
  simp [fitsT]; intro h; simp [h] at hc1; simp [hc1]
 ·simp at hc1
  obtain ⟨hg1, hg2⟩ := hc1
  obtain ⟨htv, hgab⟩ := givenV_ok hg1
  have hv := typesV_ok htv
  have ha0 := inI_iff.1 (hgab a (by simp))
  have hb0 := inI_iff.1 (hgab b (by simp))
  have he0 := inI_iff.1 hg2
  obtain ⟨x, hx⟩ : ∃ x, t.edges[e.toNat]? = some x := ⟨t.edges[e.toNat]'(by omega), by simp⟩
  obtain ⟨hs1, hs2⟩ := edgeE_in (hv.ed e.toNat x hx)
  have hs1 := inI_iff.1 hs1
  have hs2 := inI_iff.1 hs2
  have hf : fitsT t e a b = (below t a x.src && below t b x.tgt) := by simp [fitsT, hg1, hg2, hx]
  refine .skip ?_
  refine hK2 _ ?_
  clear hK2 K2
  refine .seqdreg mixed (fun hh => hh) (fun ee => [(8, bo (fitsT t e a b))]) ?_ ?_
  ·rw [hf]
   refine Dr.cutk 9 fun KC1 hKC1 => ?_
   simp only [List.take_succ_cons, List.take_zero, List.drop_succ_cons, List.drop_zero]
   simp [-Bool.exists_bool, hx, he0.1, true_and]
   refine Dr.pcall (p128 t hv x.src hs1.1 a ha0.2) ?_
   refine hKC1 _ _ ?_
   by_cases h1 : below t a x.src = true
   rotate_left
   ·simp [-Bool.exists_bool, hx, he0.1, h1, true_and]
   refine Dr.cutk 10 fun KC2 hKC2 => ?_
   simp only [List.take_succ_cons, List.take_zero, List.drop_succ_cons, List.drop_zero]
   simp [-Bool.exists_bool, hx, he0.1, h1, true_and]
   refine Dr.pcall (p128 t hv x.tgt hs2.1 b hb0.2) ?_
   refine hKC2 _ _ ?_
   simp [-Bool.exists_bool, hx, he0.1, h1, true_and]
  try simp only [E_cons, E_nil, reduceIte, Nat.reduceEqDiff]
  refine .ret ?_
  -- leaf 2
  refine ret_d (.inr rfl) rfl (.refl _) rfl (by first | exact OutEq.outer _ | assumption | (simp; done) | (simp; assumption)) ?_
  simp
theorem p245 (t : Types) (ht : tOK t) (a b : Int) : PCall Tryz.prog 245 [ag (Types.c t), int a, int b] (bo (isT t a b)) := by
 intro h
 refine ACall.of b245 (by simp) ?_
 unfold c245
 refine .seqk fun K1 hK1 => ?_
 refine .reg ?_
 simp
 refine hK1 _ ?_
 clear hK1 K1
 refine .keep [1, 2, 3] ?_
 simp only [keepE, E_cons, E_nil, reduceIte, Nat.reduceEqDiff]
 refine .see (upd _ 3 ⟨_, none⟩) [(1, _), (2, _), (3, .dptr (Types.c t))] ⟨.refl _, .refl _, T.box (k := 2) (cs := Types.c t) (by simp [upd]) (by simp [upd]), trivial⟩ (Dies.up (Dies.refl _) (.inr ⟨rfl, Nat.le_refl _⟩)) ?_
 try simp only [E_cons, E_nil, reduceIte, Nat.reduceEqDiff]
 refine .seqreg (fun hh => hh) (fun ee => [(6, bo (isT t a b))]) ?_ ?_
 ·refine Sq.cutk 4 fun KC1 hKC1 => ?_
  simp only [List.take_succ_cons, List.take_zero, List.drop_succ_cons, List.drop_zero]
  simp [isT, true_and]
  refine PCall.sq (p126 t ht a b) fun _ he1 => ?_
  simp only [mergeH_eq he1]
  refine hKC1 _ ?_
  by_cases h1 : givenV t [a, b] = 0
  rotate_left
  ·simp [isT, h1, true_and]
  obtain ⟨htv, hgab⟩ := givenV_ok h1
  have hv := typesV_ok htv
  have ha0 := inI_iff.1 (hgab a (by simp))
  have hb0 := inI_iff.1 (hgab b (by simp))
  refine Sq.cutk 6 fun KC2 hKC2 => ?_
  simp only [List.take_succ_cons, List.take_zero, List.drop_succ_cons, List.drop_zero]
  simp [isT, h1, true_and]
  refine PCall.sq (p128 t hv b hb0.1 a ha0.2) fun _ he2 => ?_
  simp only [mergeH_eq he2]
  refine hKC2 _ ?_
  simp [isT, h1, true_and]
 try simp only [E_cons, E_nil, reduceIte, Nat.reduceEqDiff]
 refine .ret ?_
 -- leaf 1
 refine ret_d (.inr rfl) rfl (.refl _) rfl (by first | exact OutEq.outer _ | assumption | (simp; done) | (simp; assumption)) ?_
 simp
end Go.Abs
set_option linter.unusedVariables false
set_option linter.unusedSimpArgs false
namespace Go.Abs
open Go Go.Proofs
theorem dl_cons (x : List D) (l : List (List D)) : dl (x :: l) = x.map .d :: dl l := rfl
theorem m257 (t : Types) (hv : tV t) (a : Int) (ha : a < t.nodes.length) : ACall Tryz.prog 257 [ag (Types.c t), int a] h00 fun r _ => r = sl ((chainT t a).reverse.map I.c) := by
 refine ACall.of b257 (by simp) ?_
 unfold c257
 rw [outer_h00]
 have hn2 := hv.n2
 have hlen : (chainT t a).length ≤ t.nodes.length + 1 := chainF_len t _ a
 refine .seqk fun K1 hK1 => ?_
 refine .reg ?_
 simp
 refine hK1 _ ?_
 clear hK1 K1
 refine .keep [1, 2] ?_
 simp only [keepE, E_cons, E_nil, reduceIte, Nat.reduceEqDiff]
 refine .see (upd _ 2 ⟨_, none⟩) [(1, _), (2, .dptr (Types.c t))] ⟨.refl _, T.box (k := 2) (cs := Types.c t) (by simp [upd]) (by simp [upd]), trivial⟩ (Dies.up (Dies.refl _) (.inr ⟨rfl, Nat.le_refl _⟩)) ?_
 try simp only [E_cons, E_nil, reduceIte, Nat.reduceEqDiff]
 refine .seqk fun K2 hK2 => ?_
 refine .reg ?_
 simp
 refine hK2 _ ?_
 clear hK2 K2
 refine .keep [1, 2, 5] ?_
 simp only [keepE, E_cons, E_nil, reduceIte, Nat.reduceEqDiff]
 refine .nil1 (l' := [(1, int a), (2, .dptr (Types.c t)), (5, .sl 17 1 0 0 0)]) 17 1 (by simp [upd, h00_at]) (by decide) (by decide) (fun u => by
  by_cases hu : u = 5
  ·right; subst hu; exact ⟨rfl, by simp [upd, h00_at]⟩
  ·left; simp [hu]) ?_
 refine .ren 17 1000001 1 (v := 1) (blk := ⟨1, []⟩) (by decide) (by decide) (by simp [upd, h00_at]) (by simp [upd, h00_at]) (by simp [upd, h00_at]) rfl ?_
 simp [renE, renA]
 refine .seqk fun K3 hK3 => ?_
 refine .block ?_
 refine .count ((chainT t a).length) (fun i st => ∃ cur : Int, ∃ v : Nat, ∃ c : Nat, (cur < t.nodes.length ∧ chainT t cur = (chainT t a).drop i) ∧ ∃ hh1, hh1 1000001 = ⟨v, some ⟨1, dl (((chainT t a).take i).map I.c)⟩⟩ ∧ st = ⟨E [(1, int cur), (2, .dptr (Types.c t)), (5, .sl 1000001 v 0 i c)], hh1⟩) 0 (Nat.zero_le _) _ (.cov (by first | (simp; done) | (simp; rfl) | (simp; exact ⟨rfl, rfl⟩)) (.refl _)) ⟨a, 1, 0, ⟨ha, by simp⟩, _, by simp [upd], rfl⟩ ?_
 rintro i s hi1 ⟨cur, v, c, ⟨hcl, hch⟩, hh1, hho1, rfl⟩ K4 hK4
 refine .seqk fun K5 hK5 => ?_
 refine .seqk fun K6 hK6 => ?_
 refine .reg ?_
 simp
 refine hK6 _ ?_
 clear hK6 K6
 refine .keep [1, 2, 5, 7] ?_
 simp only [keepE, E_cons, E_nil, reduceIte, Nat.reduceEqDiff]
 refine .condk _ rfl (fun hc1 => ?_) (fun hc1 => ?_)
 ·simp at hc1
  obtain ⟨n, hn⟩ : ∃ n, t.nodes[cur.toNat]? = some n := ⟨t.nodes[cur.toNat]'(by omega), by simp⟩
  have hpar := hv.par1 hn
  have hcp := chainT_pos hv hc1 hn
  have hil : i < (chainT t a).length := by
   by_cases h : i < (chainT t a).length
   ·exact h
   ·rw [hcp, List.drop_eq_nil_of_le (by omega)] at hch; cases hch
  have hgi : (chainT t a)[i]? = some cur := by
   have := congrArg List.head? hch
   rw [hcp] at this
   simpa using this.symm
  have hdr : chainT t n.parent = (chainT t a).drop (i + 1) := by
   have := congrArg List.tail hch
   rw [hcp] at this
   simpa using this
  have htk : List.take (i + 1) (List.map I.c (chainT t a)) = List.take i (List.map I.c (chainT t a)) ++ [[.int .i64 cur]] := by
   rw [List.take_add_one]
   simp [hgi]
  have hnc : ¬ (i + 1 ≤ c ∧ i + 1 ≤ i) := by omega
  have z1 : (i + 1) * 8 ≤ 17592186044416 := by omega
  have z2 : i + 1 ≤ 17592186044416 := by omega
  have zz : ¬ (i + 1 ≤ min i (chainT t a).length) := by omega
  have zi : min i (chainT t a).length = i := by omega
  refine .skip ?_
  refine hK5 _ ?_
  clear hK5 K5
  refine .seqk fun K7 hK7 => ?_
  refine .block ?_
  refine .reg ?_
  simp [hho1, getBlk, upd, z1, z2, zz, zi, srcOf, hnc]
  refine hK7 _ ?_
  clear hK7 K7
  refine .keep [1, 2, 5] ?_
  simp only [keepE, E_cons, E_nil, reduceIte, Nat.reduceEqDiff]
  refine .reg ?_
  simp [hn, hc1]
  -- loop back, leaf 1
  refine hK4 _ _ (by omega) (Wk.cov ?_ (.refl _)) ⟨n.parent, v + 1, i + 1, ?_, _, ?_, rfl⟩
  ·simp
  ·exact ⟨by omega, hdr⟩
  ·simp [upd, htk, dl_append, dl_cons, List.take_take]
 ·simp at hc1
  have hil : (chainT t a).length ≤ i := by
   have h := hch
   rw [chainT_neg hc1] at h
   have := congrArg List.length h
   simp at this
   omega
  have hie : i = (chainT t a).length := by omega
  subst hie
  simp at hho1
  refine .exit ?_
  try simp only [then', inBlk, if_true, if_false, reduceIte, Nat.reduceEqDiff]
  refine hK3 _ ?_
  clear hK5 hK4 hK3 K5 K4 K3
  refine .seqk fun K8 hK8 => ?_
  refine .reg ?_
  simp
  refine ACall.mono (m268 (chainT t a) _ v c (by omega) (by simpa using hho1)) ?_
  rintro _ h1 he1
  rw [mergeH_upd1 he1 (by decide)]
  clear he1 h1
  try simp
  refine hK8 _ ?_
  clear hK8 K8
  refine .keep [5] ?_
  simp only [keepE, E_cons, E_nil, reduceIte, Nat.reduceEqDiff]
  refine .see (upd _ 1000001 ⟨_, none⟩) [(5, sl ((chainT t a).reverse.map I.c))] ⟨T.rowD (k := 1) ((chainT t a).reverse.map I.c) (by simp [upd]) (by simp [upd]) (by simp), trivial⟩ (Dies.up (Dies.refl _) (.inr ⟨rfl, Nat.le_refl _⟩)) ?_
  refine .seqk fun K9 hK9 => ?_
  refine .reg ?_
  simp
  refine hK9 _ ?_
  clear hK9 K9
  refine .keep [4] ?_
  simp only [keepE, E_cons, E_nil, reduceIte, Nat.reduceEqDiff]
  refine .ret ?_
  -- leaf 2
  refine ret_m (.inr rfl) (r := sl ((chainT t a).reverse.map I.c)) (by simp) (by simp) (by simp)
theorem p257 (t : Types) (hv : tV t) (a : Int) (ha : a < t.nodes.length) : PCall Tryz.prog 257 [ag (Types.c t), int a] (sl ((chainT t a).reverse.map I.c)) := PCall.frame rfl rfl (m257 t hv a ha)
theorem p144r (l : List Int) (v : Int) : PCall Tryz.prog 144 [.d (.slice (l.map I.c).reverse), int v] (bo (l.reverse.any (fun x => v == x))) := by
 rw [← List.map_reverse]; exact p144 l.reverse v
theorem p228 (t : Types) (hv : tV t) (b a : Int) (ha : a < t.nodes.length) : PCall Tryz.prog 228 [ag (Types.c t), int a, int b] (bo (below t a b)) := by
 intro h
 refine ACall.of b228 (by simp) ?_
 unfold c228
 refine .seqk fun K1 hK1 => ?_
 refine .reg ?_
 simp
 refine hK1 _ ?_
 clear hK1 K1
 refine .keep [1, 2, 3] ?_
 simp only [keepE, E_cons, E_nil, reduceIte, Nat.reduceEqDiff]
 refine .see (upd _ 3 ⟨_, none⟩) [(1, _), (2, _), (3, .dptr (Types.c t))] ⟨.refl _, .refl _, T.box (k := 2) (cs := Types.c t) (by simp [upd]) (by simp [upd]), trivial⟩ (Dies.up (Dies.refl _) (.inr ⟨rfl, Nat.le_refl _⟩)) ?_
 try simp only [E_cons, E_nil, reduceIte, Nat.reduceEqDiff]
 refine .seqk fun K2 hK2 => ?_
 refine .reg ?_
 refine Sq.cutk 3 fun K3 hK3 => ?_
 simp only [List.take_succ_cons, List.take_zero, List.drop_succ_cons, List.drop_zero]
 simp
 refine PCall.sq (p257 t hv a ha) fun h1 he1 => ?_
 simp only [mergeH_eq he1]
 clear he1 h1
 refine hK3 _ ?_
 clear hK3 K3
 refine Sq.cutk 2 fun K4 hK4 => ?_
 simp only [List.take_succ_cons, List.take_zero, List.drop_succ_cons, List.drop_zero]
 simp
 refine PCall.sq (p144r (chainT t a) b) fun h1 he1 => ?_
 simp only [mergeH_eq he1]
 clear he1 h1
 refine hK4 _ ?_
 clear hK4 K4
 simp
 refine hK2 _ ?_
 clear hK2 K2
 refine .keep [6] ?_
 simp only [keepE, E_cons, E_nil, reduceIte, Nat.reduceEqDiff]
 refine .ret ?_
 -- leaf 1
 refine ret_d (.inr rfl) rfl (.refl _) rfl (by first | exact OutEq.outer _ | assumption | (simp; done) | (simp; assumption)) ?_
 simp [below]
theorem p186 (t : Types) (ht : tOK t) (e a b : Int) : PCall Tryz.prog 186 [ag (Types.c t), int e, int a, int b] (bo (fitsT t e a b)) := by
 intro h
 refine ACall.of b186 (by simp) ?_
 unfold c186
 have htl := ht.nl
 have htl2 := ht.el
 have hw1 : IntKind.i64.wrap ((t.nodes.length : Int) - 1) = (t.nodes.length : Int) - 1 := wrap64 (by omega) (by omega)
 have hw2 : IntKind.i64.wrap ((t.edges.length : Int) - 1) = (t.edges.length : Int) - 1 := wrap64 (by omega) (by omega)
 refine .seqk fun K1 hK1 => ?_
 refine .reg ?_
 simp
 refine hK1 _ ?_
 clear hK1 K1
 refine .keep [1, 2, 3, 4] ?_
 simp only [keepE, E_cons, E_nil, reduceIte, Nat.reduceEqDiff]
 refine .see (upd _ 4 ⟨_, none⟩) [(1, _), (2, _), (3, _), (4, .dptr (Types.c t))] ⟨.refl _, .refl _, .refl _, T.box (k := 2) (cs := Types.c t) (by simp [upd]) (by simp [upd]), trivial⟩ (Dies.up (Dies.refl _) (.inr ⟨rfl, Nat.le_refl _⟩)) ?_
 try simp only [E_cons, E_nil, reduceIte, Nat.reduceEqDiff]
 refine .seqk fun K2 hK2 => ?_
 refine .seqregS (fun hh => upd hh 12 ⟨(hh 12).ver + 1, none⟩) (fun ee => [(1, ee 1), (2, ee 2), (3, ee 3), (4, ee 4), (25, bo (!(decide (givenV t [a, b] = 0) && inI e t.edges.length)))]) ?_ ?_
 ·refine SQ.cut 4 fun KL hKL => ?_
  simp only [List.take_succ_cons, List.take_zero, List.drop_succ_cons, List.drop_zero]
  refine SQ.of ?_
  simp
  refine hKL _ ?_
  refine SQ.see (upd _ 12 ⟨_, none⟩) [(9, ag (Types.c t)), (12, sl ([a, b].map I.c)), (4, .dptr (Types.c t)), (1, int e), (2, int a), (3, int b)] ⟨.refl _, T.rowD (k := 1) ([a, b].map I.c) (by simp [upd, dl_cons]) (by simp [upd]) rfl, .refl _, .refl _, .refl _, .refl _, trivial⟩ (Dies.up (Dies.refl _) (.inr ⟨rfl, Nat.le_refl _⟩)) ?_
  refine SQ.of ?_
  refine Sq.cutk 1 fun KC1 hKC1 => ?_
  simp only [List.take_succ_cons, List.take_zero, List.drop_succ_cons, List.drop_zero]
  simp
  refine PCall.sq (p227 t ht [a, b]) fun _ he => ?_
  simp only [mergeH_eq he]
  refine hKC1 _ ?_
  by_cases h1 : givenV t [a, b] = 0 <;> by_cases h2 : e < 0 <;> by_cases h3 : (t.edges.length : Int) ≤ e <;> simp [h1, h2, h3, inI_not]
 try simp only [E_cons, E_nil, reduceIte, Nat.reduceEqDiff]
 refine .condk _ rfl (fun hc1 => ?_) (fun hc1 => ?_)
 ·skip
  refine .seqk fun K3 hK3 => ?_
  refine .reg ?_
  simp
  refine hK3 _ ?_
  clear hK3 K3
  refine .keep [8] ?_
  simp only [keepE, E_cons, E_nil, reduceIte, Nat.reduceEqDiff]
  refine .ret ?_
  -- leaf 1
  refine ret_d (.inr rfl) rfl (.refl _) rfl (by first | exact OutEq.outer _ | assumption | (simp; done) | (simp; assumption)) ?_
  simp [fitsT]; intro h; simp [h] at hc1; simp [hc1]
 ·simp at hc1
  obtain ⟨hg1, hg2⟩ := hc1
  obtain ⟨htv, hgab⟩ := givenV_ok hg1
  have hv := typesV_ok htv
  have ha0 := inI_iff.1 (hgab a (by simp))
  have hb0 := inI_iff.1 (hgab b (by simp))
  have he0 := inI_iff.1 hg2
  obtain ⟨x, hx⟩ : ∃ x, t.edges[e.toNat]? = some x := ⟨t.edges[e.toNat]'(by omega), by simp⟩
  obtain ⟨hs1, hs2⟩ := edgeE_in (hv.ed e.toNat x hx)
  have hs1 := inI_iff.1 hs1
  have hs2 := inI_iff.1 hs2
  have hf : fitsT t e a b = (below t a x.src && below t b x.tgt) := by simp [fitsT, hg1, hg2, hx]
  refine .skip ?_
  refine hK2 _ ?_
  clear hK2 K2
  refine .seqdreg mixed (fun hh => hh) (fun ee => [(8, bo (fitsT t e a b))]) ?_ ?_
  ·rw [hf]
   refine Dr.cutk 9 fun KC1 hKC1 => ?_
   simp only [List.take_succ_cons, List.take_zero, List.drop_succ_cons, List.drop_zero]
   simp [-Bool.exists_bool, hx, he0.1, true_and]
   refine Dr.pcall (p228 t hv x.src a ha0.2) ?_
   refine hKC1 _ _ ?_
   by_cases h1 : below t a x.src = true
   rotate_left
   ·simp [-Bool.exists_bool, hx, he0.1, h1, true_and]
   refine Dr.cutk 10 fun KC2 hKC2 => ?_
   simp only [List.take_succ_cons, List.take_zero, List.drop_succ_cons, List.drop_zero]
   simp [-Bool.exists_bool, hx, he0.1, h1, true_and]
   refine Dr.pcall (p228 t hv x.tgt b hb0.2) ?_
   refine hKC2 _ _ ?_
   simp [-Bool.exists_bool, hx, he0.1, h1, true_and]
  try simp only [E_cons, E_nil, reduceIte, Nat.reduceEqDiff]
  refine .ret ?_
  -- leaf 2
  refine ret_d (.inr rfl) rfl (.refl _) rfl (by first | exact OutEq.outer _ | assumption | (simp; done) | (simp; assumption)) ?_
  simp
theorem p189 (t : Types) (ht : tOK t) (a b : Int) : PCall Tryz.prog 189 [ag (Types.c t), int a, int b] (bo (isT t a b)) := by
 intro h
 refine ACall.of b189 (by simp) ?_
 unfold c189
 refine .seqk fun K1 hK1 => ?_
 refine .reg ?_
 simp
 refine hK1 _ ?_
 clear hK1 K1
 refine .keep [1, 2, 3] ?_
 simp only [keepE, E_cons, E_nil, reduceIte, Nat.reduceEqDiff]
 refine .see (upd _ 3 ⟨_, none⟩) [(1, _), (2, _), (3, .dptr (Types.c t))] ⟨.refl _, .refl _, T.box (k := 2) (cs := Types.c t) (by simp [upd]) (by simp [upd]), trivial⟩ (Dies.up (Dies.refl _) (.inr ⟨rfl, Nat.le_refl _⟩)) ?_
 try simp only [E_cons, E_nil, reduceIte, Nat.reduceEqDiff]
 refine .seqregS (fun hh => upd hh 10 ⟨(hh 10).ver + 1, none⟩) (fun ee => [(6, bo (isT t a b))]) ?_ ?_
 ·refine SQ.cut 4 fun KL hKL => ?_
  simp only [List.take_succ_cons, List.take_zero, List.drop_succ_cons, List.drop_zero]
  refine SQ.of ?_
  simp
  refine hKL _ ?_
  refine SQ.see (upd _ 10 ⟨_, none⟩) [(7, ag (Types.c t)), (10, sl ([a, b].map I.c)), (3, .dptr (Types.c t)), (1, int a), (2, int b)] ⟨.refl _, T.rowD (k := 1) ([a, b].map I.c) (by simp [upd, dl_cons]) (by simp [upd]) rfl, .refl _, .refl _, .refl _, trivial⟩ (Dies.up (Dies.refl _) (.inr ⟨rfl, Nat.le_refl _⟩)) ?_
  refine SQ.of ?_
  refine Sq.cutk 1 fun KC1 hKC1 => ?_
  simp only [List.take_succ_cons, List.take_zero, List.drop_succ_cons, List.drop_zero]
  simp
  refine PCall.sq (p227 t ht [a, b]) fun _ he => ?_
  simp only [mergeH_eq he]
  refine hKC1 _ ?_
  by_cases h1 : givenV t [a, b] = 0
  rotate_left
  ·simp [h1, isT]
  obtain ⟨htv, hgab⟩ := givenV_ok h1
  have hv := typesV_ok htv
  have ha0 := inI_iff.1 (hgab a (by simp))
  refine Sq.cutk 6 fun KC2 hKC2 => ?_
  simp only [List.take_succ_cons, List.take_zero, List.drop_succ_cons, List.drop_zero]
  simp [h1]
  refine PCall.sq (p228 t hv b a ha0.2) fun _ he => ?_
  simp only [mergeH_eq he]
  refine hKC2 _ ?_
  simp [h1, isT]
 try simp only [E_cons, E_nil, reduceIte, Nat.reduceEqDiff]
 refine .ret ?_
 -- leaf 1
 refine ret_d (.inr rfl) rfl (.refl _) rfl (by first | exact OutEq.outer _ | assumption | (simp; done) | (simp; assumption)) ?_
 simp
end Go.Abs
set_option linter.unusedVariables false
set_option linter.unusedSimpArgs false
namespace Go.Abs
open Go Go.Proofs
def orI : List Int → Int
 | [] => 0
 | x :: l => if x ≠ 0 then x else orI l
def cmpC (a b : Count) : Int := if a.ty ≠ b.ty then a.ty - b.ty else if a.src ≠ b.src then a.src - b.src else a.tgt - b.tgt
structure smC (c : Count) : Prop where
 t0 : 0 ≤ c.ty
 t1 : c.ty ≤ 1000
 s0 : 0 ≤ c.src
 s1 : c.src ≤ 1000
 g0 : 0 ≤ c.tgt
 g1 : c.tgt ≤ 1000
def totC (l : List Count) : Int := (l.map (·.num)).sum
theorem totC_s {l : List Count} {i : Nat} {x : Count} (hx : l[i]? = some x) : totC (l.take (i + 1)) = totC (l.take i) + x.num := by
 simp [totC, List.take_add_one, hx]
theorem totC_bd : ∀ {l : List Count}, (∀ c ∈ l, 1 ≤ c.num ∧ c.num ≤ 80) → 0 ≤ totC l ∧ totC l ≤ 80 * l.length
 | [], _ => by simp [totC]
 | x :: l, h => by
  have h1 := totC_bd (l := l) (fun c hc => h c (by simp [hc]))
  have h2 := h x (by simp)
  simp only [totC, List.map_cons, List.sum_cons, List.length_cons] at h1 ⊢
  omega
theorem totC_bd2 {l : List Count} (h : ∀ c ∈ l, 1 ≤ c.num ∧ c.num ≤ 80) (i : Nat) : 0 ≤ totC (l.take i) ∧ totC (l.take i) ≤ 80 * i := by
 have h1 := totC_bd (l := l.take i) (fun c hc => h c (List.mem_of_mem_take hc))
 have h2 : (l.take i).length ≤ i := by simp; omega
 omega
def hasN (s : Stat) (k : Int) : Bool := s.nodes.any (fun c => decide (c.ty = k))
def badN (t : Types) (c : Count) : Bool := !(inI c.ty t.nodes.length) || !decide (c.src = 0) || !decide (c.tgt = 0) || decide (c.num < 1) || decide (40 < c.num)
def badE (t : Types) (c : Count) : Bool := !(inI c.ty t.edges.length) || !(inI c.src t.nodes.length) || !(inI c.tgt t.nodes.length) || decide (c.num < 1) || decide (80 < c.num)
def prevO {α : Type} (l : List α) (i : Nat) : Option α := if i = 0 then none else l[i - 1]?
theorem prevO_s {α : Type} (l : List α) (i : Nat) : prevO l (i + 1) = l[i]? := by simp [prevO]
def ordB (p : Option Count) (c : Count) : Bool := match p with
 | none => false
 | some q => decide (0 ≤ cmpC q c)
def statN (t : Types) : Option Count → List Count → Int
 | _, [] => 0
 | p, c :: r => if badN t c then 6 else if ordB p c then 12 else statN t (some c) r
def statEd (t : Types) (s : Stat) : Option Count → List Count → Int
 | _, [] => 0
 | p, c :: r => if badE t c then 6 else if fitsT t c.ty c.src c.tgt = false then 13 else if (hasN s c.src && hasN s c.tgt) = false then 10 else if ordB p c then 12 else statEd t s (some c) r
def statV (t : Types) (s : Stat) : Int :=
 if (typesV t).2 ≠ 0 then (typesV t).2 else if statN t none s.nodes ≠ 0 then statN t none s.nodes else if 40 < totC s.nodes then 3
 else if statEd t s none s.edges ≠ 0 then statEd t s none s.edges else if 80 < totC s.edges then 3 else 0
theorem badN_sm {t : Types} (ht : tOK t) {c : Count} (h : badN t c = false) : smC c ∧ (1 ≤ c.num ∧ c.num ≤ 80) ∧ c.src = 0 ∧ c.tgt = 0 ∧ c.ty < t.nodes.length := by
 simp only [badN, inI, Bool.or_eq_false_iff, Bool.not_eq_false', Bool.and_eq_true, decide_eq_true_eq, decide_eq_false_iff_not] at h
 have := ht.nl
 exact ⟨⟨by omega, by omega, by omega, by omega, by omega, by omega⟩, by omega, by omega, by omega, by omega⟩
theorem badE_sm {t : Types} (ht : tOK t) {c : Count} (h : badE t c = false) : smC c ∧ 1 ≤ c.num ∧ c.num ≤ 80 := by
 simp only [badE, inI, Bool.or_eq_false_iff, Bool.not_eq_false', Bool.and_eq_true, decide_eq_true_eq, decide_eq_false_iff_not] at h
 have := ht.nl
 have := ht.el
 exact ⟨⟨by omega, by omega, by omega, by omega, by omega, by omega⟩, by omega, by omega⟩
def numC (l : List Count) (k : Int) : Int := match l.find? (fun c => decide (c.ty = k)) with
 | none => 0
 | some c => c.num
theorem numC_any : ∀ (l : List Count) (k : Int), (∀ c ∈ l, 1 ≤ c.num) → decide (numC l k = 0) = !l.any (fun c => decide (c.ty = k))
 | [], k, _ => by simp [numC]
 | x :: l, k, h => by
  have ih := numC_any l k (fun c hc => h c (by simp [hc]))
  have hx := h x (by simp)
  by_cases hk : x.ty = k
  ·have : ¬ x.num = 0 := by omega
   simp [numC, List.find?, hk, this]
  ·simp only [numC, List.find?, hk, decide_false, List.any_cons, Bool.false_or] at ih ⊢
   exact ih
theorem p183 (n m : Int) : PCall Tryz.prog 183 [int n, int m] (bo (inI n m)) := by
 intro h
 refine ACall.of b183 (by simp) ?_
 unfold c183
 refine .seqk fun K1 hK1 => ?_
 refine .reg ?_
 simp
 refine hK1 _ ?_
 clear hK1 K1
 refine .seqreg (fun hh => hh) (fun ee => [(4, bo (inI n m))]) ?_ ?_
 ·by_cases h0 : 0 ≤ n <;> by_cases h1 : n < m <;> simp [h0, h1, inI]
 try simp only [E_cons, E_nil, reduceIte, Nat.reduceEqDiff]
 refine .ret ?_
 -- leaf 1
 refine ret_d (.inr rfl) rfl (.refl _) rfl (by first | exact OutEq.outer _ | assumption | (simp; done) | (simp; assumption)) ?_
 simp
theorem p216 (n m : Int) : PCall Tryz.prog 216 [int n, int m] (bo (inI n m)) := by
 intro h
 refine ACall.of b216 (by simp) ?_
 unfold c216
 refine .seqk fun K1 hK1 => ?_
 refine .reg ?_
 simp
 refine hK1 _ ?_
 clear hK1 K1
 refine .seqreg (fun hh => hh) (fun ee => [(4, bo (inI n m))]) ?_ ?_
 ·by_cases h0 : 0 ≤ n <;> by_cases h1 : n < m <;> simp [h0, h1, inI]
 try simp only [E_cons, E_nil, reduceIte, Nat.reduceEqDiff]
 refine .ret ?_
 -- leaf 1
 refine ret_d (.inr rfl) rfl (.refl _) rfl (by first | exact OutEq.outer _ | assumption | (simp; done) | (simp; assumption)) ?_
 simp
theorem p94 (l : List Int) (hm : l.length ≤ 1000) : PCall Tryz.prog 94 [sl (l.map I.c)] (int (orI l)) := by
 intro h
 refine ACall.of b94 (by simp) ?_
 unfold c94
 refine .seqk fun K1 hK1 => ?_
 refine .reg ?_
 simp
 refine hK1 _ ?_
 clear hK1 K1
 refine .seqk fun K2 hK2 => ?_
 refine .reg ?_
 simp
 refine hK2 _ ?_
 clear hK2 K2
 refine .seqk fun K3 hK3 => ?_
 refine .seqk fun K4 hK4 => ?_
 refine .reg ?_
 simp
 refine hK4 _ ?_
 clear hK4 K4
 refine .keep [3, 6, 7, 8] ?_
 simp only [keepE, E_cons, E_nil, reduceIte, Nat.reduceEqDiff]
 refine .block ?_
 refine .count (l).length (fun i st => (orI (l.drop i) = orI l) ∧ ∃ hh1, OutEq hh1 h ∧ st = ⟨E [(3, int 0), (6, sl (l.map I.c)), (7, int (l.length : Int)), (8, int i)], hh1⟩) 0 (Nat.zero_le _) _ (.cov (by first | (simp; done) | (simp; rfl) | (simp; exact ⟨rfl, rfl⟩)) (.refl _)) ⟨by simp, _, by first | (simp; done) | (simp; assumption) | (simp [*]; done), rfl⟩ ?_
 rintro i s hi1 ⟨hp1, hh1, hho1, rfl⟩ K5 hK5
 refine .seqk fun K6 hK6 => ?_
 refine .reg ?_
 simp
 refine hK6 _ ?_
 clear hK6 K6
 refine .seqk fun K7 hK7 => ?_
 refine .condk _ rfl (fun hc1 => ?_) (fun hc1 => ?_)
 ·simp at hc1
  obtain ⟨x, hx1⟩ := get_some hc1
  refine .skip ?_
  refine hK7 _ ?_
  clear hK7 K7
  refine .seqk fun K8 hK8 => ?_
  refine .block ?_
  refine .seqk fun K9 hK9 => ?_
  refine .reg ?_
  simp [hx1]
  refine hK9 _ ?_
  clear hK9 K9
  refine .keep [3, 5, 6, 7, 8] ?_
  simp only [keepE, E_cons, E_nil, reduceIte, Nat.reduceEqDiff]
  refine .seqk fun K10 hK10 => ?_
  refine .reg ?_
  simp
  refine hK10 _ ?_
  clear hK10 K10
  refine .keep [3, 5, 6, 7, 8, 14] ?_
  simp only [keepE, E_cons, E_nil, reduceIte, Nat.reduceEqDiff]
  refine .condk _ rfl (fun hc2 => ?_) (fun hc2 => ?_)
  ·simp at hc2
   refine .seqk fun K11 hK11 => ?_
   refine .reg ?_
   simp
   refine hK11 _ ?_
   clear hK11 K11
   refine .ret ?_
   -- leaf 1
   refine ret_d (.inr rfl) rfl (.refl _) rfl (by first | exact OutEq.outer _ | assumption | (simp; done) | (simp; assumption)) ?_
   rw [← hp1, drop_cons hx1]; simp [orI, hc2]
  ·simp at hc2
   refine .skip ?_
   refine hK8 _ ?_
   clear hK8 K8
   refine .reg ?_
   simp
   -- loop back, leaf 2
   refine hK5 _ _ (by omega) (Wk.cov ?_ (.refl _)) ⟨?_, _, ?_, rfl⟩
   ·simp; exact wrap64 (by omega) (by omega)
   ·rw [← hp1, drop_cons hx1]; simp [orI, hc2]
   ·first | assumption | (simp; done) | (simp; assumption) | (simp [hho1]; done)
 ·simp at hc1
  have hi1 : i = (l).length := by omega
  subst hi1
  refine .exit ?_
  try simp only [then', inBlk, if_true, if_false, reduceIte, Nat.reduceEqDiff]
  refine hK3 _ ?_
  clear hK7 hK5 hK3 K7 K5 K3
  refine .seqk fun K12 hK12 => ?_
  refine .reg ?_
  simp
  refine hK12 _ ?_
  clear hK12 K12
  refine .ret ?_
  -- leaf 3
  refine ret_d (.inr rfl) rfl (.refl _) rfl (by first | exact OutEq.outer _ | assumption | (simp; done) | (simp; assumption)) ?_
  rw [← hp1]; simp [orI]
theorem p184 (a b : Count) (ha : smC a) (hb : smC b) : PCall Tryz.prog 184 [ag (Count.c a), ag (Count.c b)] (int (cmpC a b)) := by
 intro h
 refine ACall.of b184 (by simp) ?_
 unfold c184
 refine .seqk fun K1 hK1 => ?_
 refine .reg ?_
 simp
 refine hK1 _ ?_
 clear hK1 K1
 refine .keep [2, 3] ?_
 simp only [keepE, E_cons, E_nil, reduceIte, Nat.reduceEqDiff]
 refine .see (upd (upd _ 2 ⟨_, none⟩) 3 ⟨_, none⟩) [(2, .dptr (Count.c a)), (3, .dptr (Count.c b))] ⟨T.box (k := 4) (cs := Count.c a) (by simp [upd]) (by simp [upd]), T.box (k := 4) (cs := Count.c b) (by simp [upd]) (by simp [upd]), trivial⟩ (Dies.up (Dies.up (Dies.refl _) (.inr ⟨rfl, Nat.le_refl _⟩)) (.inr ⟨rfl, Nat.le_refl _⟩)) ?_
 try simp only [E_cons, E_nil, reduceIte, Nat.reduceEqDiff]
 refine .seqregS (fun hh => upd hh 20 ⟨(hh 20).ver + 1, none⟩) (fun ee => [(4, int (cmpC a b))]) ?_ ?_
 ·have w1 : IntKind.i64.wrap (a.ty - b.ty) = a.ty - b.ty := wrap64 (by have := ha.t0; have := hb.t1; omega) (by have := ha.t1; have := hb.t0; omega)
  have w2 : IntKind.i64.wrap (a.src - b.src) = a.src - b.src := wrap64 (by have := ha.s0; have := hb.s1; omega) (by have := ha.s1; have := hb.s0; omega)
  have w3 : IntKind.i64.wrap (a.tgt - b.tgt) = a.tgt - b.tgt := wrap64 (by have := ha.g0; have := hb.g1; omega) (by have := ha.g1; have := hb.g0; omega)
  have ho : orI [a.ty - b.ty, a.src - b.src, a.tgt - b.tgt] = cmpC a b := by
   simp only [orI, cmpC]
   by_cases h1 : a.ty = b.ty <;> by_cases h2 : a.src = b.src <;> by_cases h3 : a.tgt = b.tgt <;> simp [h1, h2, h3] <;> omega
  refine SQ.cut 16 fun KL hKL => ?_
  simp only [List.take_succ_cons, List.take_zero, List.drop_succ_cons, List.drop_zero]
  refine SQ.of ?_
  simp [w1, w2, w3]
  refine hKL _ ?_
  refine SQ.see (upd _ 20 ⟨_, none⟩) [(20, sl ([a.ty - b.ty, a.src - b.src, a.tgt - b.tgt].map I.c))] ⟨T.rowD (k := 1) ([a.ty - b.ty, a.src - b.src, a.tgt - b.tgt].map I.c) (by simp [upd, dl_cons]) (by simp [upd]) rfl, trivial⟩ (Dies.up (Dies.refl _) (.inr ⟨rfl, Nat.le_refl _⟩)) ?_
  refine SQ.of ?_
  refine Sq.cutk 1 fun KC1 hKC1 => ?_
  simp only [List.take_succ_cons, List.take_zero, List.drop_succ_cons, List.drop_zero]
  simp
  refine PCall.sq (p94 [a.ty - b.ty, a.src - b.src, a.tgt - b.tgt] (by simp)) fun _ he => ?_
  simp only [mergeH_eq he]
  refine hKC1 _ ?_
  simp [ho]
 try simp only [E_cons, E_nil, reduceIte, Nat.reduceEqDiff]
 refine .ret ?_
 -- leaf 1
 refine ret_d (.inr rfl) rfl (.refl _) rfl (by first | exact OutEq.outer _ | assumption | (simp; done) | (simp; assumption)) ?_
 simp
theorem p129 (a b : Count) (ha : smC a) (hb : smC b) : PCall Tryz.prog 129 [ag (Count.c a), ag (Count.c b)] (int (cmpC a b)) := by
 intro h
 refine ACall.of b129 (by simp) ?_
 unfold c129
 have w1 : IntKind.i64.wrap (a.ty - b.ty) = a.ty - b.ty := wrap64 (by have := ha.t0; have := hb.t1; omega) (by have := ha.t1; have := hb.t0; omega)
 have w2 : IntKind.i64.wrap (a.src - b.src) = a.src - b.src := wrap64 (by have := ha.s0; have := hb.s1; omega) (by have := ha.s1; have := hb.s0; omega)
 have w3 : IntKind.i64.wrap (a.tgt - b.tgt) = a.tgt - b.tgt := wrap64 (by have := ha.g0; have := hb.g1; omega) (by have := ha.g1; have := hb.g0; omega)
 refine .seqk fun K1 hK1 => ?_
 refine .reg ?_
 simp
 refine hK1 _ ?_
 clear hK1 K1
 refine .keep [2, 3] ?_
 simp only [keepE, E_cons, E_nil, reduceIte, Nat.reduceEqDiff]
 refine .see (upd (upd _ 2 ⟨_, none⟩) 3 ⟨_, none⟩) [(2, .dptr (Count.c a)), (3, .dptr (Count.c b))] ⟨T.box (k := 4) (cs := Count.c a) (by simp [upd]) (by simp [upd]), T.box (k := 4) (cs := Count.c b) (by simp [upd]) (by simp [upd]), trivial⟩ (Dies.up (Dies.up (Dies.refl _) (.inr ⟨rfl, Nat.le_refl _⟩)) (.inr ⟨rfl, Nat.le_refl _⟩)) ?_
 try simp only [E_cons, E_nil, reduceIte, Nat.reduceEqDiff]
 refine .seqk fun K2 hK2 => ?_
 refine .seqk fun K3 hK3 => ?_
 refine .reg ?_
 simp
 refine hK3 _ ?_
 clear hK3 K3
 refine .keep [2, 3, 9] ?_
 simp only [keepE, E_cons, E_nil, reduceIte, Nat.reduceEqDiff]
 refine .condk _ rfl (fun hc1 => ?_) (fun hc1 => ?_)
 ·simp at hc1
  refine .seqk fun K4 hK4 => ?_
  refine .reg ?_
  simp
  refine hK4 _ ?_
  clear hK4 K4
  refine .keep [4] ?_
  simp only [keepE, E_cons, E_nil, reduceIte, Nat.reduceEqDiff]
  refine .ret ?_
  -- leaf 1
  refine ret_d (.inr rfl) rfl (.refl _) rfl (by first | exact OutEq.outer _ | assumption | (simp; done) | (simp; assumption)) ?_
  simp [cmpC, hc1, w1]
 ·simp at hc1
  refine .skip ?_
  refine hK2 _ ?_
  clear hK2 K2
  refine .seqk fun K5 hK5 => ?_
  refine .seqk fun K6 hK6 => ?_
  refine .reg ?_
  simp
  refine hK6 _ ?_
  clear hK6 K6
  refine .keep [2, 3, 19] ?_
  simp only [keepE, E_cons, E_nil, reduceIte, Nat.reduceEqDiff]
  refine .condk _ rfl (fun hc2 => ?_) (fun hc2 => ?_)
  ·simp at hc2
   refine .seqk fun K7 hK7 => ?_
   refine .reg ?_
   simp
   refine hK7 _ ?_
   clear hK7 K7
   refine .keep [4] ?_
   simp only [keepE, E_cons, E_nil, reduceIte, Nat.reduceEqDiff]
   refine .ret ?_
   -- leaf 2
   refine ret_d (.inr rfl) rfl (.refl _) rfl (by first | exact OutEq.outer _ | assumption | (simp; done) | (simp; assumption)) ?_
   simp [cmpC, hc1, hc2, w2]
  ·simp at hc2
   refine .skip ?_
   refine hK5 _ ?_
   clear hK5 K5
   refine .seqk fun K8 hK8 => ?_
   refine .reg ?_
   simp
   refine hK8 _ ?_
   clear hK8 K8
   refine .keep [4] ?_
   simp only [keepE, E_cons, E_nil, reduceIte, Nat.reduceEqDiff]
   refine .ret ?_
   -- leaf 3
   refine ret_d (.inr rfl) rfl (.refl _) rfl (by first | exact OutEq.outer _ | assumption | (simp; done) | (simp; assumption)) ?_
   simp [cmpC, hc1, hc2, w3]
theorem p185 (l : List Count) (hl : l.length ≤ 1000) (hs : ∀ c ∈ l, 1 ≤ c.num ∧ c.num ≤ 80) : PCall Tryz.prog 185 [sl (l.map Count.c)] (int (totC l)) := by
 intro h
 refine ACall.of b185 (by simp) ?_
 unfold c185
 refine .seqk fun K1 hK1 => ?_
 refine .reg ?_
 simp
 refine hK1 _ ?_
 clear hK1 K1
 refine .keep [0] ?_
 simp only [keepE, E_cons, E_nil, reduceIte, Nat.reduceEqDiff]
 refine .seqk fun K2 hK2 => ?_
 refine .reg ?_
 simp
 refine hK2 _ ?_
 clear hK2 K2
 refine .keep [0, 3] ?_
 simp only [keepE, E_cons, E_nil, reduceIte, Nat.reduceEqDiff]
 refine .seqk fun K3 hK3 => ?_
 refine .seqk fun K4 hK4 => ?_
 refine .reg ?_
 simp
 refine hK4 _ ?_
 clear hK4 K4
 refine .keep [3, 6, 7, 8] ?_
 simp only [keepE, E_cons, E_nil, reduceIte, Nat.reduceEqDiff]
 refine .block ?_
 refine .count (l).length (fun i st => (True) ∧ ∃ hh1, OutEq hh1 h ∧ st = ⟨E [(3, int (totC (l.take i))), (6, sl (l.map Count.c)), (7, int (l.length : Int)), (8, int i)], hh1⟩) 0 (Nat.zero_le _) _ (.cov (by first | (simp; done) | (simp; rfl) | (simp; exact ⟨rfl, rfl⟩)) (.refl _)) ⟨by simp, _, by first | (simp; done) | (simp; assumption) | (simp [*]; done), rfl⟩ ?_
 rintro i s hi1 ⟨hp1, hh1, hho1, rfl⟩ K5 hK5
 refine .seqk fun K6 hK6 => ?_
 refine .reg ?_
 simp
 refine hK6 _ ?_
 clear hK6 K6
 refine .keep [3, 6, 7, 8, 9] ?_
 simp only [keepE, E_cons, E_nil, reduceIte, Nat.reduceEqDiff]
 refine .seqk fun K7 hK7 => ?_
 refine .condk _ rfl (fun hc1 => ?_) (fun hc1 => ?_)
 ·simp at hc1
  obtain ⟨x, hx1⟩ := get_some hc1
  have hb := totC_bd2 hs i
  have hxb := hs x (List.mem_of_getElem? hx1)
  refine .skip ?_
  refine hK7 _ ?_
  clear hK7 K7
  refine .seqk fun K8 hK8 => ?_
  refine .block ?_
  refine .seqk fun K9 hK9 => ?_
  refine .reg ?_
  simp [hx1]
  refine hK9 _ ?_
  clear hK9 K9
  refine .keep [3, 5, 6, 7, 8] ?_
  simp only [keepE, E_cons, E_nil, reduceIte, Nat.reduceEqDiff]
  refine .see (upd _ 5 ⟨_, none⟩) [(3, _), (5, .dptr (Count.c x)), (6, _), (7, _), (8, _)] ⟨.refl _, T.box (k := 4) (cs := Count.c x) (by simp [upd]) (by simp [upd]), .refl _, .refl _, .refl _, trivial⟩ (Dies.up (Dies.refl _) (.inr ⟨rfl, Nat.le_refl _⟩)) ?_
  try simp only [E_cons, E_nil, reduceIte, Nat.reduceEqDiff]
  refine .reg ?_
  simp
  refine hK8 _ ?_
  clear hK8 K8
  refine .keep [3, 6, 7, 8] ?_
  simp only [keepE, E_cons, E_nil, reduceIte, Nat.reduceEqDiff]
  refine .reg ?_
  simp
  -- loop back, leaf 1
  refine hK5 _ _ (by omega) (Wk.cov ?_ (.refl _)) ⟨?_, _, ?_, rfl⟩
  ·simp; exact ⟨by rw [totC_s hx1, wrap64 (by omega) (by omega)], wrap64 (by omega) (by omega)⟩
  ·trivial
  ·first | assumption | (simp; done) | (simp; assumption) | (simp [hho1]; done)
 ·simp at hc1
  have hi1 : i = (l).length := by omega
  subst hi1
  refine .exit ?_
  try simp only [then', inBlk, if_true, if_false, reduceIte, Nat.reduceEqDiff]
  refine hK3 _ ?_
  clear hK7 hK5 hK3 K7 K5 K3
  refine .seqk fun K10 hK10 => ?_
  refine .reg ?_
  simp
  refine hK10 _ ?_
  clear hK10 K10
  refine .keep [2] ?_
  simp only [keepE, E_cons, E_nil, reduceIte, Nat.reduceEqDiff]
  refine .ret ?_
  -- leaf 2
  refine ret_d (.inr rfl) rfl (.refl _) rfl (by first | exact OutEq.outer _ | assumption | (simp; done) | (simp; assumption)) ?_
  simp
theorem p217 (l : List Count) (hl : l.length ≤ 1000) (hs : ∀ c ∈ l, 1 ≤ c.num ∧ c.num ≤ 80) : PCall Tryz.prog 217 [sl (l.map Count.c)] (int (totC l)) := by
 intro h
 refine ACall.of b217 (by simp) ?_
 unfold c217
 refine .seqk fun K1 hK1 => ?_
 refine .reg ?_
 simp
 refine hK1 _ ?_
 clear hK1 K1
 refine .keep [0] ?_
 simp only [keepE, E_cons, E_nil, reduceIte, Nat.reduceEqDiff]
 refine .seqk fun K2 hK2 => ?_
 refine .reg ?_
 simp
 refine hK2 _ ?_
 clear hK2 K2
 refine .keep [0, 3] ?_
 simp only [keepE, E_cons, E_nil, reduceIte, Nat.reduceEqDiff]
 refine .seqk fun K3 hK3 => ?_
 refine .seqk fun K4 hK4 => ?_
 refine .reg ?_
 simp
 refine hK4 _ ?_
 clear hK4 K4
 refine .keep [0, 3, 4] ?_
 simp only [keepE, E_cons, E_nil, reduceIte, Nat.reduceEqDiff]
 refine .block ?_
 refine .count (l).length (fun i st => (True) ∧ ∃ hh1, OutEq hh1 h ∧ st = ⟨E [(0, sl (l.map Count.c)), (3, int (totC (l.take i))), (4, int i)], hh1⟩) 0 (Nat.zero_le _) _ (.cov (by first | (simp; done) | (simp; rfl) | (simp; exact ⟨rfl, rfl⟩)) (.refl _)) ⟨by simp, _, by first | (simp; done) | (simp; assumption) | (simp [*]; done), rfl⟩ ?_
 rintro i s hi1 ⟨hp1, hh1, hho1, rfl⟩ K5 hK5
 refine .seqk fun K6 hK6 => ?_
 refine .seqk fun K7 hK7 => ?_
 refine .reg ?_
 simp
 refine hK7 _ ?_
 clear hK7 K7
 refine .keep [0, 3, 4, 8] ?_
 simp only [keepE, E_cons, E_nil, reduceIte, Nat.reduceEqDiff]
 refine .condk _ rfl (fun hc1 => ?_) (fun hc1 => ?_)
 ·simp at hc1
  obtain ⟨x, hx1⟩ := get_some hc1
  have hb := totC_bd2 hs i
  have hxb := hs x (List.mem_of_getElem? hx1)
  refine .skip ?_
  refine hK6 _ ?_
  clear hK6 K6
  refine .seqk fun K8 hK8 => ?_
  refine .block ?_
  refine .reg ?_
  simp [hx1]
  refine hK8 _ ?_
  clear hK8 K8
  refine .keep [0, 3, 4] ?_
  simp only [keepE, E_cons, E_nil, reduceIte, Nat.reduceEqDiff]
  refine .reg ?_
  simp
  -- loop back, leaf 1
  refine hK5 _ _ (by omega) (Wk.cov ?_ (.refl _)) ⟨?_, _, ?_, rfl⟩
  ·simp; exact ⟨by rw [totC_s hx1, wrap64 (by omega) (by omega)], wrap64 (by omega) (by omega)⟩
  ·trivial
  ·first | assumption | (simp; done) | (simp; assumption) | (simp [hho1]; done)
 ·simp at hc1
  have hi1 : i = (l).length := by omega
  subst hi1
  refine .exit ?_
  try simp only [then', inBlk, if_true, if_false, reduceIte, Nat.reduceEqDiff]
  refine hK3 _ ?_
  clear hK6 hK5 hK3 K6 K5 K3
  refine .seqk fun K9 hK9 => ?_
  refine .reg ?_
  simp
  refine hK9 _ ?_
  clear hK9 K9
  refine .keep [2] ?_
  simp only [keepE, E_cons, E_nil, reduceIte, Nat.reduceEqDiff]
  refine .ret ?_
  -- leaf 2
  refine ret_d (.inr rfl) rfl (.refl _) rfl (by first | exact OutEq.outer _ | assumption | (simp; done) | (simp; assumption)) ?_
  simp
theorem p230 (c : Count) (k : Int) : PCall Tryz.prog 230 [ag (Count.c c), .dptr (I.c k)] (bo (decide (c.ty = k))) := by
 intro h
 refine ACall.of b230 (by simp) ?_
 unfold c230
 refine .seqk fun K1 hK1 => ?_
 refine .reg ?_
 simp
 refine hK1 _ ?_
 clear hK1 K1
 refine .keep [1, 2] ?_
 simp only [keepE, E_cons, E_nil, reduceIte, Nat.reduceEqDiff]
 refine .see (upd _ 2 ⟨_, none⟩) [(1, _), (2, .dptr (Count.c c))] ⟨.refl _, T.box (k := 4) (cs := Count.c c) (by simp [upd]) (by simp [upd]), trivial⟩ (Dies.up (Dies.refl _) (.inr ⟨rfl, Nat.le_refl _⟩)) ?_
 try simp only [E_cons, E_nil, reduceIte, Nat.reduceEqDiff]
 refine .seqk fun K2 hK2 => ?_
 refine .reg ?_
 simp
 refine hK2 _ ?_
 clear hK2 K2
 refine .keep [3] ?_
 simp only [keepE, E_cons, E_nil, reduceIte, Nat.reduceEqDiff]
 refine .ret ?_
 -- leaf 1
 refine ret_d (.inr rfl) rfl (.refl _) rfl (by first | exact OutEq.outer _ | assumption | (simp; done) | (simp; assumption)) ?_
 simp
theorem p187 (s : Stat) (k : Int) : PCall Tryz.prog 187 [ag (Stat.c s), int k] (bo (hasN s k)) := by
 intro h
 refine ACall.of b187 (by simp) ?_
 unfold c187
 refine .seqk fun K1 hK1 => ?_
 refine .reg ?_
 simp
 refine hK1 _ ?_
 clear hK1 K1
 refine .keep [2, 3] ?_
 simp only [keepE, E_cons, E_nil, reduceIte, Nat.reduceEqDiff]
 refine .see (upd (upd _ 2 ⟨_, none⟩) 3 ⟨_, none⟩) [(2, .dptr (Stat.c s)), (3, .dptr (I.c k))] ⟨T.box (k := 2) (cs := Stat.c s) (by simp [upd]) (by simp [upd]), T.box (k := 1) (cs := I.c k) (by simp [upd]) (by simp [upd]), trivial⟩ (Dies.up (Dies.up (Dies.refl _) (.inr ⟨rfl, Nat.le_refl _⟩)) (.inr ⟨rfl, Nat.le_refl _⟩)) ?_
 try simp only [E_cons, E_nil, reduceIte, Nat.reduceEqDiff]
 refine .seqk fun K2 hK2 => ?_
 refine .reg ?_
 refine Sq.cutk 4 fun K3 hK3 => ?_
 simp only [List.take_succ_cons, List.take_zero, List.drop_succ_cons, List.drop_zero]
 simp
 refine PCall.sq (p229 s.nodes 230 [.dptr (I.c k)] (fun c => decide (c.ty = k)) (fun c _ => p230 c k)) fun h1 he1 => ?_
 simp only [mergeH_eq he1]
 clear he1 h1
 refine hK3 _ ?_
 clear hK3 K3
 simp
 refine hK2 _ ?_
 clear hK2 K2
 refine .keep [4] ?_
 simp only [keepE, E_cons, E_nil, reduceIte, Nat.reduceEqDiff]
 refine .ret ?_
 -- leaf 1
 refine ret_d (.inr rfl) rfl (.refl _) rfl (by first | exact OutEq.outer _ | assumption | (simp; done) | (simp; assumption)) ?_
 rfl
set_option maxHeartbeats 4000000 in
theorem p133 (t : Types) (ht : tOK t) (s : Stat) (hn : s.nodes.length ≤ 1000) (he : s.edges.length ≤ 1000) : PCall Tryz.prog 133 [ag (Types.c t), ag (Stat.c s)] (int (statV t s)) := by
 intro h
 refine ACall.of b133 (by simp) ?_
 unfold c133
 refine .seqk fun K1 hK1 => ?_
 refine .reg ?_
 simp
 refine hK1 _ ?_
 clear hK1 K1
 refine .keep [2, 3] ?_
 simp only [keepE, E_cons, E_nil, reduceIte, Nat.reduceEqDiff]
 refine .see (upd (upd _ 2 ⟨_, none⟩) 3 ⟨_, none⟩) [(2, .dptr (Types.c t)), (3, .dptr (Stat.c s))] ⟨T.box (k := 2) (cs := Types.c t) (by simp [upd]) (by simp [upd]), T.box (k := 2) (cs := Stat.c s) (by simp [upd]) (by simp [upd]), trivial⟩ (Dies.up (Dies.up (Dies.refl _) (.inr ⟨rfl, Nat.le_refl _⟩)) (.inr ⟨rfl, Nat.le_refl _⟩)) ?_
 try simp only [E_cons, E_nil, reduceIte, Nat.reduceEqDiff]
 refine .seqk fun K2 hK2 => ?_
 refine .seqk fun K3 hK3 => ?_
 refine .reg ?_
 refine Sq.cutk 2 fun K4 hK4 => ?_
 simp only [List.take_succ_cons, List.take_zero, List.drop_succ_cons, List.drop_zero]
 simp
 refine PCall.sq (p182 t ht) fun h1 he1 => ?_
 simp only [mergeH_eq he1]
 clear he1 h1
 refine hK4 _ ?_
 clear hK4 K4
 simp
 refine hK3 _ ?_
 clear hK3 K3
 refine .keep [2, 3, 6] ?_
 simp only [keepE, E_cons, E_nil, reduceIte, Nat.reduceEqDiff]
 refine .seqk fun K5 hK5 => ?_
 refine .reg ?_
 simp
 refine hK5 _ ?_
 clear hK5 K5
 refine .keep [2, 3, 6, 17] ?_
 simp only [keepE, E_cons, E_nil, reduceIte, Nat.reduceEqDiff]
 refine .condk _ rfl (fun hc1 => ?_) (fun hc1 => ?_)
 ·simp at hc1
  refine .seqk fun K6 hK6 => ?_
  refine .reg ?_
  simp
  refine hK6 _ ?_
  clear hK6 K6
  refine .keep [4] ?_
  simp only [keepE, E_cons, E_nil, reduceIte, Nat.reduceEqDiff]
  refine .ret ?_
  -- leaf 1
  refine ret_d (.inr rfl) rfl (.refl _) rfl (by first | exact OutEq.outer _ | assumption | (simp; done) | (simp; assumption)) ?_
  simp [statV, hc1]
 ·simp at hc1
  have hV : statV t s = if statN t none s.nodes ≠ 0 then statN t none s.nodes else if 40 < totC s.nodes then 3 else if statEd t s none s.edges ≠ 0 then statEd t s none s.edges else if 80 < totC s.edges then 3 else 0 := by simp only [statV]; rw [if_neg (by simpa using hc1)]
  refine .skip ?_
  refine hK2 _ ?_
  clear hK2 K2
  refine .seqk fun K7 hK7 => ?_
  refine .seqk fun K8 hK8 => ?_
  refine .reg ?_
  simp
  refine hK8 _ ?_
  clear hK8 K8
  refine .keep [2, 3, 20, 21, 22] ?_
  simp only [keepE, E_cons, E_nil, reduceIte, Nat.reduceEqDiff]
  refine .block ?_
  refine .count (s.nodes).length (fun i st => (statN t (prevO s.nodes i) (s.nodes.drop i) = statN t none s.nodes ∧ ∀ j y, j < i → s.nodes[j]? = some y → badN t y = false) ∧ ∃ hh1, OutEq hh1 h ∧ st = ⟨E [(2, .dptr (Types.c t)), (3, .dptr (Stat.c s)), (20, sl (s.nodes.map Count.c)), (21, int (s.nodes.length : Int)), (22, int i)], hh1⟩) 0 (Nat.zero_le _) _ (.cov (by first | (simp; done) | (simp; rfl) | (simp; exact ⟨rfl, rfl⟩)) (.refl _)) ⟨⟨by simp [prevO], fun j y hj => absurd hj (by omega)⟩, _, by first | (simp; done) | (simp; assumption) | (simp [*]; done), rfl⟩ ?_
  rintro i s hi1 ⟨⟨hp1, hq1⟩, hh1, hho1, rfl⟩ K9 hK9
  refine .seqk fun K10 hK10 => ?_
  refine .reg ?_
  simp
  refine hK10 _ ?_
  clear hK10 K10
  refine .keep [2, 3, 20, 21, 22, 23] ?_
  simp only [keepE, E_cons, E_nil, reduceIte, Nat.reduceEqDiff]
  refine .seqk fun K11 hK11 => ?_
  refine .condk _ rfl (fun hc2 => ?_) (fun hc2 => ?_)
  ·simp at hc2
   obtain ⟨x, hx1⟩ := get_some hc2
   refine .skip ?_
   refine hK11 _ ?_
   clear hK11 K11
   refine .seqk fun K12 hK12 => ?_
   refine .block ?_
   refine .seqk fun K13 hK13 => ?_
   refine .reg ?_
   simp [hx1]
   refine hK13 _ ?_
   clear hK13 K13
   refine .keep [2, 3, 7, 8, 20, 21, 22] ?_
   simp only [keepE, E_cons, E_nil, reduceIte, Nat.reduceEqDiff]
   refine .see (upd _ 8 ⟨_, none⟩) [(2, _), (3, _), (7, _), (8, .dptr (Count.c x)), (20, _), (21, _), (22, _)] ⟨.refl _, .refl _, .refl _, T.box (k := 4) (cs := Count.c x) (by simp [upd]) (by simp [upd]), .refl _, .refl _, .refl _, trivial⟩ (Dies.up (Dies.refl _) (.inr ⟨rfl, Nat.le_refl _⟩)) ?_
   try simp only [E_cons, E_nil, reduceIte, Nat.reduceEqDiff]
   refine .seqk fun K14 hK14 => ?_
   refine .seqreg (fun hh => hh) (fun ee => [(2, ee 2), (3, ee 3), (7, ee 7), (8, ee 8), (20, ee 20), (21, ee 21), (22, ee 22), (53, bo (badN t x))]) ?_ ?_
   ·have e : badN t x = (!(inI x.ty t.nodes.length) || !decide (x.src = 0) || !decide (x.tgt = 0) || decide (x.num < 1) || decide (40 < x.num)) := rfl
    refine Sq.cutk 6 fun KC1 hKC1 => ?_
    simp only [List.take_succ_cons, List.take_zero, List.drop_succ_cons, List.drop_zero]
    simp [e, true_and]
    refine PCall.sq (p183 x.ty t.nodes.length) fun _ he1 => ?_
    simp only [mergeH_eq he1]
    refine hKC1 _ ?_
    by_cases h1 : inI x.ty t.nodes.length = true
    rotate_left
    ·simp [e, h1, true_and]
    by_cases h2 : x.src = 0 <;> by_cases h3 : x.tgt = 0 <;> by_cases h4 : x.num < 1 <;> by_cases h5 : 40 < x.num <;> simp [e, h1, h2, h3, h4, h5]
   try simp only [E_cons, E_nil, reduceIte, Nat.reduceEqDiff]
   refine .condk _ rfl (fun hc3 => ?_) (fun hc3 => ?_)
   ·skip
    refine .seqk fun K15 hK15 => ?_
    refine .reg ?_
    simp
    refine hK15 _ ?_
    clear hK15 K15
    refine .keep [4] ?_
    simp only [keepE, E_cons, E_nil, reduceIte, Nat.reduceEqDiff]
    refine .ret ?_
    -- leaf 2
    refine ret_d (.inr rfl) rfl (.refl _) rfl (by first | exact OutEq.outer _ | assumption | (simp; done) | (simp; assumption)) ?_
    have e : statN t none s.nodes = 6 := by rw [← hp1, drop_cons hx1]; simp [statN, hc3]
    simp [hV, e]
   ·skip
    refine .skip ?_
    refine hK14 _ ?_
    clear hK14 K14
    refine .seqdreg mixed (fun hh => hh) (fun ee => [(2, ee 2), (3, ee 3), (20, ee 20), (21, ee 21), (22, ee 22), (66, bo (ordB (prevO s.nodes i) x))]) ?_ ?_
    ·by_cases h0 : 0 < i
     rotate_left
     ·have hi0 : i = 0 := by omega
      subst hi0
      simp [-Bool.exists_bool, ordB, prevO]
     obtain ⟨p, hpv⟩ : ∃ p, s.nodes[i - 1]? = some p := ⟨s.nodes[i - 1]'(by omega), by simp⟩
     have hpo : prevO s.nodes i = some p := by simp [prevO, hpv]; omega
     have hw1 : IntKind.i64.wrap ((i : Int) - 1) = ((i - 1 : Nat) : Int) := by rw [wrap64 (by omega) (by omega)]; omega
     have hps := (badN_sm ht (hq1 (i - 1) p (by omega) hpv)).1
     have hxs := (badN_sm ht (by simpa using hc3)).1
     refine Dr.cutk 11 fun KC1 hKC1 => ?_
     simp only [List.take_succ_cons, List.take_zero, List.drop_succ_cons, List.drop_zero]
     simp [-Bool.exists_bool, h0, hw1, hpv, hpo, hx1, ordB, true_and]
     refine Dr.pcall (p184 p x hps hxs) ?_
     refine hKC1 _ _ ?_
     simp [-Bool.exists_bool, h0, hw1, hpv, hpo, hx1, ordB, true_and]
    try simp only [E_cons, E_nil, reduceIte, Nat.reduceEqDiff]
    refine .condk _ rfl (fun hc4 => ?_) (fun hc4 => ?_)
    ·skip
     refine .seqk fun K16 hK16 => ?_
     refine .reg ?_
     simp
     refine hK16 _ ?_
     clear hK16 K16
     refine .keep [4] ?_
     simp only [keepE, E_cons, E_nil, reduceIte, Nat.reduceEqDiff]
     refine .ret ?_
     -- leaf 3
     refine ret_d (.inr rfl) rfl (.refl _) rfl (by first | exact OutEq.outer _ | assumption | (simp; done) | (simp; assumption)) ?_
     have e : statN t none s.nodes = 12 := by rw [← hp1, drop_cons hx1]; simp [statN, hc3, hc4]
     simp [hV, e]
    ·skip
     refine .skip ?_
     refine hK12 _ ?_
     clear hK12 K12
     refine .reg ?_
     simp
     -- loop back, leaf 4
     refine hK9 _ _ (by omega) (Wk.cov ?_ (.refl _)) ⟨?_, _, ?_, rfl⟩
     ·simp; exact wrap64 (by omega) (by omega)
     ·refine ⟨by rw [← hp1, drop_cons hx1, prevO_s, hx1]; simp [statN, hc3, hc4], fun j y hj hy => ?_⟩
      by_cases hji : j = i
      ·subst hji; rw [hx1] at hy; cases hy; simpa using hc3
      ·exact hq1 j y (by omega) hy
     ·first | assumption | (simp; done) | (simp; assumption) | (simp [hho1]; done)
  ·simp at hc2
   have hi1 : i = (s.nodes).length := by omega
   subst hi1
   have hn0 : statN t none s.nodes = 0 := by rw [← hp1]; simp [statN]
   have hb : ∀ c ∈ s.nodes, 1 ≤ c.num ∧ c.num ≤ 80 := fun c hc => by
    obtain ⟨j, hj⟩ := List.getElem?_of_mem hc
    exact (badN_sm ht (hq1 j c (List.getElem?_eq_some_iff.1 hj).1 hj)).2.1
   refine .exit ?_
   try simp only [then', inBlk, if_true, if_false, reduceIte, Nat.reduceEqDiff]
   refine hK7 _ ?_
   clear hK11 hK9 hK7 K11 K9 K7
   refine .seqk fun K17 hK17 => ?_
   refine .seqk fun K18 hK18 => ?_
   refine .reg ?_
   refine Sq.cutk 3 fun K19 hK19 => ?_
   simp only [List.take_succ_cons, List.take_zero, List.drop_succ_cons, List.drop_zero]
   simp
   refine PCall.sq (p185 s.nodes hn hb) fun h1 he1 => ?_
   simp only [mergeH_eq he1]
   clear he1 h1
   refine hK19 _ ?_
   clear hK19 K19
   simp
   refine hK18 _ ?_
   clear hK18 K18
   refine .keep [2, 3, 71] ?_
   simp only [keepE, E_cons, E_nil, reduceIte, Nat.reduceEqDiff]
   refine .condk _ rfl (fun hc5 => ?_) (fun hc5 => ?_)
   ·simp at hc5
    refine .seqk fun K20 hK20 => ?_
    refine .reg ?_
    simp
    refine hK20 _ ?_
    clear hK20 K20
    refine .keep [4] ?_
    simp only [keepE, E_cons, E_nil, reduceIte, Nat.reduceEqDiff]
    refine .ret ?_
    -- leaf 5
    refine ret_d (.inr rfl) rfl (.refl _) rfl (by first | exact OutEq.outer _ | assumption | (simp; done) | (simp; assumption)) ?_
    simp [hV, hn0, hc5]
   ·simp at hc5
    refine .skip ?_
    refine hK17 _ ?_
    clear hK17 K17
    refine .seqk fun K21 hK21 => ?_
    refine .seqk fun K22 hK22 => ?_
    refine .reg ?_
    simp
    refine hK22 _ ?_
    clear hK22 K22
    refine .keep [2, 3, 73, 74, 75] ?_
    simp only [keepE, E_cons, E_nil, reduceIte, Nat.reduceEqDiff]
    refine .block ?_
    refine .count (s.edges).length (fun i st => (statEd t s (prevO s.edges i) (s.edges.drop i) = statEd t s none s.edges ∧ ∀ j y, j < i → s.edges[j]? = some y → badE t y = false) ∧ ∃ hh2, OutEq hh2 h ∧ st = ⟨E [(2, .dptr (Types.c t)), (3, .dptr (Stat.c s)), (73, sl (s.edges.map Count.c)), (74, int (s.edges.length : Int)), (75, int i)], hh2⟩) 0 (Nat.zero_le _) _ (.cov (by first | (simp; done) | (simp; rfl) | (simp; exact ⟨rfl, rfl⟩)) (.refl _)) ⟨⟨by simp [prevO], fun j y hj => absurd hj (by omega)⟩, _, by first | (simp; done) | (simp; assumption) | (simp [*]; done), rfl⟩ ?_
    rintro i s hi2 ⟨⟨hp2, hq2⟩, hh2, hho2, rfl⟩ K23 hK23
    refine .seqk fun K24 hK24 => ?_
    refine .reg ?_
    simp
    refine hK24 _ ?_
    clear hK24 K24
    refine .keep [2, 3, 73, 74, 75, 76] ?_
    simp only [keepE, E_cons, E_nil, reduceIte, Nat.reduceEqDiff]
    refine .seqk fun K25 hK25 => ?_
    refine .condk _ rfl (fun hc6 => ?_) (fun hc6 => ?_)
    ·simp at hc6
     obtain ⟨x, hx2⟩ := get_some hc6
     refine .skip ?_
     refine hK25 _ ?_
     clear hK25 K25
     refine .seqk fun K26 hK26 => ?_
     refine .block ?_
     refine .seqk fun K27 hK27 => ?_
     refine .reg ?_
     simp [hx2]
     refine hK27 _ ?_
     clear hK27 K27
     refine .keep [2, 3, 9, 10, 73, 74, 75] ?_
     simp only [keepE, E_cons, E_nil, reduceIte, Nat.reduceEqDiff]
     refine .see (upd _ 10 ⟨_, none⟩) [(2, _), (3, _), (9, _), (10, .dptr (Count.c x)), (73, _), (74, _), (75, _)] ⟨.refl _, .refl _, .refl _, T.box (k := 4) (cs := Count.c x) (by simp [upd]) (by simp [upd]), .refl _, .refl _, .refl _, trivial⟩ (Dies.up (Dies.refl _) (.inr ⟨rfl, Nat.le_refl _⟩)) ?_
     try simp only [E_cons, E_nil, reduceIte, Nat.reduceEqDiff]
     refine .block ?_
     refine .seqreg (fun hh => hh) (fun ee => [(2, ee 2), (3, ee 3), (9, ee 9), (10, ee 10), (73, ee 73), (74, ee 74), (75, ee 75), (80, bo (badE t x))]) ?_ ?_
     ·have e : badE t x = (!(inI x.ty t.edges.length) || !(inI x.src t.nodes.length) || !(inI x.tgt t.nodes.length) || decide (x.num < 1) || decide (80 < x.num)) := rfl
      refine Sq.cutk 6 fun KC1 hKC1 => ?_
      simp only [List.take_succ_cons, List.take_zero, List.drop_succ_cons, List.drop_zero]
      simp [e, true_and]
      refine PCall.sq (p183 x.ty t.edges.length) fun _ he1 => ?_
      simp only [mergeH_eq he1]
      refine hKC1 _ ?_
      by_cases h1 : inI x.ty t.edges.length = true
      rotate_left
      ·simp [e, h1, true_and]
      refine Sq.cutk 8 fun KC2 hKC2 => ?_
      simp only [List.take_succ_cons, List.take_zero, List.drop_succ_cons, List.drop_zero]
      simp [e, h1, true_and]
      refine PCall.sq (p183 x.src t.nodes.length) fun _ he2 => ?_
      simp only [mergeH_eq he2]
      refine hKC2 _ ?_
      by_cases h2 : inI x.src t.nodes.length = true
      rotate_left
      ·simp [e, h1, h2, true_and]
      refine Sq.cutk 9 fun KC3 hKC3 => ?_
      simp only [List.take_succ_cons, List.take_zero, List.drop_succ_cons, List.drop_zero]
      simp [e, h1, h2, true_and]
      refine PCall.sq (p183 x.tgt t.nodes.length) fun _ he3 => ?_
      simp only [mergeH_eq he3]
      refine hKC3 _ ?_
      by_cases h3 : inI x.tgt t.nodes.length = true
      rotate_left
      ·simp [e, h1, h2, h3, true_and]
      by_cases h4 : x.num < 1 <;> by_cases h5 : 80 < x.num <;> simp [e, h1, h2, h3, h4, h5]
     try simp only [E_cons, E_nil, reduceIte, Nat.reduceEqDiff]
     refine .condk _ rfl (fun hc7 => ?_) (fun hc7 => ?_)
     ·skip
      refine .seqk fun K28 hK28 => ?_
      refine .reg ?_
      simp
      refine hK28 _ ?_
      clear hK28 K28
      refine .keep [4] ?_
      simp only [keepE, E_cons, E_nil, reduceIte, Nat.reduceEqDiff]
      refine .ret ?_
      -- leaf 6
      refine ret_d (.inr rfl) rfl (.refl _) rfl (by first | exact OutEq.outer _ | assumption | (simp; done) | (simp; assumption)) ?_
      have e : statEd t s none s.edges = 6 := by rw [← hp2, drop_cons hx2]; simp [statEd, hc7]
      simp [hV, hn0, e, hc5]
     ·skip
      refine .seqk fun K29 hK29 => ?_
      refine .reg ?_
      refine Sq.cutk 8 fun K30 hK30 => ?_
      simp only [List.take_succ_cons, List.take_zero, List.drop_succ_cons, List.drop_zero]
      simp
      refine PCall.sq (p186 t ht x.ty x.src x.tgt) fun h1 he1 => ?_
      simp only [mergeH_eq he1]
      clear he1 h1
      refine hK30 _ ?_
      clear hK30 K30
      simp
      refine hK29 _ ?_
      clear hK29 K29
      refine .keep [2, 3, 9, 10, 73, 74, 75, 116] ?_
      simp only [keepE, E_cons, E_nil, reduceIte, Nat.reduceEqDiff]
      refine .condk _ rfl (fun hc8 => ?_) (fun hc8 => ?_)
      ·simp at hc8
       refine .seqk fun K31 hK31 => ?_
       refine .reg ?_
       simp
       refine hK31 _ ?_
       clear hK31 K31
       refine .keep [4] ?_
       simp only [keepE, E_cons, E_nil, reduceIte, Nat.reduceEqDiff]
       refine .ret ?_
       -- leaf 7
       refine ret_d (.inr rfl) rfl (.refl _) rfl (by first | exact OutEq.outer _ | assumption | (simp; done) | (simp; assumption)) ?_
       have e : statEd t s none s.edges = 13 := by rw [← hp2, drop_cons hx2]; simp [statEd, hc7, hc8]
       simp [hV, hn0, e, hc5]
      ·simp at hc8
       refine .seqreg (fun hh => hh) (fun ee => [(2, ee 2), (3, ee 3), (9, ee 9), (10, ee 10), (73, ee 73), (74, ee 74), (75, ee 75), (126, bo (!(hasN s x.src && hasN s x.tgt)))]) ?_ ?_
       ·refine Sq.cutk 4 fun KC1 hKC1 => ?_
        simp only [List.take_succ_cons, List.take_zero, List.drop_succ_cons, List.drop_zero]
        simp [true_and]
        refine PCall.sq (p187 s x.src) fun _ he1 => ?_
        simp only [mergeH_eq he1]
        refine hKC1 _ ?_
        by_cases h1 : hasN s x.src = true
        rotate_left
        ·simp [h1, true_and]
        refine Sq.cutk 6 fun KC2 hKC2 => ?_
        simp only [List.take_succ_cons, List.take_zero, List.drop_succ_cons, List.drop_zero]
        simp [h1, true_and]
        refine PCall.sq (p187 s x.tgt) fun _ he2 => ?_
        simp only [mergeH_eq he2]
        refine hKC2 _ ?_
        simp [h1, true_and]
       try simp only [E_cons, E_nil, reduceIte, Nat.reduceEqDiff]
       refine .condk _ rfl (fun hc9 => ?_) (fun hc9 => ?_)
       ·skip
        refine .seqk fun K32 hK32 => ?_
        refine .reg ?_
        simp
        refine hK32 _ ?_
        clear hK32 K32
        refine .keep [4] ?_
        simp only [keepE, E_cons, E_nil, reduceIte, Nat.reduceEqDiff]
        refine .ret ?_
        -- leaf 8
        refine ret_d (.inr rfl) rfl (.refl _) rfl (by first | exact OutEq.outer _ | assumption | (simp; done) | (simp; assumption)) ?_
        have hc9' := bnT hc9
        have e : statEd t s none s.edges = 10 := by rw [← hp2, drop_cons hx2]; simp [statEd, hc7, hc8, hc9']
        simp [hV, hn0, e, hc5]
       ·simp at hc9
        refine .seqdreg mixed (fun hh => hh) (fun ee => [(2, ee 2), (3, ee 3), (73, ee 73), (74, ee 74), (75, ee 75), (139, bo (ordB (prevO s.edges i) x))]) ?_ ?_
        ·by_cases h0 : 0 < i
         rotate_left
         ·have hi0 : i = 0 := by omega
          subst hi0
          simp [-Bool.exists_bool, ordB, prevO]
         obtain ⟨p, hpv⟩ : ∃ p, s.edges[i - 1]? = some p := ⟨s.edges[i - 1]'(by omega), by simp⟩
         have hpo : prevO s.edges i = some p := by simp [prevO, hpv]; omega
         have hw1 : IntKind.i64.wrap ((i : Int) - 1) = ((i - 1 : Nat) : Int) := by rw [wrap64 (by omega) (by omega)]; omega
         have hps := (badE_sm ht (hq2 (i - 1) p (by omega) hpv)).1
         have hxs := (badE_sm ht (by simpa using hc7)).1
         refine Dr.cutk 11 fun KC1 hKC1 => ?_
         simp only [List.take_succ_cons, List.take_zero, List.drop_succ_cons, List.drop_zero]
         simp [-Bool.exists_bool, h0, hw1, hpv, hpo, hx2, ordB, true_and]
         refine Dr.pcall (p184 p x hps hxs) ?_
         refine hKC1 _ _ ?_
         simp [-Bool.exists_bool, h0, hw1, hpv, hpo, hx2, ordB, true_and]
        try simp only [E_cons, E_nil, reduceIte, Nat.reduceEqDiff]
        refine .condk _ rfl (fun hc10 => ?_) (fun hc10 => ?_)
        ·skip
         refine .seqk fun K33 hK33 => ?_
         refine .reg ?_
         simp
         refine hK33 _ ?_
         clear hK33 K33
         refine .keep [4] ?_
         simp only [keepE, E_cons, E_nil, reduceIte, Nat.reduceEqDiff]
         refine .ret ?_
         -- leaf 9
         refine ret_d (.inr rfl) rfl (.refl _) rfl (by first | exact OutEq.outer _ | assumption | (simp; done) | (simp; assumption)) ?_
         have hc9' : ¬ (hasN s x.src && hasN s x.tgt) = false := by simpa using hc9
         have e : statEd t s none s.edges = 12 := by rw [← hp2, drop_cons hx2]; simp [statEd, hc7, hc8, hc9', hc10]
         simp [hV, hn0, e, hc5]
        ·skip
         refine .skip ?_
         refine hK26 _ ?_
         clear hK26 K26
         refine .reg ?_
         simp
         -- loop back, leaf 10
         refine hK23 _ _ (by omega) (Wk.cov ?_ (.refl _)) ⟨?_, _, ?_, rfl⟩
         ·simp; exact wrap64 (by omega) (by omega)
         ·refine ⟨by rw [← hp2, drop_cons hx2, prevO_s, hx2]; simp [statEd, hc7, hc8, hc9, hc10], fun j y hj hy => ?_⟩
          by_cases hji : j = i
          ·subst hji; rw [hx2] at hy; cases hy; simpa using hc7
          ·exact hq2 j y (by omega) hy
         ·first | assumption | (simp; done) | (simp; assumption) | (simp [hho2]; done)
    ·simp at hc6
     have hi2 : i = (s.edges).length := by omega
     subst hi2
     have he0 : statEd t s none s.edges = 0 := by rw [← hp2]; simp [statEd]
     have hbe : ∀ c ∈ s.edges, 1 ≤ c.num ∧ c.num ≤ 80 := fun c hc => by
      obtain ⟨j, hj⟩ := List.getElem?_of_mem hc
      exact (badE_sm ht (hq2 j c (List.getElem?_eq_some_iff.1 hj).1 hj)).2
     refine .exit ?_
     try simp only [then', inBlk, if_true, if_false, reduceIte, Nat.reduceEqDiff]
     refine hK21 _ ?_
     clear hK25 hK23 hK21 K25 K23 K21
     refine .seqk fun K34 hK34 => ?_
     refine .seqk fun K35 hK35 => ?_
     refine .reg ?_
     refine Sq.cutk 3 fun K36 hK36 => ?_
     simp only [List.take_succ_cons, List.take_zero, List.drop_succ_cons, List.drop_zero]
     simp
     refine PCall.sq (p185 s.edges he hbe) fun h1 he1 => ?_
     simp only [mergeH_eq he1]
     clear he1 h1
     refine hK36 _ ?_
     clear hK36 K36
     simp
     refine hK35 _ ?_
     clear hK35 K35
     refine .keep [157] ?_
     simp only [keepE, E_cons, E_nil, reduceIte, Nat.reduceEqDiff]
     refine .condk _ rfl (fun hc11 => ?_) (fun hc11 => ?_)
     ·simp at hc11
      refine .seqk fun K37 hK37 => ?_
      refine .reg ?_
      simp
      refine hK37 _ ?_
      clear hK37 K37
      refine .keep [4] ?_
      simp only [keepE, E_cons, E_nil, reduceIte, Nat.reduceEqDiff]
      refine .ret ?_
      -- leaf 11
      refine ret_d (.inr rfl) rfl (.refl _) rfl (by first | exact OutEq.outer _ | assumption | (simp; done) | (simp; assumption)) ?_
      simp [hV, hn0, he0, hc5, hc11]
     ·simp at hc11
      refine .skip ?_
      refine hK34 _ ?_
      clear hK34 K34
      refine .seqk fun K38 hK38 => ?_
      refine .reg ?_
      simp
      refine hK38 _ ?_
      clear hK38 K38
      refine .keep [4] ?_
      simp only [keepE, E_cons, E_nil, reduceIte, Nat.reduceEqDiff]
      refine .ret ?_
      -- leaf 12
      refine ret_d (.inr rfl) rfl (.refl _) rfl (by first | exact OutEq.outer _ | assumption | (simp; done) | (simp; assumption)) ?_
      have e : statV t s = 0 := by rw [hV, if_neg (by simp [hn0]), if_neg (by omega), if_neg (by simp [he0]), if_neg (by omega)]
      simp [e]
theorem p218 (l : List Count) (k : Int) (hl : l.length ≤ 1000) (h0 : 0 ≤ k) (h1 : k ≤ 1000) (hs : ∀ c ∈ l, smC c ∧ c.src = 0 ∧ c.tgt = 0) : PCall Tryz.prog 218 [sl (l.map Count.c), .agg [int k, int 0, int 0, int 0]] (int (numC l k)) := by
 intro h
 refine ACall.of b218 (by simp) ?_
 unfold c218
 refine .seqk fun K1 hK1 => ?_
 refine .reg ?_
 simp
 refine hK1 _ ?_
 clear hK1 K1
 refine .keep [0, 3] ?_
 simp only [keepE, E_cons, E_nil, reduceIte, Nat.reduceEqDiff]
 refine .see (upd _ 3 ⟨_, none⟩) [(0, _), (3, .dptr (Count.c ⟨k, 0, 0, 0⟩))] ⟨.refl _, T.box (k := 4) (cs := Count.c ⟨k, 0, 0, 0⟩) (by simp [upd]) (by simp [upd]), trivial⟩ (Dies.up (Dies.refl _) (.inr ⟨rfl, Nat.le_refl _⟩)) ?_
 try simp only [E_cons, E_nil, reduceIte, Nat.reduceEqDiff]
 refine .seqk fun K2 hK2 => ?_
 refine .seqk fun K3 hK3 => ?_
 refine .reg ?_
 simp
 refine hK3 _ ?_
 clear hK3 K3
 refine .keep [0, 3, 5] ?_
 simp only [keepE, E_cons, E_nil, reduceIte, Nat.reduceEqDiff]
 refine .block ?_
 refine .count (l).length (fun i st => (numC (l.drop i) k = numC l k) ∧ ∃ hh1, OutEq hh1 h ∧ st = ⟨E [(0, sl (l.map Count.c)), (3, .dptr (Count.c ⟨k, 0, 0, 0⟩)), (5, int i)], hh1⟩) 0 (Nat.zero_le _) _ (.cov (by first | (simp; done) | (simp; rfl) | (simp; exact ⟨rfl, rfl⟩)) (.refl _)) ⟨by simp, _, by first | (simp; done) | (simp; assumption) | (simp [*]; done), rfl⟩ ?_
 rintro i s hi1 ⟨hp1, hh1, hho1, rfl⟩ K4 hK4
 refine .seqk fun K5 hK5 => ?_
 refine .seqk fun K6 hK6 => ?_
 refine .reg ?_
 simp
 refine hK6 _ ?_
 clear hK6 K6
 refine .keep [0, 3, 5, 9] ?_
 simp only [keepE, E_cons, E_nil, reduceIte, Nat.reduceEqDiff]
 refine .condk _ rfl (fun hc1 => ?_) (fun hc1 => ?_)
 ·simp at hc1
  obtain ⟨x, hx1⟩ := get_some hc1
  obtain ⟨hxs, hx2, hx3⟩ := hs x (List.mem_of_getElem? hx1)
  refine .skip ?_
  refine hK5 _ ?_
  clear hK5 K5
  refine .seqk fun K7 hK7 => ?_
  refine .block ?_
  refine .seqdreg mixed (fun hh => hh) (fun ee => [(0, ee 0), (3, ee 3), (5, ee 5), (18, bo (decide (x.ty = k)))]) ?_ ?_
  ·have hcm : cmpC x ⟨k, 0, 0, 0⟩ = 0 ↔ x.ty = k := by
    simp only [cmpC, hx2, hx3]
    by_cases h : x.ty = k
    ·simp [h]
    ·simp [h]; omega
   refine Dr.cutk 6 fun KC1 hKC1 => ?_
   simp only [List.take_succ_cons, List.take_zero, List.drop_succ_cons, List.drop_zero]
   simp [-Bool.exists_bool, hx1, hcm, true_and]
   refine Dr.pcall (p129 x ⟨k, 0, 0, 0⟩ hxs ⟨h0, h1, by simp, by simp, by simp, by simp⟩) ?_
   refine hKC1 _ _ ?_
   simp [-Bool.exists_bool, hx1, hcm, true_and]
  try simp only [E_cons, E_nil, reduceIte, Nat.reduceEqDiff]
  refine .condk _ rfl (fun hc2 => ?_) (fun hc2 => ?_)
  ·have hxk : x.ty = k := by simpa using hc2
   refine .seqk fun K8 hK8 => ?_
   refine .reg ?_
   simp [hx1]
   refine hK8 _ ?_
   clear hK8 K8
   refine .keep [4] ?_
   simp only [keepE, E_cons, E_nil, reduceIte, Nat.reduceEqDiff]
   refine .ret ?_
   -- leaf 1
   refine ret_d (.inr rfl) rfl (.refl _) rfl (by first | exact OutEq.outer _ | assumption | (simp; done) | (simp; assumption)) ?_
   rw [← hp1, drop_cons hx1]; simp [numC, List.find?, hxk]
  ·have hxk : ¬ x.ty = k := by simpa using hc2
   refine .skip ?_
   refine hK7 _ ?_
   clear hK7 K7
   refine .reg ?_
   simp
   -- loop back, leaf 2
   refine hK4 _ _ (by omega) (Wk.cov ?_ (.refl _)) ⟨?_, _, ?_, rfl⟩
   ·simp; exact wrap64 (by omega) (by omega)
   ·rw [← hp1, drop_cons hx1]; simp [numC, List.find?, hxk]
   ·first | assumption | (simp; done) | (simp; assumption) | (simp [hho1]; done)
 ·simp at hc1
  have hi1 : i = (l).length := by omega
  subst hi1
  refine .exit ?_
  try simp only [then', inBlk, if_true, if_false, reduceIte, Nat.reduceEqDiff]
  refine hK2 _ ?_
  clear hK5 hK4 hK2 K5 K4 K2
  refine .seqk fun K9 hK9 => ?_
  refine .reg ?_
  simp
  refine hK9 _ ?_
  clear hK9 K9
  refine .keep [4] ?_
  simp only [keepE, E_cons, E_nil, reduceIte, Nat.reduceEqDiff]
  refine .ret ?_
  -- leaf 3
  refine ret_d (.inr rfl) rfl (.refl _) rfl (by first | exact OutEq.outer _ | assumption | (simp; done) | (simp; assumption)) ?_
  rw [← hp1]; simp [numC]
set_option maxHeartbeats 4000000 in
theorem p167 (t : Types) (ht : tOK t) (s : Stat) (hn : s.nodes.length ≤ 1000) (he : s.edges.length ≤ 1000) : PCall Tryz.prog 167 [ag (Types.c t), ag (Stat.c s)] (int (statV t s)) := by
 intro h
 refine ACall.of b167 (by simp) ?_
 unfold c167
 refine .seqk fun K1 hK1 => ?_
 refine .reg ?_
 simp
 refine hK1 _ ?_
 clear hK1 K1
 refine .keep [2, 3] ?_
 simp only [keepE, E_cons, E_nil, reduceIte, Nat.reduceEqDiff]
 refine .see (upd (upd _ 2 ⟨_, none⟩) 3 ⟨_, none⟩) [(2, .dptr (Types.c t)), (3, .dptr (Stat.c s))] ⟨T.box (k := 2) (cs := Types.c t) (by simp [upd]) (by simp [upd]), T.box (k := 2) (cs := Stat.c s) (by simp [upd]) (by simp [upd]), trivial⟩ (Dies.up (Dies.up (Dies.refl _) (.inr ⟨rfl, Nat.le_refl _⟩)) (.inr ⟨rfl, Nat.le_refl _⟩)) ?_
 try simp only [E_cons, E_nil, reduceIte, Nat.reduceEqDiff]
 refine .seqk fun K2 hK2 => ?_
 refine .seqk fun K3 hK3 => ?_
 refine .reg ?_
 refine Sq.cutk 2 fun K4 hK4 => ?_
 simp only [List.take_succ_cons, List.take_zero, List.drop_succ_cons, List.drop_zero]
 simp
 refine PCall.sq (p101 t ht) fun h1 he1 => ?_
 simp only [mergeH_eq he1]
 clear he1 h1
 refine hK4 _ ?_
 clear hK4 K4
 simp
 refine hK3 _ ?_
 clear hK3 K3
 refine .keep [2, 3, 6] ?_
 simp only [keepE, E_cons, E_nil, reduceIte, Nat.reduceEqDiff]
 refine .seqk fun K5 hK5 => ?_
 refine .reg ?_
 simp
 refine hK5 _ ?_
 clear hK5 K5
 refine .keep [2, 3, 6, 17] ?_
 simp only [keepE, E_cons, E_nil, reduceIte, Nat.reduceEqDiff]
 refine .condk _ rfl (fun hc1 => ?_) (fun hc1 => ?_)
 ·simp at hc1
  refine .seqk fun K6 hK6 => ?_
  refine .reg ?_
  simp
  refine hK6 _ ?_
  clear hK6 K6
  refine .keep [4] ?_
  simp only [keepE, E_cons, E_nil, reduceIte, Nat.reduceEqDiff]
  refine .ret ?_
  -- leaf 1
  refine ret_d (.inr rfl) rfl (.refl _) rfl (by first | exact OutEq.outer _ | assumption | (simp; done) | (simp; assumption)) ?_
  simp [statV, hc1]
 ·simp at hc1
  have hV : statV t s = if statN t none s.nodes ≠ 0 then statN t none s.nodes else if 40 < totC s.nodes then 3 else if statEd t s none s.edges ≠ 0 then statEd t s none s.edges else if 80 < totC s.edges then 3 else 0 := by simp only [statV]; rw [if_neg (by simpa using hc1)]
  refine .skip ?_
  refine hK2 _ ?_
  clear hK2 K2
  refine .seqk fun K7 hK7 => ?_
  refine .seqk fun K8 hK8 => ?_
  refine .reg ?_
  simp
  refine hK8 _ ?_
  clear hK8 K8
  refine .keep [2, 3, 7] ?_
  simp only [keepE, E_cons, E_nil, reduceIte, Nat.reduceEqDiff]
  refine .block ?_
  refine .count (s.nodes).length (fun i st => (statN t (prevO s.nodes i) (s.nodes.drop i) = statN t none s.nodes ∧ ∀ j y, j < i → s.nodes[j]? = some y → badN t y = false) ∧ ∃ hh1, OutEq hh1 h ∧ st = ⟨E [(2, .dptr (Types.c t)), (3, .dptr (Stat.c s)), (7, int i)], hh1⟩) 0 (Nat.zero_le _) _ (.cov (by first | (simp; done) | (simp; rfl) | (simp; exact ⟨rfl, rfl⟩)) (.refl _)) ⟨⟨by simp [prevO], fun j y hj => absurd hj (by omega)⟩, _, by first | (simp; done) | (simp; assumption) | (simp [*]; done), rfl⟩ ?_
  rintro i s hi1 ⟨⟨hp1, hq1⟩, hh1, hho1, rfl⟩ K9 hK9
  refine .seqk fun K10 hK10 => ?_
  refine .seqk fun K11 hK11 => ?_
  refine .reg ?_
  simp
  refine hK11 _ ?_
  clear hK11 K11
  refine .keep [2, 3, 7, 23] ?_
  simp only [keepE, E_cons, E_nil, reduceIte, Nat.reduceEqDiff]
  refine .condk _ rfl (fun hc2 => ?_) (fun hc2 => ?_)
  ·simp at hc2
   obtain ⟨x, hx1⟩ := get_some hc2
   refine .skip ?_
   refine hK10 _ ?_
   clear hK10 K10
   refine .seqk fun K12 hK12 => ?_
   refine .block ?_
   refine .seqk fun K13 hK13 => ?_
   refine .reg ?_
   simp [hx1]
   refine hK13 _ ?_
   clear hK13 K13
   refine .keep [2, 3, 7, 8] ?_
   simp only [keepE, E_cons, E_nil, reduceIte, Nat.reduceEqDiff]
   refine .see (upd _ 8 ⟨_, none⟩) [(2, _), (3, _), (7, _), (8, .dptr (Count.c x))] ⟨.refl _, .refl _, .refl _, T.box (k := 4) (cs := Count.c x) (by simp [upd]) (by simp [upd]), trivial⟩ (Dies.up (Dies.refl _) (.inr ⟨rfl, Nat.le_refl _⟩)) ?_
   try simp only [E_cons, E_nil, reduceIte, Nat.reduceEqDiff]
   refine .seqk fun K14 hK14 => ?_
   refine .seqreg (fun hh => hh) (fun ee => [(2, ee 2), (3, ee 3), (7, ee 7), (8, ee 8), (57, bo (badN t x))]) ?_ ?_
   ·have e : badN t x = (!(inI x.ty t.nodes.length) || !decide (x.src = 0) || !decide (x.tgt = 0) || decide (x.num < 1) || decide (40 < x.num)) := rfl
    refine Sq.cutk 6 fun KC1 hKC1 => ?_
    simp only [List.take_succ_cons, List.take_zero, List.drop_succ_cons, List.drop_zero]
    simp [e, true_and]
    refine PCall.sq (p216 x.ty t.nodes.length) fun _ he1 => ?_
    simp only [mergeH_eq he1]
    refine hKC1 _ ?_
    by_cases h1 : inI x.ty t.nodes.length = true
    rotate_left
    ·simp [e, h1, true_and]
    by_cases h2 : x.src = 0 <;> by_cases h3 : x.tgt = 0 <;> by_cases h4 : x.num < 1 <;> by_cases h5 : 40 < x.num <;> simp [e, h1, h2, h3, h4, h5]
   try simp only [E_cons, E_nil, reduceIte, Nat.reduceEqDiff]
   refine .condk _ rfl (fun hc3 => ?_) (fun hc3 => ?_)
   ·skip
    refine .seqk fun K15 hK15 => ?_
    refine .reg ?_
    simp
    refine hK15 _ ?_
    clear hK15 K15
    refine .keep [4] ?_
    simp only [keepE, E_cons, E_nil, reduceIte, Nat.reduceEqDiff]
    refine .ret ?_
    -- leaf 2
    refine ret_d (.inr rfl) rfl (.refl _) rfl (by first | exact OutEq.outer _ | assumption | (simp; done) | (simp; assumption)) ?_
    have e : statN t none s.nodes = 6 := by rw [← hp1, drop_cons hx1]; simp [statN, hc3]
    simp [hV, e]
   ·skip
    refine .skip ?_
    refine hK14 _ ?_
    clear hK14 K14
    refine .seqdreg mixed (fun hh => hh) (fun ee => [(2, ee 2), (3, ee 3), (7, ee 7), (70, bo (ordB (prevO s.nodes i) x))]) ?_ ?_
    ·by_cases h0 : 0 < i
     rotate_left
     ·have hi0 : i = 0 := by omega
      subst hi0
      simp [-Bool.exists_bool, ordB, prevO]
     obtain ⟨p, hpv⟩ : ∃ p, s.nodes[i - 1]? = some p := ⟨s.nodes[i - 1]'(by omega), by simp⟩
     have hpo : prevO s.nodes i = some p := by simp [prevO, hpv]; omega
     have hw1 : IntKind.i64.wrap ((i : Int) - 1) = ((i - 1 : Nat) : Int) := by rw [wrap64 (by omega) (by omega)]; omega
     have hps := (badN_sm ht (hq1 (i - 1) p (by omega) hpv)).1
     have hxs := (badN_sm ht (by simpa using hc3)).1
     refine Dr.cutk 11 fun KC1 hKC1 => ?_
     simp only [List.take_succ_cons, List.take_zero, List.drop_succ_cons, List.drop_zero]
     simp [-Bool.exists_bool, h0, hw1, hpv, hpo, hx1, ordB, true_and]
     refine Dr.pcall (p129 p x hps hxs) ?_
     refine hKC1 _ _ ?_
     simp [-Bool.exists_bool, h0, hw1, hpv, hpo, hx1, ordB, true_and]
    try simp only [E_cons, E_nil, reduceIte, Nat.reduceEqDiff]
    refine .condk _ rfl (fun hc4 => ?_) (fun hc4 => ?_)
    ·skip
     refine .seqk fun K16 hK16 => ?_
     refine .reg ?_
     simp
     refine hK16 _ ?_
     clear hK16 K16
     refine .keep [4] ?_
     simp only [keepE, E_cons, E_nil, reduceIte, Nat.reduceEqDiff]
     refine .ret ?_
     -- leaf 3
     refine ret_d (.inr rfl) rfl (.refl _) rfl (by first | exact OutEq.outer _ | assumption | (simp; done) | (simp; assumption)) ?_
     have e : statN t none s.nodes = 12 := by rw [← hp1, drop_cons hx1]; simp [statN, hc3, hc4]
     simp [hV, e]
    ·skip
     refine .skip ?_
     refine hK12 _ ?_
     clear hK12 K12
     refine .reg ?_
     simp
     -- loop back, leaf 4
     refine hK9 _ _ (by omega) (Wk.cov ?_ (.refl _)) ⟨?_, _, ?_, rfl⟩
     ·simp; exact wrap64 (by omega) (by omega)
     ·refine ⟨by rw [← hp1, drop_cons hx1, prevO_s, hx1]; simp [statN, hc3, hc4], fun j y hj hy => ?_⟩
      by_cases hji : j = i
      ·subst hji; rw [hx1] at hy; cases hy; simpa using hc3
      ·exact hq1 j y (by omega) hy
     ·first | assumption | (simp; done) | (simp; assumption) | (simp [hho1]; done)
  ·simp at hc2
   have hi1 : i = (s.nodes).length := by omega
   subst hi1
   have hn0 : statN t none s.nodes = 0 := by rw [← hp1]; simp [statN]
   have hb : ∀ c ∈ s.nodes, 1 ≤ c.num ∧ c.num ≤ 80 := fun c hc => by
    obtain ⟨j, hj⟩ := List.getElem?_of_mem hc
    exact (badN_sm ht (hq1 j c (List.getElem?_eq_some_iff.1 hj).1 hj)).2.1
   have hns : ∀ c ∈ s.nodes, smC c ∧ c.src = 0 ∧ c.tgt = 0 := fun c hc => by
    obtain ⟨j, hj⟩ := List.getElem?_of_mem hc
    have := badN_sm ht (hq1 j c (List.getElem?_eq_some_iff.1 hj).1 hj)
    exact ⟨this.1, this.2.2.1, this.2.2.2.1⟩
   have hnn : ∀ c ∈ s.nodes, 1 ≤ c.num := fun c hc => (hb c hc).1
   refine .exit ?_
   try simp only [then', inBlk, if_true, if_false, reduceIte, Nat.reduceEqDiff]
   refine hK7 _ ?_
   clear hK10 hK9 hK7 K10 K9 K7
   refine .seqk fun K17 hK17 => ?_
   refine .seqk fun K18 hK18 => ?_
   refine .reg ?_
   refine Sq.cutk 3 fun K19 hK19 => ?_
   simp only [List.take_succ_cons, List.take_zero, List.drop_succ_cons, List.drop_zero]
   simp
   refine PCall.sq (p217 s.nodes hn hb) fun h1 he1 => ?_
   simp only [mergeH_eq he1]
   clear he1 h1
   refine hK19 _ ?_
   clear hK19 K19
   simp
   refine hK18 _ ?_
   clear hK18 K18
   refine .keep [2, 3, 74] ?_
   simp only [keepE, E_cons, E_nil, reduceIte, Nat.reduceEqDiff]
   refine .condk _ rfl (fun hc5 => ?_) (fun hc5 => ?_)
   ·simp at hc5
    refine .seqk fun K20 hK20 => ?_
    refine .reg ?_
    simp
    refine hK20 _ ?_
    clear hK20 K20
    refine .keep [4] ?_
    simp only [keepE, E_cons, E_nil, reduceIte, Nat.reduceEqDiff]
    refine .ret ?_
    -- leaf 5
    refine ret_d (.inr rfl) rfl (.refl _) rfl (by first | exact OutEq.outer _ | assumption | (simp; done) | (simp; assumption)) ?_
    simp [hV, hn0, hc5]
   ·simp at hc5
    refine .skip ?_
    refine hK17 _ ?_
    clear hK17 K17
    refine .seqk fun K21 hK21 => ?_
    refine .seqk fun K22 hK22 => ?_
    refine .reg ?_
    simp
    refine hK22 _ ?_
    clear hK22 K22
    refine .keep [2, 3, 9] ?_
    simp only [keepE, E_cons, E_nil, reduceIte, Nat.reduceEqDiff]
    refine .block ?_
    refine .count (s.edges).length (fun i st => (statEd t s (prevO s.edges i) (s.edges.drop i) = statEd t s none s.edges ∧ ∀ j y, j < i → s.edges[j]? = some y → badE t y = false) ∧ ∃ hh2, OutEq hh2 h ∧ st = ⟨E [(2, .dptr (Types.c t)), (3, .dptr (Stat.c s)), (9, int i)], hh2⟩) 0 (Nat.zero_le _) _ (.cov (by first | (simp; done) | (simp; rfl) | (simp; exact ⟨rfl, rfl⟩)) (.refl _)) ⟨⟨by simp [prevO], fun j y hj => absurd hj (by omega)⟩, _, by first | (simp; done) | (simp; assumption) | (simp [*]; done), rfl⟩ ?_
    rintro i s hi2 ⟨⟨hp2, hq2⟩, hh2, hho2, rfl⟩ K23 hK23
    refine .seqk fun K24 hK24 => ?_
    refine .seqk fun K25 hK25 => ?_
    refine .reg ?_
    simp
    refine hK25 _ ?_
    clear hK25 K25
    refine .keep [2, 3, 9, 79] ?_
    simp only [keepE, E_cons, E_nil, reduceIte, Nat.reduceEqDiff]
    refine .condk _ rfl (fun hc6 => ?_) (fun hc6 => ?_)
    ·simp at hc6
     obtain ⟨x, hx2⟩ := get_some hc6
     refine .skip ?_
     refine hK24 _ ?_
     clear hK24 K24
     refine .seqk fun K26 hK26 => ?_
     refine .block ?_
     refine .seqk fun K27 hK27 => ?_
     refine .reg ?_
     simp [hx2]
     refine hK27 _ ?_
     clear hK27 K27
     refine .keep [2, 3, 9, 10] ?_
     simp only [keepE, E_cons, E_nil, reduceIte, Nat.reduceEqDiff]
     refine .see (upd _ 10 ⟨_, none⟩) [(2, _), (3, _), (9, _), (10, .dptr (Count.c x))] ⟨.refl _, .refl _, .refl _, T.box (k := 4) (cs := Count.c x) (by simp [upd]) (by simp [upd]), trivial⟩ (Dies.up (Dies.refl _) (.inr ⟨rfl, Nat.le_refl _⟩)) ?_
     try simp only [E_cons, E_nil, reduceIte, Nat.reduceEqDiff]
     refine .seqk fun K28 hK28 => ?_
     refine .seqreg (fun hh => hh) (fun ee => [(2, ee 2), (3, ee 3), (9, ee 9), (10, ee 10), (121, bo (badE t x))]) ?_ ?_
     ·have e : badE t x = (!(inI x.ty t.edges.length) || !(inI x.src t.nodes.length) || !(inI x.tgt t.nodes.length) || decide (x.num < 1) || decide (80 < x.num)) := rfl
      refine Sq.cutk 6 fun KC1 hKC1 => ?_
      simp only [List.take_succ_cons, List.take_zero, List.drop_succ_cons, List.drop_zero]
      simp [e, true_and]
      refine PCall.sq (p216 x.ty t.edges.length) fun _ he1 => ?_
      simp only [mergeH_eq he1]
      refine hKC1 _ ?_
      by_cases h1 : inI x.ty t.edges.length = true
      rotate_left
      ·simp [e, h1, true_and]
      refine Sq.cutk 8 fun KC2 hKC2 => ?_
      simp only [List.take_succ_cons, List.take_zero, List.drop_succ_cons, List.drop_zero]
      simp [e, h1, true_and]
      refine PCall.sq (p216 x.src t.nodes.length) fun _ he2 => ?_
      simp only [mergeH_eq he2]
      refine hKC2 _ ?_
      by_cases h2 : inI x.src t.nodes.length = true
      rotate_left
      ·simp [e, h1, h2, true_and]
      refine Sq.cutk 9 fun KC3 hKC3 => ?_
      simp only [List.take_succ_cons, List.take_zero, List.drop_succ_cons, List.drop_zero]
      simp [e, h1, h2, true_and]
      refine PCall.sq (p216 x.tgt t.nodes.length) fun _ he3 => ?_
      simp only [mergeH_eq he3]
      refine hKC3 _ ?_
      by_cases h3 : inI x.tgt t.nodes.length = true
      rotate_left
      ·simp [e, h1, h2, h3, true_and]
      by_cases h4 : x.num < 1 <;> by_cases h5 : 80 < x.num <;> simp [e, h1, h2, h3, h4, h5]
     try simp only [E_cons, E_nil, reduceIte, Nat.reduceEqDiff]
     refine .condk _ rfl (fun hc7 => ?_) (fun hc7 => ?_)
     ·skip
      refine .seqk fun K29 hK29 => ?_
      refine .reg ?_
      simp
      refine hK29 _ ?_
      clear hK29 K29
      refine .keep [4] ?_
      simp only [keepE, E_cons, E_nil, reduceIte, Nat.reduceEqDiff]
      refine .ret ?_
      -- leaf 6
      refine ret_d (.inr rfl) rfl (.refl _) rfl (by first | exact OutEq.outer _ | assumption | (simp; done) | (simp; assumption)) ?_
      have e : statEd t s none s.edges = 6 := by rw [← hp2, drop_cons hx2]; simp [statEd, hc7]
      simp [hV, hn0, e, hc5]
     ·skip
      refine .skip ?_
      refine hK28 _ ?_
      clear hK28 K28
      refine .seqk fun K30 hK30 => ?_
      refine .seqk fun K31 hK31 => ?_
      refine .reg ?_
      refine Sq.cutk 8 fun K32 hK32 => ?_
      simp only [List.take_succ_cons, List.take_zero, List.drop_succ_cons, List.drop_zero]
      simp
      refine PCall.sq (p79 t ht x.ty x.src x.tgt) fun h1 he1 => ?_
      simp only [mergeH_eq he1]
      clear he1 h1
      refine hK32 _ ?_
      clear hK32 K32
      simp
      refine hK31 _ ?_
      clear hK31 K31
      refine .keep [2, 3, 9, 10, 130] ?_
      simp only [keepE, E_cons, E_nil, reduceIte, Nat.reduceEqDiff]
      refine .condk _ rfl (fun hc8 => ?_) (fun hc8 => ?_)
      ·simp at hc8
       refine .seqk fun K33 hK33 => ?_
       refine .reg ?_
       simp
       refine hK33 _ ?_
       clear hK33 K33
       refine .keep [4] ?_
       simp only [keepE, E_cons, E_nil, reduceIte, Nat.reduceEqDiff]
       refine .ret ?_
       -- leaf 7
       refine ret_d (.inr rfl) rfl (.refl _) rfl (by first | exact OutEq.outer _ | assumption | (simp; done) | (simp; assumption)) ?_
       have e : statEd t s none s.edges = 13 := by rw [← hp2, drop_cons hx2]; simp [statEd, hc7, hc8]
       simp [hV, hn0, e, hc5]
      ·simp at hc8
       refine .skip ?_
       refine hK30 _ ?_
       clear hK30 K30
       refine .seqk fun K34 hK34 => ?_
       refine .seqreg (fun hh => hh) (fun ee => [(2, ee 2), (3, ee 3), (9, ee 9), (10, ee 10), (146, bo (!(hasN s x.src && hasN s x.tgt)))]) ?_ ?_
       ·have hxs := (badE_sm ht (by simpa using hc7)).1
        have k1 : numC s.nodes x.src = 0 ↔ hasN s x.src = false := by have := numC_any s.nodes x.src hnn; simp only [hasN]; rw [Bool.eq_iff_iff] at this; simpa using this
        have k2 : numC s.nodes x.tgt = 0 ↔ hasN s x.tgt = false := by have := numC_any s.nodes x.tgt hnn; simp only [hasN]; rw [Bool.eq_iff_iff] at this; simpa using this
        refine Sq.cutk 6 fun KC1 hKC1 => ?_
        simp only [List.take_succ_cons, List.take_zero, List.drop_succ_cons, List.drop_zero]
        simp [k1, k2, true_and]
        refine PCall.sq (p218 s.nodes x.src hn hxs.s0 hxs.s1 hns) fun _ he1 => ?_
        simp only [mergeH_eq he1]
        refine hKC1 _ ?_
        by_cases h1 : hasN s x.src = true
        rotate_left
        ·simp [k1, k2, h1, true_and]
        refine Sq.cutk 8 fun KC2 hKC2 => ?_
        simp only [List.take_succ_cons, List.take_zero, List.drop_succ_cons, List.drop_zero]
        simp [k1, k2, h1, true_and]
        refine PCall.sq (p218 s.nodes x.tgt hn hxs.g0 hxs.g1 hns) fun _ he2 => ?_
        simp only [mergeH_eq he2]
        refine hKC2 _ ?_
        simp [k1, k2, h1, true_and]
       try simp only [E_cons, E_nil, reduceIte, Nat.reduceEqDiff]
       refine .condk _ rfl (fun hc9 => ?_) (fun hc9 => ?_)
       ·skip
        refine .seqk fun K35 hK35 => ?_
        refine .reg ?_
        simp
        refine hK35 _ ?_
        clear hK35 K35
        refine .keep [4] ?_
        simp only [keepE, E_cons, E_nil, reduceIte, Nat.reduceEqDiff]
        refine .ret ?_
        -- leaf 8
        refine ret_d (.inr rfl) rfl (.refl _) rfl (by first | exact OutEq.outer _ | assumption | (simp; done) | (simp; assumption)) ?_
        have hc9' := bnT hc9
        have e : statEd t s none s.edges = 10 := by rw [← hp2, drop_cons hx2]; simp [statEd, hc7, hc8, hc9']
        simp [hV, hn0, e, hc5]
       ·simp at hc9
        refine .skip ?_
        refine hK34 _ ?_
        clear hK34 K34
        refine .seqdreg mixed (fun hh => hh) (fun ee => [(2, ee 2), (3, ee 3), (9, ee 9), (159, bo (ordB (prevO s.edges i) x))]) ?_ ?_
        ·by_cases h0 : 0 < i
         rotate_left
         ·have hi0 : i = 0 := by omega
          subst hi0
          simp [-Bool.exists_bool, ordB, prevO]
         obtain ⟨p, hpv⟩ : ∃ p, s.edges[i - 1]? = some p := ⟨s.edges[i - 1]'(by omega), by simp⟩
         have hpo : prevO s.edges i = some p := by simp [prevO, hpv]; omega
         have hw1 : IntKind.i64.wrap ((i : Int) - 1) = ((i - 1 : Nat) : Int) := by rw [wrap64 (by omega) (by omega)]; omega
         have hps := (badE_sm ht (hq2 (i - 1) p (by omega) hpv)).1
         have hxs := (badE_sm ht (by simpa using hc7)).1
         refine Dr.cutk 11 fun KC1 hKC1 => ?_
         simp only [List.take_succ_cons, List.take_zero, List.drop_succ_cons, List.drop_zero]
         simp [-Bool.exists_bool, h0, hw1, hpv, hpo, hx2, ordB, true_and]
         refine Dr.pcall (p129 p x hps hxs) ?_
         refine hKC1 _ _ ?_
         simp [-Bool.exists_bool, h0, hw1, hpv, hpo, hx2, ordB, true_and]
        try simp only [E_cons, E_nil, reduceIte, Nat.reduceEqDiff]
        refine .condk _ rfl (fun hc10 => ?_) (fun hc10 => ?_)
        ·skip
         refine .seqk fun K36 hK36 => ?_
         refine .reg ?_
         simp
         refine hK36 _ ?_
         clear hK36 K36
         refine .keep [4] ?_
         simp only [keepE, E_cons, E_nil, reduceIte, Nat.reduceEqDiff]
         refine .ret ?_
         -- leaf 9
         refine ret_d (.inr rfl) rfl (.refl _) rfl (by first | exact OutEq.outer _ | assumption | (simp; done) | (simp; assumption)) ?_
         have hc9' : ¬ (hasN s x.src && hasN s x.tgt) = false := by simpa using hc9
         have e : statEd t s none s.edges = 12 := by rw [← hp2, drop_cons hx2]; simp [statEd, hc7, hc8, hc9', hc10]
         simp [hV, hn0, e, hc5]
        ·skip
         refine .skip ?_
         refine hK26 _ ?_
         clear hK26 K26
         refine .reg ?_
         simp
         -- loop back, leaf 10
         refine hK23 _ _ (by omega) (Wk.cov ?_ (.refl _)) ⟨?_, _, ?_, rfl⟩
         ·simp; exact wrap64 (by omega) (by omega)
         ·refine ⟨by rw [← hp2, drop_cons hx2, prevO_s, hx2]; simp [statEd, hc7, hc8, hc9, hc10], fun j y hj hy => ?_⟩
          by_cases hji : j = i
          ·subst hji; rw [hx2] at hy; cases hy; simpa using hc7
          ·exact hq2 j y (by omega) hy
         ·first | assumption | (simp; done) | (simp; assumption) | (simp [hho2]; done)
    ·simp at hc6
     have hi2 : i = (s.edges).length := by omega
     subst hi2
     have he0 : statEd t s none s.edges = 0 := by rw [← hp2]; simp [statEd]
     have hbe : ∀ c ∈ s.edges, 1 ≤ c.num ∧ c.num ≤ 80 := fun c hc => by
      obtain ⟨j, hj⟩ := List.getElem?_of_mem hc
      exact (badE_sm ht (hq2 j c (List.getElem?_eq_some_iff.1 hj).1 hj)).2
     refine .exit ?_
     try simp only [then', inBlk, if_true, if_false, reduceIte, Nat.reduceEqDiff]
     refine hK21 _ ?_
     clear hK24 hK23 hK21 K24 K23 K21
     refine .seqk fun K37 hK37 => ?_
     refine .seqk fun K38 hK38 => ?_
     refine .reg ?_
     refine Sq.cutk 3 fun K39 hK39 => ?_
     simp only [List.take_succ_cons, List.take_zero, List.drop_succ_cons, List.drop_zero]
     simp
     refine PCall.sq (p217 s.edges he hbe) fun h1 he1 => ?_
     simp only [mergeH_eq he1]
     clear he1 h1
     refine hK39 _ ?_
     clear hK39 K39
     simp
     refine hK38 _ ?_
     clear hK38 K38
     refine .keep [163] ?_
     simp only [keepE, E_cons, E_nil, reduceIte, Nat.reduceEqDiff]
     refine .condk _ rfl (fun hc11 => ?_) (fun hc11 => ?_)
     ·simp at hc11
      refine .seqk fun K40 hK40 => ?_
      refine .reg ?_
      simp
      refine hK40 _ ?_
      clear hK40 K40
      refine .keep [4] ?_
      simp only [keepE, E_cons, E_nil, reduceIte, Nat.reduceEqDiff]
      refine .ret ?_
      -- leaf 11
      refine ret_d (.inr rfl) rfl (.refl _) rfl (by first | exact OutEq.outer _ | assumption | (simp; done) | (simp; assumption)) ?_
      simp [hV, hn0, he0, hc5, hc11]
     ·simp at hc11
      refine .skip ?_
      refine hK37 _ ?_
      clear hK37 K37
      refine .seqk fun K41 hK41 => ?_
      refine .reg ?_
      simp
      refine hK41 _ ?_
      clear hK41 K41
      refine .keep [4] ?_
      simp only [keepE, E_cons, E_nil, reduceIte, Nat.reduceEqDiff]
      refine .ret ?_
      -- leaf 12
      refine ret_d (.inr rfl) rfl (.refl _) rfl (by first | exact OutEq.outer _ | assumption | (simp; done) | (simp; assumption)) ?_
      have e : statV t s = 0 := by rw [hV, if_neg (by simp [hn0]), if_neg (by omega), if_neg (by simp [he0]), if_neg (by omega)]
      simp [e]
end Go.Abs
