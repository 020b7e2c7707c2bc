/- Contracts of functions of the program, and what they lean on: a part of the proof that planBest_proved stands; no condition. -/
import Derived.Test.YtklbdeenilokiaaGreatProg
import Derived.Test.YtklbdeenilokiaaGreatQ17M22
set_option linter.unusedVariables false
set_option linter.unusedSimpArgs false
namespace Go.Abs
open Go Go.Proofs
structure smT (t : Types) : Prop where
 nl : t.nodes.length ≤ 140737488355328
 el : t.edges.length ≤ 140737488355328
 nn : ∀ n ∈ t.nodes, (strL n.name).length ≤ 140737488355328 ∧ n.attrs.length ≤ 140737488355328 ∧ ∀ a ∈ n.attrs, (strL a.name).length ≤ 140737488355328 ∧ a.names.length ≤ 140737488355328 ∧ ∀ s ∈ a.names, (strL s).length ≤ 140737488355328
 ee : ∀ e ∈ t.edges, (strL e.name).length ≤ 140737488355328
def fewA (a : Attr) : Bool := decide ((strL a.name).length ≤ 40) && decide (a.names.length ≤ 25) && a.names.all (fun s => decide ((strL s).length ≤ 40))
def fewN : Int → List NodeType → Bool
 | _, [] => true
 | n, x :: r => decide (n + x.attrs.length ≤ 30) && decide ((strL x.name).length ≤ 40) && x.attrs.all fewA && fewN (n + x.attrs.length) r
def fewE (e : EdgeType) : Bool := decide ((strL e.name).length ≤ 40)
def fewT (t : Types) : Bool := decide (t.nodes.length ≤ 20) && decide (t.edges.length ≤ 30) && fewN 0 t.nodes && t.edges.all fewE
theorem fewA_ok {a : Attr} (h : fewA a = true) : attrOK a := by
 simp only [fewA, Bool.and_eq_true, decide_eq_true_eq, List.all_eq_true] at h
 exact ⟨by unfold strOK; omega, by omega, fun s hs => by have := h.2 s hs; unfold strOK; omega⟩
theorem fewN_ok : ∀ {l : List NodeType} {n : Int}, 0 ≤ n → fewN n l = true → ∀ x ∈ l, strOK x.name ∧ x.attrs.length ≤ 1000 ∧ ∀ a ∈ x.attrs, attrOK a
 | [], _, _, _, x, hx => by simp at hx
 | y :: l, n, h0, h, x, hx => by
  simp only [fewN, Bool.and_eq_true, decide_eq_true_eq, List.all_eq_true] at h
  rcases List.mem_cons.1 hx with rfl | hx
  ·exact ⟨by unfold strOK; omega, by omega, fun a ha => fewA_ok (h.1.2 a ha)⟩
  ·exact fewN_ok (by omega) h.2 x hx
theorem fewT_ok {t : Types} (h : fewT t = true) : tOK t := by
 simp only [fewT, Bool.and_eq_true, decide_eq_true_eq, List.all_eq_true] at h
 exact ⟨by omega, by omega, fewN_ok (by omega) h.1.2, fun e he => by have := h.2 e he; simp only [fewE, decide_eq_true_eq] at this; unfold strOK; omega⟩
theorem all_of_get {α : Type} {l : List α} {p : α → Bool} (h : ∀ j y, j < l.length → l[j]? = some y → p y = true) : l.all p = true :=
 List.all_eq_true.2 fun y hy => by
  obtain ⟨j, hj⟩ := List.getElem?_of_mem hy
  exact h j y (List.getElem?_eq_some_iff.1 hj).1 hj
theorem all_f {α : Type} {l : List α} {p : α → Bool} {i : Nat} {x : α} (hx : l[i]? = some x) (hp : p x = false) : l.all p = false := by
 rw [Bool.eq_false_iff]
 intro h
 rw [List.all_eq_true.1 h x (List.mem_of_getElem? hx)] at hp
 cases hp
def fewS (s : Stat) : Bool := decide ((s.nodes.length : Int) ≤ 45) && decide ((s.edges.length : Int) ≤ 85)
set_option maxHeartbeats 1000000 in
theorem p99 (t : Types) (hs : smT t) : PCall Tryz.prog 99 [ag (Types.c t)] (bo (fewT t)) := by
 intro h
 refine ACall.of b99 (by simp) ?_
 unfold c99
 refine .seqk fun K1 hK1 => ?_
 refine .reg ?_
 simp
 refine hK1 _ ?_
 clear hK1 K1
 refine .keep [1] ?_
 simp only [keepE, E_cons, E_nil]
 refine .see (upd _ 1 ⟨_, none⟩) [(1, .dptr (Types.c t))] ⟨T.box (k := 2) (cs := Types.c t) (by simp [upd]) (by simp [upd]), trivial⟩ (Dies.up (Dies.refl _) (.inr ⟨rfl, Nat.le_refl _⟩)) ?_
 try simp only [E_cons, E_nil]
 refine .seqk fun K2 hK2 => ?_
 refine .seqreg (fun hh => hh) (fun ee => [(1, ee 1), (18, bo (decide ((20 : Int) < t.nodes.length) || decide ((30 : Int) < t.edges.length)))]) ?_ ?_
 ·by_cases h0 : (20 : Int) < t.nodes.length <;> by_cases h1 : (30 : Int) < t.edges.length <;> simp [h0, h1, True]
 try simp only [E_cons, E_nil]
 refine .condk _ rfl (fun hc1 => ?_) (fun hc1 => ?_)
 ·simp at hc1
  refine .seqk fun K3 hK3 => ?_
  refine .reg ?_
  simp
  refine hK3 _ ?_
  clear hK3 K3
  refine .keep [2] ?_
  simp only [keepE, E_cons, E_nil]
  refine .ret ?_
  refine ret_z (.inr rfl) rfl rfl ?_
  have e : fewT t = false := by
   rcases hc1 with h1 | h1
   ·have : ¬ t.nodes.length ≤ 20 := by omega
    simp [fewT, this]
   ·have : ¬ t.edges.length ≤ 30 := by omega
    simp [fewT, this]
  simp [e]
 ·simp at hc1
  have hn20 : t.nodes.length ≤ 20 := by omega
  have he30 : t.edges.length ≤ 30 := by omega
  refine .skip ?_
  refine hK2 _ ?_
  clear hK2 K2
  refine .seqk fun K4 hK4 => ?_
  refine .reg ?_
  simp
  refine hK4 _ ?_
  clear hK4 K4
  refine .keep [1, 3] ?_
  simp only [keepE, E_cons, E_nil]
  refine .seqk fun K5 hK5 => ?_
  refine .seqk fun K6 hK6 => ?_
  refine .reg ?_
  simp
  refine hK6 _ ?_
  clear hK6 K6
  refine .keep [1, 3, 4] ?_
  simp only [keepE, E_cons, E_nil]
  refine .block ?_
  refine .count (t.nodes).length (fun i st => ∃ acc : Int, (fewN acc (t.nodes.drop i) = fewN 0 t.nodes ∧ 0 ≤ acc ∧ acc ≤ 30) ∧ ∃ hh1, OutEq hh1 h ∧ st = ⟨E [(1, .dptr (Types.c t)), (3, int acc), (4, int i)], hh1⟩) 0 (Nat.zero_le _) _ (.cov (by first | (simp; done) | (simp; rfl) | (simp; exact ⟨rfl, rfl⟩)) (.refl _)) ⟨0, ⟨by simp, by decide, by decide⟩, _, by first | (simp; done) | (simp; assumption) | (simp [*]; done), rfl⟩ ?_
  rintro i s hi1 ⟨acc, ⟨hp1, ha0, ha1⟩, hh1, hho1, rfl⟩ K7 hK7
  refine .seqk fun K8 hK8 => ?_
  refine .seqk fun K9 hK9 => ?_
  refine .reg ?_
  simp
  refine hK9 _ ?_
  clear hK9 K9
  refine .keep [1, 3, 4, 23] ?_
  simp only [keepE, E_cons, E_nil]
  refine .condk _ rfl (fun hc2 => ?_) (fun hc2 => ?_)
  ·simp at hc2
   obtain ⟨x, hx1⟩ := get_some hc2
   obtain ⟨hxs1, hxs2, hxs3⟩ := hs.nn x (List.mem_of_getElem? hx1)
   have hw : IntKind.i64.wrap (acc + (x.attrs.length : Int)) = acc + (x.attrs.length : Int) := wrap64 (by omega) (by omega)
   refine .skip ?_
   refine hK8 _ ?_
   clear hK8 K8
   refine .seqk fun K10 hK10 => ?_
   refine .block ?_
   refine .seqk fun K11 hK11 => ?_
   refine .reg ?_
   simp [hx1, hw]
   refine hK11 _ ?_
   clear hK11 K11
   refine .keep [1, 3, 4] ?_
   simp only [keepE, E_cons, E_nil]
   refine .seqk fun K12 hK12 => ?_
   refine .seqreg (fun hh => hh) (fun ee => [(1, ee 1), (3, ee 3), (4, ee 4), (46, bo (decide ((30 : Int) < acc + x.attrs.length) || decide ((40 : Int) < (strL x.name).length)))]) ?_ ?_
   ·by_cases h0 : (30 : Int) < acc + x.attrs.length <;> by_cases h1 : (40 : Int) < (strL x.name).length <;> simp [h0, h1, hx1]
   try simp only [E_cons, E_nil]
   refine .condk _ rfl (fun hc3 => ?_) (fun hc3 => ?_)
   ·simp at hc3
    refine .seqk fun K13 hK13 => ?_
    refine .reg ?_
    simp
    refine hK13 _ ?_
    clear hK13 K13
    refine .keep [2] ?_
    simp only [keepE, E_cons, E_nil]
    refine .ret ?_
    refine ret_z (.inr rfl) rfl rfl ?_
    have e : fewN 0 t.nodes = false := by
     rw [← hp1, drop_cons hx1]
     rcases hc3 with h1 | h1
     ·have : ¬ acc + (x.attrs.length : Int) ≤ 30 := by omega
      simp [fewN, this]
     ·have : ¬ (strL x.name).length ≤ 40 := by omega
      simp [fewN, this]
    simp [fewT, e]
   ·simp at hc3
    refine .skip ?_
    refine hK12 _ ?_
    clear hK12 K12
    refine .seqk fun K14 hK14 => ?_
    refine .reg ?_
    simp
    refine hK14 _ ?_
    clear hK14 K14
    refine .keep [1, 3, 4, 5] ?_
    simp only [keepE, E_cons, E_nil]
    refine .block ?_
    refine .count (x.attrs).length (fun k st => (∀ j y, j < k → x.attrs[j]? = some y → fewA y = true) ∧ ∃ hh2, OutEq hh2 h ∧ st = ⟨E [(1, .dptr (Types.c t)), (3, int (acc + x.attrs.length)), (4, int i), (5, int k)], hh2⟩) 0 (Nat.zero_le _) _ (.cov (by first | (simp; done) | (simp; rfl) | (simp; exact ⟨rfl, rfl⟩)) (.refl _)) ⟨fun j y hj => absurd hj (by omega), _, by first | (simp; done) | (simp; assumption) | (simp [*]; done), rfl⟩ ?_
    rintro k s hi2 ⟨hp2, hh2, hho2, rfl⟩ K15 hK15
    refine .seqk fun K16 hK16 => ?_
    refine .seqk fun K17 hK17 => ?_
    refine .reg ?_
    simp [hx1]
    refine hK17 _ ?_
    clear hK17 K17
    refine .keep [1, 3, 4, 5, 55] ?_
    simp only [keepE, E_cons, E_nil]
    refine .condk _ rfl (fun hc4 => ?_) (fun hc4 => ?_)
    ·simp at hc4
     obtain ⟨a, hx2⟩ := get_some hc4
     refine .skip ?_
     refine hK16 _ ?_
     clear hK16 K16
     refine .seqk fun K18 hK18 => ?_
     refine .block ?_
     refine .seqk fun K19 hK19 => ?_
     refine .reg ?_
     simp [hx1, hx2]
     refine hK19 _ ?_
     clear hK19 K19
     refine .keep [1, 3, 4, 5, 6] ?_
     simp only [keepE, E_cons, E_nil]
     refine .see (upd _ 6 ⟨_, none⟩) [(1, _), (3, _), (4, _), (5, _), (6, .dptr (Attr.c a))] ⟨.refl _, .refl _, .refl _, .refl _, T.box (k := 4) (cs := Attr.c a) (by simp [upd]) (by simp [upd]), trivial⟩ (Dies.up (Dies.refl _) (.inr ⟨rfl, Nat.le_refl _⟩)) ?_
     try simp only [E_cons, E_nil]
     refine .seqk fun K20 hK20 => ?_
     refine .seqreg (fun hh => hh) (fun ee => [(1, ee 1), (3, ee 3), (4, ee 4), (5, ee 5), (6, ee 6), (76, bo (decide ((40 : Int) < (strL a.name).length) || decide ((25 : Int) < a.names.length)))]) ?_ ?_
     ·by_cases h0 : (40 : Int) < (strL a.name).length <;> by_cases h1 : (25 : Int) < a.names.length <;> simp [h0, h1, True]
     try simp only [E_cons, E_nil]
     refine .condk _ rfl (fun hc5 => ?_) (fun hc5 => ?_)
     ·simp at hc5
      refine .seqk fun K21 hK21 => ?_
      refine .reg ?_
      simp
      refine hK21 _ ?_
      clear hK21 K21
      refine .keep [2] ?_
      simp only [keepE, E_cons, E_nil]
      refine .ret ?_
      refine ret_z (.inr rfl) rfl rfl ?_
      have ef : fewA a = false := by
       rcases hc5 with h1 | h1
       ·have : ¬ (strL a.name).length ≤ 40 := by omega
        simp [fewA, this]
       ·have : ¬ a.names.length ≤ 25 := by omega
        simp [fewA, this]
      have e : fewN 0 t.nodes = false := by
       rw [← hp1, drop_cons hx1]
       simp [fewN, all_f hx2 ef]
      simp [fewT, e]
     ·simp at hc5
      refine .skip ?_
      refine hK20 _ ?_
      clear hK20 K20
      refine .seqk fun K22 hK22 => ?_
      refine .reg ?_
      simp
      refine hK22 _ ?_
      clear hK22 K22
      refine .keep [1, 3, 4, 5, 6, 7] ?_
      simp only [keepE, E_cons, E_nil]
      refine .block ?_
      refine .count (a.names).length (fun m st => (∀ j y, j < m → a.names[j]? = some y → (strL y).length ≤ 40) ∧ ∃ hh3, OutEq hh3 h ∧ st = ⟨E [(1, .dptr (Types.c t)), (3, int (acc + x.attrs.length)), (4, int i), (5, int k), (6, .dptr (Attr.c a)), (7, int m)], hh3⟩) 0 (Nat.zero_le _) _ (.cov (by first | (simp; done) | (simp; rfl) | (simp; exact ⟨rfl, rfl⟩)) (.refl _)) ⟨fun j y hj => absurd hj (by omega), _, by first | (simp; done) | (simp; assumption) | (simp [*]; done), rfl⟩ ?_
      rintro m s hi3 ⟨hp3, hh3, hho3, rfl⟩ K23 hK23
      refine .seqk fun K24 hK24 => ?_
      refine .seqk fun K25 hK25 => ?_
      refine .reg ?_
      simp
      refine hK25 _ ?_
      clear hK25 K25
      refine .keep [1, 3, 4, 5, 6, 7, 81] ?_
      simp only [keepE, E_cons, E_nil]
      refine .condk _ rfl (fun hc6 => ?_) (fun hc6 => ?_)
      ·simp at hc6
       obtain ⟨s, hx3⟩ := get_some hc6
       refine .skip ?_
       refine hK24 _ ?_
       clear hK24 K24
       refine .seqk fun K26 hK26 => ?_
       refine .block ?_
       refine .seqk fun K27 hK27 => ?_
       refine .reg ?_
       simp [hx3]
       refine hK27 _ ?_
       clear hK27 K27
       refine .keep [1, 3, 4, 5, 6, 7, 90] ?_
       simp only [keepE, E_cons, E_nil]
       refine .condk _ rfl (fun hc7 => ?_) (fun hc7 => ?_)
       ·simp at hc7
        refine .seqk fun K28 hK28 => ?_
        refine .reg ?_
        simp
        refine hK28 _ ?_
        clear hK28 K28
        refine .keep [2] ?_
        simp only [keepE, E_cons, E_nil]
        refine .ret ?_
        refine ret_z (.inr rfl) rfl rfl ?_
        have ef : fewA a = false := by
         have : ¬ (strL s).length ≤ 40 := by omega
         simp [fewA, all_f (p := fun s => decide ((strL s).length ≤ 40)) hx3 (by simpa using this)]
        have e : fewN 0 t.nodes = false := by
         rw [← hp1, drop_cons hx1]
         simp [fewN, all_f hx2 ef]
        simp [fewT, e]
       ·simp at hc7
        refine .skip ?_
        refine hK26 _ ?_
        clear hK26 K26
        refine .reg ?_
        simp
        refine hK23 _ _ (by omega) (Wk.cov ?_ (.refl _)) ⟨?_, _, ?_, rfl⟩
        ·simp; exact wrap64 (by omega) (by omega)
        ·intro j y hj hy
         by_cases hji : j = m
         ·subst hji; rw [hx3] at hy; cases hy; omega
         ·exact hp3 j y (by omega) hy
        ·first | assumption | (simp; done) | (simp; assumption) | (simp [hho3]; done)
      ·simp at hc6
       have hi3 : m = (a.names).length := by omega
       refine .exit ?_
       try simp only [then', inBlk, if_true, if_false, reduceIte, Nat.reduceEqDiff]
       refine hK18 _ ?_
       clear hK24 hK23 hK18 K24 K23 K18
       refine .reg ?_
       simp
       refine hK15 _ _ (by omega) (Wk.cov ?_ (.refl _)) ⟨?_, _, ?_, rfl⟩
       ·simp; exact wrap64 (by omega) (by omega)
       ·intro j y hj hy
        by_cases hji : j = k
        ·subst hji; rw [hx2] at hy; cases hy; have h40 : (strL a.name).length ≤ 40 := by omega
         have h25 : a.names.length ≤ 25 := by omega
         have hal : a.names.all (fun s => decide ((strL s).length ≤ 40)) = true := all_of_get fun j y hj hy => by simpa using hp3 j y (by omega) hy
         simp [fewA, hal, h40, h25]
        ·exact hp2 j y (by omega) hy
       ·first | assumption | (simp; done) | (simp; assumption) | (simp [hho2]; done)
    ·simp at hc4
     have hi2 : k = (x.attrs).length := by omega
     refine .exit ?_
     try simp only [then', inBlk, if_true, if_false, reduceIte, Nat.reduceEqDiff]
     refine hK10 _ ?_
     clear hK16 hK15 hK10 K16 K15 K10
     refine .reg ?_
     simp
     refine hK7 _ _ (by omega) (Wk.cov ?_ (.refl _)) ⟨acc + x.attrs.length, ?_, _, ?_, rfl⟩
     ·simp; exact wrap64 (by omega) (by omega)
     ·have hna : x.attrs.all fewA = true := all_of_get fun j y hj hy => hp2 j y (by omega) hy
      have hq3 : (strL x.name).length ≤ 40 := by omega
      exact ⟨by rw [← hp1, drop_cons hx1]; simp [fewN, hna, hc3.1, hq3], by omega, by omega⟩
     ·first | assumption | (simp; done) | (simp; assumption) | (simp [hho1]; done)
  ·simp at hc2
   have hi1 : i = (t.nodes).length := by omega
   subst hi1
   have hfn : fewN 0 t.nodes = true := by rw [← hp1]; simp [fewN]
   refine .exit ?_
   try simp only [then', inBlk, if_true, if_false, reduceIte, Nat.reduceEqDiff]
   refine hK5 _ ?_
   clear hK8 hK7 hK5 K8 K7 K5
   refine .seqk fun K29 hK29 => ?_
   refine .seqk fun K30 hK30 => ?_
   refine .reg ?_
   simp
   refine hK30 _ ?_
   clear hK30 K30
   refine .keep [1, 8] ?_
   simp only [keepE, E_cons, E_nil]
   refine .block ?_
   refine .count (t.edges).length (fun i st => (∀ j e, j < i → t.edges[j]? = some e → fewE e = true) ∧ ∃ hh4, OutEq hh4 h ∧ st = ⟨E [(1, .dptr (Types.c t)), (8, int i)], hh4⟩) 0 (Nat.zero_le _) _ (.cov (by first | (simp; done) | (simp; rfl) | (simp; exact ⟨rfl, rfl⟩)) (.refl _)) ⟨fun j y hj => absurd hj (by omega), _, by first | (simp; done) | (simp; assumption) | (simp [*]; done), rfl⟩ ?_
   rintro i s hi4 ⟨hp4, hh4, hho4, rfl⟩ K31 hK31
   refine .seqk fun K32 hK32 => ?_
   refine .seqk fun K33 hK33 => ?_
   refine .reg ?_
   simp
   refine hK33 _ ?_
   clear hK33 K33
   refine .keep [1, 8, 95] ?_
   simp only [keepE, E_cons, E_nil]
   refine .condk _ rfl (fun hc8 => ?_) (fun hc8 => ?_)
   ·simp at hc8
    obtain ⟨y, hx4⟩ := get_some hc8
    refine .skip ?_
    refine hK32 _ ?_
    clear hK32 K32
    refine .seqk fun K34 hK34 => ?_
    refine .block ?_
    refine .seqk fun K35 hK35 => ?_
    refine .reg ?_
    simp [hx4]
    refine hK35 _ ?_
    clear hK35 K35
    refine .keep [1, 8, 105] ?_
    simp only [keepE, E_cons, E_nil]
    refine .condk _ rfl (fun hc9 => ?_) (fun hc9 => ?_)
    ·simp at hc9
     refine .seqk fun K36 hK36 => ?_
     refine .reg ?_
     simp
     refine hK36 _ ?_
     clear hK36 K36
     refine .keep [2] ?_
     simp only [keepE, E_cons, E_nil]
     refine .ret ?_
     refine ret_z (.inr rfl) rfl rfl ?_
     have ef : fewE y = false := by
      have : ¬ (strL y.name).length ≤ 40 := by omega
      simp [fewE, this]
     simp [fewT, all_f hx4 ef]
    ·simp at hc9
     refine .skip ?_
     refine hK34 _ ?_
     clear hK34 K34
     refine .reg ?_
     simp
     refine hK31 _ _ (by omega) (Wk.cov ?_ (.refl _)) ⟨?_, _, ?_, rfl⟩
     ·simp; exact wrap64 (by omega) (by omega)
     ·intro j e hj he
      by_cases hji : j = i
      ·subst hji; rw [hx4] at he; cases he; have : (strL y.name).length ≤ 40 := by omega
       simp [fewE, this]
      ·exact hp4 j e (by omega) he
     ·first | assumption | (simp; done) | (simp; assumption) | (simp [hho4]; done)
   ·simp at hc8
    have hi4 : i = (t.edges).length := by omega
    subst hi4
    refine .exit ?_
    try simp only [then', inBlk, if_true, if_false, reduceIte, Nat.reduceEqDiff]
    refine hK29 _ ?_
    clear hK32 hK31 hK29 K32 K31 K29
    refine .seqk fun K37 hK37 => ?_
    refine .reg ?_
    simp
    refine hK37 _ ?_
    clear hK37 K37
    refine .keep [2] ?_
    simp only [keepE, E_cons, E_nil]
    refine .ret ?_
    refine ret_z (.inr rfl) rfl rfl ?_
    have ea : t.edges.all fewE = true := all_of_get fun j y hj hy => hp4 j y (by omega) hy
    simp [fewT, hn20, he30, hfn, ea]
theorem p111 (s : Stat) : PCall Tryz.prog 111 [ag (Stat.c s)] (bo (fewS s)) := by
 intro h
 refine ACall.of b111 (by simp) ?_
 unfold c111
 refine .seqk fun K1 hK1 => ?_
 refine .reg ?_
 simp
 refine hK1 _ ?_
 clear hK1 K1
 refine .keep [1] ?_
 simp only [keepE, E_cons, E_nil]
 refine .see (upd _ 1 ⟨_, none⟩) [(1, .dptr (Stat.c s))] ⟨T.box (k := 2) (cs := Stat.c s) (by simp [upd]) (by simp [upd]), trivial⟩ (Dies.up (Dies.refl _) (.inr ⟨rfl, Nat.le_refl _⟩)) ?_
 try simp only [E_cons, E_nil]
 refine .seqreg (fun hh => hh) (fun ee => [(2, bo (fewS s))]) ?_ ?_
 ·by_cases h0 : (s.nodes.length : Int) ≤ 45 <;> by_cases h1 : (s.edges.length : Int) ≤ 85 <;> simp [h0, h1, fewS]
 try simp only [E_cons, E_nil]
 refine .ret ?_
 refine ret_z (.inr rfl) rfl rfl ?_
 simp
theorem n57 (t : Types) (hs : smT t) (s : Stat) (g : Graph) : PCall Tryz.prog 57 [ag (Types.c t), ag (Stat.c s), ag (Graph.c g), .d .nil] (bo (fewT t && fewS s && fewG g)) := by
 intro h
 refine ACall.of b57 (by simp) ?_
 unfold c57
 refine .seqk fun K1 hK1 => ?_
 refine .reg ?_
 simp
 refine hK1 _ ?_
 clear hK1 K1
 refine .keep [3, 4, 5, 6] ?_
 simp only [keepE, E_cons, E_nil]
 refine .see (upd (upd (upd _ 4 ⟨_, none⟩) 5 ⟨_, none⟩) 6 ⟨_, none⟩) [(3, _), (4, .dptr (Types.c t)), (5, .dptr (Stat.c s)), (6, .dptr (Graph.c g))] ⟨.refl _, T.box (k := 2) (cs := Types.c t) (by simp [upd]) (by simp [upd]), T.box (k := 2) (cs := Stat.c s) (by simp [upd]) (by simp [upd]), T.box (k := 2) (cs := Graph.c g) (by simp [upd]) (by simp [upd]), trivial⟩ (Dies.up (Dies.up (Dies.up (Dies.refl _) (.inr ⟨rfl, Nat.le_refl _⟩)) (.inr ⟨rfl, Nat.le_refl _⟩)) (.inr ⟨rfl, Nat.le_refl _⟩)) ?_
 try simp only [E_cons, E_nil]
 refine .seqreg (fun hh => hh) (fun ee => [(8, bo (fewT t && fewS s && fewG g))]) ?_ ?_
 ·refine Sq.cutk 2 fun KC1 hKC1 => ?_
  simp only [zt]
  simp [true_and]
  refine PCall.sq (p99 t hs) fun _ he1 => ?_
  simp only [mergeH_eq he1]
  refine hKC1 _ ?_
  by_cases h1 : fewT t = true
  rotate_left
  ·simp [h1, true_and]
  refine Sq.cutk 3 fun KC2 hKC2 => ?_
  simp only [zt]
  simp [h1, true_and]
  refine PCall.sq (p111 s) fun _ he2 => ?_
  simp only [mergeH_eq he2]
  refine hKC2 _ ?_
  by_cases h2 : fewS s = true
  rotate_left
  ·simp [h1, h2, true_and]
  refine Sq.cutk 4 fun KC3 hKC3 => ?_
  simp only [zt]
  simp [h1, h2, true_and]
  refine PCall.sq (p39 g) fun _ he3 => ?_
  simp only [mergeH_eq he3]
  refine hKC3 _ ?_
  by_cases h3 : fewG g = true
  rotate_left
  ·simp [h1, h2, h3, true_and]
  simp [h1, h2, h3, true_and]
 try simp only [E_cons, E_nil]
 refine .ret ?_
 refine ret_z (.inr rfl) rfl rfl ?_
 simp
def overI (a b : Int) : Int := if b = 0 then 0 else (a + b - 1).tdiv b
def quoI (a b c : Int) : Int := if c = 0 then 0 else min ((a * b + c - 1).tdiv c) 1000000000
theorem mm_min (x y : Int) : (if y < x then y else x) = min y x := by
 by_cases h : y < x
 ·rw [if_pos h]; omega
 ·rw [if_neg h]; omega
theorem cntN_bd {t : Types} {s : Stat} (ht : tOK t) (hv : sV t s) (k : Int) : 0 ≤ cntN t s.nodes k ∧ cntN t s.nodes k ≤ 40 := by
 have := totC_filter_le (fun c => isT t c.ty k) (l := s.nodes) (fun c hc => (badN_sm ht (hv.nb c hc)).2.1.1)
 have := hv.n4
 unfold cntN
 omega
theorem cntE_bd {t : Types} {s : Stat} (ht : tOK t) (hv : sV t s) (e a b : Int) : 0 ≤ cntE t s.edges e a b ∧ cntE t s.edges e a b ≤ 80 := by
 have := totC_filter_le (fun c => decide (c.ty = e) && isT t c.src a && isT t c.tgt b) (l := s.edges) (fun c hc => (badE_sm ht (hv.eb c hc)).2.1)
 have := hv.e8
 unfold cntE
 omega
theorem nodesN_eq {t : Types} {s : Stat} (h : statV t s = 0) {k : Int} (hk : inI k t.nodes.length = true) : nodesN t s k = (cntN t s.nodes k, 0) := by
 unfold nodesN
 rw [if_neg (by simp [h]), if_pos hk]
theorem edgesN_eq {t : Types} {s : Stat} (h : statV t s = 0) {e a b : Int} (he : inI e t.edges.length = true) (ha : inI a t.nodes.length = true) (hb : inI b t.nodes.length = true) : edgesN t s e a b = (cntE t s.edges e a b, 0) := by
 unfold edgesN
 rw [if_neg (by simp [h]), if_pos (by simp [he, ha, hb])]
/-- The number of nodes that a pattern's node can have as images. -/
def nodeC (t : Types) (s : Stat) (g : Graph) (i : Int) : Int := match g.nodes[i.toNat]? with
 | none => 0
 | some ty => cntN t s.nodes ty
def edgeC (t : Types) (s : Stat) (g : Graph) (x : Edge) : Int := match g.nodes[x.src.toNat]?, g.nodes[x.tgt.toNat]? with
 | some a, some b => cntE t s.edges x.ty a b
 | _, _ => 0
def estI (t : Types) (s : Stat) (g : Graph) (k : Kn) (o : Oprn) (n : Int) : Int :=
 if o.kind = 1 then min 1000000000 (n * nodeC t s g o.el) else match g.edges[o.el.toNat]? with
 | none => 0
 | some x => min 1000000000 (if o.kind = 3 then overI (overI (n * edgeC t s g x) (nodeC t s g x.src)) (nodeC t s g x.tgt) else if endK k x.src then overI (n * edgeC t s g x) (nodeC t s g x.src) else overI (n * edgeC t s g x) (nodeC t s g x.tgt))
theorem overI_bd {a b : Int} (ha : 0 ≤ a) (hb : 0 ≤ b) : 0 ≤ overI a b ∧ overI a b ≤ a := by
 unfold overI
 split
 ·omega
 ·rename_i h0
  have hb1 : 1 ≤ b := by omega
  rw [Int.tdiv_eq_ediv_of_nonneg (by omega)]
  refine ⟨Int.ediv_nonneg (by omega) hb, ?_⟩
  have h1 : a + b - 1 < (a + 1) * b := by
   have h3 : 0 ≤ a * (b - 1) := Int.mul_nonneg ha (by omega)
   have h4 : (a + 1) * b = a * (b - 1) + a + b := by rw [Int.add_mul, Int.mul_sub]; omega
   omega
  have := Int.ediv_lt_of_lt_mul (by omega : 0 < b) h1
  omega
theorem tdiv_ov {a b : Int} (h : b ≠ 0) : overI a b = (a + b - 1).tdiv b := by simp [overI, h]
theorem p135 (t : Types) (ht : tOK t) (s : Stat) (hn : s.nodes.length ≤ 1000) (he : s.edges.length ≤ 1000) (g : Graph) (i ty : Int) (h0 : 0 ≤ i) (hx : g.nodes[i.toNat]? = some ty) : PCall Tryz.prog 135 [int i, .dptr (Types.c t), .dptr (Stat.c s), .dptr (Graph.c g)] (int (nodesN t s ty).1) := by
 intro h
 refine ACall.of b135 (by simp) ?_
 unfold c135
 refine .seqk fun K1 hK1 => ?_
 refine .reg ?_
 simp
 refine hK1 _ ?_
 clear hK1 K1
 refine .keep [0, 1, 2, 3] ?_
 simp only [keepE, E_cons, E_nil]
 refine .seqk fun K2 hK2 => ?_
 refine .dreg mixed ?_
 refine Dr.cutk 8 fun K3 hK3 => ?_
 simp only [zt]
 simp [-Bool.exists_bool, h0, hx]
 refine Dr.pcall (p136 t ht s hn he ty) ?_
 refine hK3 _ _ ?_
 clear hK3 K3
 try simp [-Bool.exists_bool, h0, hx]
 refine hK2 _ ?_
 clear hK2 K2
 refine .keep [6] ?_
 simp only [keepE, E_cons, E_nil]
 refine .seqk fun K4 hK4 => ?_
 refine .reg ?_
 simp
 refine hK4 _ ?_
 clear hK4 K4
 refine .keep [5] ?_
 simp only [keepE, E_cons, E_nil]
 refine .ret ?_
 refine ret_z (.inr rfl) rfl rfl ?_
 rfl
theorem e135 (t : Types) (ht : tOK t) (s : Stat) (hn : s.nodes.length ≤ 1000) (he : s.edges.length ≤ 1000) (hst : statV t s = 0) (g : Graph) (i ty : Int) (h0 : 0 ≤ i) (hx : g.nodes[i.toNat]? = some ty) (hin : inI ty t.nodes.length = true) : PCall Tryz.prog 135 [int i, .dptr (Types.c t), .dptr (Stat.c s), .dptr (Graph.c g)] (int (cntN t s.nodes ty)) := by
 have := p135 t ht s hn he g i ty h0 hx
 rw [nodesN_eq hst hin] at this
 exact this
theorem p138 (a b : Int) (h0 : 0 ≤ a) (h1 : a ≤ 1000000000000) (h2 : 0 ≤ b) (h3 : b ≤ 1000000) : PCall Tryz.prog 138 [int a, int b] (int (overI a b)) := by
 intro h
 refine ACall.of b138 (by simp) ?_
 unfold c138
 refine .seqk fun K1 hK1 => ?_
 refine .reg ?_
 simp
 refine hK1 _ ?_
 clear hK1 K1
 refine .keep [0, 1] ?_
 simp only [keepE, E_cons, E_nil]
 refine .seqk fun K2 hK2 => ?_
 refine .seqk fun K3 hK3 => ?_
 refine .reg ?_
 simp
 refine hK3 _ ?_
 clear hK3 K3
 refine .keep [0, 1, 6] ?_
 simp only [keepE, E_cons, E_nil]
 refine .condk _ rfl (fun hc1 => ?_) (fun hc1 => ?_)
 ·simp at hc1
  refine .seqk fun K4 hK4 => ?_
  refine .reg ?_
  simp
  refine hK4 _ ?_
  clear hK4 K4
  refine .keep [4] ?_
  simp only [keepE, E_cons, E_nil]
  refine .ret ?_
  refine ret_z (.inr rfl) rfl rfl ?_
  simp [overI, hc1]
 ·simp at hc1
  refine .skip ?_
  refine hK2 _ ?_
  clear hK2 K2
  refine .seqk fun K5 hK5 => ?_
  have w1 : IntKind.i64.wrap (a + b) = a + b := wrap64 (by omega) (by omega)
  have w2 : IntKind.i64.wrap (a + b - 1) = a + b - 1 := wrap64 (by omega) (by omega)
  have hov := overI_bd h0 h2
  have w3 : IntKind.i64.wrap ((a + b - 1).tdiv b) = overI a b := by rw [← tdiv_ov hc1]; exact wrap64 (by omega) (by omega)
  refine .reg ?_
  simp [w1, w2, w3, hc1]
  refine hK5 _ ?_
  clear hK5 K5
  refine .keep [4] ?_
  simp only [keepE, E_cons, E_nil]
  refine .ret ?_
  refine ret_z (.inr rfl) rfl rfl ?_
  rfl
theorem p220 (a b c : Int) (h0 : 0 ≤ a) (h1 : a ≤ 1000000000) (h2 : 0 ≤ b) (h3 : b ≤ 1000) (h4 : 0 ≤ c) (h5 : c ≤ 1000000) : PCall Tryz.prog 220 [int a, int b, int c] (int (quoI a b c)) := by
 intro h
 refine ACall.of b220 (by simp) ?_
 unfold c220
 refine .seqk fun K1 hK1 => ?_
 refine .reg ?_
 simp
 refine hK1 _ ?_
 clear hK1 K1
 refine .keep [0, 1, 2] ?_
 simp only [keepE, E_cons, E_nil]
 refine .seqk fun K2 hK2 => ?_
 refine .seqk fun K3 hK3 => ?_
 refine .reg ?_
 simp
 refine hK3 _ ?_
 clear hK3 K3
 refine .keep [0, 1, 2, 8] ?_
 simp only [keepE, E_cons, E_nil]
 refine .condk _ rfl (fun hc1 => ?_) (fun hc1 => ?_)
 ·simp at hc1
  refine .seqk fun K4 hK4 => ?_
  refine .reg ?_
  simp
  refine hK4 _ ?_
  clear hK4 K4
  refine .keep [6] ?_
  simp only [keepE, E_cons, E_nil]
  refine .ret ?_
  refine ret_z (.inr rfl) rfl rfl ?_
  simp [quoI, hc1]
 ·simp at hc1
  refine .skip ?_
  refine hK2 _ ?_
  clear hK2 K2
  refine .seqk fun K5 hK5 => ?_
  have hm0 : 0 ≤ a * b := Int.mul_nonneg h0 h2
  have hm1 : a * b ≤ 1000000000 * 1000 := Int.mul_le_mul h1 h3 h2 (by decide)
  have w0 : IntKind.i64.wrap (a * b) = a * b := wrap64 (by omega) (by omega)
  have w1 : IntKind.i64.wrap (a * b + c) = a * b + c := wrap64 (by omega) (by omega)
  have w2 : IntKind.i64.wrap (a * b + c - 1) = a * b + c - 1 := wrap64 (by omega) (by omega)
  have hov := overI_bd hm0 h4
  have w3 : IntKind.i64.wrap ((a * b + c - 1).tdiv c) = (a * b + c - 1).tdiv c := by rw [← tdiv_ov hc1]; exact wrap64 (by omega) (by omega)
  refine .reg ?_
  simp [w0, w1, w2, w3, hc1, mm2, mmA, mm_min]
  refine hK5 _ ?_
  clear hK5 K5
  refine .keep [6] ?_
  simp only [keepE, E_cons, E_nil]
  refine .ret ?_
  refine ret_z (.inr rfl) rfl rfl ?_
  simp [quoI, hc1]
set_option maxHeartbeats 4000000 in
theorem m87 (t : Types) (ht : tOK t) (s : Stat) (hn : s.nodes.length ≤ 1000) (he : s.edges.length ≤ 1000) (hst : statV t s = 0) (g : Graph) (hv : gErr g = 0) (hty : typedB t g = true) (k : Kn) (hf : k.fits g) (o : Oprn) (ho : stepE g k o = 0) (n : Int) (n0 : 0 ≤ n) (n1 : n ≤ 1000000000) (h : Heap) (v1 v2 c1 c2 : Nat) (e1 : h 1000001 = ⟨v1, some ⟨1, dl (k.ns.map Bo.c)⟩⟩) (e2 : h 1000002 = ⟨v2, some ⟨1, dl (k.es.map Bo.c)⟩⟩) : ACall Tryz.prog 87 [ag (Types.c t), ag (Stat.c s), ag (Graph.c g), .agg [.sl 1000001 v1 0 k.ns.length c1, .sl 1000002 v2 0 k.es.length c2], ag (Oprn.c o), int n] h fun r h' => r = int (estI t s g k o n) ∧ OutEq h' h := by
 refine ACall.of b87 (by simp) ?_
 unfold c87
 have hsv := statV_ok hst
 obtain ⟨htn, hte⟩ := (Bool.and_eq_true _ _ ▸ hty : g.nodes.all (fun n => inI n t.nodes.length) = true ∧ g.edges.all (fun e => inI e.ty t.edges.length) = true)
 have o1 : outer h 1000001 = ⟨v1, some ⟨1, dl (k.ns.map Bo.c)⟩⟩ := by simp [outer, e1]
 have o2 : outer h 1000002 = ⟨v2, some ⟨1, dl (k.es.map Bo.c)⟩⟩ := by simp [outer, e2]
 refine .seqk fun K1 hK1 => ?_
 refine .reg ?_
 simp
 refine hK1 _ ?_
 clear hK1 K1
 refine .keep [5, 6, 7, 8, 9, 10] ?_
 simp only [keepE, E_cons, E_nil]
 refine .see (upd (upd (upd (upd (upd _ 6 ⟨_, none⟩) 7 ⟨_, none⟩) 8 ⟨_, none⟩) 9 _) 10 ⟨_, none⟩) [(5, _), (6, .dptr (Types.c t)), (7, .dptr (Stat.c s)), (8, .dptr (Graph.c g)), (9, _), (10, .dptr (Oprn.c o))] ⟨.refl _, T.box (k := 2) (cs := Types.c t) (by simp [upd]) (by simp [upd]), T.box (k := 2) (cs := Stat.c s) (by simp [upd]) (by simp [upd]), T.box (k := 2) (cs := Graph.c g) (by simp [upd]) (by simp [upd]), .refl _, T.box (k := 2) (cs := Oprn.c o) (by simp [upd]) (by simp [upd]), trivial⟩ (Dies.up (Dies.up (Dies.up (Dies.up (Dies.up (Dies.refl _) (.inr ⟨rfl, Nat.le_refl _⟩)) (.inr ⟨rfl, Nat.le_refl _⟩)) (.inr ⟨rfl, Nat.le_refl _⟩)) (.inl rfl)) (.inr ⟨rfl, Nat.le_refl _⟩)) ?_
 try simp only [E_cons, E_nil]
 refine .seqk fun K2 hK2 => ?_
 refine .reg ?_
 simp
 refine hK2 _ ?_
 clear hK2 K2
 refine .keep [5, 6, 7, 8, 9, 10, 13] ?_
 simp only [keepE, E_cons, E_nil]
 refine .seqk fun K3 hK3 => ?_
 refine .seqk fun K4 hK4 => ?_
 refine .reg ?_
 simp
 refine hK4 _ ?_
 clear hK4 K4
 refine .keep [5, 6, 7, 8, 9, 10, 13, 20] ?_
 simp only [keepE, E_cons, E_nil]
 refine .condk _ rfl (fun hc1 => ?_) (fun hc1 => ?_)
 ·simp at hc1
  obtain ⟨hz, hy⟩ := stepE_0 hf hv ho
  obtain ⟨hz1, hz2⟩ : 0 ≤ o.el ∧ o.el.toNat < g.nodes.length := by
   refine ⟨hz, ?_⟩
   rcases hy with ⟨_, h1⟩ | ⟨_, h1, _⟩
   ·rw [← hf.1]; exact h1
   ·exact absurd hc1 h1
  obtain ⟨ty, hgt⟩ := get_some hz2
  have hin := List.all_eq_true.1 htn ty (List.mem_of_getElem? hgt)
  have hbd := cntN_bd ht hsv ty
  have hm0 : 0 ≤ n * cntN t s.nodes ty := Int.mul_nonneg n0 hbd.1
  have hm1 : n * cntN t s.nodes ty ≤ 1000000000 * 40 := Int.mul_le_mul n1 hbd.2 hbd.1 (by decide)
  have w1 : IntKind.i64.wrap (n * cntN t s.nodes ty) = n * cntN t s.nodes ty := wrap64 (by omega) (by omega)
  have hE : estI t s g k o n = min 1000000000 (n * cntN t s.nodes ty) := by simp [estI, hc1, nodeC, hgt]
  refine .seqk fun K5 hK5 => ?_
  refine .reg ?_
  refine Sq.cutk 5 fun K6 hK6 => ?_
  simp only [zt]
  simp [w1, mm2, mmA, mm_min]
  refine PCall.sq (e135 t ht s hn he hst g o.el ty hz1 hgt hin) fun h1 he1 => ?_
  simp only [mergeH_eq he1]
  clear he1 h1
  refine hK6 _ ?_
  clear hK6 K6
  simp [w1, mm2, mmA, mm_min]
  refine hK5 _ ?_
  clear hK5 K5
  refine .keep [12] ?_
  simp only [keepE, E_cons, E_nil]
  refine .ret ?_
  try simp only [then', inBlk]
  refine ret_m (.inr rfl) (r := int (estI t s g k o n)) (by rw [hE]; simp) (by simp) ⟨rfl, by simp⟩
 ·simp at hc1
  obtain ⟨hz1, hy⟩ := stepE_0 hf hv ho
  obtain ⟨hk2, x, hx, hz2, hs0, ht0, hs1, ht1⟩ : (o.kind = 2 ∨ o.kind = 3) ∧ ∃ x, g.edges[o.el.toNat]? = some x ∧ o.el.toNat < k.es.length ∧ 0 ≤ x.src ∧ 0 ≤ x.tgt ∧ x.src.toNat < k.ns.length ∧ x.tgt.toNat < k.ns.length := by
   rcases hy with ⟨h1, _⟩ | ⟨h1, _, h2⟩
   ·exact absurd h1 hc1
   ·exact ⟨h1, h2⟩
  obtain ⟨a, hga⟩ : ∃ a, g.nodes[x.src.toNat]? = some a := ⟨g.nodes[x.src.toNat]'(by rw [← hf.1]; exact hs1), by simp⟩
  obtain ⟨b, hgb⟩ : ∃ b, g.nodes[x.tgt.toNat]? = some b := ⟨g.nodes[x.tgt.toNat]'(by rw [← hf.1]; exact ht1), by simp⟩
  obtain ⟨ka, hka⟩ : ∃ ka, k.ns[x.src.toNat]? = some ka := ⟨k.ns[x.src.toNat], by simp⟩
  have hae := (List.getElem?_eq_some_iff.1 hka).2
  have hs1i : x.src < (k.ns.length : Int) := by omega
  have hina := List.all_eq_true.1 htn a (List.mem_of_getElem? hga)
  have hinb := List.all_eq_true.1 htn b (List.mem_of_getElem? hgb)
  have hine := List.all_eq_true.1 hte x (List.mem_of_getElem? hx)
  have hba := cntN_bd ht hsv a
  have hbb := cntN_bd ht hsv b
  have hbe := cntE_bd ht hsv x.ty a b
  have hm0 : 0 ≤ n * cntE t s.edges x.ty a b := Int.mul_nonneg n0 hbe.1
  have hm1 : n * cntE t s.edges x.ty a b ≤ 1000000000 * 80 := Int.mul_le_mul n1 hbe.2 hbe.1 (by decide)
  have w1 : IntKind.i64.wrap (n * cntE t s.edges x.ty a b) = n * cntE t s.edges x.ty a b := wrap64 (by omega) (by omega)
  have hE : estI t s g k o n = min 1000000000 (if o.kind = 3 then overI (overI (n * cntE t s.edges x.ty a b) (cntN t s.nodes a)) (cntN t s.nodes b) else if ka then overI (n * cntE t s.edges x.ty a b) (cntN t s.nodes a) else overI (n * cntE t s.edges x.ty a b) (cntN t s.nodes b)) := by
   simp [estI, hc1, hx, nodeC, edgeC, hga, hgb, endK, hka]
  generalize hN : n * cntE t s.edges x.ty a b = N at *
  have ov1 := overI_bd hm0 hba.1
  have ov2 := overI_bd hm0 hbb.1
  have ov3 := overI_bd ov1.1 hbb.1
  refine .skip ?_
  refine hK3 _ ?_
  clear hK3 K3
  refine .seqk fun K7 hK7 => ?_
  refine .reg ?_
  simp [hx, hz1]
  refine hK7 _ ?_
  clear hK7 K7
  refine .keep [5, 6, 7, 8, 9, 10, 13, 14] ?_
  simp only [keepE, E_cons, E_nil]
  refine .see (upd _ 14 ⟨_, none⟩) [(5, _), (6, _), (7, _), (8, _), (9, _), (10, _), (13, _), (14, .dptr (Edge.c x))] ⟨.refl _, .refl _, .refl _, .refl _, .refl _, .refl _, .refl _, T.box (k := 3) (cs := Edge.c x) (by simp [upd]) (by simp [upd]), trivial⟩ (Dies.up (Dies.refl _) (.inr ⟨rfl, Nat.le_refl _⟩)) ?_
  try simp only [E_cons, E_nil]
  refine .seqk fun K8 hK8 => ?_
  refine .dreg mixed ?_
  refine Dr.cutk 17 fun K9 hK9 => ?_
  simp only [zt]
  simp [-Bool.exists_bool, hga, hgb, hs0, ht0]
  refine Dr.pcall (p137 t ht s hn he x.ty a b) ?_
  refine hK9 _ _ ?_
  clear hK9 K9
  try simp [-Bool.exists_bool, hga, hgb, hs0, ht0]
  simp [edgesN_eq hst hine hina hinb]
  refine hK8 _ ?_
  clear hK8 K8
  refine .keep [5, 9, 10, 13, 14, 15] ?_
  simp only [keepE, E_cons, E_nil]
  refine .seqk fun K10 hK10 => ?_
  refine .reg ?_
  simp [hN, w1]
  refine hK10 _ ?_
  clear hK10 K10
  refine .keep [5, 9, 10, 13, 14] ?_
  simp only [keepE, E_cons, E_nil]
  refine .seqk fun K11 hK11 => ?_
  refine .block ?_
  refine .seqk fun K12 hK12 => ?_
  refine .reg ?_
  simp
  refine hK12 _ ?_
  clear hK12 K12
  refine .keep [5, 9, 13, 14, 63] ?_
  simp only [keepE, E_cons, E_nil]
  refine .condk _ rfl (fun hc2 => ?_) (fun hc2 => ?_)
  ·simp at hc2
   refine .dreg mixed ?_
   refine Dr.cutk 5 fun K13 hK13 => ?_
   simp only [zt]
   simp [-Bool.exists_bool]
   refine Dr.pcall (e135 t ht s hn he hst g x.src a hs0 hga hina) ?_
   refine hK13 _ _ ?_
   clear hK13 K13
   refine Dr.cutk 1 fun K14 hK14 => ?_
   simp only [zt]
   simp [-Bool.exists_bool]
   refine Dr.pcall (p138 N (cntN t s.nodes a) (by omega) (by omega) hba.1 (by omega)) ?_
   refine hK14 _ _ ?_
   clear hK14 K14
   refine Dr.cutk 4 fun K15 hK15 => ?_
   simp only [zt]
   simp [-Bool.exists_bool]
   refine Dr.pcall (e135 t ht s hn he hst g x.tgt b ht0 hgb hinb) ?_
   refine hK15 _ _ ?_
   clear hK15 K15
   refine Dr.cutk 1 fun K16 hK16 => ?_
   simp only [zt]
   simp [-Bool.exists_bool]
   refine Dr.pcall (p138 (overI N (cntN t s.nodes a)) (cntN t s.nodes b) (by omega) (by omega) hbb.1 (by omega)) ?_
   refine hK16 _ _ ?_
   clear hK16 K16
   try simp [-Bool.exists_bool]
   refine hK11 _ ?_
   clear hK11 K11
   refine .keep [5] ?_
   simp only [keepE, E_cons, E_nil]
   refine .seqk fun K17 hK17 => ?_
   refine .reg ?_
   simp [mm2, mmA, mm_min]
   refine hK17 _ ?_
   clear hK17 K17
   refine .keep [12] ?_
   simp only [keepE, E_cons, E_nil]
   refine .ret ?_
   try simp only [then', inBlk]
   refine ret_m (.inr rfl) (r := int (estI t s g k o n)) (by rw [hE]; simp [hc2]) (by simp) ⟨rfl, by simp⟩
  ·simp at hc2
   refine .seqk fun K18 hK18 => ?_
   refine .reg ?_
   simp [getBlk, upd, o1, hs0, hka, hae, dl_getE, hs1, hs1i]
   refine hK18 _ ?_
   clear hK18 K18
   refine .keep [5, 13, 14, 78] ?_
   simp only [keepE, E_cons, E_nil]
   refine .condk _ rfl (fun hc3 => ?_) (fun hc3 => ?_)
   ·skip
    refine .reg ?_
    refine Sq.cutk 5 fun K19 hK19 => ?_
    simp only [zt]
    simp
    refine PCall.sq (e135 t ht s hn he hst g x.src a hs0 hga hina) fun h1 he1 => ?_
    simp only [mergeH_eq he1]
    clear he1 h1
    refine hK19 _ ?_
    clear hK19 K19
    refine Sq.cutk 1 fun K20 hK20 => ?_
    simp only [zt]
    simp
    refine PCall.sq (p138 N (cntN t s.nodes a) (by omega) (by omega) hba.1 (by omega)) fun h1 he1 => ?_
    simp only [mergeH_eq he1]
    clear he1 h1
    refine hK20 _ ?_
    clear hK20 K20
    simp
    refine hK11 _ ?_
    clear hK11 K11
    refine .keep [5] ?_
    simp only [keepE, E_cons, E_nil]
    refine .seqk fun K21 hK21 => ?_
    refine .reg ?_
    simp [mm2, mmA, mm_min]
    refine hK21 _ ?_
    clear hK21 K21
    refine .keep [12] ?_
    simp only [keepE, E_cons, E_nil]
    refine .ret ?_
    try simp only [then', inBlk]
    refine ret_m (.inr rfl) (r := int (estI t s g k o n)) (by rw [hE]; simp [hc2, hc3]) (by simp) ⟨rfl, by simp⟩
   ·skip
    refine .reg ?_
    refine Sq.cutk 5 fun K22 hK22 => ?_
    simp only [zt]
    simp
    refine PCall.sq (e135 t ht s hn he hst g x.tgt b ht0 hgb hinb) fun h1 he1 => ?_
    simp only [mergeH_eq he1]
    clear he1 h1
    refine hK22 _ ?_
    clear hK22 K22
    refine Sq.cutk 1 fun K23 hK23 => ?_
    simp only [zt]
    simp
    refine PCall.sq (p138 N (cntN t s.nodes b) (by omega) (by omega) hbb.1 (by omega)) fun h1 he1 => ?_
    simp only [mergeH_eq he1]
    clear he1 h1
    refine hK23 _ ?_
    clear hK23 K23
    simp
    refine hK11 _ ?_
    clear hK11 K11
    refine .keep [5] ?_
    simp only [keepE, E_cons, E_nil]
    refine .seqk fun K24 hK24 => ?_
    refine .reg ?_
    simp [mm2, mmA, mm_min]
    refine hK24 _ ?_
    clear hK24 K24
    refine .keep [12] ?_
    simp only [keepE, E_cons, E_nil]
    refine .ret ?_
    try simp only [then', inBlk]
    refine ret_m (.inr rfl) (r := int (estI t s g k o n)) (by rw [hE]; simp [hc2, hc3]) (by simp) ⟨rfl, by simp⟩
end Go.Abs
