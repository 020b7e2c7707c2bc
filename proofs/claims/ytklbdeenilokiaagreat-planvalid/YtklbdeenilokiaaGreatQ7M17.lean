/- Contracts of functions of the program, and what they lean on: a part of the proof that planValid_proved stands; no condition. -/
import Derived.Test.YtklbdeenilokiaaGreatProg
import Derived.Test.YtklbdeenilokiaaGreatQ7M4
import Derived.Test.YtklbdeenilokiaaGreatQ7S1
import Derived.Test.YtklbdeenilokiaaGreatQ7M9
import Derived.Test.YtklbdeenilokiaaGreatQ7M16
import Derived.Test.YtklbdeenilokiaaGreatQ7B1
import Derived.Test.YtklbdeenilokiaaGreatQ7B2
import Derived.Test.YtklbdeenilokiaaGreatQ7B3
import Derived.Test.YtklbdeenilokiaaGreatQ7B4
import Derived.Test.YtklbdeenilokiaaGreatQ7B5
import Derived.Test.YtklbdeenilokiaaGreatQ7B6
set_option linter.unusedVariables false
set_option linter.unusedSimpArgs false
namespace Go.Abs
open Go Go.Proofs

def noTok : Int × ByteArray := (0, ⟨#[]⟩)
def oneC (s : ByteArray) (c : UInt8) : (Int × ByteArray) × Int × Int :=
  if letter c.toNat = true ∨ digit c.toNat = true then
    if digit c.toNat = true then
      if (9 : Int) < runB digit (strL s) then (noTok, 0, 3) else ((2, s.extract 0 (runB digit (strL s))), runB digit (strL s), 0)
    else if (20 : Int) < runB part (strL s) then (noTok, 0, 3) else ((1, s.extract 0 (runB part (strL s))), runB part (strL s), 0)
  else if (c.toNat : Int) = 34 then
    if quotedR (strL s) = 0 then (noTok, 0, 2) else if (60 : Int) < quotedR (strL s) - 2 then (noTok, 0, 3) else ((3, s.extract 1 (quotedR (strL s) - 1).toNat), quotedR (strL s), 0)
  else match signsD.find? (isSign s) with
    | some x => ((4, x), (strL x).length, 0)
    | none => (noTok, 0, 2)
theorem sign_len : ∀ x, x ∈ signsD → (strL x).length ≤ 2 := by
  intro x hx
  simp only [signsD, List.mem_cons, List.not_mem_nil, or_false] at hx
  rcases hx with h | h | h | h | h | h | h | h | h | h | h | h | h | h | h | h | h | h | h | h | h | h | h | h | h <;> subst h <;> decide
theorem quotedR_le (l : List UInt8) : quotedR l ≤ l.length ∧ (quotedR l = 0 ∨ 2 ≤ quotedR l) := by
  unfold quotedR
  split
  · rename_i h
    have := (List.getElem?_eq_some_iff.1 h).1
    omega
  · omega
def c261 : ACode := (.seq (.reg [⟨(some 4), none, (.alloc [(.d (.int .i64 0)), (.d (.str ⟨⟨[]⟩⟩)), (.d (.int .i64 0))])⟩, ⟨(some 5), none, (.mov (.c (.d (.int .i64 0))))⟩, ⟨(some 6), none, (.mov (.c (.d (.int .i64 0))))⟩]) (.seq (.reg [⟨(some 14), none, (.mov (.t 0))⟩, ⟨(some 15), none, (.mov (.t 1))⟩, ⟨(some 16), none, (.sidx (.t 14) (.t 15))⟩, ⟨(some 7), none, (.mov (.t 16))⟩]) (.seq (.seq (.reg [⟨(some 17), none, (.mov (.t 7))⟩, ⟨(some 18), none, (.call 269 [(.t 17)])⟩, ⟨(some 19), none, (.mov (.t 18))⟩, ⟨(some 20), (some (19, false)), (.mov (.t 7))⟩, ⟨(some 21), (some (19, false)), (.call 270 [(.t 20)])⟩, ⟨(some 22), none, (.pick (.t 19) (.c (.d (.bool true))) (.t 21))⟩]) (.cond (.t 22) (.seq (.reg [⟨(some 23), none, (.mov (.t 0))⟩, ⟨(some 24), none, (.mov (.t 1))⟩, ⟨(some 25), none, (.mov (.t 7))⟩, ⟨(some 26), none, (.call 270 [(.t 25)])⟩, ⟨(some 27), none, (.call 271 [(.t 23), (.t 24), (.t 26)])⟩, ⟨(some 8), none, (.mov (.t 27))⟩]) (.seq (.reg [⟨(some 9), none, (.mov (.c (.d (.int .i64 1))))⟩, ⟨(some 10), none, (.mov (.c (.d (.int .i64 20))))⟩]) (.seq (.seq (.reg [⟨(some 28), none, (.mov (.t 7))⟩, ⟨(some 29), none, (.call 270 [(.t 28)])⟩]) (.cond (.t 29) (.reg [⟨(some 9), none, (.mov (.c (.d (.int .i64 2))))⟩, ⟨(some 10), none, (.mov (.c (.d (.int .i64 9))))⟩]) .skip)) (.seq (.seq (.reg [⟨(some 30), none, (.mov (.t 8))⟩, ⟨(some 31), none, (.mov (.t 10))⟩, ⟨(some 32), none, (.bin .gtr (.t 30) (.t 31))⟩]) (.cond (.t 32) (.seq (.reg [⟨(some 33), none, (.build [(.d (.int .i64 0)), (.d (.str ⟨⟨[]⟩⟩)), (.d (.int .i64 0))] [])⟩, ⟨none, none, (.store 3 (.t 4) (.t 33))⟩, ⟨(some 5), none, (.mov (.c (.d (.int .i64 0))))⟩, ⟨(some 6), none, (.mov (.c (.d (.int .i64 3))))⟩]) .ret) .skip)) (.seq (.reg [⟨(some 34), none, (.mov (.t 9))⟩, ⟨(some 35), none, (.mov (.t 0))⟩, ⟨(some 36), none, (.mov (.t 1))⟩, ⟨(some 37), none, (.mov (.t 1))⟩, ⟨(some 38), none, (.mov (.t 8))⟩, ⟨(some 39), none, (.bin .add (.t 37) (.t 38))⟩, ⟨(some 40), none, (.slice 0 (.t 35) (some (.t 36)) (some (.t 39)) none)⟩, ⟨(some 41), none, (.build [(.d (.int .i64 0)), (.d (.str ⟨⟨[]⟩⟩)), (.d (.int .i64 0))] [(0, (1, (.t 34))), (1, (1, (.t 40)))])⟩, ⟨(some 42), none, (.mov (.t 8))⟩, ⟨none, none, (.store 3 (.t 4) (.t 41))⟩, ⟨(some 5), none, (.mov (.t 42))⟩, ⟨(some 6), none, (.mov (.c (.d (.int .i64 0))))⟩]) .ret))))) .skip)) (.seq (.seq (.reg [⟨(some 43), none, (.mov (.t 7))⟩, ⟨(some 44), none, (.bin .eql (.t 43) (.c (.d (.int .u8 34))))⟩]) (.cond (.t 44) (.seq (.reg [⟨(some 45), none, (.mov (.t 0))⟩, ⟨(some 46), none, (.mov (.t 1))⟩, ⟨(some 47), none, (.call 272 [(.t 45), (.t 46)])⟩, ⟨(some 11), none, (.mov (.t 47))⟩]) (.seq (.seq (.reg [⟨(some 48), none, (.mov (.t 11))⟩, ⟨(some 49), none, (.bin .eql (.t 48) (.c (.d (.int .i64 0))))⟩]) (.cond (.t 49) (.seq (.reg [⟨(some 50), none, (.build [(.d (.int .i64 0)), (.d (.str ⟨⟨[]⟩⟩)), (.d (.int .i64 0))] [])⟩, ⟨none, none, (.store 3 (.t 4) (.t 50))⟩, ⟨(some 5), none, (.mov (.c (.d (.int .i64 0))))⟩, ⟨(some 6), none, (.mov (.c (.d (.int .i64 2))))⟩]) .ret) .skip)) (.seq (.seq (.reg [⟨(some 51), none, (.mov (.t 11))⟩, ⟨(some 52), none, (.bin .sub (.t 51) (.c (.d (.int .i64 2))))⟩, ⟨(some 53), none, (.bin .gtr (.t 52) (.c (.d (.int .i64 60))))⟩]) (.cond (.t 53) (.seq (.reg [⟨(some 54), none, (.build [(.d (.int .i64 0)), (.d (.str ⟨⟨[]⟩⟩)), (.d (.int .i64 0))] [])⟩, ⟨none, none, (.store 3 (.t 4) (.t 54))⟩, ⟨(some 5), none, (.mov (.c (.d (.int .i64 0))))⟩, ⟨(some 6), none, (.mov (.c (.d (.int .i64 3))))⟩]) .ret) .skip)) (.seq (.reg [⟨(some 55), none, (.mov (.t 0))⟩, ⟨(some 56), none, (.mov (.t 1))⟩, ⟨(some 57), none, (.bin .add (.t 56) (.c (.d (.int .i64 1))))⟩, ⟨(some 58), none, (.mov (.t 1))⟩, ⟨(some 59), none, (.mov (.t 11))⟩, ⟨(some 60), none, (.bin .add (.t 58) (.t 59))⟩, ⟨(some 61), none, (.bin .sub (.t 60) (.c (.d (.int .i64 1))))⟩, ⟨(some 62), none, (.slice 0 (.t 55) (some (.t 57)) (some (.t 61)) none)⟩, ⟨(some 63), none, (.build [(.d (.int .i64 0)), (.d (.str ⟨⟨[]⟩⟩)), (.d (.int .i64 0))] [(0, (1, (.c (.d (.int .i64 3))))), (1, (1, (.t 62)))])⟩, ⟨(some 64), none, (.mov (.t 11))⟩, ⟨none, none, (.store 3 (.t 4) (.t 63))⟩, ⟨(some 5), none, (.mov (.t 64))⟩, ⟨(some 6), none, (.mov (.c (.d (.int .i64 0))))⟩]) .ret)))) .skip)) (.seq (.reg [⟨(some 65), none, (.call 273 [])⟩, ⟨(some 12), none, (.mov (.t 65))⟩]) (.seq (.seq (.reg [⟨(some 13), none, (.mov (.c (.d (.int .i64 0))))⟩]) (.block 0 (.loop (.seq (.seq (.reg [⟨(some 66), none, (.mov (.t 13))⟩, ⟨(some 67), none, (.mov (.t 12))⟩, ⟨(some 68), none, (.len false (.t 67))⟩, ⟨(some 69), none, (.bin .lss (.t 66) (.t 68))⟩]) (.cond (.t 69) .skip (.exit 0))) (.seq (.block 1 (.seq (.dreg [⟨(some 72), none, (.mov (.t 1))⟩, ⟨(some 73), none, (.mov (.t 12))⟩, ⟨(some 74), none, (.mov (.t 13))⟩, ⟨(some 75), none, (.idx 1 (.t 73) (.t 74))⟩, ⟨(some 76), none, (.load none (.t 75))⟩, ⟨(some 77), none, (.len true (.t 76))⟩, ⟨(some 78), none, (.bin .add (.t 72) (.t 77))⟩, ⟨(some 79), none, (.mov (.t 0))⟩, ⟨(some 80), none, (.len true (.t 79))⟩, ⟨(some 81), none, (.bin .leq (.t 78) (.t 80))⟩, ⟨(some 82), none, (.mov (.t 81))⟩, ⟨(some 83), (some (82, true)), (.mov (.t 0))⟩, ⟨(some 84), (some (82, true)), (.mov (.t 1))⟩, ⟨(some 85), (some (82, true)), (.mov (.t 1))⟩, ⟨(some 86), (some (82, true)), (.mov (.t 12))⟩, ⟨(some 87), (some (82, true)), (.mov (.t 13))⟩, ⟨(some 88), (some (82, true)), (.idx 1 (.t 86) (.t 87))⟩, ⟨(some 89), (some (82, true)), (.load none (.t 88))⟩, ⟨(some 90), (some (82, true)), (.len true (.t 89))⟩, ⟨(some 91), (some (82, true)), (.bin .add (.t 85) (.t 90))⟩, ⟨(some 92), (some (82, true)), (.slice 0 (.t 83) (some (.t 84)) (some (.t 91)) none)⟩, ⟨(some 93), (some (82, true)), (.mov (.t 12))⟩, ⟨(some 94), (some (82, true)), (.mov (.t 13))⟩, ⟨(some 95), (some (82, true)), (.idx 1 (.t 93) (.t 94))⟩, ⟨(some 96), (some (82, true)), (.load none (.t 95))⟩, ⟨(some 97), (some (82, true)), (.bin .eql (.t 92) (.t 96))⟩, ⟨(some 98), none, (.pick (.t 82) (.t 97) (.c (.d (.bool false))))⟩] []) (.cond (.t 98) (.seq (.dreg [⟨(some 99), none, (.mov (.t 12))⟩, ⟨(some 100), none, (.mov (.t 13))⟩, ⟨(some 101), none, (.idx 1 (.t 99) (.t 100))⟩, ⟨(some 102), none, (.load none (.t 101))⟩, ⟨(some 103), none, (.build [(.d (.int .i64 0)), (.d (.str ⟨⟨[]⟩⟩)), (.d (.int .i64 0))] [(0, (1, (.c (.d (.int .i64 4))))), (1, (1, (.t 102)))])⟩, ⟨(some 104), none, (.mov (.t 12))⟩, ⟨(some 105), none, (.mov (.t 13))⟩, ⟨(some 106), none, (.idx 1 (.t 104) (.t 105))⟩, ⟨(some 107), none, (.load none (.t 106))⟩, ⟨(some 108), none, (.len true (.t 107))⟩, ⟨none, none, (.store 3 (.t 4) (.t 103))⟩, ⟨(some 5), none, (.mov (.t 108))⟩, ⟨(some 6), none, (.mov (.c (.d (.int .i64 0))))⟩] [(7, 10), (8, 10), (9, 10)]) .ret) .skip))) (.reg [⟨(some 70), none, (.mov (.t 13))⟩, ⟨(some 71), none, (.bin .add (.t 70) (.c (.d (.int .i64 1))))⟩, ⟨(some 13), none, (.mov (.t 71))⟩])))))) (.seq (.reg [⟨(some 109), none, (.build [(.d (.int .i64 0)), (.d (.str ⟨⟨[]⟩⟩)), (.d (.int .i64 0))] [])⟩, ⟨none, none, (.store 3 (.t 4) (.t 109))⟩, ⟨(some 5), none, (.mov (.c (.d (.int .i64 0))))⟩, ⟨(some 6), none, (.mov (.c (.d (.int .i64 2))))⟩]) .ret)))))))
theorem b261 : Body Tryz.prog 261 110 c261 [.cell (some 3) 4, .tmp 5, .tmp 6] := Body.of Tryz.f261 Tryz.func261 (by decide +kernel) (by decide +kernel) Tryz.ntmps261 (by decide +kernel) (by decide +kernel)
theorem p261 (s : ByteArray) (c : UInt8) (hm : (strL s).length ≤ 140737488355328) (hx : (strL s)[0]? = some c) : PCall Tryz.prog 261 [stri s, int 0] (.tup [.agg [int (oneC s c).1.1, stri (oneC s c).1.2, int 0], int (oneC s c).2.1, int (oneC s c).2.2]) := by
  intro h
  refine ACall.of b261 (by simp) ?_
  unfold c261
  have h0 : 1 ≤ (strL s).length := by have := (List.getElem?_eq_some_iff.1 hx).1; omega
  obtain ⟨n, hn⟩ : ∃ n, n = runB (runP (digit c.toNat)) (strL s) := ⟨_, rfl⟩
  have hnl : n ≤ (strL s).length := by rw [hn]; exact runB_le _ _
  have hwn : IntKind.i64.wrap (n : Int) = n := wrapN (by omega)
  have hni : (n : Int) ≤ (strL s).length := by omega
  obtain ⟨q, hq⟩ : ∃ q, q = quotedR (strL s) := ⟨_, rfl⟩
  have hql : q ≤ (strL s).length ∧ (q = 0 ∨ 2 ≤ q) := by rw [hq]; exact quotedR_le _
  refine .seqk fun K1 hK1 => ?_
  refine .reg ?_
  simp
  refine hK1 _ ?_
  clear hK1 K1
  refine .keep [0, 1, 4, 20, 21, 83, 84, 85, 86, 87, 88, 89, 90, 91, 92, 93, 94, 95, 96, 97] ?_
  simp only [keepE, E_cons, E_nil, reduceIte, Nat.reduceEqDiff]
  refine .seqk fun K2 hK2 => ?_
  refine .reg ?_
  simp [hx]
  refine hK2 _ ?_
  clear hK2 K2
  refine .keep [0, 1, 4, 7, 20, 21, 83, 84, 85, 86, 87, 88, 89, 90, 91, 92, 93, 94, 95, 96, 97] ?_
  simp only [keepE, E_cons, E_nil, reduceIte, Nat.reduceEqDiff]
  refine .seqk fun K3 hK3 => ?_
  refine .seqreg (fun hh => hh) (fun ee => [(0, ee 0), (1, ee 1), (4, ee 4), (7, ee 7), (22, bo (decide (letter c.toNat = true ∨ digit c.toNat = true))), (83, ee 83), (84, ee 84), (85, ee 85), (86, ee 86), (87, ee 87), (88, ee 88), (89, ee 89), (90, ee 90), (91, ee 91), (92, ee 92), (93, ee 93), (94, ee 94), (95, ee 95), (96, ee 96), (97, ee 97)]) ?_ ?_
  · refine Sq.cutk 2 fun K1 hK1 => ?_
    simp only [List.take_succ_cons, List.take_zero, List.drop_succ_cons, List.drop_zero]
    simp
    refine PCall.sq (p269 _) fun _ he => ?_
    simp only [mergeH_eq he]
    refine hK1 _ ?_
    by_cases h1 : letter c.toNat = true
    · simp [h1]
    · simp at h1
      refine Sq.cutk 3 fun K2 hK2 => ?_
      simp only [List.take_succ_cons, List.take_zero, List.drop_succ_cons, List.drop_zero]
      simp [h1]
      refine PCall.sq (p270 _) fun _ he => ?_
      simp only [mergeH_eq he]
      refine hK2 _ ?_
      simp [h1]
  try simp only [E_cons, E_nil, reduceIte, Nat.reduceEqDiff]
  refine .condk _ rfl (fun hc1 => ?_) (fun hc1 => ?_)
  · try simp at hc1
    refine .seqk fun K4 hK4 => ?_
    refine .reg ?_
    refine Sq.cutk 4 fun K5 hK5 => ?_
    simp only [List.take_succ_cons, List.take_zero, List.drop_succ_cons, List.drop_zero]
    simp
    refine PCall.sq (p270 _) fun h1 he1 => ?_
    simp only [mergeH_eq he1]
    clear he1 h1
    refine hK5 _ ?_
    clear hK5 K5
    refine Sq.cutk 1 fun K6 hK6 => ?_
    simp only [List.take_succ_cons, List.take_zero, List.drop_succ_cons, List.drop_zero]
    simp
    refine PCall.sq (p271 s (digit c.toNat) hm) fun h1 he1 => ?_
    simp only [mergeH_eq he1]
    clear he1 h1
    refine hK6 _ ?_
    clear hK6 K6
    simp
    rw [← hn]
    refine hK4 _ ?_
    clear hK4 K4
    refine .keep [0, 1, 4, 7, 8] ?_
    simp only [keepE, E_cons, E_nil, reduceIte, Nat.reduceEqDiff]
    refine .seqk fun K7 hK7 => ?_
    refine .reg ?_
    simp
    refine hK7 _ ?_
    clear hK7 K7
    refine .seqk fun K8 hK8 => ?_
    refine .seqk fun K9 hK9 => ?_
    refine .reg ?_
    simp
    refine PCall.sq (p270 _) fun h1 he1 => ?_
    simp only [mergeH_eq he1]
    clear he1 h1
    try simp
    refine hK9 _ ?_
    clear hK9 K9
    refine .condk _ rfl (fun hc2 => ?_) (fun hc2 => ?_)
    · skip
      refine .reg ?_
      simp
      refine hK8 _ ?_
      clear hK8 K8
      refine .seqk fun K10 hK10 => ?_
      refine .seqk fun K11 hK11 => ?_
      refine .reg ?_
      simp
      refine hK11 _ ?_
      clear hK11 K11
      refine .keep [0, 1, 4, 8, 9, 32] ?_
      simp only [keepE, E_cons, E_nil, reduceIte, Nat.reduceEqDiff]
      refine .condk _ rfl (fun hc3 => ?_) (fun hc3 => ?_)
      · try simp at hc3
        refine .seqk fun K12 hK12 => ?_
        refine .reg ?_
        simp
        refine hK12 _ ?_
        clear hK12 K12
        refine .keep [4, 5, 6] ?_
        simp only [keepE, E_cons, E_nil, reduceIte, Nat.reduceEqDiff]
        refine .ret ?_
        -- leaf 1
        refine ret_d (v := .tup [.agg [int (oneC s c).1.1, stri (oneC s c).1.2, int 0], int (oneC s c).2.1, int (oneC s c).2.2]) (.inr rfl) ?_ (.refl _) rfl (by first | exact OutEq.outer _ | assumption | (simp; done) | (simp; assumption)) rfl
        have hr : (9 : Int) < runB digit (strL s) := by rw [hn, hc2, runP_true] at hc3; exact hc3
        simp [oneC, hc1, hc2, hr, noTok]
      · try simp at hc3
        refine .skip ?_
        refine hK10 _ ?_
        clear hK10 K10
        refine .seqk fun K13 hK13 => ?_
        refine .reg ?_
        simp [hwn, hni]
        refine hK13 _ ?_
        clear hK13 K13
        refine .keep [4, 5, 6] ?_
        simp only [keepE, E_cons, E_nil, reduceIte, Nat.reduceEqDiff]
        refine .ret ?_
        -- leaf 2
        refine ret_d (v := .tup [.agg [int (oneC s c).1.1, stri (oneC s c).1.2, int 0], int (oneC s c).2.1, int (oneC s c).2.2]) (.inr rfl) ?_ (.refl _) rfl (by first | exact OutEq.outer _ | assumption | (simp; done) | (simp; assumption)) rfl
        have hr : ¬ (9 : Int) < runB digit (strL s) := by rw [hn, hc2, runP_true] at hc3; omega
        have hn2 : n = runB digit (strL s) := by rw [hn, hc2, runP_true]
        simp [oneC, hc1, hc2, hr, hn2]
    · try simp at hc2
      refine .skip ?_
      refine hK8 _ ?_
      clear hK8 K8
      refine .seqk fun K14 hK14 => ?_
      refine .seqk fun K15 hK15 => ?_
      refine .reg ?_
      simp
      refine hK15 _ ?_
      clear hK15 K15
      refine .keep [0, 1, 4, 8, 9, 32] ?_
      simp only [keepE, E_cons, E_nil, reduceIte, Nat.reduceEqDiff]
      refine .condk _ rfl (fun hc3 => ?_) (fun hc3 => ?_)
      · try simp at hc3
        refine .seqk fun K16 hK16 => ?_
        refine .reg ?_
        simp
        refine hK16 _ ?_
        clear hK16 K16
        refine .keep [4, 5, 6] ?_
        simp only [keepE, E_cons, E_nil, reduceIte, Nat.reduceEqDiff]
        refine .ret ?_
        -- leaf 3
        refine ret_d (v := .tup [.agg [int (oneC s c).1.1, stri (oneC s c).1.2, int 0], int (oneC s c).2.1, int (oneC s c).2.2]) (.inr rfl) ?_ (.refl _) rfl (by first | exact OutEq.outer _ | assumption | (simp; done) | (simp; assumption)) rfl
        have hl : letter c.toNat = true := by simpa [hc2] using hc1
        have hr : (20 : Int) < runB part (strL s) := by rw [hn, hc2, runP_false] at hc3; exact hc3
        simp [oneC, hl, hc2, hr, noTok]
      · try simp at hc3
        refine .skip ?_
        refine hK14 _ ?_
        clear hK14 K14
        refine .seqk fun K17 hK17 => ?_
        refine .reg ?_
        simp [hwn, hni]
        refine hK17 _ ?_
        clear hK17 K17
        refine .keep [4, 5, 6] ?_
        simp only [keepE, E_cons, E_nil, reduceIte, Nat.reduceEqDiff]
        refine .ret ?_
        -- leaf 4
        refine ret_d (v := .tup [.agg [int (oneC s c).1.1, stri (oneC s c).1.2, int 0], int (oneC s c).2.1, int (oneC s c).2.2]) (.inr rfl) ?_ (.refl _) rfl (by first | exact OutEq.outer _ | assumption | (simp; done) | (simp; assumption)) rfl
        have hl : letter c.toNat = true := by simpa [hc2] using hc1
        have hr : ¬ (20 : Int) < runB part (strL s) := by rw [hn, hc2, runP_false] at hc3; omega
        have hn2 : n = runB part (strL s) := by rw [hn, hc2, runP_false]
        simp [oneC, hl, hc2, hr, hn2]
  · try simp at hc1
    refine .skip ?_
    refine hK3 _ ?_
    clear hK3 K3
    refine .seqk fun K18 hK18 => ?_
    refine .seqk fun K19 hK19 => ?_
    refine .reg ?_
    simp
    refine hK19 _ ?_
    clear hK19 K19
    refine .condk _ rfl (fun hc4 => ?_) (fun hc4 => ?_)
    · try simp at hc4
      refine .seqk fun K20 hK20 => ?_
      refine .reg ?_
      refine Sq.cutk 3 fun K21 hK21 => ?_
      simp only [List.take_succ_cons, List.take_zero, List.drop_succ_cons, List.drop_zero]
      simp
      refine PCall.sq (p272 s hm h0) fun h1 he1 => ?_
      simp only [mergeH_eq he1]
      clear he1 h1
      refine hK21 _ ?_
      clear hK21 K21
      simp
      rw [← hq]
      refine hK20 _ ?_
      clear hK20 K20
      refine .keep [0, 1, 4, 11] ?_
      simp only [keepE, E_cons, E_nil, reduceIte, Nat.reduceEqDiff]
      refine .seqk fun K22 hK22 => ?_
      refine .seqk fun K23 hK23 => ?_
      refine .reg ?_
      simp
      refine hK23 _ ?_
      clear hK23 K23
      refine .condk _ rfl (fun hc5 => ?_) (fun hc5 => ?_)
      · try simp at hc5
        refine .seqk fun K24 hK24 => ?_
        refine .reg ?_
        simp
        refine hK24 _ ?_
        clear hK24 K24
        refine .keep [4, 5, 6] ?_
        simp only [keepE, E_cons, E_nil, reduceIte, Nat.reduceEqDiff]
        refine .ret ?_
        -- leaf 5
        refine ret_d (v := .tup [.agg [int (oneC s c).1.1, stri (oneC s c).1.2, int 0], int (oneC s c).2.1, int (oneC s c).2.2]) (.inr rfl) ?_ (.refl _) rfl (by first | exact OutEq.outer _ | assumption | (simp; done) | (simp; assumption)) rfl
        rw [hc4] at hc1
        simp [oneC, hc1, hc4, hc5, ← hq, noTok]
      · try simp at hc5
        refine .skip ?_
        refine hK22 _ ?_
        clear hK22 K22
        refine .seqk fun K25 hK25 => ?_
        refine .seqk fun K26 hK26 => ?_
        have hwq : IntKind.i64.wrap (q - 2) = q - 2 := wrap64 (by omega) (by omega)
        refine .reg ?_
        simp [hwq]
        refine hK26 _ ?_
        clear hK26 K26
        refine .keep [0, 1, 4, 11, 53] ?_
        simp only [keepE, E_cons, E_nil, reduceIte, Nat.reduceEqDiff]
        refine .condk _ rfl (fun hc6 => ?_) (fun hc6 => ?_)
        · try simp at hc6
          refine .seqk fun K27 hK27 => ?_
          refine .reg ?_
          simp
          refine hK27 _ ?_
          clear hK27 K27
          refine .keep [4, 5, 6] ?_
          simp only [keepE, E_cons, E_nil, reduceIte, Nat.reduceEqDiff]
          refine .ret ?_
          -- leaf 6
          refine ret_d (v := .tup [.agg [int (oneC s c).1.1, stri (oneC s c).1.2, int 0], int (oneC s c).2.1, int (oneC s c).2.2]) (.inr rfl) ?_ (.refl _) rfl (by first | exact OutEq.outer _ | assumption | (simp; done) | (simp; assumption)) rfl
          rw [hc4] at hc1
          simp [oneC, hc1, hc4, hc5, hc6, ← hq, noTok]
        · try simp at hc6
          refine .skip ?_
          refine hK25 _ ?_
          clear hK25 K25
          refine .seqk fun K28 hK28 => ?_
          have hq2 : 2 ≤ q := by omega
          have hwq3 : IntKind.i64.wrap q = q := wrap64 (by omega) (by omega)
          have hwq4 : IntKind.i64.wrap (q - 1) = q - 1 := wrap64 (by omega) (by omega)
          have hw1 : IntKind.i64.wrap 1 = 1 := wrap64 (by omega) (by omega)
          have hq5 : 0 ≤ q - 1 := by omega
          have hq6 : q - 1 ≤ (strL s).length := by omega
          have hq1 : 1 ≤ q := by omega
          have hq7 : (1 : Int) ≤ ((q.toNat - 1 : Nat) : Int) := by omega
          refine .reg ?_
          simp [hwq3, hwq4, hw1, hq1, hq6, hq7]
          refine hK28 _ ?_
          clear hK28 K28
          refine .keep [4, 5, 6] ?_
          simp only [keepE, E_cons, E_nil, reduceIte, Nat.reduceEqDiff]
          refine .ret ?_
          -- leaf 7
          refine ret_d (v := .tup [.agg [int (oneC s c).1.1, stri (oneC s c).1.2, int 0], int (oneC s c).2.1, int (oneC s c).2.2]) (.inr rfl) ?_ (.refl _) rfl (by first | exact OutEq.outer _ | assumption | (simp; done) | (simp; assumption)) rfl
          rw [hc4] at hc1
          simp [oneC, hc1, hc4, hc5, Int.not_lt.2 hc6, ← hq]
    · try simp at hc4
      refine .skip ?_
      refine hK18 _ ?_
      clear hK18 K18
      refine .seqk fun K29 hK29 => ?_
      refine .reg ?_
      refine Sq.cutk 1 fun K30 hK30 => ?_
      simp only [List.take_succ_cons, List.take_zero, List.drop_succ_cons, List.drop_zero]
      simp
      refine PCall.sq (p273) fun h1 he1 => ?_
      simp only [mergeH_eq he1]
      clear he1 h1
      refine hK30 _ ?_
      clear hK30 K30
      simp
      refine hK29 _ ?_
      clear hK29 K29
      refine .seqk fun K31 hK31 => ?_
      refine .seqk fun K32 hK32 => ?_
      refine .reg ?_
      simp
      refine hK32 _ ?_
      clear hK32 K32
      refine .block ?_
      refine .count 25 (fun i st => (signsD.drop i).find? (isSign s) = signsD.find? (isSign s) ∧ st = ⟨E [(13, int i), (12, sl (signsD.map S.c)), (0, stri s), (1, int 0), (4, .ptr 4 ((outer h 4).ver + 1) 0 0)], upd (outer h) 4 ⟨(outer h 4).ver + 1, some ⟨3, [[.d (.int .i64 0), .d (.str ⟨#[]⟩), .d (.int .i64 0)]]⟩⟩⟩) 0 (Nat.zero_le _) _ (.cov (by simp) (.refl _)) ⟨rfl, rfl⟩ ?_
      rintro i s hi1 ⟨hp, rfl⟩ K33 hK33
      refine .seqk fun K34 hK34 => ?_
      refine .seqk fun K35 hK35 => ?_
      refine .reg ?_
      simp
      refine hK35 _ ?_
      clear hK35 K35
      refine .keep [0, 1, 4, 12, 13, 69, 83, 84, 85, 86, 87, 88, 89, 90, 91, 92, 93, 94, 95, 96, 97] ?_
      simp only [keepE, E_cons, E_nil, reduceIte, Nat.reduceEqDiff]
      refine .condk _ rfl (fun hc7 => ?_) (fun hc7 => ?_)
      · simp at hc7
        have hlt : i < 25 := hc7
        obtain ⟨x, hx2⟩ := get_some hc7
        have hxl : (strL x).length ≤ 2 := sign_len x (List.mem_of_getElem? hx2)
        have hwl : IntKind.i64.wrap ((strL x).length : Int) = (strL x).length := wrapN (by omega)
        refine .skip ?_
        refine hK34 _ ?_
        clear hK34 K34
        refine .seqk fun K36 hK36 => ?_
        refine .block ?_
        refine .seqdreg mixed (fun hh => hh) (fun ee => [(0, ee 0), (1, ee 1), (4, ee 4), (12, ee 12), (13, ee 13), (98, bo (isSign s x))]) ?_ ?_
        · by_cases h1 : ((strL x).length : Int) ≤ (strL s).length
          · have h2 : (strL x).length ≤ (strL s).length := by omega
            simp [hx2, hwl, h1, h2, isSign]
          · have h2 : ¬ (strL x).length ≤ (strL s).length := by omega
            simp [hx2, hwl, h1, h2, isSign]
        try simp only [E_cons, E_nil, reduceIte, Nat.reduceEqDiff]
        refine .condk _ rfl (fun hc8 => ?_) (fun hc8 => ?_)
        · skip
          refine .seqk fun K37 hK37 => ?_
          refine .dreg mixed ?_
          simp [hx2]
          refine hK37 _ ?_
          clear hK37 K37
          refine .keep [4, 5, 6] ?_
          simp only [keepE, E_cons, E_nil, reduceIte, Nat.reduceEqDiff]
          refine .ret ?_
          -- leaf 8
          refine ret_d (v := .tup [.agg [int (oneC s c).1.1, stri (oneC s c).1.2, int 0], int (oneC s c).2.1, int (oneC s c).2.2]) (.inr rfl) ?_ (.refl _) rfl (by first | exact OutEq.outer _ | assumption | (simp; done) | (simp; assumption)) rfl
          rw [drop_cons hx2, List.find?_cons_of_pos hc8] at hp
          simp [oneC, hc1, hc4, ← hp]
        · skip
          refine .skip ?_
          refine hK36 _ ?_
          clear hK36 K36
          refine .reg ?_
          simp
          -- loop back, leaf 9
          refine hK33 _ _ (by omega) (Wk.cov (by simp; exact wrap64 (by omega) (by omega)) (.refl _)) ⟨?_, rfl⟩
          rw [← hp, drop_cons hx2, List.find?_cons_of_neg (by simp [hc8])]
      · try simp at hc7
        refine .exit ?_
        try simp only [then', inBlk, if_true, if_false, reduceIte, Nat.reduceEqDiff]
        refine hK31 _ ?_
        clear hK34 hK33 hK31 K34 K33 K31
        refine .seqk fun K38 hK38 => ?_
        refine .reg ?_
        simp
        refine hK38 _ ?_
        clear hK38 K38
        refine .keep [4, 5, 6] ?_
        simp only [keepE, E_cons, E_nil, reduceIte, Nat.reduceEqDiff]
        refine .ret ?_
        -- leaf 10
        refine ret_d (v := .tup [.agg [int (oneC s c).1.1, stri (oneC s c).1.2, int 0], int (oneC s c).2.1, int (oneC s c).2.2]) (.inr rfl) ?_ (.refl _) rfl (by first | exact OutEq.outer _ | assumption | (simp; done) | (simp; assumption)) rfl
        rw [drop_nil hc7] at hp
        simp [oneC, hc1, hc4, ← hp, noTok]
end Go.Abs
set_option linter.unusedVariables false
set_option linter.unusedSimpArgs false
namespace Go.Abs
open Go Go.Proofs

def rightI (s : ByteArray) : Bool := match (strL s)[0]? with
  | none => false
  | some c => decide ((oneC s c).2.2 = 0) && decide ((oneC s c).2.1 = (strL s).length) && decide ((oneC s c).1.1 = 1)
def c260 : ACode := (.seq (.reg [⟨(some 1), none, (.box 3 (.t 0))⟩, ⟨(some 2), none, (.mov (.c (.d (.str ⟨⟨[]⟩⟩))))⟩]) (.seq (.seq (.reg [⟨(some 3), none, (.addr 0 (.t 1))⟩, ⟨(some 4), none, (.load none (.t 3))⟩, ⟨(some 5), none, (.bin .eql (.t 4) (.c (.d (.int .i64 3))))⟩]) (.cond (.t 5) (.seq (.reg [⟨(some 6), none, (.addr 1 (.t 1))⟩, ⟨(some 7), none, (.load none (.t 6))⟩, ⟨(some 8), none, (.bin .add (.c (.d (.str ⟨⟨[34]⟩⟩))) (.t 7))⟩, ⟨(some 9), none, (.bin .add (.t 8) (.c (.d (.str ⟨⟨[34]⟩⟩))))⟩, ⟨(some 2), none, (.mov (.t 9))⟩]) .ret) .skip)) (.seq (.reg [⟨(some 10), none, (.addr 1 (.t 1))⟩, ⟨(some 11), none, (.load none (.t 10))⟩, ⟨(some 2), none, (.mov (.t 11))⟩]) .ret)))
theorem b260 : Body Tryz.prog 260 12 c260 [.tmp 2] := Body.of Tryz.f260 Tryz.func260 (by decide +kernel) (by decide +kernel) Tryz.ntmps260 (by decide +kernel) (by decide +kernel)
theorem p260 (s : ByteArray) : PCall Tryz.prog 260 [.agg [int 1, stri s, int 0]] (stri s) := by
  intro h
  refine ACall.of b260 (by simp) ?_
  unfold c260
  refine .seqk fun K1 hK1 => ?_
  refine .reg ?_
  simp
  refine hK1 _ ?_
  clear hK1 K1
  refine .seqk fun K2 hK2 => ?_
  refine .seqk fun K3 hK3 => ?_
  refine .reg ?_
  simp
  refine hK3 _ ?_
  clear hK3 K3
  refine .keep [1, 5] ?_
  simp only [keepE, E_cons, E_nil, reduceIte, Nat.reduceEqDiff]
  refine .condk _ rfl (fun hc1 => ?_) (fun hc1 => ?_)
  · cases hc1
  · skip
    refine .skip ?_
    refine hK2 _ ?_
    clear hK2 K2
    refine .seqk fun K4 hK4 => ?_
    refine .reg ?_
    simp
    refine hK4 _ ?_
    clear hK4 K4
    refine .keep [2] ?_
    simp only [keepE, E_cons, E_nil, reduceIte, Nat.reduceEqDiff]
    refine .ret ?_
    -- leaf 1
    refine ret_d (.inr rfl) rfl (.refl _) rfl (by first | exact OutEq.outer _ | assumption | (simp; done) | (simp; assumption)) ?_
    rfl
def c243 : ACode := (.seq (.reg [⟨(some 1), none, (.box 3 (.t 0))⟩, ⟨(some 2), none, (.mov (.c (.d (.bool false))))⟩]) (.seq (.reg [⟨(some 7), none, (.load (some 3) (.t 1))⟩, ⟨(some 8), none, (.call 260 [(.t 7)])⟩, ⟨(some 3), none, (.mov (.t 8))⟩]) (.seq (.seq (.reg [⟨(some 9), none, (.mov (.t 3))⟩, ⟨(some 10), none, (.bin .eql (.t 9) (.c (.d (.str ⟨⟨[]⟩⟩))))⟩]) (.cond (.t 10) (.seq (.reg [⟨(some 2), none, (.mov (.c (.d (.bool false))))⟩]) .ret) .skip)) (.seq (.reg [⟨(some 12), none, (.mov (.t 3))⟩, ⟨(some 13), none, (.call 261 [(.t 12), (.c (.d (.int .i64 0)))])⟩, ⟨(some 11), none, (.mov (.t 13))⟩, ⟨(some 14), none, (.ext (.t 11) 0)⟩, ⟨(some 15), none, (.ext (.t 11) 1)⟩, ⟨(some 16), none, (.ext (.t 11) 2)⟩, ⟨(some 4), none, (.alloc [(.d (.int .i64 0)), (.d (.str ⟨⟨[]⟩⟩)), (.d (.int .i64 0))])⟩, ⟨none, none, (.store 3 (.t 4) (.t 14))⟩, ⟨(some 5), none, (.mov (.t 15))⟩, ⟨(some 6), none, (.mov (.t 16))⟩]) (.seq (.reg [⟨(some 17), none, (.mov (.t 6))⟩, ⟨(some 18), none, (.bin .eql (.t 17) (.c (.d (.int .i64 0))))⟩, ⟨(some 19), none, (.mov (.t 18))⟩, ⟨(some 20), (some (19, true)), (.mov (.t 5))⟩, ⟨(some 21), (some (19, true)), (.mov (.t 3))⟩, ⟨(some 22), (some (19, true)), (.len true (.t 21))⟩, ⟨(some 23), (some (19, true)), (.bin .eql (.t 20) (.t 22))⟩, ⟨(some 24), none, (.pick (.t 19) (.t 23) (.c (.d (.bool false))))⟩, ⟨(some 25), none, (.mov (.t 24))⟩, ⟨(some 26), (some (25, true)), (.addr 0 (.t 4))⟩, ⟨(some 27), (some (25, true)), (.load none (.t 26))⟩, ⟨(some 28), (some (25, true)), (.addr 0 (.t 1))⟩, ⟨(some 29), (some (25, true)), (.load none (.t 28))⟩, ⟨(some 30), (some (25, true)), (.bin .eql (.t 27) (.t 29))⟩, ⟨(some 31), none, (.pick (.t 25) (.t 30) (.c (.d (.bool false))))⟩, ⟨(some 2), none, (.mov (.t 31))⟩]) .ret)))))
theorem b243 : Body Tryz.prog 243 32 c243 [.tmp 2] := Body.of Tryz.f243 Tryz.func243 (by decide +kernel) (by decide +kernel) Tryz.ntmps243 (by decide +kernel) (by decide +kernel)
theorem p243 (s : ByteArray) (hm : (strL s).length ≤ 140737488355328) : PCall Tryz.prog 243 [.agg [int 1, stri s, int 0]] (bo (rightI s)) := by
  intro h
  refine ACall.of b243 (by simp) ?_
  unfold c243
  refine .seqk fun K1 hK1 => ?_
  refine .reg ?_
  simp
  refine hK1 _ ?_
  clear hK1 K1
  refine .seqk fun K2 hK2 => ?_
  refine .reg ?_
  refine Sq.cutk 2 fun K3 hK3 => ?_
  simp only [List.take_succ_cons, List.take_zero, List.drop_succ_cons, List.drop_zero]
  simp
  refine PCall.sq (p260 s) fun h1 he1 => ?_
  simp only [mergeH_eq he1]
  clear he1 h1
  refine hK3 _ ?_
  clear hK3 K3
  simp
  refine hK2 _ ?_
  clear hK2 K2
  refine .keep [1, 3, 20, 21, 22, 23, 26, 27, 28, 29, 30] ?_
  simp only [keepE, E_cons, E_nil, reduceIte, Nat.reduceEqDiff]
  refine .seqk fun K4 hK4 => ?_
  refine .seqk fun K5 hK5 => ?_
  refine .reg ?_
  simp [toList_strL]
  refine hK5 _ ?_
  clear hK5 K5
  refine .condk _ rfl (fun hc1 => ?_) (fun hc1 => ?_)
  · have hs : strL s = [] := by simpa [toList_strL, strL] using hc1
    refine .seqk fun K6 hK6 => ?_
    refine .reg ?_
    simp
    refine hK6 _ ?_
    clear hK6 K6
    refine .ret ?_
    -- leaf 1
    refine ret_d (.inr rfl) rfl (.refl _) rfl (by first | exact OutEq.outer _ | assumption | (simp; done) | (simp; assumption)) ?_
    simp [rightI, hs]
  · have hne : strL s ≠ [] := by intro e; simp [toList_strL, e, strL] at hc1; exact hc1 (by simpa [strL] using e)
    obtain ⟨c, hx⟩ : ∃ c, (strL s)[0]? = some c := get_some (List.length_pos_iff.2 hne)
    refine .skip ?_
    refine hK4 _ ?_
    clear hK4 K4
    refine .seqk fun K7 hK7 => ?_
    refine .reg ?_
    refine Sq.cutk 2 fun K8 hK8 => ?_
    simp only [List.take_succ_cons, List.take_zero, List.drop_succ_cons, List.drop_zero]
    simp
    refine PCall.sq (p261 s c hm hx) fun h1 he1 => ?_
    simp only [mergeH_eq he1]
    clear he1 h1
    refine hK8 _ ?_
    clear hK8 K8
    simp
    refine hK7 _ ?_
    clear hK7 K7
    refine .keep [1, 3, 4, 5, 6, 20, 21, 22, 23, 26, 27, 28, 29, 30] ?_
    simp only [keepE, E_cons, E_nil, reduceIte, Nat.reduceEqDiff]
    refine .seqreg (fun hh => hh) (fun ee => [(2, bo (rightI s))]) ?_ ?_
    · by_cases h0 : (oneC s c).2.2 = 0 <;> by_cases h1 : (oneC s c).2.1 = (strL s).length <;> by_cases h2 : (oneC s c).1.1 = 1 <;> simp [h0, h1, h2, rightI, hx]
    try simp only [E_cons, E_nil, reduceIte, Nat.reduceEqDiff]
    refine .ret ?_
    -- leaf 2
    refine ret_d (.inr rfl) rfl (.refl _) rfl (by first | exact OutEq.outer _ | assumption | (simp; done) | (simp; assumption)) ?_
    simp
def c209 : ACode := (.seq (.reg [⟨(some 2), none, (.mov (.c (.d (.bool false))))⟩]) (.seq (.reg [⟨(some 3), none, (.mov (.t 0))⟩, ⟨(some 4), none, (.build [(.d (.int .i64 0)), (.d (.str ⟨⟨[]⟩⟩)), (.d (.int .i64 0))] [(0, (1, (.c (.d (.int .i64 1))))), (1, (1, (.t 3)))])⟩, ⟨(some 5), none, (.call 243 [(.t 4)])⟩, ⟨(some 2), none, (.mov (.t 5))⟩]) .ret))
theorem b209 : Body Tryz.prog 209 6 c209 [.tmp 2] := Body.of Tryz.f209 Tryz.func209 (by decide +kernel) (by decide +kernel) Tryz.ntmps209 (by decide +kernel) (by decide +kernel)
theorem p209 (s : ByteArray) (hm : (strL s).length ≤ 140737488355328) : PCall Tryz.prog 209 [stri s] (bo (rightI s)) := by
  intro h
  refine ACall.of b209 (by simp) ?_
  unfold c209
  refine .seqk fun K1 hK1 => ?_
  refine .reg ?_
  simp
  refine hK1 _ ?_
  clear hK1 K1
  refine .seqk fun K2 hK2 => ?_
  refine .reg ?_
  refine Sq.cutk 3 fun K3 hK3 => ?_
  simp only [List.take_succ_cons, List.take_zero, List.drop_succ_cons, List.drop_zero]
  simp
  refine PCall.sq (p243 s hm) fun h1 he1 => ?_
  simp only [mergeH_eq he1]
  clear he1 h1
  refine hK3 _ ?_
  clear hK3 K3
  simp
  refine hK2 _ ?_
  clear hK2 K2
  refine .keep [2] ?_
  simp only [keepE, E_cons, E_nil, reduceIte, Nat.reduceEqDiff]
  refine .ret ?_
  -- leaf 1
  refine ret_d (.inr rfl) rfl (.refl _) rfl (by first | exact OutEq.outer _ | assumption | (simp; done) | (simp; assumption)) ?_
  rfl
end Go.Abs
/- The examples of the chapters: closed runs. -/
set_option linter.unusedVariables false
set_option linter.unusedSimpArgs false
set_option maxRecDepth 1000000
namespace Go.Abs
open Go Go.Proofs
def tabL : List (Nat × Nat × ACode × List Res) := [(34, 67, c34, [.tmp 0]), (35, 67, c35, [.cell (some 2) 4, .tmp 5]), (38, 95, c38, [.tmp 10, .tmp 11, .tmp 12]), (44, 8, c44, [.tmp 2]), (46, 26, c46, [.tmp 4]), (50, 26, c50, [.tmp 4]), (59, 43, c59, [.tmp 6, .tmp 7, .tmp 8]), (61, 15, c61, [.cell (some 2) 0]), (79, 43, c79, [.tmp 8]), (80, 13, c80, [.cell (some 2) 0, .cell (some 2) 1]), (81, 75, c81, [.tmp 4]), (82, 73, c82, [.tmp 6]), (84, 51, c84, [.tmp 6]), (85, 28, c85, [.tmp 4]), (86, 12, c86, [.cell (some 2) 2]), (87, 93, c87, [.tmp 12]), (88, 126, c88, [.tmp 6]), (89, 33, c89, [.cell (some 2) 8, .tmp 9]), (90, 48, c90, [.tmp 4]), (91, 104, c91, [.tmp 6]), (92, 14, c92, []), (93, 17, c93, [.tmp 4]), (94, 18, c94, [.tmp 2]), (95, 36, c95, [.tmp 4]), (96, 20, c96, [.tmp 2]), (97, 46, c97, [.tmp 2]), (101, 60, c101, [.tmp 2, .tmp 3]), (114, 125, c114, []), (117, 8, c117, [.tmp 2]), (126, 33, c126, [.tmp 6]), (127, 15, c127, [.tmp 6]), (128, 25, c128, [.tmp 6]), (129, 30, c129, [.tmp 4]), (133, 158, c133, [.tmp 4]), (134, 13, c134, [.tmp 2]), (135, 20, c135, [.tmp 5]), (136, 42, c136, [.tmp 6, .tmp 7]), (137, 75, c137, [.tmp 10, .tmp 11]), (138, 13, c138, [.tmp 4]), (139, 44, c139, [.tmp 6]), (140, 29, c140, [.tmp 12]), (142, 36, c142, [.tmp 8]), (143, 28, c143, [.cell (some 2) 8]), (144, 9, c144, [.tmp 4]), (145, 33, c145, [.cell (some 2) 8, .tmp 9]), (146, 148, c146, []), (148, 20, c148, [.tmp 4]), (149, 9, c149, [.tmp 4]), (150, 6, c150, [.tmp 2]), (151, 12, c151, [.tmp 4]), (152, 9, c152, [.tmp 4]), (153, 10, c153, [.tmp 3]), (154, 22, c154, [.tmp 4]), (155, 9, c155, [.tmp 2]), (156, 30, c156, [.tmp 4]), (158, 95, c158, [.tmp 4]), (159, 63, c159, [.tmp 4]), (169, 31, c169, [.tmp 2]), (170, 10, c170, [.cell (some 2) 2]), (182, 60, c182, [.tmp 2, .tmp 3]), (183, 12, c183, [.tmp 4]), (184, 22, c184, [.tmp 4]), (185, 18, c185, [.tmp 2]), (186, 46, c186, [.tmp 8]), (187, 9, c187, [.tmp 4]), (188, 9, c188, [.tmp 4]), (189, 19, c189, [.tmp 6]), (190, 17, c190, [.tmp 4]), (191, 42, c191, [.tmp 2]), (192, 208, c192, []), (195, 19, c195, [.tmp 4]), (196, 53, c196, []), (197, 60, c197, []), (198, 67, c198, []), (199, 63, c199, [.tmp 8, .tmp 9]), (200, 34, c200, []), (201, 141, c201, [.tmp 8]), (202, 90, c202, [.tmp 10]), (203, 178, c203, [.tmp 10, .tmp 11]), (206, 6, c206, [.tmp 2]), (207, 19, c207, [.tmp 4]), (208, 19, c208, [.tmp 4]), (210, 24, c210, [.tmp 4]), (211, 38, c211, [.tmp 2]), (212, 16, c212, [.tmp 4]), (222, 8, c222, [.tmp 2]), (225, 70, c225, [.tmp 4]), (226, 52, c226, [.tmp 4]), (227, 18, c227, [.tmp 4]), (228, 12, c228, [.tmp 6]), (229, 9, c229, [.tmp 4]), (230, 8, c230, [.tmp 3]), (231, 19, c231, [.tmp 4]), (232, 9, c232, [.tmp 3]), (233, 10, c233, [.tmp 3]), (234, 32, c234, [.tmp 4, .tmp 5]), (235, 11, c235, [.tmp 4]), (236, 49, c236, [.tmp 2]), (237, 59, c237, [.tmp 6]), (238, 82, c238, []), (239, 7, c239, [.tmp 2]), (240, 33, c240, [.tmp 2]), (241, 18, c241, [.tmp 8]), (242, 41, c242, [.tmp 12]), (244, 34, c244, [.tmp 2]), (248, 9, c248, [.tmp 4]), (249, 9, c249, [.tmp 3]), (250, 26, c250, [.tmp 4]), (251, 55, c251, [.tmp 4]), (252, 13, c252, [.tmp 3]), (253, 9, c253, [.tmp 4]), (254, 9, c254, [.tmp 3]), (255, 24, c255, [.tmp 4]), (256, 13, c256, [.tmp 3]), (257, 21, c257, [.tmp 4]), (258, 19, c258, [.tmp 4]), (259, 32, c259, [.tmp 10, .tmp 11]), (263, 19, c263, [.tmp 4]), (264, 9, c264, [.tmp 4]), (265, 9, c265, [.tmp 3]), (266, 26, c266, [.tmp 2]), (267, 19, c267, [.tmp 4]), (268, 28, c268, []), (275, 19, c275, [.tmp 4]), (276, 9, c276, [.tmp 4]), (284, 19, c284, [.tmp 4])]
theorem tabL_ok : AllB Tryz.prog tabL := ⟨b34, b35, b38, b44, b46, b50, b59, b61, b79, b80, b81, b82, b84, b85, b86, b87, b88, b89, b90, b91, b92, b93, b94, b95, b96, b97, b101, b114, b117, b126, b127, b128, b129, b133, b134, b135, b136, b137, b138, b139, b140, b142, b143, b144, b145, b146, b148, b149, b150, b151, b152, b153, b154, b155, b156, b158, b159, b169, b170, b182, b183, b184, b185, b186, b187, b188, b189, b190, b191, b192, b195, b196, b197, b198, b199, b200, b201, b202, b203, b206, b207, b208, b210, b211, b212, b222, b225, b226, b227, b228, b229, b230, b231, b232, b233, b234, b235, b236, b237, b238, b239, b240, b241, b242, b244, b248, b249, b250, b251, b252, b253, b254, b255, b256, b257, b258, b259, b263, b264, b265, b266, b267, b268, b275, b276, b284, trivial⟩

def known0 (f : FuncId) (args : List AV) : Option AV := match args with
  | [.d (.str s)] => if f = 247 then (if (strL s).length ≤ 140737488355328 then some (bo (wholeI s)) else none)
    else if f = 209 then (if (strL s).length ≤ 140737488355328 then some (bo (rightI s)) else none) else none
  | [.d (.int .u64 x)] => if f = 147 then (if 0 ≤ x ∧ x ≤ 18446744073709551615 then some (int (Lib.bitLen x.toNat)) else none) else none
  | [.d (.int .u64 x), .d (.int .u64 y)] => if f = 141 then (if 0 ≤ x ∧ x < 18446744073709551616 ∧ 0 ≤ y ∧ y < 18446744073709551616 then
      some (.tup [.d (.int .u64 ((x.toNat * y.toNat / 18446744073709551616 : Nat) : Int)), .d (.int .u64 ((x.toNat * y.toNat % 18446744073709551616 : Nat) : Int))]) else none) else none
  | _ => none
theorem known0_ok (f : FuncId) (args : List AV) (r : AV) (h : known0 f args = some r) : PCall Tryz.prog f args r := by
  unfold known0 at h
  split at h
  · rename_i s
    split at h
    · rename_i hf
      split at h
      · rename_i hs; cases h; subst hf; exact p247 s hs
      · cases h
    · split at h
      · rename_i hf
        split at h
        · rename_i hs; cases h; subst hf; exact p209 s hs
        · cases h
      · cases h
  · rename_i x
    split at h
    · rename_i hf
      split at h
      · rename_i hs; cases h; subst hf; exact p147 x hs.1 hs.2
      · cases h
    · cases h
  · rename_i x y
    split at h
    · rename_i hf
      split at h
      · rename_i hs
        cases h
        subst hf
        obtain ⟨h1, h2, h3, h4⟩ := hs
        obtain ⟨m, rfl⟩ : ∃ m : Nat, x = m := ⟨x.toNat, by omega⟩
        obtain ⟨n, rfl⟩ : ∃ n : Nat, y = n := ⟨y.toNat, by omega⟩
        simp only [Int.toNat_natCast]
        exact p141 m n (by omega) (by omega)
      · cases h
    · cases h
  · cases h

def T0 : Tab := ⟨look tabL, known0⟩
theorem T0_ok : T0.OK Tryz.prog := ⟨fun f N c rs h => look_ok tabL_ok f N c rs h, known0_ok⟩

def bs (l : List UInt8) : ByteArray := ⟨⟨l⟩⟩
def I (n : Int) : D := .int .i64 n
/-- The shared example of the document, as the program lays it. -/
def exT : AV := .agg [.d (.slice [[.str (bs [65, 99, 99, 111, 117, 110, 116]), I (-1), .bool true, .slice [[.str (bs [98, 97, 108, 97, 110, 99, 101]), I (-1000), I 1000, .nil]]],
    [.str (bs [67, 97, 115, 104]), I 0, .bool false, .nil],
    [.str (bs [76, 111, 97, 110]), I 0, .bool false, .slice [[.str (bs [115, 116, 97, 116, 101]), I 0, I 1, .slice [[.str (bs [111, 112, 101, 110])], [.str (bs [99, 108, 111, 115, 101, 100])]]]]],
    [.str (bs [80, 101, 114, 115, 111, 110]), I (-1), .bool false, .nil]]),
  .d (.slice [[.str (bs [111, 119, 110, 115]), I 3, I 0, I 0, I (-1), I 1, I 1], [.str (bs [112, 97, 121, 115]), I 1, I 1, I 0, I (-1), I 0, I (-1)]])]
theorem v182 : PCall Tryz.prog 182 [exT] (.tup [stri (bs []), int 0]) := .closed T0_ok mixed 3000 (by decide +kernel) rfl rfl
end Go.Abs
set_option linter.unusedVariables false
set_option linter.unusedSimpArgs false
namespace Go.Abs
open Go Go.Proofs

theorem Dies.up {h h' : Heap} {b : Nat} {x y : HB} (hd : Dies h h') (hxy : y = x ∨ (y.live = none ∧ x.ver ≤ y.ver)) : Dies (Go.Abs.upd h b x) (Go.Abs.upd h' b y) := by
  intro a
  by_cases e : a = b
  · subst e
    rw [upd_same, upd_same]
    rcases hxy with h1 | h1
    · exact .inl h1
    · exact .inr h1
  · rw [upd_ne _ _ _ _ e, upd_ne _ _ _ _ e]; exact hd a
def bools (l : List Bool) : D := .slice (l.map Bo.c)
/-- What is known of a pattern. -/
structure Kn where
  ns : List Bool
  es : List Bool
def Kn.c (k : Kn) : List D := [.slice (k.ns.map Bo.c), .slice (k.es.map Bo.c)]
attribute [simp] Kn.c
def freshK (g : Graph) : Kn := ⟨List.replicate g.nodes.length false, List.replicate g.edges.length false⟩
def Kn.fits (k : Kn) (g : Graph) : Prop := k.ns.length = g.nodes.length ∧ k.es.length = g.edges.length
def endK (k : Kn) (n : Int) : Bool := (k.ns[n.toNat]?).getD false
def stepE (g : Graph) (k : Kn) (o : Oprn) : Int :=
  if o.kind = 1 then (if inI o.el g.nodes.length = false then 6 else if endK k o.el then 8 else 0)
  else if o.kind = 2 ∨ o.kind = 3 then (if inI o.el g.edges.length = false then 6 else match g.edges[o.el.toNat]? with
    | none => 6
    | some x => if (k.es[o.el.toNat]?).getD false || (decide (o.kind = 3) && !(endK k x.src && endK k x.tgt)) || (decide (o.kind = 2) && ((endK k x.src && endK k x.tgt) || !(endK k x.src || endK k x.tgt))) then 8 else 0)
  else 6
def afterK (g : Graph) (k : Kn) (o : Oprn) : Kn := if o.kind = 1 then ⟨k.ns.set o.el.toNat true, k.es⟩ else match g.edges[o.el.toNat]? with
  | none => k
  | some x => ⟨(k.ns.set x.src.toNat true).set x.tgt.toNat true, k.es.set o.el.toNat true⟩
theorem afterK_fits {g : Graph} {k : Kn} (h : k.fits g) (o : Oprn) : (afterK g k o).fits g := by
  unfold afterK
  split
  · exact ⟨by simp [h.1], h.2⟩
  · split
    · exact h
    · exact ⟨by simp [h.1], by simp [h.2]⟩
theorem freshK_fits (g : Graph) : (freshK g).fits g := ⟨by simp [freshK], by simp [freshK]⟩
def allK (k : Kn) : Bool := k.ns.all id && k.es.all id
def planE (g : Graph) : Kn → List Oprn → Int
  | k, [] => if allK k then 0 else 20
  | k, o :: l => if stepE g k o ≠ 0 then stepE g k o else planE g (afterK g k o) l
def planV (g : Graph) (l : List Oprn) : Int := if gErr g ≠ 0 then gErr g else planE g (freshK g) l
def plainL (g : Graph) : List Oprn := (List.range g.nodes.length).map (fun i => ⟨1, (i : Int)⟩) ++ (List.range g.edges.length).map (fun i => ⟨3, (i : Int)⟩)

theorem AW.seqj {P : Program} {N : Nat} {c d : ACode} {Q : AX → St → Prop} {e : Env} {h : Heap} (hf : Heap → Heap) (l : Env → List (Nat × AV)) (h1 : ∀ K : St → Prop, (∀ s, Wk s ⟨E (l e), hf h⟩ → K s) → AW P N c (then' K Q) ⟨e, h⟩) (h2 : AW P N d Q ⟨E (l e), hf h⟩) : AW P N (.seq c d) Q ⟨e, h⟩ :=
  .seq (h1 _ fun s hs => .weak hs h2)
theorem AW.regv {P : Program} {N : Nat} {Q : AX → St → Prop} {e : Env} {h : Heap} {ops : List GOp} (hf : Heap → Heap) (l : Env → List (Nat × AV)) (ho : Sq P ops ⟨e, h⟩ fun s => Cov (l e) s.env ∧ Dies s.h (hf h)) (hw : ∀ s, Wk s ⟨E (l e), hf h⟩ → Q .normal s) : AW P N (.reg ops) Q ⟨e, h⟩ :=
  .reg ((Sq.mono ho) fun s ⟨h1, h2⟩ => hw s (Wk.cov (env := s.env) (h := s.h) h1 h2))
def lenK (g : Graph) (o : Oprn) : Int := if o.kind = 1 then (g.nodes.length : Int) else g.edges.length
def outK (g : Graph) (o : Oprn) : Bool := decide (o.kind < 1) || decide (3 < o.kind) || decide (o.el < 0) || decide (lenK g o ≤ o.el)
theorem stepE_out {g : Graph} {k : Kn} {o : Oprn} (h : outK g o = true) : stepE g k o = 6 := by
  simp only [outK, Bool.or_eq_true, decide_eq_true_eq] at h
  unfold lenK at h
  unfold stepE
  by_cases h1 : o.kind = 1
  · rw [if_pos h1] at h ⊢
    have : inI o.el g.nodes.length = false := by
      simp only [inI, Bool.and_eq_false_iff, decide_eq_false_iff_not]
      omega
    rw [if_pos this]
  · rw [if_neg h1] at h ⊢
    by_cases h2 : o.kind = 2 ∨ o.kind = 3
    · rw [if_pos h2]
      have : inI o.el g.edges.length = false := by
        simp only [inI, Bool.and_eq_false_iff, decide_eq_false_iff_not]
        omega
      rw [if_pos this]
    · rw [if_neg h2]
theorem outK_f {g : Graph} {o : Oprn} (h : outK g o = false) : (o.kind = 1 ∨ o.kind = 2 ∨ o.kind = 3) ∧ 0 ≤ o.el ∧ o.el < lenK g o := by
  simp only [outK, Bool.or_eq_false_iff, decide_eq_false_iff_not] at h
  omega
theorem stepE_in {g : Graph} {k : Kn} {o : Oprn} (h : outK g o = false) : stepE g k o = 0 ∨ stepE g k o = 8 := by
  obtain ⟨hk, h0, hl⟩ := outK_f h
  unfold lenK at hl
  unfold stepE
  by_cases h1 : o.kind = 1
  · rw [if_pos h1] at hl ⊢
    rw [if_neg (by simp [inI, h0, hl])]
    split
    · exact .inr rfl
    · exact .inl rfl
  · rw [if_neg h1] at hl ⊢
    rw [if_pos (by omega), if_neg (by simp [inI, h0, hl])]
    have : g.edges[o.el.toNat]? = some (g.edges[o.el.toNat]'(by omega)) := by simp
    rw [this]
    simp only
    split
    · exact .inr rfl
    · exact .inl rfl
theorem gErr_edge {g : Graph} (h : gErr g = 0) {x : Edge} (hx : x ∈ g.edges) : inI x.src g.nodes.length = true ∧ inI x.tgt g.nodes.length = true := by
  unfold gErr at h
  split at h
  · cases h
  · split at h
    · cases h
    · split at h
      · cases h
      · rename_i h3
        have h4 : fitsG x g.nodes.length = true := by
          cases hb : fitsG x g.nodes.length with
          | true => rfl
          | false => exact absurd (List.any_eq_true.2 ⟨x, hx, by simp [hb]⟩) h3
        simp only [fitsG, inR_eq, Bool.and_eq_true] at h4
        exact ⟨h4.1.2, h4.2⟩
theorem Kn.get {k : Kn} {g : Graph} (hf : k.fits g) {n : Int} (h : inI n g.nodes.length = true) : 0 ≤ n ∧ ∃ a, k.ns[n.toNat]? = some a ∧ endK k n = a := by
  simp only [inI, Bool.and_eq_true, decide_eq_true_eq] at h
  have : n.toNat < k.ns.length := by rw [hf.1]; omega
  exact ⟨h.1, k.ns[n.toNat], by simp [this], by simp [endK, this]⟩
theorem p181 (g : Graph) (k : Kn) (n : Int) (x : Edge) (a b : Bool) (h0 : 0 ≤ n) (hx : g.edges[n.toNat]? = some x) (hs : 0 ≤ x.src) (ht : 0 ≤ x.tgt) (ha : k.ns[x.src.toNat]? = some a) (hb : k.ns[x.tgt.toNat]? = some b) : PCall Tryz.prog 181 [ag (Graph.c g), ag (Kn.c k), int n] (.tup [bo a, bo b]) := by
  intro h
  refine ACall.of b181 (by simp) ?_
  unfold c181
  refine .seqk fun K1 hK1 => ?_
  refine .reg ?_
  simp
  refine hK1 _ ?_
  clear hK1 K1
  refine .keep [2, 3, 4] ?_
  simp only [keepE, E_cons, E_nil, reduceIte, Nat.reduceEqDiff]
  refine .see (upd (upd _ 3 ⟨_, none⟩) 4 ⟨_, none⟩) [(2, int n), (3, .dptr (Graph.c g)), (4, .dptr (Kn.c k))] ⟨.refl _, T.box (k := 2) (cs := Graph.c g) (by simp [upd]) (by simp [upd]), T.box (k := 2) (cs := Kn.c k) (by simp [upd]) (by simp [upd]), trivial⟩ (Dies.up (Dies.up (Dies.refl _) (.inr ⟨rfl, Nat.le_refl _⟩)) (.inr ⟨rfl, Nat.le_refl _⟩)) ?_
  refine .seqk fun K2 hK2 => ?_
  refine .dreg mixed ?_
  simp [h0, hx, hs, ht, ha, hb]
  refine hK2 _ ?_
  clear hK2 K2
  refine .keep [6, 7] ?_
  simp only [keepE, E_cons, E_nil, reduceIte, Nat.reduceEqDiff]
  refine .ret ?_
  -- leaf 1
  refine ret_d (.inr rfl) rfl (.refl _) rfl (by first | exact OutEq.outer _ | assumption | (simp; done) | (simp; assumption)) ?_
  rfl
set_option maxHeartbeats 4000000 in
theorem p132 (g : Graph) (k : Kn) (o : Oprn) (hf : k.fits g) (hv : gErr g = 0) : PCall Tryz.prog 132 [ag (Graph.c g), ag (Kn.c k), ag (Oprn.c o)] (int (stepE g k o)) := by
  intro h
  refine ACall.of b132 (by simp) ?_
  unfold c132
  refine .seqk fun K1 hK1 => ?_
  refine .reg ?_
  simp
  refine hK1 _ ?_
  clear hK1 K1
  refine .keep [3, 4, 5, 24, 25, 26, 29, 30, 31, 34, 35, 36, 37, 65, 66, 67, 68, 69, 70, 71, 72, 73, 74, 75, 76, 77, 78, 79, 80, 81, 82, 83] ?_
  simp only [keepE, E_cons, E_nil, reduceIte, Nat.reduceEqDiff]
  refine .see (upd (upd (upd _ 3 ⟨_, none⟩) 4 ⟨_, none⟩) 5 ⟨_, none⟩) [(3, .dptr (Graph.c g)), (4, .dptr (Kn.c k)), (5, .dptr (Oprn.c o))] ⟨T.box (k := 2) (cs := Graph.c g) (by simp [upd]) (by simp [upd]), T.box (k := 2) (cs := Kn.c k) (by simp [upd]) (by simp [upd]), T.box (k := 2) (cs := Oprn.c o) (by simp [upd]) (by simp [upd]), trivial⟩ (Dies.up (Dies.up (Dies.up (Dies.refl _) (.inr ⟨rfl, Nat.le_refl _⟩)) (.inr ⟨rfl, Nat.le_refl _⟩)) (.inr ⟨rfl, Nat.le_refl _⟩)) ?_
  refine .seqk fun K2 hK2 => ?_
  refine .reg ?_
  simp
  refine hK2 _ ?_
  clear hK2 K2
  refine .keep [3, 4, 5, 7, 24, 25, 26, 29, 30, 31, 34, 35, 36, 37, 65, 66, 67, 68, 69, 70, 71, 72, 73, 74, 75, 76, 77, 78, 79, 80, 81, 82, 83] ?_
  simp only [keepE, E_cons, E_nil, reduceIte, Nat.reduceEqDiff]
  refine .seqj (fun hh => hh) (fun ee => [(3, ee 3), (4, ee 4), (5, ee 5), (7, int (lenK g o)), (24, ee 24), (25, ee 25), (26, ee 26), (29, ee 29), (30, ee 30), (31, ee 31), (34, ee 34), (35, ee 35), (36, ee 36), (37, ee 37), (65, ee 65), (66, ee 66), (67, ee 67), (68, ee 68), (69, ee 69), (70, ee 70), (71, ee 71), (72, ee 72), (73, ee 73), (74, ee 74), (75, ee 75), (76, ee 76), (77, ee 77), (78, ee 78), (79, ee 79), (80, ee 80), (81, ee 81), (82, ee 82), (83, ee 83)]) (fun K3 hK3 => ?_) ?_
  · refine .seqk fun K4 hK4 => ?_
    refine .reg ?_
    simp
    refine hK4 _ ?_
    clear hK4 K4
    refine .keep [3, 4, 5, 7, 16, 24, 25, 26, 29, 30, 31, 34, 35, 36, 37, 65, 66, 67, 68, 69, 70, 71, 72, 73, 74, 75, 76, 77, 78, 79, 80, 81, 82, 83] ?_
    simp only [keepE, E_cons, E_nil, reduceIte, Nat.reduceEqDiff]
    refine .condk _ rfl (fun hc1 => ?_) (fun hc1 => ?_)
    · try simp at hc1
      refine .reg ?_
      simp
      refine hK3 _ (Wk.cov ?_ (.refl _))
      simp [lenK, hc1]
    · try simp at hc1
      refine .skip ?_
      refine hK3 _ (Wk.cov ?_ (.refl _))
      simp [lenK, hc1]
  try simp only [E_cons, E_nil, reduceIte, Nat.reduceEqDiff]
  refine .seqk fun K5 hK5 => ?_
  refine .seqreg (fun hh => hh) (fun ee => [(3, ee 3), (4, ee 4), (5, ee 5), (38, bo (outK g o)), (65, ee 65), (66, ee 66), (67, ee 67), (68, ee 68), (69, ee 69), (70, ee 70), (71, ee 71), (72, ee 72), (73, ee 73), (74, ee 74), (75, ee 75), (76, ee 76), (77, ee 77), (78, ee 78), (79, ee 79), (80, ee 80), (81, ee 81), (82, ee 82), (83, ee 83)]) ?_ ?_
  · by_cases h0 : o.kind < 1 <;> by_cases h1 : 3 < o.kind <;> by_cases h2 : o.el < 0 <;> by_cases h3 : lenK g o ≤ o.el <;> simp [h0, h1, h2, h3, outK]
  try simp only [E_cons, E_nil, reduceIte, Nat.reduceEqDiff]
  refine .condk _ rfl (fun hc2 => ?_) (fun hc2 => ?_)
  · skip
    refine .seqk fun K6 hK6 => ?_
    refine .reg ?_
    simp
    refine hK6 _ ?_
    clear hK6 K6
    refine .ret ?_
    -- leaf 1
    refine ret_d (.inr rfl) rfl (.refl _) rfl (by first | exact OutEq.outer _ | assumption | (simp; done) | (simp; assumption)) ?_
    simp [stepE_out hc2]
  · obtain ⟨hk, h0, hlt⟩ := outK_f hc2
    refine .skip ?_
    refine hK5 _ ?_
    clear hK5 K5
    refine .seqk fun K7 hK7 => ?_
    refine .reg ?_
    simp
    refine hK7 _ ?_
    clear hK7 K7
    refine .seqj (fun hh => hh) (fun ee => [(8, bo (decide (stepE g k o ≠ 8)))]) (fun K8 hK8 => ?_) ?_
    · refine .seqk fun K9 hK9 => ?_
      refine .reg ?_
      simp
      refine hK9 _ ?_
      clear hK9 K9
      refine .keep [3, 4, 5, 41, 65, 66, 67, 68, 69, 70, 71, 72, 73, 74, 75, 76, 77, 78, 79, 80, 81, 82, 83] ?_
      simp only [keepE, E_cons, E_nil, reduceIte, Nat.reduceEqDiff]
      refine .condk _ rfl (fun hc3 => ?_) (fun hc3 => ?_)
      · simp at hc3
        have hin : inI o.el g.nodes.length = true := by simp [lenK, hc3] at hlt; simp [inI, h0, hlt]
        obtain ⟨_, a, ha, hea⟩ := Kn.get hf hin
        refine .reg ?_
        simp [ha, h0]
        refine hK8 _ (Wk.cov ?_ (.refl _))
        first | (cases a <;> simp [stepE, hc3, hin, hea]) | simp
      · simp at hc3
        have hk2 : o.kind = 2 ∨ o.kind = 3 := by omega
        have hle : o.el < g.edges.length := by simpa [lenK, hc3] using hlt
        have hin : inI o.el g.edges.length = true := by simp [inI, h0, hle]
        obtain ⟨x, hx⟩ : ∃ x, g.edges[o.el.toNat]? = some x := ⟨g.edges[o.el.toNat]'(by omega), by simp⟩
        obtain ⟨e, he⟩ : ∃ e, k.es[o.el.toNat]? = some e := ⟨k.es[o.el.toNat]'(by rw [hf.2]; omega), by simp⟩
        obtain ⟨i1, i2⟩ := gErr_edge hv (List.mem_of_getElem? hx)
        obtain ⟨hs0, a, ha, hea⟩ := Kn.get hf i1
        obtain ⟨ht0, b, hb, heb⟩ := Kn.get hf i2
        refine .seqk fun K10 hK10 => ?_
        refine .reg ?_
        refine Sq.cutk 5 fun K11 hK11 => ?_
        simp only [List.take_succ_cons, List.take_zero, List.drop_succ_cons, List.drop_zero]
        simp
        refine PCall.sq (p181 g k o.el x a b h0 hx hs0 ht0 ha hb) fun h1 he1 => ?_
        simp only [mergeH_eq he1]
        clear he1 h1
        refine hK11 _ ?_
        clear hK11 K11
        simp
        refine hK10 _ ?_
        clear hK10 K10
        refine .keep [4, 5, 9, 10, 65, 66, 67, 68, 69, 70, 71, 72, 73, 74, 75, 76, 77, 78, 79, 80, 81, 82, 83] ?_
        simp only [keepE, E_cons, E_nil, reduceIte, Nat.reduceEqDiff]
        refine .regv (fun hh => hh) (fun ee => [(8, bo (decide (stepE g k o ≠ 8)))]) ?_ (fun s hs => ?_)
        · rcases hk2 with h2 | h2 <;> cases a <;> cases b <;> cases e <;> simp (maxSteps := 1000000) [stepE, hin, hx, he, hea, heb, h0, h2]
        refine hK8 _ (hs.trans (Wk.cov ?_ (.refl _)))
        first | (cases a <;> simp [stepE, hc3, hin, hea]) | simp
    try simp only [E_cons, E_nil, reduceIte, Nat.reduceEqDiff]
    refine .seqk fun K12 hK12 => ?_
    refine .seqk fun K13 hK13 => ?_
    refine .reg ?_
    simp
    refine hK13 _ ?_
    clear hK13 K13
    refine .condk _ rfl (fun hc4 => ?_) (fun hc4 => ?_)
    · simp at hc4
      refine .seqk fun K14 hK14 => ?_
      refine .reg ?_
      simp
      refine hK14 _ ?_
      clear hK14 K14
      refine .ret ?_
      -- leaf 2
      refine ret_d (.inr rfl) rfl (.refl _) rfl (by first | exact OutEq.outer _ | assumption | (simp; done) | (simp; assumption)) ?_
      simp [hc4]
    · simp at hc4
      refine .skip ?_
      refine hK12 _ ?_
      clear hK12 K12
      refine .seqk fun K15 hK15 => ?_
      refine .reg ?_
      simp
      refine hK15 _ ?_
      clear hK15 K15
      refine .ret ?_
      -- leaf 3
      refine ret_d (.inr rfl) rfl (.refl _) rfl (by first | exact OutEq.outer _ | assumption | (simp; done) | (simp; assumption)) ?_
      rcases stepE_in (k := k) hc2 with h1 | h1
      · simp [h1]
      · exact absurd h1 hc4
end Go.Abs
set_option linter.unusedVariables false
set_option linter.unusedSimpArgs false
namespace Go.Abs
open Go Go.Proofs

theorem Dn.mono {P : Program} : ∀ {als : List Alt} {ops : List GOp} {s : St} {K K' : St → List Fp → Prop}, Dn P als ops s K → (∀ s fs, K s fs → K' s fs) → Dn P als ops s K'
  | als, [], s, K, K', h, hk => hk s [] h
  | als, o :: ops, s, K, K', h, hk => by
    unfold Dn at h ⊢
    split
    · rename_i hg; rw [hg] at h; exact Dn.mono h (fun s fs => hk s _)
    · rename_i hg
      rw [hg] at h
      simp only at h
      split
      · rename_i hc
        rw [hc] at h
        simp only at h
        split
        · rename_i f args hf
          rw [hf] at h
          obtain ⟨pu, r, ws, h1, h2⟩ := h
          exact ⟨pu, r, ws, h1, Dn.mono h2 (fun s fs => hk s _)⟩
        · rename_i hf; rw [hf] at h; exact h
      · rename_i hc
        rw [hc] at h
        simp only at h
        split
        · rename_i e he
          rw [he] at h
          simp only at h
          split
          · rename_i v ws rd halt
            rw [halt] at h
            exact ⟨h.1, Dn.mono h.2 (fun s fs => hk s _)⟩
          · rename_i halt; rw [halt] at h; exact h
        · rename_i he; rw [he] at h; exact h
    · rename_i hg; rw [hg] at h; exact h
theorem AW.seqdregnx {α : Type} {P : Program} {N : Nat} {c : ACode} {Q : AX → St → Prop} {e : Env} {h : Heap} {ops : List GOp} {un : List (Nat × Nat)} (hm : P.follows .mixedOrders = true) (als : List Alt) (pre : α → Prop) (h' : α → Heap → Heap) (l : α → Env → List (Nat × AV))
    (ho : Dn P als ops ⟨e, h⟩ fun s fs => conf un fs = true ∧ ∃ x, pre x ∧ Cov (l x e) s.env ∧ Dies s.h (h' x h)) (hw : ∀ x, pre x → AW P N c Q ⟨E (l x e), h' x h⟩) : AW P N (.seq (.dreg ops un) c) Q ⟨e, h⟩ :=
  .seq (.dregn hm als (ho.mono fun s fs ⟨h0, x, h1, h2, h3⟩ => ⟨h0, .weak (Wk.cov (env := s.env) (h := s.h) h2 h3) (hw x h1)⟩))
theorem rep_dl (n : Nat) : dl (List.replicate n [D.bool false]) = List.replicate n [.d (.bool false)] := by simp [dl]
theorem ret_m {rs : List Res} {e : AX} {s : St} {Q : AV → Heap → Prop} {r : AV} (he : e = .normal ∨ e = .ret) (hv : resA s rs = some r) (hr : outOnly r = true) (hq : Q r s.h) : Ret rs Q e s := by
  rcases he with rfl | rfl <;> exact ⟨r, r, hv, .refl _, hr, hq⟩
def K1 : Nat := 1000001
def K2 : Nat := 1000002
theorem p130 (g : Graph) (hn : g.nodes.length ≤ 1000) (he : g.edges.length ≤ 1000) : PCall Tryz.prog 130 [ag (Graph.c g)] (ag (Kn.c (freshK g))) := by
  intro h
  refine ACall.of b130 (by simp) ?_
  unfold c130
  refine .seqk fun K1 hK1 => ?_
  refine .reg ?_
  simp
  refine hK1 _ ?_
  clear hK1 K1
  refine .keep [1, 2] ?_
  simp only [keepE, E_cons, E_nil, reduceIte, Nat.reduceEqDiff]
  refine .see (upd (upd _ 1 ⟨_, none⟩) 2 _) [(1, .dptr (Graph.c g)), (2, .ptr 2 _ 0 0)] ⟨T.box (k := 2) (cs := Graph.c g) (by simp [upd]) (by simp [upd]), .refl _, trivial⟩ (Dies.up (Dies.up (Dies.refl _) (.inr ⟨rfl, Nat.le_refl _⟩)) (.inl rfl)) ?_
  refine .seqdreg mixed (fun hh => upd (upd (upd hh 6 ⟨(outer h 6).ver + 1, some ⟨1, dl ((List.replicate g.nodes.length false).map Bo.c)⟩⟩) 10 ⟨(outer h 10).ver + 1, some ⟨1, dl ((List.replicate g.edges.length false).map Bo.c)⟩⟩) 2 ⟨(outer h 2).ver + 1, some ⟨2, [[.sl 6 ((outer h 6).ver + 1) 0 g.nodes.length g.nodes.length, .sl 10 ((outer h 10).ver + 1) 0 g.edges.length g.edges.length]]⟩⟩) (fun ee => [(2, ee 2)]) ?_ ?_
  · have w1 : IntKind.i64.wrap (g.nodes.length : Int) = g.nodes.length := wrapN (by omega)
    have w2 : IntKind.i64.wrap (g.edges.length : Int) = g.edges.length := wrapN (by omega)
    have q1 : g.nodes.length ≤ 140737488355328 := by omega
    have q2 : g.edges.length ≤ 140737488355328 := by omega
    have q3 : (g.nodes.length : Int) ≤ 140737488355328 := by omega
    have q4 : (g.edges.length : Int) ≤ 140737488355328 := by omega
    simp [q1, q2, q3, q4, upd, rep_dl, srcOf]
  try simp only [E_cons, E_nil, reduceIte, Nat.reduceEqDiff]
  refine .ret ?_
  -- leaf 1
  refine ret_d (v := .agg [.sl 6 ((outer h 6).ver + 1) 0 g.nodes.length g.nodes.length, .sl 10 ((outer h 10).ver + 1) 0 g.edges.length g.edges.length]) (.inr rfl) ?_ (T.agg2 (T.row (xs := (List.replicate g.nodes.length false).map Bo.c) (k := 1) (by simp) (by simp [upd]) (by simp)) (T.row (xs := (List.replicate g.edges.length false).map Bo.c) (k := 1) (by simp) (by simp [upd]) (by simp))) rfl (by first | exact OutEq.outer _ | assumption | (simp; done) | (simp; assumption)) rfl
  simp [upd]
theorem p180 (k : Kn) (h : Heap) (hn : k.ns.length ≤ 1000) (he : k.es.length ≤ 1000) (d1 : (h 1000001).live = none) (d2 : (h 1000002).live = none) : ACall Tryz.prog 180 [ag (Kn.c k)] h fun r h' => ∃ v1 v2 c1 c2, r = .agg [.sl 1000001 v1 0 k.ns.length c1, .sl 1000002 v2 0 k.es.length c2] ∧ OutEq h' (upd (upd h 1000001 ⟨v1, some ⟨1, dl (k.ns.map Bo.c)⟩⟩) 1000002 ⟨v2, some ⟨1, dl (k.es.map Bo.c)⟩⟩) := by
  refine ACall.of b180 (by simp) ?_
  unfold c180
  have o1 : outer h 1000001 = h 1000001 := by simp [outer]
  have o2 : outer h 1000002 = h 1000002 := by simp [outer]
  refine .seqk fun K1 hK1 => ?_
  refine .reg ?_
  simp
  refine hK1 _ ?_
  clear hK1 K1
  refine .keep [1, 2] ?_
  simp only [keepE, E_cons, E_nil, reduceIte, Nat.reduceEqDiff]
  refine .see (upd (upd _ 1 ⟨_, none⟩) 2 _) [(1, .dptr (Kn.c k)), (2, .ptr 2 _ 0 0)] ⟨T.box (k := 2) (cs := Kn.c k) (by simp [upd]) (by simp [upd]), .refl _, trivial⟩ (Dies.up (Dies.up (Dies.refl _) (.inr ⟨rfl, Nat.le_refl _⟩)) (.inl rfl)) ?_
  refine .seqdregnx mixed [.named 1000001 ((h 1000001).ver + 1), .plain, .plain, .plain, .named 1000002 ((h 1000002).ver + 1)] (α := (Nat × Nat) × (Nat × Nat)) (fun x => True) (fun x hh => upd (upd (upd (upd (upd hh 3 ⟨(outer h 3).ver + 1, none⟩) 1000001 ⟨x.1.1, some ⟨1, dl (k.ns.map Bo.c)⟩⟩) 7 ⟨(outer h 7).ver + 1, none⟩) 1000002 ⟨x.2.1, some ⟨1, dl (k.es.map Bo.c)⟩⟩) 2 ⟨(outer h 2).ver + 1, some ⟨2, [[.sl 1000001 x.1.1 0 k.ns.length x.1.2, .sl 1000002 x.2.1 0 k.es.length x.2.2]]⟩⟩) (fun x ee => [(2, ee 2)]) ?_ (fun x hx => ?_)
  · have q2 : k.ns.length ≤ 17592186044416 := by omega
    have q4 : k.es.length ≤ 17592186044416 := by omega
    by_cases h1 : k.ns = [] <;> by_cases h2 : k.es = []
    · simp [h1, h2, upd, srcOf, o1, o2, d1, d2]
      exact ⟨_, _, _, _, .refl _⟩
    · simp [h1, h2, q4, upd, srcOf, o1, o2, d1, d2]
      exact ⟨_, _, _, _, .refl _⟩
    · simp [h1, h2, q2, upd, srcOf, o1, o2, d1, d2]
      exact ⟨_, _, _, _, .refl _⟩
    · simp [h1, h2, q2, q4, upd, srcOf, o1, o2, d1, d2]
      exact ⟨_, _, _, _, .refl _⟩
  try simp only [E_cons, E_nil, reduceIte, Nat.reduceEqDiff]
  refine .ret ?_
  -- leaf 1
  refine ret_m (.inr rfl) (r := .agg [.sl 1000001 x.1.1 0 k.ns.length x.1.2, .sl 1000002 x.2.1 0 k.es.length x.2.2]) (by simp [upd]) (by simp) ⟨_, _, _, _, rfl, ?_⟩
  intro b hb
  have hb1 : 1000000 ≤ b := hb
  have n1 : b ≠ 1 := by omega
  have n2 : b ≠ 2 := by omega
  have n3 : b ≠ 3 := by omega
  have n7 : b ≠ 7 := by omega
  simp [upd, outer, n1, n2, n3, n7, Nat.not_lt.2 hb1]
end Go.Abs
set_option linter.unusedVariables false
set_option linter.unusedSimpArgs false
namespace Go.Abs
open Go Go.Proofs

theorem mergeH_upd2 {h h1 : Heap} {B C : Nat} {x y : HB} (he : OutEq h1 (Go.Abs.upd (Go.Abs.upd h B x) C y)) (hB : lim ≤ B) (hC : lim ≤ C) : mergeH h h1 = Go.Abs.upd (Go.Abs.upd h B x) C y := by
  funext b
  simp only [mergeH]
  split
  · rename_i hb
    rw [upd_ne _ _ _ _ (by omega), upd_ne _ _ _ _ (by omega)]
  · rename_i hb
    exact he b (by omega)
theorem dl_setB (l : List Bool) (i : Nat) (b : Bool) : (dl (l.map Bo.c)).set i [.d (.bool b)] = dl ((l.set i b).map Bo.c) := by
  simp [dl, List.map_set]
theorem dl_getE (xs : List (List D)) (i : Nat) (hi : i < (dl xs).length) : (dl xs)[i] = (xs[i]'(by simpa using hi)).map .d := by simp [dl]
/-- What a call ends in, seen otherwise. -/
theorem ACall.see {P : Program} {f : FuncId} {args : List AV} {h : Heap} {Q Q' : AV → Heap → Prop} (hc : ACall P f args h Q) (hq : ∀ r h', Q r h' → ∃ r2 h2, Dies (outer h') (outer h2) ∧ T (outer h') (outer h2) some r r2 ∧ outOnly r2 = true ∧ OutOK h2 ∧ Q' r2 h2) : ACall P f args h Q' := by
  refine ⟨hc.1, fun w X ι vs h1 h0 h2 h3 => (hc.2 w X ι vs h1 h0 h2 h3).mono ?_⟩
  rintro e w' ⟨r, v, h', ι', q, rfl, q1, q2, q3, q4, q5⟩
  obtain ⟨r2, h2, hd, hT, ho, hok, hq'⟩ := hq r h' q
  have ht := HT.dies hd
  exact ⟨r2, v, h2, _, hq', rfl, HT.rel q1 ht, hok, ho, HT.vr q1 ht hT q4, q5.trans ht.evo⟩
theorem h00_at (b : Nat) : h00 b = ⟨0, none⟩ := rfl
def deadH (h : Heap) : Heap := fun b => ⟨(h b).ver, none⟩
theorem deadH_dies (h : Heap) : Dies (outer h) (outer (deadH h)) := fun b => .inr ⟨by simp only [outer, deadH]; split <;> rfl, by simp only [outer, deadH]; split <;> exact Nat.le_refl _⟩
theorem deadH_ok (h : Heap) : OutOK (deadH h) := fun b blk _ hl => by cases hl
theorem deadH_live (h : Heap) (b : Nat) : (outer (deadH h) b).live = none := by simp only [outer, deadH]; split <;> rfl
theorem frzK {h : Heap} {B v n c : Nat} {l : List Bool} (hB : lim ≤ B) (hl : h B = ⟨v, some ⟨1, dl (l.map Bo.c)⟩⟩) (hn : n = l.length) : T (outer h) (outer (deadH h)) some (.sl B v 0 n c) (.d (.slice (l.map Bo.c))) :=
  T.rowD (k := 1) (l.map Bo.c) (by simp only [outer, Nat.not_lt.2 hB, if_false]; exact hl) (deadH_live h B) (by simp [hn])
theorem stepE_0 {g : Graph} {k : Kn} {o : Oprn} (hf : k.fits g) (hv : gErr g = 0) (h : stepE g k o = 0) : 0 ≤ o.el ∧ ((o.kind = 1 ∧ o.el.toNat < k.ns.length) ∨ ((o.kind = 2 ∨ o.kind = 3) ∧ o.kind ≠ 1 ∧ ∃ x, g.edges[o.el.toNat]? = some x ∧ o.el.toNat < k.es.length ∧ 0 ≤ x.src ∧ 0 ≤ x.tgt ∧ x.src.toNat < k.ns.length ∧ x.tgt.toNat < k.ns.length)) := by
  have ho : outK g o = false := by
    cases hb : outK g o with
    | false => rfl
    | true => rw [stepE_out hb] at h; cases h
  obtain ⟨hk, h0, hl⟩ := outK_f ho
  unfold lenK at hl
  refine ⟨h0, ?_⟩
  by_cases h1 : o.kind = 1
  · rw [if_pos h1] at hl
    exact .inl ⟨h1, by rw [hf.1]; omega⟩
  · rw [if_neg h1] at hl
    refine .inr ⟨by omega, h1, g.edges[o.el.toNat]'(by omega), by simp, by rw [hf.2]; omega, ?_⟩
    obtain ⟨i1, i2⟩ := gErr_edge hv (List.getElem_mem (by omega : o.el.toNat < g.edges.length))
    simp only [inI, Bool.and_eq_true, decide_eq_true_eq] at i1 i2
    rw [hf.1]
    omega
set_option maxHeartbeats 4000000 in
theorem m131 (g : Graph) (k : Kn) (o : Oprn) (hf : k.fits g) (hv : gErr g = 0) (hs : stepE g k o = 0) : ACall Tryz.prog 131 [ag (Graph.c g), ag (Kn.c k), ag (Oprn.c o)] h00 fun r h' => ∃ v1 v2 c1 c2, r = .agg [.sl 1000001 v1 0 k.ns.length c1, .sl 1000002 v2 0 k.es.length c2] ∧ h' 1000001 = ⟨v1, some ⟨1, dl ((afterK g k o).ns.map Bo.c)⟩⟩ ∧ h' 1000002 = ⟨v2, some ⟨1, dl ((afterK g k o).es.map Bo.c)⟩⟩ := by
  refine ACall.of b131 (by simp) ?_
  unfold c131
  have hgl := gErr_len hv
  have hn : k.ns.length ≤ 1000 := by rw [hf.1]; omega
  have he : k.es.length ≤ 1000 := by rw [hf.2]; omega
  obtain ⟨h0, hcase⟩ := stepE_0 hf hv hs
  rw [outer_h00]
  refine .seqk fun K1 hK1 => ?_
  refine .reg ?_
  simp [h00_at, upd]
  refine hK1 _ ?_
  clear hK1 K1
  refine .keep [3, 4, 5, 6] ?_
  simp only [keepE, E_cons, E_nil, reduceIte, Nat.reduceEqDiff]
  refine .see (upd (upd (upd (upd _ 3 ⟨_, none⟩) 4 _) 5 ⟨_, none⟩) 6 _) [(3, .dptr (Graph.c g)), (4, .ptr 4 1 0 0), (5, .dptr (Oprn.c o)), (6, .ptr 6 1 0 0)] ⟨T.box (k := 2) (cs := Graph.c g) (by simp [upd]) (by simp [upd]), .refl _, T.box (k := 2) (cs := Oprn.c o) (by simp [upd]) (by simp [upd]), .refl _, trivial⟩ (Dies.up (Dies.up (Dies.up (Dies.up (Dies.refl _) (.inr ⟨rfl, Nat.le_refl _⟩)) (.inl rfl)) (.inr ⟨rfl, Nat.le_refl _⟩)) (.inl rfl)) ?_
  refine .seqk fun K2 hK2 => ?_
  refine .reg ?_
  refine Sq.cutk 2 fun K3 hK3 => ?_
  simp only [List.take_succ_cons, List.take_zero, List.drop_succ_cons, List.drop_zero]
  simp [upd]
  refine ACall.mono (p180 k _ hn he (by simp [upd, h00_at]) (by simp [upd, h00_at])) ?_
  rintro _ h1 ⟨v1, v2, c1, c2, rfl, he1⟩
  rw [mergeH_upd2 he1 (by decide) (by decide)]
  clear he1 h1
  refine hK3 _ ?_
  clear hK3 K3
  simp [upd]
  refine hK2 _ ?_
  clear hK2 K2
  refine .keep [3, 4, 5, 6] ?_
  simp only [keepE, E_cons, E_nil, reduceIte, Nat.reduceEqDiff]
  refine .seqk fun K4 hK4 => ?_
  refine .seqk fun K5 hK5 => ?_
  refine .reg ?_
  simp
  refine hK5 _ ?_
  clear hK5 K5
  refine .keep [3, 4, 5, 6, 11] ?_
  simp only [keepE, E_cons, E_nil, reduceIte, Nat.reduceEqDiff]
  refine .condk _ rfl (fun hc1 => ?_) (fun hc1 => ?_)
  · simp at hc1
    obtain hlt : o.el.toNat < k.ns.length := by
      rcases hcase with ⟨_, hlt⟩ | ⟨_, hne, _⟩
      · exact hlt
      · exact absurd hc1 hne
    obtain ⟨a, ha⟩ : ∃ a, k.ns[o.el.toNat]? = some a := ⟨_, List.getElem?_eq_getElem hlt⟩
    have hi : o.el < (k.ns.length : Int) := by omega
    refine .seqk fun K6 hK6 => ?_
    refine .reg ?_
    simp [h0, hi, ha, dl_setB, dl_getE, upd, -List.map_set]
    refine hK6 _ ?_
    clear hK6 K6
    refine .keep [4, 6] ?_
    simp only [keepE, E_cons, E_nil, reduceIte, Nat.reduceEqDiff]
    refine .seqk fun K7 hK7 => ?_
    refine .reg ?_
    simp [upd]
    refine hK7 _ ?_
    clear hK7 K7
    refine .ret ?_
    -- leaf 1
    try simp only [then']
    refine ret_m (.inr rfl) (r := .agg [.sl 1000001 v1 0 k.ns.length c1, .sl 1000002 v2 0 k.es.length c2]) ?_ (by simp) ?_
    · simp [upd]
    · refine ⟨v1, v2, c1, c2, rfl, ?_, ?_⟩ <;> simp [upd, afterK, hc1]
  · simp at hc1
    obtain ⟨x, hx, hel, s0, t0, hsl, htl⟩ : ∃ x, g.edges[o.el.toNat]? = some x ∧ o.el.toNat < k.es.length ∧ 0 ≤ x.src ∧ 0 ≤ x.tgt ∧ x.src.toNat < k.ns.length ∧ x.tgt.toNat < k.ns.length := by
      rcases hcase with ⟨h1, _⟩ | ⟨_, _, h2⟩
      · exact absurd h1 hc1
      · exact h2
    obtain ⟨c, hc⟩ : ∃ c, k.es[o.el.toNat]? = some c := ⟨_, List.getElem?_eq_getElem hel⟩
    obtain ⟨a, ha⟩ : ∃ a, k.ns[x.src.toNat]? = some a := ⟨_, List.getElem?_eq_getElem hsl⟩
    obtain ⟨b, hb⟩ : ∃ b, (k.ns.set x.src.toNat true)[x.tgt.toNat]? = some b := ⟨_, List.getElem?_eq_getElem (by simpa using htl)⟩
    have hi : o.el < (k.es.length : Int) := by omega
    have hi2 : x.src < (k.ns.length : Int) := by omega
    have hi3 : x.tgt < (k.ns.length : Int) := by omega
    refine .skip ?_
    refine hK4 _ ?_
    clear hK4 K4
    refine .seqk fun K8 hK8 => ?_
    refine .reg ?_
    simp [h0, hi, hc, dl_setB, dl_getE, upd, -List.map_set]
    refine hK8 _ ?_
    clear hK8 K8
    refine .keep [3, 4, 5, 6] ?_
    simp only [keepE, E_cons, E_nil, reduceIte, Nat.reduceEqDiff]
    refine .seqk fun K9 hK9 => ?_
    refine .dreg mixed ?_
    simp [h0, hx, s0, t0, hi2, hi3, ha, hb, dl_setB, dl_getE, upd, -List.map_set]
    refine hK9 _ ?_
    clear hK9 K9
    refine .keep [4, 6] ?_
    simp only [keepE, E_cons, E_nil, reduceIte, Nat.reduceEqDiff]
    refine .seqk fun K10 hK10 => ?_
    refine .reg ?_
    simp [upd]
    refine hK10 _ ?_
    clear hK10 K10
    refine .ret ?_
    -- leaf 2
    try simp only [then']
    refine ret_m (.inr rfl) (r := .agg [.sl 1000001 v1 0 k.ns.length c1, .sl 1000002 v2 0 k.es.length c2]) ?_ (by simp) ?_
    · simp [upd]
    · refine ⟨v1, v2, c1, c2, rfl, ?_, ?_⟩ <;> simp [upd, afterK, hc1, hx]

theorem p131 (g : Graph) (k : Kn) (o : Oprn) (hf : k.fits g) (hv : gErr g = 0) (hs : stepE g k o = 0) : PCall Tryz.prog 131 [ag (Graph.c g), ag (Kn.c k), ag (Oprn.c o)] (ag (Kn.c (afterK g k o))) := by
  refine PCall.frame rfl rfl ((m131 g k o hf hv hs).see ?_)
  rintro _ h' ⟨v1, v2, c1, c2, rfl, e1, e2⟩
  have hl := afterK_fits hf o
  exact ⟨_, deadH h', deadH_dies h', T.agg2 (frzK (by decide) e1 (by rw [hl.1, hf.1])) (frzK (by decide) e2 (by rw [hl.2, hf.2])), rfl, deadH_ok h', rfl⟩
end Go.Abs
set_option linter.unusedVariables false
set_option linter.unusedSimpArgs false
namespace Go.Abs
open Go Go.Proofs

theorem all_dropT {l : List Bool} {i : Nat} (hx : l[i]? = some true) : (l.drop (i + 1)).all id = (l.drop i).all id := by
  rw [drop_cons hx]; simp
theorem all_dropF {l : List Bool} {i : Nat} (hx : l[i]? = some false) : l.all id = false := by
  rw [Bool.eq_false_iff]
  intro h
  have := List.all_eq_true.1 h false (List.mem_of_getElem? hx)
  cases this
theorem p157 (k : Kn) (hn : k.ns.length ≤ 1000) (he : k.es.length ≤ 1000) : PCall Tryz.prog 157 [ag (Kn.c k)] (bo (allK k)) := by
  intro h
  refine ACall.of b157 (by simp) ?_
  unfold c157
  refine .seqk fun K1 hK1 => ?_
  refine .reg ?_
  simp
  refine hK1 _ ?_
  clear hK1 K1
  refine .keep [1] ?_
  simp only [keepE, E_cons, E_nil, reduceIte, Nat.reduceEqDiff]
  refine .see (upd _ 1 ⟨_, none⟩) [(1, .dptr (Kn.c k))] ⟨T.box (k := 2) (cs := Kn.c k) (by simp [upd]) (by simp [upd]), trivial⟩ (Dies.up (Dies.refl _) (.inr ⟨rfl, Nat.le_refl _⟩)) ?_
  refine .seqk fun K2 hK2 => ?_
  refine .seqk fun K3 hK3 => ?_
  refine .reg ?_
  simp
  refine hK3 _ ?_
  clear hK3 K3
  refine .block ?_
  refine .count k.ns.length (fun i st => (k.ns.drop i).all id = k.ns.all id ∧ ∃ hh, OutEq hh h ∧ st = ⟨E [(3, int i), (1, .dptr (Kn.c k))], hh⟩) 0 (Nat.zero_le _) _ (.cov (h' := upd (outer h) 1 ⟨_, none⟩) (by simp) (.refl _)) ⟨by simp, _, by simp, rfl⟩ ?_
  rintro i s hi1 ⟨hp, hh, hho, rfl⟩ K4 hK4
  refine .seqk fun K5 hK5 => ?_
  refine .seqk fun K6 hK6 => ?_
  refine .reg ?_
  simp
  refine hK6 _ ?_
  clear hK6 K6
  refine .keep [1, 3, 9] ?_
  simp only [keepE, E_cons, E_nil, reduceIte, Nat.reduceEqDiff]
  refine .condk _ rfl (fun hc1 => ?_) (fun hc1 => ?_)
  · simp at hc1
    obtain ⟨x, hx⟩ := get_some hc1
    refine .skip ?_
    refine hK5 _ ?_
    clear hK5 K5
    refine .seqk fun K7 hK7 => ?_
    refine .block ?_
    refine .seqk fun K8 hK8 => ?_
    refine .reg ?_
    simp [hx]
    refine hK8 _ ?_
    clear hK8 K8
    refine .keep [1, 3, 17] ?_
    simp only [keepE, E_cons, E_nil, reduceIte, Nat.reduceEqDiff]
    refine .condk _ rfl (fun hc2 => ?_) (fun hc2 => ?_)
    · skip
      refine .seqk fun K9 hK9 => ?_
      refine .reg ?_
      simp
      refine hK9 _ ?_
      clear hK9 K9
      refine .ret ?_
      -- leaf 1
      refine ret_d (.inr rfl) rfl (.refl _) rfl (by first | exact OutEq.outer _ | assumption | (simp; done) | (simp; assumption)) ?_
      have ht : x = false := by simpa using hc2
      subst ht
      simp [allK, all_dropF hx]
    · skip
      refine .skip ?_
      refine hK7 _ ?_
      clear hK7 K7
      refine .reg ?_
      simp
      -- loop back, leaf 2
      refine hK4 _ _ (by omega) (Wk.cov ?_ (.refl _)) ⟨?_, _, hho, rfl⟩
      · simp; exact wrap64 (by omega) (by omega)
      · have ht : x = true := by simpa using hc2
        subst ht
        rw [all_dropT hx]; exact hp
  · simp at hc1
    have hi : i = k.ns.length := by omega
    have hnn : k.ns.all id = true := by rw [← hp, hi]; simp
    refine .exit ?_
    try simp only [then', inBlk, if_true, if_false, reduceIte, Nat.reduceEqDiff]
    refine hK2 _ ?_
    clear hK5 hK4 hK2 K5 K4 K2
    refine .seqk fun K10 hK10 => ?_
    refine .seqk fun K11 hK11 => ?_
    refine .reg ?_
    simp
    refine hK11 _ ?_
    clear hK11 K11
    refine .block ?_
    refine .count k.es.length (fun i st => (k.es.drop i).all id = k.es.all id ∧ ∃ hh, OutEq hh h ∧ st = ⟨E [(4, int i), (1, .dptr (Kn.c k))], hh⟩) 0 (Nat.zero_le _) _ (.cov (h' := hh) (by simp) (.refl _)) ⟨by simp, _, hho, rfl⟩ ?_
    rintro i s hi2 ⟨hq, hh2, hho2, rfl⟩ K12 hK12
    refine .seqk fun K13 hK13 => ?_
    refine .seqk fun K14 hK14 => ?_
    refine .reg ?_
    simp
    refine hK14 _ ?_
    clear hK14 K14
    refine .keep [1, 4, 22] ?_
    simp only [keepE, E_cons, E_nil, reduceIte, Nat.reduceEqDiff]
    refine .condk _ rfl (fun hc3 => ?_) (fun hc3 => ?_)
    · simp at hc3
      obtain ⟨x, hx⟩ := get_some hc3
      refine .skip ?_
      refine hK13 _ ?_
      clear hK13 K13
      refine .seqk fun K15 hK15 => ?_
      refine .block ?_
      refine .seqk fun K16 hK16 => ?_
      refine .reg ?_
      simp [hx]
      refine hK16 _ ?_
      clear hK16 K16
      refine .keep [1, 4, 30] ?_
      simp only [keepE, E_cons, E_nil, reduceIte, Nat.reduceEqDiff]
      refine .condk _ rfl (fun hc4 => ?_) (fun hc4 => ?_)
      · skip
        refine .seqk fun K17 hK17 => ?_
        refine .reg ?_
        simp
        refine hK17 _ ?_
        clear hK17 K17
        refine .ret ?_
        -- leaf 3
        refine ret_d (.inr rfl) rfl (.refl _) rfl (by first | exact OutEq.outer _ | assumption | (simp; done) | (simp; assumption)) ?_
        have ht : x = false := by simpa using hc4
        subst ht
        simp [allK, all_dropF hx]
      · skip
        refine .skip ?_
        refine hK15 _ ?_
        clear hK15 K15
        refine .reg ?_
        simp
        -- loop back, leaf 4
        refine hK12 _ _ (by omega) (Wk.cov ?_ (.refl _)) ⟨?_, _, hho2, rfl⟩
        · simp; exact wrap64 (by omega) (by omega)
        · have ht : x = true := by simpa using hc4
          subst ht
          rw [all_dropT hx]; exact hq
    · simp at hc3
      have hi : i = k.es.length := by omega
      have hee : k.es.all id = true := by rw [← hq, hi]; simp
      refine .exit ?_
      try simp only [then', inBlk, if_true, if_false, reduceIte, Nat.reduceEqDiff]
      refine hK10 _ ?_
      clear hK13 hK12 hK10 K13 K12 K10
      refine .seqk fun K18 hK18 => ?_
      refine .reg ?_
      simp
      refine hK18 _ ?_
      clear hK18 K18
      refine .ret ?_
      -- leaf 5
      refine ret_d (.inr rfl) rfl (.refl _) rfl (by first | exact OutEq.outer _ | assumption | (simp; done) | (simp; assumption)) ?_
      simp [allK, hnn, hee]
theorem p98 (g : Graph) (l : List Oprn) (hv : gErr g = 0) (hm : l.length ≤ 9223372036854775807) : PCall Tryz.prog 98 [ag (Graph.c g), sl (l.map Oprn.c)] (int (planE g (freshK g) l)) := by
  intro h
  refine ACall.of b98 (by simp) ?_
  unfold c98
  have hgl := gErr_len hv
  refine .seqk fun K1 hK1 => ?_
  refine .reg ?_
  simp
  refine hK1 _ ?_
  clear hK1 K1
  refine .keep [1, 2] ?_
  simp only [keepE, E_cons, E_nil, reduceIte, Nat.reduceEqDiff]
  refine .see (upd _ 2 ⟨_, none⟩) [(1, sl (l.map Oprn.c)), (2, .dptr (Graph.c g))] ⟨.refl _, T.box (k := 2) (cs := Graph.c g) (by simp [upd]) (by simp [upd]), trivial⟩ (Dies.up (Dies.refl _) (.inr ⟨rfl, Nat.le_refl _⟩)) ?_
  refine .seqk fun K2 hK2 => ?_
  refine .reg ?_
  refine Sq.cutk 2 fun K3 hK3 => ?_
  simp only [List.take_succ_cons, List.take_zero, List.drop_succ_cons, List.drop_zero]
  simp
  refine PCall.sq (p130 g (by omega) (by omega)) fun h1 he1 => ?_
  simp only [mergeH_eq he1]
  clear he1 h1
  refine hK3 _ ?_
  clear hK3 K3
  simp
  refine hK2 _ ?_
  clear hK2 K2
  refine .keep [1, 2, 5] ?_
  simp only [keepE, E_cons, E_nil, reduceIte, Nat.reduceEqDiff]
  refine .seqk fun K4 hK4 => ?_
  refine .seqk fun K5 hK5 => ?_
  refine .reg ?_
  simp
  refine hK5 _ ?_
  clear hK5 K5
  refine .block ?_
  refine .count l.length (fun i st => ∃ k v hh, k.fits g ∧ planE g k (l.drop i) = planE g (freshK g) l ∧ OutEq hh h ∧ hh 5 = ⟨v, some ⟨2, [(Kn.c k).map .d]⟩⟩ ∧ st = ⟨E [(6, int i), (1, sl (l.map Oprn.c)), (2, .dptr (Graph.c g)), (5, .ptr 5 v 0 0)], hh⟩) 0 (Nat.zero_le _) _ (.cov (by simp; rfl) (.refl _)) ⟨freshK g, _, _, freshK_fits g, by simp, by simp, by simp [upd], rfl⟩ ?_
  rintro i s hi1 ⟨k, v, hh, hf, hp, hho, h5, rfl⟩ K6 hK6
  refine .seqk fun K7 hK7 => ?_
  refine .seqk fun K8 hK8 => ?_
  refine .reg ?_
  simp
  refine hK8 _ ?_
  clear hK8 K8
  refine .keep [1, 2, 5, 6, 13] ?_
  simp only [keepE, E_cons, E_nil, reduceIte, Nat.reduceEqDiff]
  refine .condk _ rfl (fun hc1 => ?_) (fun hc1 => ?_)
  · simp at hc1
    obtain ⟨x, hx⟩ := get_some hc1
    refine .skip ?_
    refine hK7 _ ?_
    clear hK7 K7
    refine .seqk fun K9 hK9 => ?_
    refine .block ?_
    refine .seqk fun K10 hK10 => ?_
    refine .seqk fun K11 hK11 => ?_
    refine .dreg mixed ?_
    refine Dr.cutk 7 fun K12 hK12 => ?_
    simp only [List.take_succ_cons, List.take_zero, List.drop_succ_cons, List.drop_zero]
    simp [-Bool.exists_bool, hx, getBlk, h5]
    refine Dr.pcall (p132 g k x hf hv) ?_
    refine hK12 _ _ ?_
    clear hK12 K12
    try simp [-Bool.exists_bool, hx, getBlk, h5]
    refine hK11 _ ?_
    clear hK11 K11
    refine .keep [1, 2, 5, 6, 7] ?_
    simp only [keepE, E_cons, E_nil, reduceIte, Nat.reduceEqDiff]
    refine .seqk fun K13 hK13 => ?_
    refine .reg ?_
    simp
    refine hK13 _ ?_
    clear hK13 K13
    refine .condk _ rfl (fun hc2 => ?_) (fun hc2 => ?_)
    · simp at hc2
      refine .seqk fun K14 hK14 => ?_
      refine .reg ?_
      simp
      refine hK14 _ ?_
      clear hK14 K14
      refine .ret ?_
      -- leaf 1
      refine ret_d (.inr rfl) rfl (.refl _) rfl (by first | exact OutEq.outer _ | assumption | (simp; done) | (simp; assumption)) ?_
      rw [← hp, drop_cons hx]; simp [planE, hc2]
    · simp at hc2
      refine .skip ?_
      refine hK10 _ ?_
      clear hK10 K10
      refine .dreg mixed ?_
      refine Dr.cutk 7 fun K15 hK15 => ?_
      simp only [List.take_succ_cons, List.take_zero, List.drop_succ_cons, List.drop_zero]
      simp [-Bool.exists_bool, hx, getBlk, h5]
      refine Dr.pcall (p131 g k x hf hv hc2) ?_
      refine hK15 _ _ ?_
      clear hK15 K15
      try simp [-Bool.exists_bool, hx, getBlk, h5]
      refine hK9 _ ?_
      clear hK9 K9
      refine .keep [1, 2, 5, 6] ?_
      simp only [keepE, E_cons, E_nil, reduceIte, Nat.reduceEqDiff]
      refine .reg ?_
      simp
      -- loop back, leaf 2
      refine hK6 _ _ (by omega) (Wk.cov ?_ (.refl _)) ⟨afterK g k x, v, upd hh 5 ⟨v, some ⟨2, [(Kn.c (afterK g k x)).map .d]⟩⟩, afterK_fits hf x, ?_, by simp [hho], by simp [upd], rfl⟩
      · simp; exact wrap64 (by omega) (by omega)
      · rw [← hp, drop_cons hx]; simp [planE, hc2]
  · simp at hc1
    have hi : i = l.length := by omega
    have hpe : planE g (freshK g) l = if allK k then 0 else 20 := by rw [← hp, hi]; simp [planE]
    refine .exit ?_
    try simp only [then', inBlk, if_true, if_false, reduceIte, Nat.reduceEqDiff]
    refine hK4 _ ?_
    clear hK7 hK6 hK4 K7 K6 K4
    refine .seqk fun K16 hK16 => ?_
    refine .seqk fun K17 hK17 => ?_
    refine .reg ?_
    refine Sq.cutk 2 fun K18 hK18 => ?_
    simp only [List.take_succ_cons, List.take_zero, List.drop_succ_cons, List.drop_zero]
    simp [getBlk, h5]
    refine PCall.sq (p157 k (by rw [hf.1]; omega) (by rw [hf.2]; omega)) fun h1 he1 => ?_
    simp only [mergeH_eq he1]
    clear he1 h1
    refine hK18 _ ?_
    clear hK18 K18
    simp [getBlk, h5]
    refine hK17 _ ?_
    clear hK17 K17
    refine .keep [35] ?_
    simp only [keepE, E_cons, E_nil, reduceIte, Nat.reduceEqDiff]
    refine .condk _ rfl (fun hc3 => ?_) (fun hc3 => ?_)
    · simp at hc3
      refine .seqk fun K19 hK19 => ?_
      refine .reg ?_
      simp
      refine hK19 _ ?_
      clear hK19 K19
      refine .ret ?_
      -- leaf 3
      refine ret_d (.inr rfl) rfl (.refl _) rfl (by first | exact OutEq.outer _ | assumption | (simp; done) | (simp; assumption)) ?_
      simp [hpe, hc3]
    · simp at hc3
      refine .skip ?_
      refine hK16 _ ?_
      clear hK16 K16
      refine .seqk fun K20 hK20 => ?_
      refine .reg ?_
      simp
      refine hK20 _ ?_
      clear hK20 K20
      refine .ret ?_
      -- leaf 4
      refine ret_d (.inr rfl) rfl (.refl _) rfl (by first | exact OutEq.outer _ | assumption | (simp; done) | (simp; assumption)) ?_
      simp [hpe, hc3]
end Go.Abs
set_option linter.unusedVariables false
set_option linter.unusedSimpArgs false
namespace Go.Abs
open Go Go.Proofs

def eqO (l m : List Oprn) : Bool := eqBy (fun x y => decide (x = y)) l m
theorem eqO_refl : ∀ l : List Oprn, eqO l l = true
  | [] => rfl
  | x :: l => by simp only [eqO, eqBy, decide_true, Bool.true_and]; exact eqO_refl l
def pre1 (i : Nat) : List Oprn := (List.range i).map fun (j : Nat) => ⟨1, (j : Int)⟩
def pre3 (n i : Nat) : List Oprn := pre1 n ++ (List.range i).map fun (j : Nat) => ⟨3, (j : Int)⟩
theorem pre1_len (i : Nat) : (pre1 i).length = i := by simp [pre1]
theorem pre3_len (n i : Nat) : (pre3 n i).length = n + i := by simp [pre3, pre1_len]
theorem pre1_s (i : Nat) : (pre1 (i + 1)).map Oprn.c = (pre1 i).map Oprn.c ++ [[.int .i64 1, .int .i64 (i : Int)]] := by simp [pre1, List.range_succ]
theorem pre3_s (n i : Nat) : (pre3 n (i + 1)).map Oprn.c = (pre3 n i).map Oprn.c ++ [[.int .i64 3, .int .i64 (i : Int)]] := by simp [pre3, List.range_succ]
theorem pre3_0 (n : Nat) : pre3 n 0 = pre1 n := by simp [pre3]
theorem plain_eq (g : Graph) : plainL g = pre3 g.nodes.length g.edges.length := rfl
def plainR (g : Graph) : List Oprn × Int := if gErr g ≠ 0 then ([], gErr g) else (plainL g, 0)
theorem take_dl (l : List Oprn) (n : Nat) (h : n = l.length) : (dl (l.map Oprn.c)).take n = dl (l.map Oprn.c) := List.take_of_length_le (by simp [h])
theorem dl_snoc (xs : List (List D)) (x : List D) : dl (xs ++ [x]) = dl xs ++ [x.map .d] := by simp [dl]
theorem AW.nil1 {P : Program} {N : Nat} {c : ACode} {Q : AX → St → Prop} {l l' : List (Nat × AV)} {h : Heap} (b k : Nat) (hb : (h b).live = none) (hlt : b < lim) (hk : 0 < k) (he : ∀ t, E l' t = E l t ∨ (E l t = .d .nil ∧ E l' t = .sl b ((h b).ver + 1) 0 0 0)) (hw : AW P N c Q ⟨E l', upd h b ⟨(h b).ver + 1, some ⟨k, []⟩⟩⟩) : AW P N c Q ⟨E l, h⟩ :=
  .weak (Wk.nil b k ((h b).ver + 1) hb hlt hk (Nat.lt_succ_self _) he) hw
theorem p45 (g : Graph) (l : List Oprn) (hm : l.length ≤ 9223372036854775807) : PCall Tryz.prog 45 [ag (Graph.c g), sl (l.map Oprn.c)] (int (planV g l)) := by
  intro h
  refine ACall.of b45 (by simp) ?_
  unfold c45
  refine .seqk fun K1 hK1 => ?_
  refine .reg ?_
  simp
  refine hK1 _ ?_
  clear hK1 K1
  refine .keep [1, 2] ?_
  simp only [keepE, E_cons, E_nil, reduceIte, Nat.reduceEqDiff]
  refine .see (upd _ 2 ⟨_, none⟩) [(1, sl (l.map Oprn.c)), (2, .dptr (Graph.c g))] ⟨.refl _, T.box (k := 2) (cs := Graph.c g) (by simp [upd]) (by simp [upd]), trivial⟩ (Dies.up (Dies.refl _) (.inr ⟨rfl, Nat.le_refl _⟩)) ?_
  refine .seqk fun K2 hK2 => ?_
  refine .seqk fun K3 hK3 => ?_
  refine .reg ?_
  refine Sq.cutk 2 fun K4 hK4 => ?_
  simp only [List.take_succ_cons, List.take_zero, List.drop_succ_cons, List.drop_zero]
  simp
  refine PCall.sq (p97 g) fun h1 he1 => ?_
  simp only [mergeH_eq he1]
  clear he1 h1
  refine hK4 _ ?_
  clear hK4 K4
  simp
  refine hK3 _ ?_
  clear hK3 K3
  refine .keep [1, 2, 5] ?_
  simp only [keepE, E_cons, E_nil, reduceIte, Nat.reduceEqDiff]
  refine .seqk fun K5 hK5 => ?_
  refine .reg ?_
  simp
  refine hK5 _ ?_
  clear hK5 K5
  refine .condk _ rfl (fun hc1 => ?_) (fun hc1 => ?_)
  · simp at hc1
    refine .seqk fun K6 hK6 => ?_
    refine .reg ?_
    simp
    refine hK6 _ ?_
    clear hK6 K6
    refine .ret ?_
    -- leaf 1
    refine ret_d (.inr rfl) rfl (.refl _) rfl (by first | exact OutEq.outer _ | assumption | (simp; done) | (simp; assumption)) ?_
    simp [planV, hc1]
  · simp at hc1
    refine .skip ?_
    refine hK2 _ ?_
    clear hK2 K2
    refine .seqk fun K7 hK7 => ?_
    refine .reg ?_
    refine Sq.cutk 3 fun K8 hK8 => ?_
    simp only [List.take_succ_cons, List.take_zero, List.drop_succ_cons, List.drop_zero]
    simp
    refine PCall.sq (p98 g l hc1 hm) fun h1 he1 => ?_
    simp only [mergeH_eq he1]
    clear he1 h1
    refine hK8 _ ?_
    clear hK8 K8
    simp
    refine hK7 _ ?_
    clear hK7 K7
    refine .keep [4] ?_
    simp only [keepE, E_cons, E_nil, reduceIte, Nat.reduceEqDiff]
    refine .ret ?_
    -- leaf 2
    refine ret_d (.inr rfl) rfl (.refl _) rfl (by first | exact OutEq.outer _ | assumption | (simp; done) | (simp; assumption)) ?_
    simp [planV, hc1]
theorem p46 (l m : List Oprn) (hm : l.length ≤ 9223372036854775807) : PCall Tryz.prog 46 [sl (l.map Oprn.c), sl (m.map Oprn.c)] (bo (eqO l m)) := by
  intro h
  refine ACall.of b46 (by simp) ?_
  unfold c46
  refine .seqk fun K1 hK1 => ?_
  refine .reg ?_
  simp
  refine hK1 _ ?_
  clear hK1 K1
  refine .seqk fun K2 hK2 => ?_
  refine .seqk fun K3 hK3 => ?_
  refine .reg ?_
  simp
  refine hK3 _ ?_
  clear hK3 K3
  refine .keep [0, 1, 10] ?_
  simp only [keepE, E_cons, E_nil, reduceIte, Nat.reduceEqDiff]
  refine .condk _ rfl (fun hc1 => ?_) (fun hc1 => ?_)
  · simp at hc1
    refine .seqk fun K4 hK4 => ?_
    refine .reg ?_
    simp
    refine hK4 _ ?_
    clear hK4 K4
    refine .ret ?_
    -- leaf 1
    refine ret_d (.inr rfl) rfl (.refl _) rfl (by first | exact OutEq.outer _ | assumption | (simp; done) | (simp; assumption)) ?_
    have : eqO l m ≠ true := fun e => hc1 (by have := eqBy_len _ l m e; omega)
    simp at this
    simp [this]
  · simp at hc1
    have hlm : l.length = m.length := by omega
    refine .skip ?_
    refine hK2 _ ?_
    clear hK2 K2
    refine .seqk fun K5 hK5 => ?_
    refine .seqk fun K6 hK6 => ?_
    refine .reg ?_
    simp
    refine hK6 _ ?_
    clear hK6 K6
    refine .block ?_
    refine .count l.length (fun i st => eqO (l.drop i) (m.drop i) = eqO l m ∧ ∃ hh, OutEq hh h ∧ st = ⟨E [(5, int i), (0, sl (l.map Oprn.c)), (1, sl (m.map Oprn.c))], hh⟩) 0 (Nat.zero_le _) _ (.cov (h' := outer h) (by simp) (.refl _)) ⟨rfl, _, OutEq.outer h, rfl⟩ ?_
    rintro i s hi1 ⟨hp, hh, hho, rfl⟩ K7 hK7
    refine .seqk fun K8 hK8 => ?_
    refine .seqk fun K9 hK9 => ?_
    refine .reg ?_
    simp
    refine hK9 _ ?_
    clear hK9 K9
    refine .keep [0, 1, 5, 14] ?_
    simp only [keepE, E_cons, E_nil, reduceIte, Nat.reduceEqDiff]
    refine .condk _ rfl (fun hc2 => ?_) (fun hc2 => ?_)
    · simp at hc2
      obtain ⟨x, hx⟩ := get_some hc2
      obtain ⟨y, hy⟩ := get_some (hlm ▸ hc2)
      refine .skip ?_
      refine hK8 _ ?_
      clear hK8 K8
      refine .seqk fun K10 hK10 => ?_
      refine .block ?_
      refine .seqdreg mixed (fun hh => hh) (fun ee => [(0, ee 0), (1, ee 1), (5, ee 5), (25, bo (!decide (x = y)))]) ?_ ?_
      · obtain ⟨x1, x2⟩ := x
        obtain ⟨y1, y2⟩ := y
        by_cases h1 : x1 = y1 <;> by_cases h2 : x2 = y2 <;> simp [hx, hy, h1, h2]
      try simp only [E_cons, E_nil, reduceIte, Nat.reduceEqDiff]
      refine .condk _ rfl (fun hc3 => ?_) (fun hc3 => ?_)
      · simp at hc3
        refine .seqk fun K11 hK11 => ?_
        refine .reg ?_
        simp
        refine hK11 _ ?_
        clear hK11 K11
        refine .ret ?_
        -- leaf 2
        refine ret_d (.inr rfl) rfl (.refl _) rfl (by first | exact OutEq.outer _ | assumption | (simp; done) | (simp; assumption)) ?_
        rw [← hp, drop_cons hx, drop_cons hy]; simp [eqO, eqBy, hc3]
      · simp at hc3
        refine .skip ?_
        refine hK10 _ ?_
        clear hK10 K10
        refine .reg ?_
        simp
        -- loop back, leaf 3
        refine hK7 _ _ (by omega) (Wk.cov ?_ (.refl _)) ⟨?_, _, hho, rfl⟩
        · simp; exact wrap64 (by omega) (by omega)
        · rw [← hp, drop_cons hx, drop_cons hy]; simp [eqO, eqBy, hc3]
    · simp at hc2
      refine .exit ?_
      try simp only [then', inBlk, if_true, if_false, reduceIte, Nat.reduceEqDiff]
      refine hK5 _ ?_
      clear hK8 hK7 hK5 K8 K7 K5
      refine .seqk fun K12 hK12 => ?_
      refine .reg ?_
      simp
      refine hK12 _ ?_
      clear hK12 K12
      refine .ret ?_
      -- leaf 4
      refine ret_d (.inr rfl) rfl (.refl _) rfl (by first | exact OutEq.outer _ | assumption | (simp; done) | (simp; assumption)) ?_
      have hi : i = l.length := by omega
      rw [← hp, drop_nil (by omega), drop_nil (by omega)]
      rfl
end Go.Abs
set_option linter.unusedVariables false
set_option linter.unusedSimpArgs false
namespace Go.Abs
open Go Go.Proofs

theorem T.tup2 {h h' : Heap} {src : Nat → Option Nat} {a b c d : AV} (h1 : T h h' src a c) (h2 : T h h' src b d) : T h h' src (.tup [a, b]) (.tup [c, d]) :=
  .tup _ _ rfl fun j x y hx hy => by
    match j with
    | 0 => simp at hx hy; subst hx hy; exact h1
    | 1 => simp at hx hy; subst hx hy; exact h2
    | j + 2 => simp at hx
theorem p42 (g : Graph) : PCall Tryz.prog 42 [ag (Graph.c g)] (.tup [sl ((plainR g).1.map Oprn.c), int (plainR g).2]) := by
  intro h
  refine ACall.of b42 (by simp) ?_
  unfold c42
  refine .seqk fun K1 hK1 => ?_
  refine .reg ?_
  simp
  refine hK1 _ ?_
  clear hK1 K1
  refine .keep [1] ?_
  simp only [keepE, E_cons, E_nil, reduceIte, Nat.reduceEqDiff]
  refine .see (upd _ 1 ⟨_, none⟩) [(1, .dptr (Graph.c g))] ⟨T.box (k := 2) (cs := Graph.c g) (by simp [upd]) (by simp [upd]), trivial⟩ (Dies.up (Dies.refl _) (.inr ⟨rfl, Nat.le_refl _⟩)) ?_
  refine .seqk fun K2 hK2 => ?_
  refine .seqk fun K3 hK3 => ?_
  refine .reg ?_
  refine Sq.cutk 2 fun K4 hK4 => ?_
  simp only [List.take_succ_cons, List.take_zero, List.drop_succ_cons, List.drop_zero]
  simp
  refine PCall.sq (p97 g) fun h1 he1 => ?_
  simp only [mergeH_eq he1]
  clear he1 h1
  refine hK4 _ ?_
  clear hK4 K4
  simp
  refine hK3 _ ?_
  clear hK3 K3
  refine .keep [1, 4] ?_
  simp only [keepE, E_cons, E_nil, reduceIte, Nat.reduceEqDiff]
  refine .seqk fun K5 hK5 => ?_
  refine .reg ?_
  simp
  refine hK5 _ ?_
  clear hK5 K5
  refine .condk _ rfl (fun hc1 => ?_) (fun hc1 => ?_)
  · simp at hc1
    refine .seqk fun K6 hK6 => ?_
    refine .reg ?_
    simp
    refine hK6 _ ?_
    clear hK6 K6
    refine .keep [2, 3] ?_
    simp only [keepE, E_cons, E_nil, reduceIte, Nat.reduceEqDiff]
    refine .ret ?_
    -- leaf 1
    refine ret_d (.inr rfl) rfl (T.tup2 (.d _ _ .nil) (.refl _)) rfl (by first | exact OutEq.outer _ | assumption | (simp; done) | (simp; assumption)) ?_
    simp [plainR, hc1]
  · simp at hc1
    have hgl := gErr_len hc1
    refine .skip ?_
    refine hK2 _ ?_
    clear hK2 K2
    refine .seqk fun K7 hK7 => ?_
    refine .reg ?_
    simp
    refine hK7 _ ?_
    clear hK7 K7
    refine .seqk fun K8 hK8 => ?_
    refine .seqk fun K9 hK9 => ?_
    refine .reg ?_
    simp
    refine hK9 _ ?_
    clear hK9 K9
    refine .keep [1, 5, 6] ?_
    simp only [keepE, E_cons, E_nil, reduceIte, Nat.reduceEqDiff]
    refine .nil1 (l' := [(1, .dptr (Graph.c g)), (5, .sl 24 ((outer h 24).ver + 1) 0 0 0), (6, int 0)]) 24 2 (by simp [upd, outer]) (by decide) (by decide) (fun t => by
      by_cases ht : t = 5
      · right; subst ht; exact ⟨rfl, by simp [upd]⟩
      · left; simp [ht]) ?_
    refine .block ?_
    refine .count g.nodes.length (fun i st => ∃ v c hh, OutEq hh h ∧ hh 24 = ⟨v, some ⟨2, dl ((pre1 i).map Oprn.c)⟩⟩ ∧ st = ⟨E [(6, int i), (5, .sl 24 v 0 i c), (1, .dptr (Graph.c g))], hh⟩) 0 (Nat.zero_le _) _ (.cov (by simp; exact ⟨rfl, rfl⟩) (.refl _)) ⟨_, _, _, by simp, by simp [upd, pre1], rfl⟩ ?_
    rintro i s hi1 ⟨v, c, hh, hho, h24, rfl⟩ K10 hK10
    refine .seqk fun K11 hK11 => ?_
    refine .seqk fun K12 hK12 => ?_
    refine .reg ?_
    simp
    refine hK12 _ ?_
    clear hK12 K12
    refine .keep [1, 5, 6, 17] ?_
    simp only [keepE, E_cons, E_nil, reduceIte, Nat.reduceEqDiff]
    refine .condk _ rfl (fun hc2 => ?_) (fun hc2 => ?_)
    · simp at hc2
      refine .skip ?_
      refine hK11 _ ?_
      clear hK11 K11
      refine .seqk fun K13 hK13 => ?_
      refine .block ?_
      have z1 : (i + 1) * 16 ≤ 17592186044416 := by omega
      have z2 : i + 1 ≤ 17592186044416 := by omega
      have zz : ¬ (i + 1 ≤ i) := by omega
      have tk : List.take i (List.map Oprn.c (pre1 i)) = List.map Oprn.c (pre1 i) := List.take_of_length_le (by simp [pre1_len])
      refine .reg ?_
      simp [getBlk, h24, upd, z1, z2, zz, tk, pre1_len, srcOf]
      refine hK13 _ ?_
      clear hK13 K13
      refine .keep [1, 5, 6] ?_
      simp only [keepE, E_cons, E_nil, reduceIte, Nat.reduceEqDiff]
      refine .reg ?_
      simp
      -- loop back, leaf 2
      refine hK10 _ _ (by omega) (Wk.cov ?_ (.refl _)) ⟨v + 1, i + 1, _, ?_, ?_, rfl⟩
      · simp; exact wrap64 (by omega) (by omega)
      · simp [hho]
      · simp [upd, pre1_s, dl_snoc]
    · simp at hc2
      have hi : i = g.nodes.length := by omega
      subst hi
      refine .exit ?_
      try simp only [then', inBlk, if_true, if_false, reduceIte, Nat.reduceEqDiff]
      refine hK8 _ ?_
      clear hK11 hK10 hK8 K11 K10 K8
      refine .seqk fun K14 hK14 => ?_
      refine .seqk fun K15 hK15 => ?_
      refine .reg ?_
      simp
      refine hK15 _ ?_
      clear hK15 K15
      refine .block ?_
      refine .count g.edges.length (fun i st => ∃ v c hh, OutEq hh h ∧ hh 24 = ⟨v, some ⟨2, dl ((pre3 g.nodes.length i).map Oprn.c)⟩⟩ ∧ st = ⟨E [(7, int i), (5, .sl 24 v 0 (g.nodes.length + i) c), (1, .dptr (Graph.c g))], hh⟩) 0 (Nat.zero_le _) _ (.cov (by simp) (.refl _)) ⟨v, c, _, hho, by rw [pre3_0]; exact h24, rfl⟩ ?_
      rintro i s hi2 ⟨v, c, hh, hho, h24, rfl⟩ K16 hK16
      refine .seqk fun K17 hK17 => ?_
      refine .seqk fun K18 hK18 => ?_
      refine .reg ?_
      simp
      refine hK18 _ ?_
      clear hK18 K18
      refine .keep [1, 5, 7, 29] ?_
      simp only [keepE, E_cons, E_nil, reduceIte, Nat.reduceEqDiff]
      refine .condk _ rfl (fun hc3 => ?_) (fun hc3 => ?_)
      · simp at hc3
        refine .skip ?_
        refine hK17 _ ?_
        clear hK17 K17
        refine .seqk fun K19 hK19 => ?_
        refine .block ?_
        have z1 : (g.nodes.length + i + 1) * 16 ≤ 17592186044416 := by omega
        have z2 : g.nodes.length + i + 1 ≤ 17592186044416 := by omega
        have zz : ¬ (g.nodes.length + i + 1 ≤ g.nodes.length + i) := by omega
        have tk : List.take (g.nodes.length + i) (List.map Oprn.c (pre3 g.nodes.length i)) = List.map Oprn.c (pre3 g.nodes.length i) := List.take_of_length_le (by simp [pre3_len])
        refine .reg ?_
        simp [getBlk, h24, upd, z1, z2, zz, tk, pre3_len, srcOf]
        refine hK19 _ ?_
        clear hK19 K19
        refine .keep [1, 5, 7] ?_
        simp only [keepE, E_cons, E_nil, reduceIte, Nat.reduceEqDiff]
        refine .reg ?_
        simp
        -- loop back, leaf 3
        refine hK16 _ _ (by omega) (Wk.cov ?_ (.refl _)) ⟨v + 1, g.nodes.length + i + 1, _, ?_, ?_, rfl⟩
        · simp; exact ⟨wrap64 (by omega) (by omega), by omega⟩
        · simp [hho]
        · simp [upd, pre3_s, dl_snoc]
      · simp at hc3
        have hi : i = g.edges.length := by omega
        subst hi
        refine .exit ?_
        try simp only [then', inBlk, if_true, if_false, reduceIte, Nat.reduceEqDiff]
        refine hK14 _ ?_
        clear hK17 hK16 hK14 K17 K16 K14
        refine .seqk fun K20 hK20 => ?_
        refine .reg ?_
        simp
        refine hK20 _ ?_
        clear hK20 K20
        refine .keep [2, 3] ?_
        simp only [keepE, E_cons, E_nil, reduceIte, Nat.reduceEqDiff]
        refine .ret ?_
        -- leaf 4
        refine ret_d (.inr rfl) rfl (T.tup2 (T.row (xs := (pre3 g.nodes.length g.edges.length).map Oprn.c) (k := 2) (by decide) h24 (by simp [pre3_len])) (.refl _)) rfl (by first | exact OutEq.outer _ | assumption | (simp; done) | (simp; assumption)) ?_
        simp [plainR, hc1, plain_eq]
theorem p40 (g : Graph) : PCall Tryz.prog 40 [ag (Graph.c g)] (.tup [sl ((plainR g).1.map Oprn.c), int (plainR g).2]) := by
  intro h
  refine ACall.of b40 (by simp) ?_
  unfold c40
  refine .seqk fun K1 hK1 => ?_
  refine .reg ?_
  simp
  refine hK1 _ ?_
  clear hK1 K1
  refine .keep [1] ?_
  simp only [keepE, E_cons, E_nil, reduceIte, Nat.reduceEqDiff]
  refine .see (upd _ 1 ⟨_, none⟩) [(1, .dptr (Graph.c g))] ⟨T.box (k := 2) (cs := Graph.c g) (by simp [upd]) (by simp [upd]), trivial⟩ (Dies.up (Dies.refl _) (.inr ⟨rfl, Nat.le_refl _⟩)) ?_
  refine .seqk fun K2 hK2 => ?_
  refine .seqk fun K3 hK3 => ?_
  refine .reg ?_
  refine Sq.cutk 2 fun K4 hK4 => ?_
  simp only [List.take_succ_cons, List.take_zero, List.drop_succ_cons, List.drop_zero]
  simp
  refine PCall.sq (p96 g) fun h1 he1 => ?_
  simp only [mergeH_eq he1]
  clear he1 h1
  refine hK4 _ ?_
  clear hK4 K4
  simp
  refine hK3 _ ?_
  clear hK3 K3
  refine .keep [1, 4] ?_
  simp only [keepE, E_cons, E_nil, reduceIte, Nat.reduceEqDiff]
  refine .seqk fun K5 hK5 => ?_
  refine .reg ?_
  simp
  refine hK5 _ ?_
  clear hK5 K5
  refine .condk _ rfl (fun hc1 => ?_) (fun hc1 => ?_)
  · simp at hc1
    refine .seqk fun K6 hK6 => ?_
    refine .reg ?_
    simp
    refine hK6 _ ?_
    clear hK6 K6
    refine .keep [2, 3] ?_
    simp only [keepE, E_cons, E_nil, reduceIte, Nat.reduceEqDiff]
    refine .ret ?_
    -- leaf 1
    refine ret_d (.inr rfl) rfl (T.tup2 (.d _ _ .nil) (.refl _)) rfl (by first | exact OutEq.outer _ | assumption | (simp; done) | (simp; assumption)) ?_
    simp [plainR, hc1]
  · simp at hc1
    have hgl := gErr_len hc1
    refine .skip ?_
    refine hK2 _ ?_
    clear hK2 K2
    refine .seqk fun K7 hK7 => ?_
    refine .reg ?_
    simp
    refine hK7 _ ?_
    clear hK7 K7
    refine .seqk fun K8 hK8 => ?_
    refine .seqk fun K9 hK9 => ?_
    refine .reg ?_
    simp
    refine hK9 _ ?_
    clear hK9 K9
    refine .keep [1, 5, 15, 16] ?_
    simp only [keepE, E_cons, E_nil, reduceIte, Nat.reduceEqDiff]
    refine .nil1 (l' := [(1, .dptr (Graph.c g)), (5, .sl 23 ((outer h 23).ver + 1) 0 0 0), (15, int g.nodes.length), (16, int 0)]) 23 2 (by simp [upd, outer]) (by decide) (by decide) (fun t => by
      by_cases ht : t = 5
      · right; subst ht; exact ⟨rfl, by simp [upd]⟩
      · left; simp [ht]) ?_
    refine .block ?_
    refine .count g.nodes.length (fun i st => ∃ v c hh, OutEq hh h ∧ hh 23 = ⟨v, some ⟨2, dl ((pre1 i).map Oprn.c)⟩⟩ ∧ st = ⟨E [(16, int i), (5, .sl 23 v 0 i c), (1, .dptr (Graph.c g)), (15, int g.nodes.length)], hh⟩) 0 (Nat.zero_le _) _ (.cov (by simp; exact ⟨rfl, rfl⟩) (.refl _)) ⟨_, _, _, by simp, by simp [upd, pre1], rfl⟩ ?_
    rintro i s hi1 ⟨v, c, hh, hho, h24, rfl⟩ K10 hK10
    refine .seqk fun K11 hK11 => ?_
    refine .reg ?_
    simp
    refine hK11 _ ?_
    clear hK11 K11
    refine .seqk fun K12 hK12 => ?_
    refine .condk _ rfl (fun hc2 => ?_) (fun hc2 => ?_)
    · simp at hc2
      refine .skip ?_
      refine hK12 _ ?_
      clear hK12 K12
      refine .seqk fun K13 hK13 => ?_
      refine .block ?_
      refine .seqk fun K14 hK14 => ?_
      refine .reg ?_
      simp
      refine hK14 _ ?_
      clear hK14 K14
      have z1 : (i + 1) * 16 ≤ 17592186044416 := by omega
      have z2 : i + 1 ≤ 17592186044416 := by omega
      have zz : ¬ (i + 1 ≤ i) := by omega
      have tk : List.take i (List.map Oprn.c (pre1 i)) = List.map Oprn.c (pre1 i) := List.take_of_length_le (by simp [pre1_len])
      refine .reg ?_
      simp [getBlk, h24, upd, z1, z2, zz, tk, pre1_len, srcOf]
      refine hK13 _ ?_
      clear hK13 K13
      refine .keep [1, 5, 15, 16] ?_
      simp only [keepE, E_cons, E_nil, reduceIte, Nat.reduceEqDiff]
      refine .reg ?_
      simp
      -- loop back, leaf 2
      refine hK10 _ _ (by omega) (Wk.cov ?_ (.refl _)) ⟨v + 1, i + 1, _, ?_, ?_, rfl⟩
      · simp; exact wrap64 (by omega) (by omega)
      · simp [hho]
      · simp [upd, pre1_s, dl_snoc]
    · simp at hc2
      have hi : i = g.nodes.length := by omega
      subst hi
      refine .exit ?_
      try simp only [then', inBlk, if_true, if_false, reduceIte, Nat.reduceEqDiff]
      refine hK8 _ ?_
      clear hK12 hK10 hK8 K12 K10 K8
      refine .seqk fun K15 hK15 => ?_
      refine .seqk fun K16 hK16 => ?_
      refine .reg ?_
      simp
      refine hK16 _ ?_
      clear hK16 K16
      refine .keep [5, 27, 28] ?_
      simp only [keepE, E_cons, E_nil, reduceIte, Nat.reduceEqDiff]
      refine .block ?_
      refine .count g.edges.length (fun i st => ∃ v c hh, OutEq hh h ∧ hh 23 = ⟨v, some ⟨2, dl ((pre3 g.nodes.length i).map Oprn.c)⟩⟩ ∧ st = ⟨E [(28, int i), (5, .sl 23 v 0 (g.nodes.length + i) c), (27, int g.edges.length)], hh⟩) 0 (Nat.zero_le _) _ (.cov (by simp) (.refl _)) ⟨v, c, _, hho, by rw [pre3_0]; exact h24, rfl⟩ ?_
      rintro i s hi2 ⟨v, c, hh, hho, h24, rfl⟩ K17 hK17
      refine .seqk fun K18 hK18 => ?_
      refine .reg ?_
      simp
      refine hK18 _ ?_
      clear hK18 K18
      refine .seqk fun K19 hK19 => ?_
      refine .condk _ rfl (fun hc3 => ?_) (fun hc3 => ?_)
      · simp at hc3
        refine .skip ?_
        refine hK19 _ ?_
        clear hK19 K19
        refine .seqk fun K20 hK20 => ?_
        refine .block ?_
        refine .seqk fun K21 hK21 => ?_
        refine .reg ?_
        simp
        refine hK21 _ ?_
        clear hK21 K21
        have z1 : (g.nodes.length + i + 1) * 16 ≤ 17592186044416 := by omega
        have z2 : g.nodes.length + i + 1 ≤ 17592186044416 := by omega
        have zz : ¬ (g.nodes.length + i + 1 ≤ g.nodes.length + i) := by omega
        have tk : List.take (g.nodes.length + i) (List.map Oprn.c (pre3 g.nodes.length i)) = List.map Oprn.c (pre3 g.nodes.length i) := List.take_of_length_le (by simp [pre3_len])
        refine .reg ?_
        simp [getBlk, h24, upd, z1, z2, zz, tk, pre3_len, srcOf]
        refine hK20 _ ?_
        clear hK20 K20
        refine .keep [5, 27, 28] ?_
        simp only [keepE, E_cons, E_nil, reduceIte, Nat.reduceEqDiff]
        refine .reg ?_
        simp
        -- loop back, leaf 3
        refine hK17 _ _ (by omega) (Wk.cov ?_ (.refl _)) ⟨v + 1, g.nodes.length + i + 1, _, ?_, ?_, rfl⟩
        · simp; exact ⟨wrap64 (by omega) (by omega), by omega⟩
        · simp [hho]
        · simp [upd, pre3_s, dl_snoc]
      · simp at hc3
        have hi : i = g.edges.length := by omega
        subst hi
        refine .exit ?_
        try simp only [then', inBlk, if_true, if_false, reduceIte, Nat.reduceEqDiff]
        refine hK15 _ ?_
        clear hK19 hK17 hK15 K19 K17 K15
        refine .seqk fun K22 hK22 => ?_
        refine .reg ?_
        simp
        refine hK22 _ ?_
        clear hK22 K22
        refine .keep [2, 3] ?_
        simp only [keepE, E_cons, E_nil, reduceIte, Nat.reduceEqDiff]
        refine .ret ?_
        -- leaf 4
        refine ret_d (.inr rfl) rfl (T.tup2 (T.row (xs := (pre3 g.nodes.length g.edges.length).map Oprn.c) (k := 2) (by decide) h24 (by simp [pre3_len])) (.refl _)) rfl (by first | exact OutEq.outer _ | assumption | (simp; done) | (simp; assumption)) ?_
        simp [plainR, hc1, plain_eq]
end Go.Abs
set_option linter.unusedVariables false
set_option linter.unusedSimpArgs false
namespace Go.Abs
open Go Go.Proofs

def stepK (g : Graph) (k : Kn) (o : Oprn) : Kn := if stepE g k o = 0 then afterK g k o else k
theorem contF : ∀ l : List Bool, l.any (fun x => false == x) = !l.all id
  | [] => rfl
  | x :: l => by
    have := contF l
    cases x
    · simp
    · simp only [List.any_cons, List.all_cons, this]; rfl
theorem m86 (g : Graph) (h : Heap) (hn : g.nodes.length ≤ 1000) (he : g.edges.length ≤ 1000) (d1 : (h 1000001).live = none) (d2 : (h 1000002).live = none) : ACall Tryz.prog 86 [ag (Graph.c g)] h fun r h' => ∃ v1 v2 c1 c2, r = .agg [.sl 1000001 v1 0 (freshK g).ns.length c1, .sl 1000002 v2 0 (freshK g).es.length c2] ∧ OutEq h' (upd (upd h 1000001 ⟨v1, some ⟨1, dl ((freshK g).ns.map Bo.c)⟩⟩) 1000002 ⟨v2, some ⟨1, dl ((freshK g).es.map Bo.c)⟩⟩) := by
  refine ACall.of b86 (by simp) ?_
  unfold c86
  have o1 : outer h 1000001 = h 1000001 := by simp [outer]
  have o2 : outer h 1000002 = h 1000002 := by simp [outer]
  simp only [freshK]
  refine .seqk fun K1 hK1 => ?_
  refine .reg ?_
  simp
  refine hK1 _ ?_
  clear hK1 K1
  refine .keep [1, 2] ?_
  simp only [keepE, E_cons, E_nil, reduceIte, Nat.reduceEqDiff]
  refine .see (upd (upd _ 1 ⟨_, none⟩) 2 _) [(1, .dptr (Graph.c g)), (2, .ptr 2 _ 0 0)] ⟨T.box (k := 2) (cs := Graph.c g) (by simp [upd]) (by simp [upd]), .refl _, trivial⟩ (Dies.up (Dies.up (Dies.refl _) (.inr ⟨rfl, Nat.le_refl _⟩)) (.inl rfl)) ?_
  refine .seqdregnx mixed [.plain, .plain, .plain, .named 1000001 ((h 1000001).ver + 1), .plain, .plain, .plain, .named 1000002 ((h 1000002).ver + 1)] (α := Unit) (fun x => True) (fun x hh => upd (upd (upd (upd (upd hh 6 ⟨(outer h 6).ver + 1, none⟩) 1000001 ⟨(h 1000001).ver + 1, some ⟨1, dl ((List.replicate g.nodes.length false).map Bo.c)⟩⟩) 10 ⟨(outer h 10).ver + 1, none⟩) 1000002 ⟨(h 1000002).ver + 1, some ⟨1, dl ((List.replicate g.edges.length false).map Bo.c)⟩⟩) 2 ⟨(outer h 2).ver + 1, some ⟨2, [[.sl 1000001 ((h 1000001).ver + 1) 0 g.nodes.length g.nodes.length, .sl 1000002 ((h 1000002).ver + 1) 0 g.edges.length g.edges.length]]⟩⟩) (fun x ee => [(2, ee 2)]) ?_ (fun x hx => ?_)
  · have q1 : g.nodes.length ≤ 140737488355328 := by omega
    have q2 : g.edges.length ≤ 140737488355328 := by omega
    have q3 : (g.nodes.length : Int) ≤ 140737488355328 := by omega
    have q4 : (g.edges.length : Int) ≤ 140737488355328 := by omega
    simp [q1, q2, q3, q4, upd, rep_dl, srcOf, o1, o2, d1, d2]
  try simp only [E_cons, E_nil, reduceIte, Nat.reduceEqDiff]
  refine .ret ?_
  -- leaf 1
  try simp only [then']
  refine ret_m (.inr rfl) (r := .agg [.sl 1000001 ((h 1000001).ver + 1) 0 g.nodes.length g.nodes.length, .sl 1000002 ((h 1000002).ver + 1) 0 g.edges.length g.edges.length]) (by simp [upd]) (by simp) ⟨_, _, _, _, by simp; exact ⟨⟨rfl, rfl⟩, rfl, rfl⟩, ?_⟩
  intro b hb
  have hb1 : 1000000 ≤ b := hb
  have n1 : b ≠ 1 := by omega
  have n2 : b ≠ 2 := by omega
  have n3 : b ≠ 6 := by omega
  have n7 : b ≠ 10 := by omega
  simp [upd, outer, n1, n2, n3, n7, Nat.not_lt.2 hb1]
theorem p134 (k : Kn) : PCall Tryz.prog 134 [ag (Kn.c k)] (bo (allK k)) := by
  intro h
  refine ACall.of b134 (by simp) ?_
  unfold c134
  refine .seqk fun K1 hK1 => ?_
  refine .reg ?_
  simp
  refine hK1 _ ?_
  clear hK1 K1
  refine .keep [1, 8, 9, 10, 11] ?_
  simp only [keepE, E_cons, E_nil, reduceIte, Nat.reduceEqDiff]
  refine .see (upd _ 1 ⟨_, none⟩) [(1, .dptr (Kn.c k))] ⟨T.box (k := 2) (cs := Kn.c k) (by simp [upd]) (by simp [upd]), trivial⟩ (Dies.up (Dies.refl _) (.inr ⟨rfl, Nat.le_refl _⟩)) ?_
  refine .seqreg (fun hh => hh) (fun ee => [(2, bo (allK k))]) ?_ ?_
  · refine Sq.cutk 3 fun K1 hK1 => ?_
    simp only [List.take_succ_cons, List.take_zero, List.drop_succ_cons, List.drop_zero]
    simp
    refine PCall.sq (p188 k.ns false) fun _ he => ?_
    simp only [mergeH_eq he]
    refine hK1 _ ?_
    rw [contF]
    by_cases h1 : k.ns.all id = true
    · refine Sq.cutk 5 fun K2 hK2 => ?_
      simp only [List.take_succ_cons, List.take_zero, List.drop_succ_cons, List.drop_zero]
      rw [h1]
      simp
      refine PCall.sq (p188 k.es false) fun _ he => ?_
      simp only [mergeH_eq he]
      refine hK2 _ ?_
      rw [contF]
      cases h2 : k.es.all id <;> simp [allK, h1, h2]
    · rw [Bool.not_eq_true] at h1
      rw [h1]
      simp [allK, h1]
  try simp only [E_cons, E_nil, reduceIte, Nat.reduceEqDiff]
  refine .ret ?_
  -- leaf 1
  refine ret_d (.inr rfl) rfl (.refl _) rfl (by first | exact OutEq.outer _ | assumption | (simp; done) | (simp; assumption)) ?_
  simp
end Go.Abs
set_option linter.unusedVariables false
set_option linter.unusedSimpArgs false
namespace Go.Abs
open Go Go.Proofs

theorem same2 {h : Heap} {x y : HB} (e1 : h 1000001 = x) (e2 : h 1000002 = y) : Go.Abs.upd (Go.Abs.upd h 1000001 x) 1000002 y = h := by
  funext b
  by_cases h2 : b = 1000002
  · subst h2; rw [upd_same, e2]
  · rw [upd_ne _ _ _ _ h2]
    by_cases h1 : b = 1000001
    · subst h1; rw [upd_same, e1]
    · rw [upd_ne _ _ _ _ h1]
set_option maxHeartbeats 8000000 in
theorem m88 (g : Graph) (k : Kn) (o : Oprn) (h : Heap) (v1 v2 c1 c2 : Nat) (hf : k.fits g) (hv : gErr g = 0) (e1 : h 1000001 = ⟨v1, some ⟨1, dl (k.ns.map Bo.c)⟩⟩) (e2 : h 1000002 = ⟨v2, some ⟨1, dl (k.es.map Bo.c)⟩⟩) : ACall Tryz.prog 88 [.agg [.sl 1000001 v1 0 k.ns.length c1, .sl 1000002 v2 0 k.es.length c2], ag (Graph.c g), ag (Oprn.c o)] h fun r h' => r = int (stepE g k o) ∧ OutEq h' (upd (upd h 1000001 ⟨v1, some ⟨1, dl ((stepK g k o).ns.map Bo.c)⟩⟩) 1000002 ⟨v2, some ⟨1, dl ((stepK g k o).es.map Bo.c)⟩⟩) := by
  refine ACall.of b88 (by simp) ?_
  unfold c88
  have o1 : outer h 1000001 = ⟨v1, some ⟨1, dl (k.ns.map Bo.c)⟩⟩ := by simp [outer, e1]
  have o2 : outer h 1000002 = ⟨v2, some ⟨1, dl (k.es.map Bo.c)⟩⟩ := by simp [outer, e2]
  refine .seqk fun K1 hK1 => ?_
  refine .reg ?_
  simp
  refine hK1 _ ?_
  clear hK1 K1
  refine .keep [3, 4, 5, 18, 19, 20, 21, 22, 23, 43, 44, 45, 46, 47, 48, 63, 64, 65, 66, 67, 68, 77, 78, 79, 80, 81, 82, 91, 92, 93, 94, 95, 96, 97, 100, 101, 102, 103, 104, 105, 106, 107, 108, 109] ?_
  simp only [keepE, E_cons, E_nil, reduceIte, Nat.reduceEqDiff]
  refine .see (upd (upd (upd _ 3 _) 4 ⟨_, none⟩) 5 ⟨_, none⟩) [(3, .ptr 3 ((outer h 3).ver + 1) 0 0), (4, .dptr (Graph.c g)), (5, .dptr (Oprn.c o))] ⟨.refl _, T.box (k := 2) (cs := Graph.c g) (by simp [upd]) (by simp [upd]), T.box (k := 2) (cs := Oprn.c o) (by simp [upd]) (by simp [upd]), trivial⟩ (Dies.up (Dies.up (Dies.up (Dies.refl _) (.inl rfl)) (.inr ⟨rfl, Nat.le_refl _⟩)) (.inr ⟨rfl, Nat.le_refl _⟩)) ?_
  refine .seqk fun K2 hK2 => ?_
  refine .seqk fun K3 hK3 => ?_
  refine .reg ?_
  simp
  refine hK3 _ ?_
  clear hK3 K3
  refine .block ?_
  refine .seqk fun K4 hK4 => ?_
  refine .reg ?_
  simp
  refine hK4 _ ?_
  clear hK4 K4
  refine .condk _ rfl (fun hc1 => ?_) (fun hc1 => ?_)
  · simp at hc1
    refine .seqk fun K5 hK5 => ?_
    refine .seqreg (fun hh => hh) (fun ee => [(3, ee 3), (5, ee 5), (24, bo (!inI o.el g.nodes.length))]) ?_ ?_
    · by_cases h0 : o.el < 0 <;> by_cases h1 : (g.nodes.length : Int) ≤ o.el <;> simp [h0, h1, inI] <;> omega
    try simp only [E_cons, E_nil, reduceIte, Nat.reduceEqDiff]
    refine .condk _ rfl (fun hc2 => ?_) (fun hc2 => ?_)
    · simp at hc2
      refine .seqk fun K6 hK6 => ?_
      refine .reg ?_
      simp
      refine hK6 _ ?_
      clear hK6 K6
      refine .ret ?_
      -- leaf 1
      try simp only [then', inBlk]
      have hst : stepE g k o = 6 := by simp [stepE, hc1, hc2]
      have hsk : stepK g k o = k := by simp [stepK, hst]
      refine ret_m (.inr rfl) (r := int 6) ?_ (by simp) ?_
      · simp
      · refine ⟨by rw [hst], ?_⟩
        rw [hsk, same2 e1 e2]
        simp
    · simp at hc2
      obtain ⟨h0, a, ha, hea⟩ := Kn.get hf hc2
      have hi : o.el < (k.ns.length : Int) := by have := (List.getElem?_eq_some_iff.1 ha).1; omega
      have hae := (List.getElem?_eq_some_iff.1 ha).2
      refine .skip ?_
      refine hK5 _ ?_
      clear hK5 K5
      refine .seqk fun K7 hK7 => ?_
      refine .seqk fun K8 hK8 => ?_
      refine .reg ?_
      simp [h0, hi, ha, hae, dl_getE, getBlk, upd, o1, o2]
      refine hK8 _ ?_
      clear hK8 K8
      refine .keep [3, 5, 30] ?_
      simp only [keepE, E_cons, E_nil, reduceIte, Nat.reduceEqDiff]
      refine .condk _ rfl (fun hc3 => ?_) (fun hc3 => ?_)
      · skip
        refine .seqk fun K9 hK9 => ?_
        refine .reg ?_
        simp
        refine hK9 _ ?_
        clear hK9 K9
        refine .ret ?_
        -- leaf 2
        try simp only [then', inBlk]
        have hst : stepE g k o = 8 := by simp [stepE, hc1, hc2, hea, hc3]
        have hsk : stepK g k o = k := by simp [stepK, hst]
        refine ret_m (.inr rfl) (r := int 8) ?_ (by simp) ?_
        · simp
        · refine ⟨by rw [hst], ?_⟩
          rw [hsk, same2 e1 e2]
          simp
      · skip
        refine .skip ?_
        refine hK7 _ ?_
        clear hK7 K7
        refine .seqk fun K10 hK10 => ?_
        refine .reg ?_
        simp [h0, hi, ha, dl_setB, dl_getE, -List.map_set, getBlk, upd, o1, o2]
        refine hK10 _ ?_
        clear hK10 K10
        refine .keep [] ?_
        simp only [keepE, E_cons, E_nil, reduceIte, Nat.reduceEqDiff]
        refine .seqk fun K11 hK11 => ?_
        refine .reg ?_
        simp
        refine hK11 _ ?_
        clear hK11 K11
        refine .ret ?_
        -- leaf 3
        try simp only [then', inBlk]
        have hst : stepE g k o = 0 := by simp [stepE, hc1, hc2, hea, hc3]
        have hsk : stepK g k o = afterK g k o := by simp [stepK, hst]
        refine ret_m (.inr rfl) (r := int 0) ?_ (by simp) ?_
        · simp
        · refine ⟨by rw [hst], ?_⟩
          rw [hsk]
          intro b hb
          have hb1 : 1000000 ≤ b := hb
          have n3 : b ≠ 3 := by omega
          have n4 : b ≠ 4 := by omega
          have n5 : b ≠ 5 := by omega
          have n7 : b ≠ 7 := by omega
          by_cases m1 : b = 1000001 <;> by_cases m2 : b = 1000002 <;> simp [upd, outer, afterK, hc1, m1, m2, n3, n4, n5, n7, Nat.not_lt.2 hb1, e1, e2]
  · simp at hc1
    refine .seqk fun K12 hK12 => ?_
    refine .seqk fun K13 hK13 => ?_
    refine .reg ?_
    simp
    refine hK13 _ ?_
    clear hK13 K13
    refine .condk _ rfl (fun hc4 => ?_) (fun hc4 => ?_)
    · simp at hc4
      refine .skip ?_
      refine hK12 _ ?_
      clear hK12 K12
      refine .condk _ rfl (fun hc5 => ?_) (fun hc5 => ?_)
      · simp at hc5
        have hk2 : o.kind = 2 ∨ o.kind = 3 := by omega
        refine .skip ?_
        refine hK2 _ ?_
        clear hK2 K2
        refine .seqk fun K14 hK14 => ?_
        refine .seqreg (fun hh => hh) (fun ee => [(3, ee 3), (4, ee 4), (5, ee 5), (49, bo (!inI o.el g.edges.length)), (63, ee 63), (64, ee 64), (65, ee 65), (66, ee 66), (67, ee 67), (68, ee 68), (77, ee 77), (78, ee 78), (79, ee 79), (80, ee 80), (81, ee 81), (82, ee 82), (91, ee 91), (92, ee 92), (93, ee 93), (94, ee 94), (95, ee 95), (96, ee 96), (97, ee 97), (100, ee 100), (101, ee 101), (102, ee 102), (103, ee 103), (104, ee 104), (105, ee 105), (106, ee 106), (107, ee 107), (108, ee 108), (109, ee 109)]) ?_ ?_
        · by_cases h0 : o.el < 0 <;> by_cases h1 : (g.edges.length : Int) ≤ o.el <;> simp [h0, h1, inI] <;> omega
        try simp only [E_cons, E_nil, reduceIte, Nat.reduceEqDiff]
        refine .condk _ rfl (fun hc6 => ?_) (fun hc6 => ?_)
        · simp at hc6
          refine .seqk fun K15 hK15 => ?_
          refine .reg ?_
          simp
          refine hK15 _ ?_
          clear hK15 K15
          refine .ret ?_
          -- leaf 4
          try simp only [then', inBlk]
          have hst : stepE g k o = 6 := by rcases hk2 with h2 | h2 <;> simp [stepE, h2, hc6]
          have hsk : stepK g k o = k := by simp [stepK, hst]
          refine ret_m (.inr rfl) (r := int 6) ?_ (by simp) ?_
          · simp
          · refine ⟨by rw [hst], ?_⟩
            rw [hsk, same2 e1 e2]
            simp
        · simp at hc6
          have h0 : 0 ≤ o.el ∧ o.el < g.edges.length := by simpa [inI] using hc6
          obtain ⟨h0, hle⟩ := h0
          obtain ⟨x, hx⟩ : ∃ x, g.edges[o.el.toNat]? = some x := ⟨g.edges[o.el.toNat]'(by omega), by simp⟩
          have hel : o.el.toNat < k.es.length := by rw [hf.2]; omega
          have hi : o.el < (k.es.length : Int) := by omega
          obtain ⟨e, he⟩ : ∃ e, k.es[o.el.toNat]? = some e := ⟨_, List.getElem?_eq_getElem hel⟩
          obtain ⟨i1, i2⟩ := gErr_edge hv (List.mem_of_getElem? hx)
          obtain ⟨hs0, a, ha, hea⟩ := Kn.get hf i1
          obtain ⟨ht0, b, hb, heb⟩ := Kn.get hf i2
          have hae := (List.getElem?_eq_some_iff.1 ha).2
          have hbe := (List.getElem?_eq_some_iff.1 hb).2
          have hee := (List.getElem?_eq_some_iff.1 he).2
          have hi2 : x.src < (k.ns.length : Int) := by have := (List.getElem?_eq_some_iff.1 ha).1; omega
          have hi3 : x.tgt < (k.ns.length : Int) := by have := (List.getElem?_eq_some_iff.1 hb).1; omega
          have hks : (if (e || (decide (o.kind = 3) && !(a && b)) || (decide (o.kind = 2) && ((a && b) || !(a || b)))) = true then (8 : Int) else 0) = stepE g k o := by
            rcases hk2 with h2 | h2 <;> simp [stepE, h2, hc6, hx, he, hea, heb]
          have hne1 : ¬ o.kind = 1 := hc1
          refine .skip ?_
          refine hK14 _ ?_
          clear hK14 K14
          refine .seqk fun K16 hK16 => ?_
          refine .reg ?_
          simp [h0, hx]
          refine hK16 _ ?_
          clear hK16 K16
          refine .keep [3, 5, 7, 63, 64, 65, 66, 67, 68, 77, 78, 79, 80, 81, 82, 91, 92, 93, 94, 95, 96, 97, 100, 101, 102, 103, 104, 105, 106, 107, 108, 109] ?_
          simp only [keepE, E_cons, E_nil, reduceIte, Nat.reduceEqDiff]
          refine .see (upd _ 7 ⟨_, none⟩) [(3, .ptr 3 ((outer h 3).ver + 1) 0 0), (5, .dptr (Oprn.c o)), (7, .dptr (Edge.c x))] ⟨.refl _, .refl _, T.box (k := 3) (cs := Edge.c x) (by simp [upd]) (by simp [upd]), trivial⟩ (Dies.kill _ _ _ _) ?_
          refine .seqdreg mixed (fun hh => hh) (fun ee => [(3, ee 3), (5, ee 5), (7, ee 7), (8, bo (a && b)), (9, bo (a || b)), (91, ee 91), (92, ee 92), (93, ee 93), (94, ee 94), (95, ee 95), (96, ee 96), (97, ee 97), (100, ee 100), (101, ee 101), (102, ee 102), (103, ee 103), (104, ee 104), (105, ee 105), (106, ee 106), (107, ee 107), (108, ee 108), (109, ee 109)]) ?_ ?_
          · cases a <;> cases b <;> simp [hs0, ht0, hi2, hi3, ha, hb, hae, hbe, dl_getE, getBlk, upd, o1, o2]
          try simp only [E_cons, E_nil, reduceIte, Nat.reduceEqDiff]
          refine .seqk fun K17 hK17 => ?_
          refine .seqreg (fun hh => hh) (fun ee => [(3, ee 3), (5, ee 5), (7, ee 7), (110, bo (e || (decide (o.kind = 3) && !(a && b)) || (decide (o.kind = 2) && ((a && b) || !(a || b)))))]) ?_ ?_
          · rcases hk2 with h2 | h2 <;> cases a <;> cases b <;> cases e <;> simp [h0, hi, he, hee, h2, dl_getE, getBlk, upd, o1, o2]
          try simp only [E_cons, E_nil, reduceIte, Nat.reduceEqDiff]
          refine .condk _ rfl (fun hc7 => ?_) (fun hc7 => ?_)
          · rw [if_pos hc7] at hks
            refine .seqk fun K18 hK18 => ?_
            refine .reg ?_
            simp
            refine hK18 _ ?_
            clear hK18 K18
            refine .ret ?_
            -- leaf 5
            try simp only [then', inBlk]
            have hst : stepE g k o = 8 := by exact hks.symm
            have hsk : stepK g k o = k := by simp [stepK, hst]
            refine ret_m (.inr rfl) (r := int 8) ?_ (by simp) ?_
            · simp
            · refine ⟨by rw [hst], ?_⟩
              rw [hsk, same2 e1 e2]
              simp
          · rw [hc7] at hks
            simp only [Bool.false_eq_true, if_false] at hks
            refine .skip ?_
            refine hK17 _ ?_
            clear hK17 K17
            refine .seqk fun K19 hK19 => ?_
            obtain ⟨b2, hb2⟩ : ∃ b2, (k.ns.set x.src.toNat true)[x.tgt.toNat]? = some b2 := ⟨_, List.getElem?_eq_getElem (by rw [List.length_set]; omega)⟩
            refine .dreg mixed ?_
            simp [h0, hi, he, hs0, ht0, hi2, hi3, ha, hb2, dl_setB, dl_getE, -List.map_set, getBlk, upd, o1, o2]
            refine hK19 _ ?_
            clear hK19 K19
            refine .keep [] ?_
            simp only [keepE, E_cons, E_nil, reduceIte, Nat.reduceEqDiff]
            refine .seqk fun K20 hK20 => ?_
            refine .reg ?_
            simp
            refine hK20 _ ?_
            clear hK20 K20
            refine .ret ?_
            -- leaf 6
            try simp only [then', inBlk]
            have hst : stepE g k o = 0 := by exact hks.symm
            have hsk : stepK g k o = afterK g k o := by simp [stepK, hst]
            refine ret_m (.inr rfl) (r := int 0) ?_ (by simp) ?_
            · simp
            · refine ⟨by rw [hst], ?_⟩
              rw [hsk]
              intro b hb
              have hb1 : 1000000 ≤ b := hb
              have n3 : b ≠ 3 := by omega
              have n4 : b ≠ 4 := by omega
              have n5 : b ≠ 5 := by omega
              have n7 : b ≠ 7 := by omega
              by_cases m1 : b = 1000001 <;> by_cases m2 : b = 1000002 <;> simp [upd, outer, afterK, hne1, hx, m1, m2, n3, n4, n5, n7, Nat.not_lt.2 hb1, e1, e2]
      · simp at hc5
        refine .seqk fun K21 hK21 => ?_
        refine .reg ?_
        simp
        refine hK21 _ ?_
        clear hK21 K21
        refine .ret ?_
        -- leaf 7
        try simp only [then', inBlk]
        have hst : stepE g k o = 6 := by simp_all [stepE]
        have hsk : stepK g k o = k := by simp [stepK, hst]
        refine ret_m (.inr rfl) (r := int 6) ?_ (by simp) ?_
        · simp
        · refine ⟨by rw [hst], ?_⟩
          rw [hsk, same2 e1 e2]
          simp
    · simp at hc4
      refine .reg ?_
      simp
      refine hK12 _ ?_
      clear hK12 K12
      refine .condk _ rfl (fun hc5 => ?_) (fun hc5 => ?_)
      · simp at hc5
        have hk2 : o.kind = 2 ∨ o.kind = 3 := by omega
        refine .skip ?_
        refine hK2 _ ?_
        clear hK2 K2
        refine .seqk fun K22 hK22 => ?_
        refine .seqreg (fun hh => hh) (fun ee => [(3, ee 3), (4, ee 4), (5, ee 5), (49, bo (!inI o.el g.edges.length)), (63, ee 63), (64, ee 64), (65, ee 65), (66, ee 66), (67, ee 67), (68, ee 68), (77, ee 77), (78, ee 78), (79, ee 79), (80, ee 80), (81, ee 81), (82, ee 82), (91, ee 91), (92, ee 92), (93, ee 93), (94, ee 94), (95, ee 95), (96, ee 96), (97, ee 97), (100, ee 100), (101, ee 101), (102, ee 102), (103, ee 103), (104, ee 104), (105, ee 105), (106, ee 106), (107, ee 107), (108, ee 108), (109, ee 109)]) ?_ ?_
        · by_cases h0 : o.el < 0 <;> by_cases h1 : (g.edges.length : Int) ≤ o.el <;> simp [h0, h1, inI] <;> omega
        try simp only [E_cons, E_nil, reduceIte, Nat.reduceEqDiff]
        refine .condk _ rfl (fun hc6 => ?_) (fun hc6 => ?_)
        · simp at hc6
          refine .seqk fun K23 hK23 => ?_
          refine .reg ?_
          simp
          refine hK23 _ ?_
          clear hK23 K23
          refine .ret ?_
          -- leaf 8
          try simp only [then', inBlk]
          have hst : stepE g k o = 6 := by rcases hk2 with h2 | h2 <;> simp [stepE, h2, hc6]
          have hsk : stepK g k o = k := by simp [stepK, hst]
          refine ret_m (.inr rfl) (r := int 6) ?_ (by simp) ?_
          · simp
          · refine ⟨by rw [hst], ?_⟩
            rw [hsk, same2 e1 e2]
            simp
        · simp at hc6
          have h0 : 0 ≤ o.el ∧ o.el < g.edges.length := by simpa [inI] using hc6
          obtain ⟨h0, hle⟩ := h0
          obtain ⟨x, hx⟩ : ∃ x, g.edges[o.el.toNat]? = some x := ⟨g.edges[o.el.toNat]'(by omega), by simp⟩
          have hel : o.el.toNat < k.es.length := by rw [hf.2]; omega
          have hi : o.el < (k.es.length : Int) := by omega
          obtain ⟨e, he⟩ : ∃ e, k.es[o.el.toNat]? = some e := ⟨_, List.getElem?_eq_getElem hel⟩
          obtain ⟨i1, i2⟩ := gErr_edge hv (List.mem_of_getElem? hx)
          obtain ⟨hs0, a, ha, hea⟩ := Kn.get hf i1
          obtain ⟨ht0, b, hb, heb⟩ := Kn.get hf i2
          have hae := (List.getElem?_eq_some_iff.1 ha).2
          have hbe := (List.getElem?_eq_some_iff.1 hb).2
          have hee := (List.getElem?_eq_some_iff.1 he).2
          have hi2 : x.src < (k.ns.length : Int) := by have := (List.getElem?_eq_some_iff.1 ha).1; omega
          have hi3 : x.tgt < (k.ns.length : Int) := by have := (List.getElem?_eq_some_iff.1 hb).1; omega
          have hks : (if (e || (decide (o.kind = 3) && !(a && b)) || (decide (o.kind = 2) && ((a && b) || !(a || b)))) = true then (8 : Int) else 0) = stepE g k o := by
            rcases hk2 with h2 | h2 <;> simp [stepE, h2, hc6, hx, he, hea, heb]
          have hne1 : ¬ o.kind = 1 := hc1
          refine .skip ?_
          refine hK22 _ ?_
          clear hK22 K22
          refine .seqk fun K24 hK24 => ?_
          refine .reg ?_
          simp [h0, hx]
          refine hK24 _ ?_
          clear hK24 K24
          refine .keep [3, 5, 7, 63, 64, 65, 66, 67, 68, 77, 78, 79, 80, 81, 82, 91, 92, 93, 94, 95, 96, 97, 100, 101, 102, 103, 104, 105, 106, 107, 108, 109] ?_
          simp only [keepE, E_cons, E_nil, reduceIte, Nat.reduceEqDiff]
          refine .see (upd _ 7 ⟨_, none⟩) [(3, .ptr 3 ((outer h 3).ver + 1) 0 0), (5, .dptr (Oprn.c o)), (7, .dptr (Edge.c x))] ⟨.refl _, .refl _, T.box (k := 3) (cs := Edge.c x) (by simp [upd]) (by simp [upd]), trivial⟩ (Dies.kill _ _ _ _) ?_
          refine .seqdreg mixed (fun hh => hh) (fun ee => [(3, ee 3), (5, ee 5), (7, ee 7), (8, bo (a && b)), (9, bo (a || b)), (91, ee 91), (92, ee 92), (93, ee 93), (94, ee 94), (95, ee 95), (96, ee 96), (97, ee 97), (100, ee 100), (101, ee 101), (102, ee 102), (103, ee 103), (104, ee 104), (105, ee 105), (106, ee 106), (107, ee 107), (108, ee 108), (109, ee 109)]) ?_ ?_
          · cases a <;> cases b <;> simp [hs0, ht0, hi2, hi3, ha, hb, hae, hbe, dl_getE, getBlk, upd, o1, o2]
          try simp only [E_cons, E_nil, reduceIte, Nat.reduceEqDiff]
          refine .seqk fun K25 hK25 => ?_
          refine .seqreg (fun hh => hh) (fun ee => [(3, ee 3), (5, ee 5), (7, ee 7), (110, bo (e || (decide (o.kind = 3) && !(a && b)) || (decide (o.kind = 2) && ((a && b) || !(a || b)))))]) ?_ ?_
          · rcases hk2 with h2 | h2 <;> cases a <;> cases b <;> cases e <;> simp [h0, hi, he, hee, h2, dl_getE, getBlk, upd, o1, o2]
          try simp only [E_cons, E_nil, reduceIte, Nat.reduceEqDiff]
          refine .condk _ rfl (fun hc7 => ?_) (fun hc7 => ?_)
          · rw [if_pos hc7] at hks
            refine .seqk fun K26 hK26 => ?_
            refine .reg ?_
            simp
            refine hK26 _ ?_
            clear hK26 K26
            refine .ret ?_
            -- leaf 9
            try simp only [then', inBlk]
            have hst : stepE g k o = 8 := by exact hks.symm
            have hsk : stepK g k o = k := by simp [stepK, hst]
            refine ret_m (.inr rfl) (r := int 8) ?_ (by simp) ?_
            · simp
            · refine ⟨by rw [hst], ?_⟩
              rw [hsk, same2 e1 e2]
              simp
          · rw [hc7] at hks
            simp only [Bool.false_eq_true, if_false] at hks
            refine .skip ?_
            refine hK25 _ ?_
            clear hK25 K25
            refine .seqk fun K27 hK27 => ?_
            obtain ⟨b2, hb2⟩ : ∃ b2, (k.ns.set x.src.toNat true)[x.tgt.toNat]? = some b2 := ⟨_, List.getElem?_eq_getElem (by rw [List.length_set]; omega)⟩
            refine .dreg mixed ?_
            simp [h0, hi, he, hs0, ht0, hi2, hi3, ha, hb2, dl_setB, dl_getE, -List.map_set, getBlk, upd, o1, o2]
            refine hK27 _ ?_
            clear hK27 K27
            refine .keep [] ?_
            simp only [keepE, E_cons, E_nil, reduceIte, Nat.reduceEqDiff]
            refine .seqk fun K28 hK28 => ?_
            refine .reg ?_
            simp
            refine hK28 _ ?_
            clear hK28 K28
            refine .ret ?_
            -- leaf 10
            try simp only [then', inBlk]
            have hst : stepE g k o = 0 := by exact hks.symm
            have hsk : stepK g k o = afterK g k o := by simp [stepK, hst]
            refine ret_m (.inr rfl) (r := int 0) ?_ (by simp) ?_
            · simp
            · refine ⟨by rw [hst], ?_⟩
              rw [hsk]
              intro b hb
              have hb1 : 1000000 ≤ b := hb
              have n3 : b ≠ 3 := by omega
              have n4 : b ≠ 4 := by omega
              have n5 : b ≠ 5 := by omega
              have n7 : b ≠ 7 := by omega
              by_cases m1 : b = 1000001 <;> by_cases m2 : b = 1000002 <;> simp [upd, outer, afterK, hne1, hx, m1, m2, n3, n4, n5, n7, Nat.not_lt.2 hb1, e1, e2]
      · simp at hc5
        refine .seqk fun K29 hK29 => ?_
        refine .reg ?_
        simp
        refine hK29 _ ?_
        clear hK29 K29
        refine .ret ?_
        -- leaf 11
        try simp only [then', inBlk]
        have hst : stepE g k o = 6 := by simp_all [stepE]
        have hsk : stepK g k o = k := by simp [stepK, hst]
        refine ret_m (.inr rfl) (r := int 6) ?_ (by simp) ?_
        · simp
        · refine ⟨by rw [hst], ?_⟩
          rw [hsk, same2 e1 e2]
          simp
end Go.Abs
