/- Contracts of functions of the program, and what they lean on: a part of the proof that incrementalOpposite_proved stands; no condition. -/
import Derived.Test.YtklbdeenilokiaaGreatProg
import Derived.Test.YtklbdeenilokiaaGreatQ14M4
import Derived.Test.YtklbdeenilokiaaGreatQ14S1
import Derived.Test.YtklbdeenilokiaaGreatQ14M8
set_option linter.unusedVariables false
set_option linter.unusedSimpArgs false
namespace Go.Abs
open Go Go.Proofs

def runP (dg : Bool) (n : Int) : Bool := digit n || (!dg && (letter n || decide (n = 95)))
theorem runP_true : runP true = digit := by funext n; simp [runP]
theorem runP_false : runP false = part := by
  funext n
  simp only [runP, part, Bool.not_false, Bool.true_and]
  cases digit n <;> cases letter n <;> rfl
theorem wrapN {n : Nat} (h : n < 9223372036854775808) : IntKind.i64.wrap (n : Int) = n := wrap64 (by omega) (by omega)
def c269 : ACode := (.seq (.reg [⟨(some 2), none, (.mov (.c (.d (.bool false))))⟩]) (.seq (.reg [⟨(some 3), none, (.mov (.t 0))⟩, ⟨(some 4), none, (.bin .geq (.t 3) (.c (.d (.int .u8 97))))⟩, ⟨(some 5), none, (.mov (.t 4))⟩, ⟨(some 6), (some (5, true)), (.mov (.t 0))⟩, ⟨(some 7), (some (5, true)), (.bin .leq (.t 6) (.c (.d (.int .u8 122))))⟩, ⟨(some 8), none, (.pick (.t 5) (.t 7) (.c (.d (.bool false))))⟩, ⟨(some 9), none, (.mov (.t 8))⟩, ⟨(some 10), (some (9, false)), (.mov (.t 0))⟩, ⟨(some 11), (some (9, false)), (.bin .geq (.t 10) (.c (.d (.int .u8 65))))⟩, ⟨(some 12), (some (9, false)), (.mov (.t 11))⟩, ⟨(some 13), (some (12, true)), (.mov (.t 0))⟩, ⟨(some 14), (some (12, true)), (.bin .leq (.t 13) (.c (.d (.int .u8 90))))⟩, ⟨(some 15), (some (9, false)), (.pick (.t 12) (.t 14) (.c (.d (.bool false))))⟩, ⟨(some 16), none, (.pick (.t 9) (.c (.d (.bool true))) (.t 15))⟩, ⟨(some 2), none, (.mov (.t 16))⟩]) .ret))
theorem b269 : Body Tryz.prog 269 17 c269 [.tmp 2] := Body.of Tryz.f269 Tryz.func269 (by decide +kernel) (by decide +kernel) Tryz.ntmps269 (by decide +kernel) (by decide +kernel)
theorem p269 (n : Int) : PCall Tryz.prog 269 [.d (.int .u8 n)] (bo (letter n)) := by
  intro h
  refine ACall.of b269 (by simp) ?_
  unfold c269
  refine .seqk fun K1 hK1 => ?_
  refine .reg ?_
  simp
  refine hK1 _ ?_
  clear hK1 K1
  refine .seqreg (fun hh => hh) (fun ee => [(2, bo (letter n))]) ?_ ?_
  · by_cases h0 : 97 ≤ n <;> by_cases h1 : n ≤ 122 <;> by_cases h2 : 65 ≤ n <;> by_cases h3 : n ≤ 90 <;> simp [h0, h1, h2, h3, letter]
  try simp only [E_cons, E_nil, reduceIte, Nat.reduceEqDiff]
  refine .ret ?_
  -- leaf 1
  refine ret_d (.inr rfl) rfl (.refl _) rfl (by first | exact OutEq.outer _ | assumption | (simp; done) | (simp; assumption)) ?_
  simp
def c270 : ACode := (.seq (.reg [⟨(some 2), none, (.mov (.c (.d (.bool false))))⟩]) (.seq (.reg [⟨(some 3), none, (.mov (.t 0))⟩, ⟨(some 4), none, (.bin .geq (.t 3) (.c (.d (.int .u8 48))))⟩, ⟨(some 5), none, (.mov (.t 4))⟩, ⟨(some 6), (some (5, true)), (.mov (.t 0))⟩, ⟨(some 7), (some (5, true)), (.bin .leq (.t 6) (.c (.d (.int .u8 57))))⟩, ⟨(some 8), none, (.pick (.t 5) (.t 7) (.c (.d (.bool false))))⟩, ⟨(some 2), none, (.mov (.t 8))⟩]) .ret))
theorem b270 : Body Tryz.prog 270 9 c270 [.tmp 2] := Body.of Tryz.f270 Tryz.func270 (by decide +kernel) (by decide +kernel) Tryz.ntmps270 (by decide +kernel) (by decide +kernel)
theorem p270 (n : Int) : PCall Tryz.prog 270 [.d (.int .u8 n)] (bo (digit n)) := by
  intro h
  refine ACall.of b270 (by simp) ?_
  unfold c270
  refine .seqk fun K1 hK1 => ?_
  refine .reg ?_
  simp
  refine hK1 _ ?_
  clear hK1 K1
  refine .seqreg (fun hh => hh) (fun ee => [(2, bo (digit n))]) ?_ ?_
  · by_cases h0 : 48 ≤ n <;> by_cases h1 : n ≤ 57 <;> simp [h0, h1, digit]
  try simp only [E_cons, E_nil, reduceIte, Nat.reduceEqDiff]
  refine .ret ?_
  -- leaf 1
  refine ret_d (.inr rfl) rfl (.refl _) rfl (by first | exact OutEq.outer _ | assumption | (simp; done) | (simp; assumption)) ?_
  simp
def c271 : ACode := (.seq (.reg [⟨(some 6), none, (.mov (.c (.d (.int .i64 0))))⟩]) (.seq (.reg [⟨(some 7), none, (.mov (.c (.d (.int .i64 0))))⟩]) (.seq (.block 0 (.loop (.seq (.seq (.reg [⟨(some 8), none, (.mov (.t 1))⟩, ⟨(some 9), none, (.mov (.t 7))⟩, ⟨(some 10), none, (.bin .add (.t 8) (.t 9))⟩, ⟨(some 11), none, (.mov (.t 0))⟩, ⟨(some 12), none, (.len true (.t 11))⟩, ⟨(some 13), none, (.bin .lss (.t 10) (.t 12))⟩, ⟨(some 14), none, (.mov (.t 13))⟩, ⟨(some 15), (some (14, true)), (.mov (.t 0))⟩, ⟨(some 16), (some (14, true)), (.mov (.t 1))⟩, ⟨(some 17), (some (14, true)), (.mov (.t 7))⟩, ⟨(some 18), (some (14, true)), (.bin .add (.t 16) (.t 17))⟩, ⟨(some 19), (some (14, true)), (.sidx (.t 15) (.t 18))⟩, ⟨(some 20), (some (14, true)), (.call 270 [(.t 19)])⟩, ⟨(some 21), (some (14, true)), (.mov (.t 20))⟩, ⟨(some 22), (some (21, false)), (.mov (.t 2))⟩, ⟨(some 23), (some (21, false)), (.not (.t 22))⟩, ⟨(some 24), (some (21, false)), (.mov (.t 23))⟩, ⟨(some 25), (some (24, true)), (.mov (.t 0))⟩, ⟨(some 26), (some (24, true)), (.mov (.t 1))⟩, ⟨(some 27), (some (24, true)), (.mov (.t 7))⟩, ⟨(some 28), (some (24, true)), (.bin .add (.t 26) (.t 27))⟩, ⟨(some 29), (some (24, true)), (.sidx (.t 25) (.t 28))⟩, ⟨(some 30), (some (24, true)), (.call 269 [(.t 29)])⟩, ⟨(some 31), (some (24, true)), (.mov (.t 30))⟩, ⟨(some 32), (some (31, false)), (.mov (.t 0))⟩, ⟨(some 33), (some (31, false)), (.mov (.t 1))⟩, ⟨(some 34), (some (31, false)), (.mov (.t 7))⟩, ⟨(some 35), (some (31, false)), (.bin .add (.t 33) (.t 34))⟩, ⟨(some 36), (some (31, false)), (.sidx (.t 32) (.t 35))⟩, ⟨(some 37), (some (31, false)), (.bin .eql (.t 36) (.c (.d (.int .u8 95))))⟩, ⟨(some 38), (some (24, true)), (.pick (.t 31) (.c (.d (.bool true))) (.t 37))⟩, ⟨(some 39), (some (21, false)), (.pick (.t 24) (.t 38) (.c (.d (.bool false))))⟩, ⟨(some 40), (some (14, true)), (.pick (.t 21) (.c (.d (.bool true))) (.t 39))⟩, ⟨(some 41), none, (.pick (.t 14) (.t 40) (.c (.d (.bool false))))⟩]) (.cond (.t 41) .skip (.exit 0))) (.block 1 (.reg [⟨(some 42), none, (.mov (.t 7))⟩, ⟨(some 43), none, (.bin .add (.t 42) (.c (.d (.int .i64 1))))⟩, ⟨(some 7), none, (.mov (.t 43))⟩]))))) (.seq (.reg [⟨(some 44), none, (.mov (.t 7))⟩, ⟨(some 6), none, (.mov (.t 44))⟩]) .ret))))
theorem b271 : Body Tryz.prog 271 45 c271 [.tmp 6] := Body.of Tryz.f271 Tryz.func271 (by decide +kernel) (by decide +kernel) Tryz.ntmps271 (by decide +kernel) (by decide +kernel)
theorem p271 (s : ByteArray) (dg : Bool) (hm : (strL s).length ≤ 140737488355328) : PCall Tryz.prog 271 [stri s, int 0, bo dg] (int (runB (runP dg) (strL s))) := by
  intro h
  refine ACall.of b271 (by simp) ?_
  unfold c271
  refine .seqk fun K1 hK1 => ?_
  refine .reg ?_
  simp
  refine hK1 _ ?_
  clear hK1 K1
  refine .seqk fun K2 hK2 => ?_
  refine .reg ?_
  simp
  refine hK2 _ ?_
  clear hK2 K2
  refine .seqk fun K3 hK3 => ?_
  refine .block ?_
  refine .count (strL s).length (fun i st => i + runB (runP dg) ((strL s).drop i) = runB (runP dg) (strL s) ∧ st = ⟨E [(7, int i), (0, stri s), (1, int 0), (2, bo dg)], outer h⟩) 0 (Nat.zero_le _) _ (.cov (h' := outer h) (by simp) (.refl _)) ⟨by simp, rfl⟩ ?_
  rintro i s hi1 ⟨hp, rfl⟩ K4 hK4
  refine .seqk fun K5 hK5 => ?_
  refine .seqreg (fun hh => hh) (fun ee => [(0, ee 0), (1, ee 1), (2, ee 2), (7, ee 7), (41, bo (match (strL s)[i]? with | some c => runP dg c.toNat | none => false))]) ?_ ?_
  · have hwi : IntKind.i64.wrap (i : Int) = i := wrapN (by omega)
    cases hx : (strL s)[i]? with
    | none =>
      have hlt : ¬ i < (strL s).length := by simpa using hx
      simp [hlt, hwi]
    | some c =>
      have hlt : i < (strL s).length := (List.getElem?_eq_some_iff.1 hx).1
      obtain ⟨hlt', hc⟩ := strL_get hx
      refine Sq.cutk 13 fun K1 hK1 => ?_
      simp only [List.take_succ_cons, List.take_zero, List.drop_succ_cons, List.drop_zero]
      simp [hlt, hwi, hc]
      refine PCall.sq (p270 _) fun h1 he => ?_
      simp only [mergeH_eq he]
      refine hK1 _ ?_
      by_cases hd : digit c.toNat = true
      · simp [hlt, hd, runP]
      · simp at hd
        cases dg with
        | true => simp [hlt, hd, runP]
        | false =>
          refine Sq.cutk 10 fun K2 hK2 => ?_
          simp only [List.take_succ_cons, List.take_zero, List.drop_succ_cons, List.drop_zero]
          simp [hlt, hwi, hc, hd]
          refine PCall.sq (p269 _) fun h1 he => ?_
          simp only [mergeH_eq he]
          refine hK2 _ ?_
          by_cases hl : letter c.toNat = true
          · simp [hlt, hd, hl, runP]
          · simp at hl
            by_cases h95 : (c.toNat : Int) = 95
            · have hl95 : letter 95 = false := rfl
              have hd95 : digit 95 = false := rfl
              simp [hlt, hwi, hc, hd, hl, h95, runP, hl95, hd95]
            · simp [hlt, hwi, hc, hd, hl, h95, runP]
  try simp only [E_cons, E_nil, reduceIte, Nat.reduceEqDiff]
  refine .condk _ rfl (fun hc1 => ?_) (fun hc1 => ?_)
  · obtain ⟨c, hx, hpc⟩ : ∃ c, (strL s)[i]? = some c ∧ runP dg c.toNat = true := by
      cases hx : (strL s)[i]? with
      | none => simp [hx] at hc1
      | some c => exact ⟨c, rfl, by simpa [hx] using hc1⟩
    have hlt : i < (strL s).length := (List.getElem?_eq_some_iff.1 hx).1
    refine .skip ?_
    refine hK5 _ ?_
    clear hK5 K5
    refine .block ?_
    refine .reg ?_
    simp
    -- loop back, leaf 1
    refine hK4 _ _ (by omega) (Wk.cov (h' := outer h) (by simp; exact wrap64 (by omega) (by omega)) (.refl _)) ⟨?_, rfl⟩
    rw [← hp, drop_cons hx]
    simp [runB, hpc]
    omega
  · have h0 : runB (runP dg) ((strL s).drop i) = 0 := by
      cases hx : (strL s)[i]? with
      | none => rw [List.drop_eq_nil_of_le (by simpa using hx)]; rfl
      | some c =>
        simp [hx] at hc1
        rw [drop_cons hx]
        simp [runB, hc1]
    refine .exit ?_
    try simp only [then', inBlk, if_true, if_false, reduceIte, Nat.reduceEqDiff]
    refine hK3 _ ?_
    clear hK5 hK4 hK3 K5 K4 K3
    refine .seqk fun K6 hK6 => ?_
    refine .reg ?_
    simp
    refine hK6 _ ?_
    clear hK6 K6
    refine .ret ?_
    -- leaf 2
    refine ret_d (.inr rfl) rfl (.refl _) rfl (by first | exact OutEq.outer _ | assumption | (simp; done) | (simp; assumption)) ?_
    simp; omega
end Go.Abs
set_option linter.unusedVariables false
set_option linter.unusedSimpArgs false
namespace Go.Abs
open Go Go.Proofs

def quotedR (l : List UInt8) : Int := if l[1 + runB quotable (l.drop 1)]? = some 34 then (runB quotable (l.drop 1) : Int) + 2 else 0
def c272 : ACode := (.seq (.reg [⟨(some 4), none, (.mov (.c (.d (.int .i64 0))))⟩]) (.seq (.seq (.reg [⟨(some 5), none, (.mov (.c (.d (.int .i64 1))))⟩]) (.block 0 (.loop (.seq (.seq (.reg [⟨(some 7), none, (.mov (.t 1))⟩, ⟨(some 8), none, (.mov (.t 5))⟩, ⟨(some 9), none, (.bin .add (.t 7) (.t 8))⟩, ⟨(some 10), none, (.mov (.t 0))⟩, ⟨(some 11), none, (.len true (.t 10))⟩, ⟨(some 12), none, (.bin .lss (.t 9) (.t 11))⟩]) (.cond (.t 12) .skip (.exit 0))) (.seq (.block 1 (.seq (.reg [⟨(some 15), none, (.mov (.t 0))⟩, ⟨(some 16), none, (.mov (.t 1))⟩, ⟨(some 17), none, (.mov (.t 5))⟩, ⟨(some 18), none, (.bin .add (.t 16) (.t 17))⟩, ⟨(some 19), none, (.sidx (.t 15) (.t 18))⟩, ⟨(some 6), none, (.mov (.t 19))⟩]) (.seq (.seq (.reg [⟨(some 20), none, (.mov (.t 6))⟩, ⟨(some 21), none, (.bin .eql (.t 20) (.c (.d (.int .u8 34))))⟩]) (.cond (.t 21) (.seq (.reg [⟨(some 22), none, (.mov (.t 5))⟩, ⟨(some 23), none, (.bin .add (.t 22) (.c (.d (.int .i64 1))))⟩, ⟨(some 4), none, (.mov (.t 23))⟩]) .ret) .skip)) (.seq (.reg [⟨(some 24), none, (.mov (.t 6))⟩, ⟨(some 25), none, (.bin .lss (.t 24) (.c (.d (.int .u8 32))))⟩, ⟨(some 26), none, (.mov (.t 25))⟩, ⟨(some 27), (some (26, false)), (.mov (.t 6))⟩, ⟨(some 28), (some (26, false)), (.bin .gtr (.t 27) (.c (.d (.int .u8 126))))⟩, ⟨(some 29), none, (.pick (.t 26) (.c (.d (.bool true))) (.t 28))⟩]) (.cond (.t 29) (.seq (.reg [⟨(some 4), none, (.mov (.c (.d (.int .i64 0))))⟩]) .ret) .skip))))) (.reg [⟨(some 13), none, (.mov (.t 5))⟩, ⟨(some 14), none, (.bin .add (.t 13) (.c (.d (.int .i64 1))))⟩, ⟨(some 5), none, (.mov (.t 14))⟩])))))) (.seq (.reg [⟨(some 4), none, (.mov (.c (.d (.int .i64 0))))⟩]) .ret)))
theorem b272 : Body Tryz.prog 272 30 c272 [.tmp 4] := Body.of Tryz.f272 Tryz.func272 (by decide +kernel) (by decide +kernel) Tryz.ntmps272 (by decide +kernel) (by decide +kernel)
theorem p272 (s : ByteArray) (hm : (strL s).length ≤ 140737488355328) (h0 : 1 ≤ (strL s).length) : PCall Tryz.prog 272 [stri s, int 0] (int (quotedR (strL s))) := by
  intro h
  refine ACall.of b272 (by simp) ?_
  unfold c272
  refine .seqk fun K1 hK1 => ?_
  refine .reg ?_
  simp
  refine hK1 _ ?_
  clear hK1 K1
  refine .seqk fun K2 hK2 => ?_
  refine .seqk fun K3 hK3 => ?_
  refine .reg ?_
  simp
  refine hK3 _ ?_
  clear hK3 K3
  refine .block ?_
  refine .count (strL s).length (fun i st => 1 ≤ i ∧ i + runB quotable ((strL s).drop i) = 1 + runB quotable ((strL s).drop 1) ∧ st = ⟨E [(5, int i), (0, stri s), (1, int 0)], outer h⟩) 1 (h0) _ (.cov (h' := outer h) (by simp) (.refl _)) ⟨Nat.le_refl _, rfl, rfl⟩ ?_
  rintro i s hi1 ⟨h1i, hp, rfl⟩ K4 hK4
  refine .seqk fun K5 hK5 => ?_
  refine .seqk fun K6 hK6 => ?_
  have hwi : IntKind.i64.wrap (i : Int) = i := wrapN (by omega)
  have hwi1 : IntKind.i64.wrap ((i : Int) + 1) = i + 1 := wrap64 (by omega) (by omega)
  refine .reg ?_
  simp [hwi]
  refine hK6 _ ?_
  clear hK6 K6
  refine .keep [0, 1, 5, 12, 27, 28] ?_
  simp only [keepE, E_cons, E_nil, reduceIte, Nat.reduceEqDiff]
  refine .condk _ rfl (fun hc1 => ?_) (fun hc1 => ?_)
  · simp at hc1
    obtain ⟨c, hx⟩ := get_some hc1
    obtain ⟨hlt2, hc⟩ := strL_get hx
    refine .skip ?_
    refine hK5 _ ?_
    clear hK5 K5
    refine .seqk fun K7 hK7 => ?_
    refine .block ?_
    refine .seqk fun K8 hK8 => ?_
    refine .reg ?_
    simp [hwi, hx]
    refine hK8 _ ?_
    clear hK8 K8
    refine .keep [0, 1, 5, 6, 27, 28] ?_
    simp only [keepE, E_cons, E_nil, reduceIte, Nat.reduceEqDiff]
    refine .seqk fun K9 hK9 => ?_
    refine .seqk fun K10 hK10 => ?_
    refine .reg ?_
    simp
    refine hK10 _ ?_
    clear hK10 K10
    refine .condk _ rfl (fun hc2 => ?_) (fun hc2 => ?_)
    · have h34 : ((c.toNat : Int) = 34) := by simpa using hc2
      have hcc : c = 34 := (u8_eq c 34 (by omega)).1 h34
      have hr : runB quotable ((strL s).drop i) = 0 := by rw [drop_cons hx]; simp [runB, quotable, h34]
      refine .seqk fun K11 hK11 => ?_
      refine .reg ?_
      simp [hwi1]
      refine hK11 _ ?_
      clear hK11 K11
      refine .keep [4] ?_
      simp only [keepE, E_cons, E_nil, reduceIte, Nat.reduceEqDiff]
      refine .ret ?_
      -- leaf 1
      refine ret_d (.inr rfl) rfl (.refl _) rfl (by first | exact OutEq.outer _ | assumption | (simp; done) | (simp; assumption)) ?_
      rw [hr] at hp
      have hn : runB quotable ((strL s).drop 1) = i - 1 := by omega
      have h1 : 1 + (i - 1) = i := by omega
      rw [quotedR, hn, h1, hx, if_pos (by rw [hcc])]
      simp
      omega
    · have h34 : ¬ ((c.toNat : Int) = 34) := by simpa using hc2
      have hcc : ¬ c = 34 := fun e => h34 ((u8_eq c 34 (by omega)).2 e)
      refine .skip ?_
      refine hK9 _ ?_
      clear hK9 K9
      refine .seqreg (fun hh => hh) (fun ee => [(0, ee 0), (1, ee 1), (5, ee 5), (29, bo (decide (((c.toNat : Int) < 32) ∨ (126 < (c.toNat : Int)))))]) ?_ ?_
      · by_cases h1 : (c.toNat : Int) < 32 <;> by_cases h2 : 126 < (c.toNat : Int) <;> simp [h1, h2]
      try simp only [E_cons, E_nil, reduceIte, Nat.reduceEqDiff]
      refine .condk _ rfl (fun hc3 => ?_) (fun hc3 => ?_)
      · have hbad : (c.toNat : Int) < 32 ∨ 126 < (c.toNat : Int) := by simpa using hc3
        have hr : runB quotable ((strL s).drop i) = 0 := by
          rw [drop_cons hx]
          have : quotable (c.toNat : Int) = false := by simp [quotable]; omega
          simp [runB, this]
        refine .seqk fun K12 hK12 => ?_
        refine .reg ?_
        simp
        refine hK12 _ ?_
        clear hK12 K12
        refine .ret ?_
        -- leaf 2
        refine ret_d (.inr rfl) rfl (.refl _) rfl (by first | exact OutEq.outer _ | assumption | (simp; done) | (simp; assumption)) ?_
        rw [hr] at hp
        have hn : runB quotable ((strL s).drop 1) = i - 1 := by omega
        have h1 : 1 + (i - 1) = i := by omega
        rw [quotedR, hn, h1, hx, if_neg (by simpa using hcc)]
        rfl
      · have hok : ¬ ((c.toNat : Int) < 32 ∨ 126 < (c.toNat : Int)) := by simpa using hc3
        have hqt : quotable (c.toNat : Int) = true := by simp [quotable, h34]; omega
        refine .skip ?_
        refine hK7 _ ?_
        clear hK7 K7
        refine .reg ?_
        simp
        -- loop back, leaf 3
        refine hK4 _ _ (by omega) (Wk.cov (h' := outer h) (by simp; exact wrap64 (by omega) (by omega)) (.refl _)) ⟨by omega, ?_, rfl⟩
        rw [← hp, drop_cons hx]
        simp [runB, hqt]
        omega
  · simp at hc1
    have hr : runB quotable ((strL s).drop i) = 0 := by rw [drop_nil hc1]; rfl
    refine .exit ?_
    try simp only [then', inBlk, if_true, if_false, reduceIte, Nat.reduceEqDiff]
    refine hK2 _ ?_
    clear hK5 hK4 hK2 K5 K4 K2
    refine .seqk fun K13 hK13 => ?_
    refine .reg ?_
    simp
    refine hK13 _ ?_
    clear hK13 K13
    refine .ret ?_
    -- leaf 4
    refine ret_d (.inr rfl) rfl (.refl _) rfl (by first | exact OutEq.outer _ | assumption | (simp; done) | (simp; assumption)) ?_
    rw [hr] at hp
    have hn : runB quotable ((strL s).drop 1) = i - 1 := by omega
    have h1 : 1 + (i - 1) = i := by omega
    rw [quotedR, hn, h1, List.getElem?_eq_none hc1, if_neg (by simp)]
    rfl
end Go.Abs
set_option linter.unusedVariables false
set_option linter.unusedSimpArgs false
namespace Go.Abs
open Go Go.Proofs

def signsD : List ByteArray := [⟨#[45, 62]⟩, ⟨#[60, 61]⟩, ⟨#[62, 61]⟩, ⟨#[61, 61]⟩, ⟨#[33, 61]⟩, ⟨#[123]⟩, ⟨#[125]⟩, ⟨#[40]⟩, ⟨#[41]⟩, ⟨#[91]⟩, ⟨#[93]⟩, ⟨#[44]⟩, ⟨#[59]⟩, ⟨#[58]⟩, ⟨#[61]⟩, ⟨#[43]⟩, ⟨#[45]⟩, ⟨#[42]⟩, ⟨#[60]⟩, ⟨#[62]⟩, ⟨#[33]⟩, ⟨#[38]⟩, ⟨#[124]⟩, ⟨#[46]⟩, ⟨#[63]⟩]
def isSign (s x : ByteArray) : Bool := decide (((strL x).length : Int) ≤ (strL s).length) && ((s.extract 0 (strL x).length).toList == x.toList)
def c273 : ACode := (.seq (.reg [⟨(some 0), none, (.mov (.c (.d .nil)))⟩]) (.seq (.reg [⟨(some 1), none, (.lit 1 25 [(.d (.str ⟨⟨[]⟩⟩))] [(0, (.c (.d (.str ⟨⟨[45, 62]⟩⟩)))), (1, (.c (.d (.str ⟨⟨[60, 61]⟩⟩)))), (2, (.c (.d (.str ⟨⟨[62, 61]⟩⟩)))), (3, (.c (.d (.str ⟨⟨[61, 61]⟩⟩)))), (4, (.c (.d (.str ⟨⟨[33, 61]⟩⟩)))), (5, (.c (.d (.str ⟨⟨[123]⟩⟩)))), (6, (.c (.d (.str ⟨⟨[125]⟩⟩)))), (7, (.c (.d (.str ⟨⟨[40]⟩⟩)))), (8, (.c (.d (.str ⟨⟨[41]⟩⟩)))), (9, (.c (.d (.str ⟨⟨[91]⟩⟩)))), (10, (.c (.d (.str ⟨⟨[93]⟩⟩)))), (11, (.c (.d (.str ⟨⟨[44]⟩⟩)))), (12, (.c (.d (.str ⟨⟨[59]⟩⟩)))), (13, (.c (.d (.str ⟨⟨[58]⟩⟩)))), (14, (.c (.d (.str ⟨⟨[61]⟩⟩)))), (15, (.c (.d (.str ⟨⟨[43]⟩⟩)))), (16, (.c (.d (.str ⟨⟨[45]⟩⟩)))), (17, (.c (.d (.str ⟨⟨[42]⟩⟩)))), (18, (.c (.d (.str ⟨⟨[60]⟩⟩)))), (19, (.c (.d (.str ⟨⟨[62]⟩⟩)))), (20, (.c (.d (.str ⟨⟨[33]⟩⟩)))), (21, (.c (.d (.str ⟨⟨[38]⟩⟩)))), (22, (.c (.d (.str ⟨⟨[124]⟩⟩)))), (23, (.c (.d (.str ⟨⟨[46]⟩⟩)))), (24, (.c (.d (.str ⟨⟨[63]⟩⟩))))])⟩, ⟨(some 0), none, (.mov (.t 1))⟩]) .ret))
theorem b273 : Body Tryz.prog 273 2 c273 [.tmp 0] := Body.of Tryz.f273 Tryz.func273 (by decide +kernel) (by decide +kernel) Tryz.ntmps273 (by decide +kernel) (by decide +kernel)
theorem p273  : PCall Tryz.prog 273 [] (sl (signsD.map S.c)) := by
  intro h
  refine ACall.of b273 (by simp) ?_
  unfold c273
  refine .seqk fun K1 hK1 => ?_
  refine .reg ?_
  simp
  refine hK1 _ ?_
  clear hK1 K1
  refine .seqk fun K2 hK2 => ?_
  refine .reg ?_
  simp
  refine hK2 _ ?_
  clear hK2 K2
  refine .ret ?_
  -- leaf 1
  refine ret_d (.inr rfl) rfl (T.rowD (k := 1) (signsD.map S.c) (by simp; rfl) (by simp [outer]) rfl) rfl (by first | exact OutEq.outer _ | assumption | (simp; done) | (simp; assumption)) ?_
  rfl
end Go.Abs
set_option linter.unusedVariables false
set_option linter.unusedSimpArgs false
namespace Go.Abs
open Go Go.Proofs

def noTok : Int × ByteArray := (0, ⟨#[]⟩)
def oneC (s : ByteArray) (c : UInt8) : (Int × ByteArray) × Int × Int :=
  if letter c.toNat = true ∨ digit c.toNat = true then
    if digit c.toNat = true then
      if (9 : Int) < runB digit (strL s) then (noTok, 0, 3) else ((2, s.extract 0 (runB digit (strL s))), runB digit (strL s), 0)
    else if (20 : Int) < runB part (strL s) then (noTok, 0, 3) else ((1, s.extract 0 (runB part (strL s))), runB part (strL s), 0)
  else if (c.toNat : Int) = 34 then
    if quotedR (strL s) = 0 then (noTok, 0, 2) else if (60 : Int) < quotedR (strL s) - 2 then (noTok, 0, 3) else ((3, s.extract 1 (quotedR (strL s) - 1).toNat), quotedR (strL s), 0)
  else match signsD.find? (isSign s) with
    | some x => ((4, x), (strL x).length, 0)
    | none => (noTok, 0, 2)
theorem sign_len : ∀ x, x ∈ signsD → (strL x).length ≤ 2 := by
  intro x hx
  simp only [signsD, List.mem_cons, List.not_mem_nil, or_false] at hx
  rcases hx with h | h | h | h | h | h | h | h | h | h | h | h | h | h | h | h | h | h | h | h | h | h | h | h | h <;> subst h <;> decide
theorem quotedR_le (l : List UInt8) : quotedR l ≤ l.length ∧ (quotedR l = 0 ∨ 2 ≤ quotedR l) := by
  unfold quotedR
  split
  · rename_i h
    have := (List.getElem?_eq_some_iff.1 h).1
    omega
  · omega
def c261 : ACode := (.seq (.reg [⟨(some 4), none, (.alloc [(.d (.int .i64 0)), (.d (.str ⟨⟨[]⟩⟩)), (.d (.int .i64 0))])⟩, ⟨(some 5), none, (.mov (.c (.d (.int .i64 0))))⟩, ⟨(some 6), none, (.mov (.c (.d (.int .i64 0))))⟩]) (.seq (.reg [⟨(some 14), none, (.mov (.t 0))⟩, ⟨(some 15), none, (.mov (.t 1))⟩, ⟨(some 16), none, (.sidx (.t 14) (.t 15))⟩, ⟨(some 7), none, (.mov (.t 16))⟩]) (.seq (.seq (.reg [⟨(some 17), none, (.mov (.t 7))⟩, ⟨(some 18), none, (.call 269 [(.t 17)])⟩, ⟨(some 19), none, (.mov (.t 18))⟩, ⟨(some 20), (some (19, false)), (.mov (.t 7))⟩, ⟨(some 21), (some (19, false)), (.call 270 [(.t 20)])⟩, ⟨(some 22), none, (.pick (.t 19) (.c (.d (.bool true))) (.t 21))⟩]) (.cond (.t 22) (.seq (.reg [⟨(some 23), none, (.mov (.t 0))⟩, ⟨(some 24), none, (.mov (.t 1))⟩, ⟨(some 25), none, (.mov (.t 7))⟩, ⟨(some 26), none, (.call 270 [(.t 25)])⟩, ⟨(some 27), none, (.call 271 [(.t 23), (.t 24), (.t 26)])⟩, ⟨(some 8), none, (.mov (.t 27))⟩]) (.seq (.reg [⟨(some 9), none, (.mov (.c (.d (.int .i64 1))))⟩, ⟨(some 10), none, (.mov (.c (.d (.int .i64 20))))⟩]) (.seq (.seq (.reg [⟨(some 28), none, (.mov (.t 7))⟩, ⟨(some 29), none, (.call 270 [(.t 28)])⟩]) (.cond (.t 29) (.reg [⟨(some 9), none, (.mov (.c (.d (.int .i64 2))))⟩, ⟨(some 10), none, (.mov (.c (.d (.int .i64 9))))⟩]) .skip)) (.seq (.seq (.reg [⟨(some 30), none, (.mov (.t 8))⟩, ⟨(some 31), none, (.mov (.t 10))⟩, ⟨(some 32), none, (.bin .gtr (.t 30) (.t 31))⟩]) (.cond (.t 32) (.seq (.reg [⟨(some 33), none, (.build [(.d (.int .i64 0)), (.d (.str ⟨⟨[]⟩⟩)), (.d (.int .i64 0))] [])⟩, ⟨none, none, (.store 3 (.t 4) (.t 33))⟩, ⟨(some 5), none, (.mov (.c (.d (.int .i64 0))))⟩, ⟨(some 6), none, (.mov (.c (.d (.int .i64 3))))⟩]) .ret) .skip)) (.seq (.reg [⟨(some 34), none, (.mov (.t 9))⟩, ⟨(some 35), none, (.mov (.t 0))⟩, ⟨(some 36), none, (.mov (.t 1))⟩, ⟨(some 37), none, (.mov (.t 1))⟩, ⟨(some 38), none, (.mov (.t 8))⟩, ⟨(some 39), none, (.bin .add (.t 37) (.t 38))⟩, ⟨(some 40), none, (.slice 0 (.t 35) (some (.t 36)) (some (.t 39)) none)⟩, ⟨(some 41), none, (.build [(.d (.int .i64 0)), (.d (.str ⟨⟨[]⟩⟩)), (.d (.int .i64 0))] [(0, (1, (.t 34))), (1, (1, (.t 40)))])⟩, ⟨(some 42), none, (.mov (.t 8))⟩, ⟨none, none, (.store 3 (.t 4) (.t 41))⟩, ⟨(some 5), none, (.mov (.t 42))⟩, ⟨(some 6), none, (.mov (.c (.d (.int .i64 0))))⟩]) .ret))))) .skip)) (.seq (.seq (.reg [⟨(some 43), none, (.mov (.t 7))⟩, ⟨(some 44), none, (.bin .eql (.t 43) (.c (.d (.int .u8 34))))⟩]) (.cond (.t 44) (.seq (.reg [⟨(some 45), none, (.mov (.t 0))⟩, ⟨(some 46), none, (.mov (.t 1))⟩, ⟨(some 47), none, (.call 272 [(.t 45), (.t 46)])⟩, ⟨(some 11), none, (.mov (.t 47))⟩]) (.seq (.seq (.reg [⟨(some 48), none, (.mov (.t 11))⟩, ⟨(some 49), none, (.bin .eql (.t 48) (.c (.d (.int .i64 0))))⟩]) (.cond (.t 49) (.seq (.reg [⟨(some 50), none, (.build [(.d (.int .i64 0)), (.d (.str ⟨⟨[]⟩⟩)), (.d (.int .i64 0))] [])⟩, ⟨none, none, (.store 3 (.t 4) (.t 50))⟩, ⟨(some 5), none, (.mov (.c (.d (.int .i64 0))))⟩, ⟨(some 6), none, (.mov (.c (.d (.int .i64 2))))⟩]) .ret) .skip)) (.seq (.seq (.reg [⟨(some 51), none, (.mov (.t 11))⟩, ⟨(some 52), none, (.bin .sub (.t 51) (.c (.d (.int .i64 2))))⟩, ⟨(some 53), none, (.bin .gtr (.t 52) (.c (.d (.int .i64 60))))⟩]) (.cond (.t 53) (.seq (.reg [⟨(some 54), none, (.build [(.d (.int .i64 0)), (.d (.str ⟨⟨[]⟩⟩)), (.d (.int .i64 0))] [])⟩, ⟨none, none, (.store 3 (.t 4) (.t 54))⟩, ⟨(some 5), none, (.mov (.c (.d (.int .i64 0))))⟩, ⟨(some 6), none, (.mov (.c (.d (.int .i64 3))))⟩]) .ret) .skip)) (.seq (.reg [⟨(some 55), none, (.mov (.t 0))⟩, ⟨(some 56), none, (.mov (.t 1))⟩, ⟨(some 57), none, (.bin .add (.t 56) (.c (.d (.int .i64 1))))⟩, ⟨(some 58), none, (.mov (.t 1))⟩, ⟨(some 59), none, (.mov (.t 11))⟩, ⟨(some 60), none, (.bin .add (.t 58) (.t 59))⟩, ⟨(some 61), none, (.bin .sub (.t 60) (.c (.d (.int .i64 1))))⟩, ⟨(some 62), none, (.slice 0 (.t 55) (some (.t 57)) (some (.t 61)) none)⟩, ⟨(some 63), none, (.build [(.d (.int .i64 0)), (.d (.str ⟨⟨[]⟩⟩)), (.d (.int .i64 0))] [(0, (1, (.c (.d (.int .i64 3))))), (1, (1, (.t 62)))])⟩, ⟨(some 64), none, (.mov (.t 11))⟩, ⟨none, none, (.store 3 (.t 4) (.t 63))⟩, ⟨(some 5), none, (.mov (.t 64))⟩, ⟨(some 6), none, (.mov (.c (.d (.int .i64 0))))⟩]) .ret)))) .skip)) (.seq (.reg [⟨(some 65), none, (.call 273 [])⟩, ⟨(some 12), none, (.mov (.t 65))⟩]) (.seq (.seq (.reg [⟨(some 13), none, (.mov (.c (.d (.int .i64 0))))⟩]) (.block 0 (.loop (.seq (.seq (.reg [⟨(some 66), none, (.mov (.t 13))⟩, ⟨(some 67), none, (.mov (.t 12))⟩, ⟨(some 68), none, (.len false (.t 67))⟩, ⟨(some 69), none, (.bin .lss (.t 66) (.t 68))⟩]) (.cond (.t 69) .skip (.exit 0))) (.seq (.block 1 (.seq (.dreg [⟨(some 72), none, (.mov (.t 1))⟩, ⟨(some 73), none, (.mov (.t 12))⟩, ⟨(some 74), none, (.mov (.t 13))⟩, ⟨(some 75), none, (.idx 1 (.t 73) (.t 74))⟩, ⟨(some 76), none, (.load none (.t 75))⟩, ⟨(some 77), none, (.len true (.t 76))⟩, ⟨(some 78), none, (.bin .add (.t 72) (.t 77))⟩, ⟨(some 79), none, (.mov (.t 0))⟩, ⟨(some 80), none, (.len true (.t 79))⟩, ⟨(some 81), none, (.bin .leq (.t 78) (.t 80))⟩, ⟨(some 82), none, (.mov (.t 81))⟩, ⟨(some 83), (some (82, true)), (.mov (.t 0))⟩, ⟨(some 84), (some (82, true)), (.mov (.t 1))⟩, ⟨(some 85), (some (82, true)), (.mov (.t 1))⟩, ⟨(some 86), (some (82, true)), (.mov (.t 12))⟩, ⟨(some 87), (some (82, true)), (.mov (.t 13))⟩, ⟨(some 88), (some (82, true)), (.idx 1 (.t 86) (.t 87))⟩, ⟨(some 89), (some (82, true)), (.load none (.t 88))⟩, ⟨(some 90), (some (82, true)), (.len true (.t 89))⟩, ⟨(some 91), (some (82, true)), (.bin .add (.t 85) (.t 90))⟩, ⟨(some 92), (some (82, true)), (.slice 0 (.t 83) (some (.t 84)) (some (.t 91)) none)⟩, ⟨(some 93), (some (82, true)), (.mov (.t 12))⟩, ⟨(some 94), (some (82, true)), (.mov (.t 13))⟩, ⟨(some 95), (some (82, true)), (.idx 1 (.t 93) (.t 94))⟩, ⟨(some 96), (some (82, true)), (.load none (.t 95))⟩, ⟨(some 97), (some (82, true)), (.bin .eql (.t 92) (.t 96))⟩, ⟨(some 98), none, (.pick (.t 82) (.t 97) (.c (.d (.bool false))))⟩] []) (.cond (.t 98) (.seq (.dreg [⟨(some 99), none, (.mov (.t 12))⟩, ⟨(some 100), none, (.mov (.t 13))⟩, ⟨(some 101), none, (.idx 1 (.t 99) (.t 100))⟩, ⟨(some 102), none, (.load none (.t 101))⟩, ⟨(some 103), none, (.build [(.d (.int .i64 0)), (.d (.str ⟨⟨[]⟩⟩)), (.d (.int .i64 0))] [(0, (1, (.c (.d (.int .i64 4))))), (1, (1, (.t 102)))])⟩, ⟨(some 104), none, (.mov (.t 12))⟩, ⟨(some 105), none, (.mov (.t 13))⟩, ⟨(some 106), none, (.idx 1 (.t 104) (.t 105))⟩, ⟨(some 107), none, (.load none (.t 106))⟩, ⟨(some 108), none, (.len true (.t 107))⟩, ⟨none, none, (.store 3 (.t 4) (.t 103))⟩, ⟨(some 5), none, (.mov (.t 108))⟩, ⟨(some 6), none, (.mov (.c (.d (.int .i64 0))))⟩] [(7, 10), (8, 10), (9, 10)]) .ret) .skip))) (.reg [⟨(some 70), none, (.mov (.t 13))⟩, ⟨(some 71), none, (.bin .add (.t 70) (.c (.d (.int .i64 1))))⟩, ⟨(some 13), none, (.mov (.t 71))⟩])))))) (.seq (.reg [⟨(some 109), none, (.build [(.d (.int .i64 0)), (.d (.str ⟨⟨[]⟩⟩)), (.d (.int .i64 0))] [])⟩, ⟨none, none, (.store 3 (.t 4) (.t 109))⟩, ⟨(some 5), none, (.mov (.c (.d (.int .i64 0))))⟩, ⟨(some 6), none, (.mov (.c (.d (.int .i64 2))))⟩]) .ret)))))))
theorem b261 : Body Tryz.prog 261 110 c261 [.cell (some 3) 4, .tmp 5, .tmp 6] := Body.of Tryz.f261 Tryz.func261 (by decide +kernel) (by decide +kernel) Tryz.ntmps261 (by decide +kernel) (by decide +kernel)
theorem p261 (s : ByteArray) (c : UInt8) (hm : (strL s).length ≤ 140737488355328) (hx : (strL s)[0]? = some c) : PCall Tryz.prog 261 [stri s, int 0] (.tup [.agg [int (oneC s c).1.1, stri (oneC s c).1.2, int 0], int (oneC s c).2.1, int (oneC s c).2.2]) := by
  intro h
  refine ACall.of b261 (by simp) ?_
  unfold c261
  have h0 : 1 ≤ (strL s).length := by have := (List.getElem?_eq_some_iff.1 hx).1; omega
  obtain ⟨n, hn⟩ : ∃ n, n = runB (runP (digit c.toNat)) (strL s) := ⟨_, rfl⟩
  have hnl : n ≤ (strL s).length := by rw [hn]; exact runB_le _ _
  have hwn : IntKind.i64.wrap (n : Int) = n := wrapN (by omega)
  have hni : (n : Int) ≤ (strL s).length := by omega
  obtain ⟨q, hq⟩ : ∃ q, q = quotedR (strL s) := ⟨_, rfl⟩
  have hql : q ≤ (strL s).length ∧ (q = 0 ∨ 2 ≤ q) := by rw [hq]; exact quotedR_le _
  refine .seqk fun K1 hK1 => ?_
  refine .reg ?_
  simp
  refine hK1 _ ?_
  clear hK1 K1
  refine .keep [0, 1, 4, 20, 21, 83, 84, 85, 86, 87, 88, 89, 90, 91, 92, 93, 94, 95, 96, 97] ?_
  simp only [keepE, E_cons, E_nil, reduceIte, Nat.reduceEqDiff]
  refine .seqk fun K2 hK2 => ?_
  refine .reg ?_
  simp [hx]
  refine hK2 _ ?_
  clear hK2 K2
  refine .keep [0, 1, 4, 7, 20, 21, 83, 84, 85, 86, 87, 88, 89, 90, 91, 92, 93, 94, 95, 96, 97] ?_
  simp only [keepE, E_cons, E_nil, reduceIte, Nat.reduceEqDiff]
  refine .seqk fun K3 hK3 => ?_
  refine .seqreg (fun hh => hh) (fun ee => [(0, ee 0), (1, ee 1), (4, ee 4), (7, ee 7), (22, bo (decide (letter c.toNat = true ∨ digit c.toNat = true))), (83, ee 83), (84, ee 84), (85, ee 85), (86, ee 86), (87, ee 87), (88, ee 88), (89, ee 89), (90, ee 90), (91, ee 91), (92, ee 92), (93, ee 93), (94, ee 94), (95, ee 95), (96, ee 96), (97, ee 97)]) ?_ ?_
  · refine Sq.cutk 2 fun K1 hK1 => ?_
    simp only [List.take_succ_cons, List.take_zero, List.drop_succ_cons, List.drop_zero]
    simp
    refine PCall.sq (p269 _) fun _ he => ?_
    simp only [mergeH_eq he]
    refine hK1 _ ?_
    by_cases h1 : letter c.toNat = true
    · simp [h1]
    · simp at h1
      refine Sq.cutk 3 fun K2 hK2 => ?_
      simp only [List.take_succ_cons, List.take_zero, List.drop_succ_cons, List.drop_zero]
      simp [h1]
      refine PCall.sq (p270 _) fun _ he => ?_
      simp only [mergeH_eq he]
      refine hK2 _ ?_
      simp [h1]
  try simp only [E_cons, E_nil, reduceIte, Nat.reduceEqDiff]
  refine .condk _ rfl (fun hc1 => ?_) (fun hc1 => ?_)
  · try simp at hc1
    refine .seqk fun K4 hK4 => ?_
    refine .reg ?_
    refine Sq.cutk 4 fun K5 hK5 => ?_
    simp only [List.take_succ_cons, List.take_zero, List.drop_succ_cons, List.drop_zero]
    simp
    refine PCall.sq (p270 _) fun h1 he1 => ?_
    simp only [mergeH_eq he1]
    clear he1 h1
    refine hK5 _ ?_
    clear hK5 K5
    refine Sq.cutk 1 fun K6 hK6 => ?_
    simp only [List.take_succ_cons, List.take_zero, List.drop_succ_cons, List.drop_zero]
    simp
    refine PCall.sq (p271 s (digit c.toNat) hm) fun h1 he1 => ?_
    simp only [mergeH_eq he1]
    clear he1 h1
    refine hK6 _ ?_
    clear hK6 K6
    simp
    rw [← hn]
    refine hK4 _ ?_
    clear hK4 K4
    refine .keep [0, 1, 4, 7, 8] ?_
    simp only [keepE, E_cons, E_nil, reduceIte, Nat.reduceEqDiff]
    refine .seqk fun K7 hK7 => ?_
    refine .reg ?_
    simp
    refine hK7 _ ?_
    clear hK7 K7
    refine .seqk fun K8 hK8 => ?_
    refine .seqk fun K9 hK9 => ?_
    refine .reg ?_
    simp
    refine PCall.sq (p270 _) fun h1 he1 => ?_
    simp only [mergeH_eq he1]
    clear he1 h1
    try simp
    refine hK9 _ ?_
    clear hK9 K9
    refine .condk _ rfl (fun hc2 => ?_) (fun hc2 => ?_)
    · skip
      refine .reg ?_
      simp
      refine hK8 _ ?_
      clear hK8 K8
      refine .seqk fun K10 hK10 => ?_
      refine .seqk fun K11 hK11 => ?_
      refine .reg ?_
      simp
      refine hK11 _ ?_
      clear hK11 K11
      refine .keep [0, 1, 4, 8, 9, 32] ?_
      simp only [keepE, E_cons, E_nil, reduceIte, Nat.reduceEqDiff]
      refine .condk _ rfl (fun hc3 => ?_) (fun hc3 => ?_)
      · try simp at hc3
        refine .seqk fun K12 hK12 => ?_
        refine .reg ?_
        simp
        refine hK12 _ ?_
        clear hK12 K12
        refine .keep [4, 5, 6] ?_
        simp only [keepE, E_cons, E_nil, reduceIte, Nat.reduceEqDiff]
        refine .ret ?_
        -- leaf 1
        refine ret_d (v := .tup [.agg [int (oneC s c).1.1, stri (oneC s c).1.2, int 0], int (oneC s c).2.1, int (oneC s c).2.2]) (.inr rfl) ?_ (.refl _) rfl (by first | exact OutEq.outer _ | assumption | (simp; done) | (simp; assumption)) rfl
        have hr : (9 : Int) < runB digit (strL s) := by rw [hn, hc2, runP_true] at hc3; exact hc3
        simp [oneC, hc1, hc2, hr, noTok]
      · try simp at hc3
        refine .skip ?_
        refine hK10 _ ?_
        clear hK10 K10
        refine .seqk fun K13 hK13 => ?_
        refine .reg ?_
        simp [hwn, hni]
        refine hK13 _ ?_
        clear hK13 K13
        refine .keep [4, 5, 6] ?_
        simp only [keepE, E_cons, E_nil, reduceIte, Nat.reduceEqDiff]
        refine .ret ?_
        -- leaf 2
        refine ret_d (v := .tup [.agg [int (oneC s c).1.1, stri (oneC s c).1.2, int 0], int (oneC s c).2.1, int (oneC s c).2.2]) (.inr rfl) ?_ (.refl _) rfl (by first | exact OutEq.outer _ | assumption | (simp; done) | (simp; assumption)) rfl
        have hr : ¬ (9 : Int) < runB digit (strL s) := by rw [hn, hc2, runP_true] at hc3; omega
        have hn2 : n = runB digit (strL s) := by rw [hn, hc2, runP_true]
        simp [oneC, hc1, hc2, hr, hn2]
    · try simp at hc2
      refine .skip ?_
      refine hK8 _ ?_
      clear hK8 K8
      refine .seqk fun K14 hK14 => ?_
      refine .seqk fun K15 hK15 => ?_
      refine .reg ?_
      simp
      refine hK15 _ ?_
      clear hK15 K15
      refine .keep [0, 1, 4, 8, 9, 32] ?_
      simp only [keepE, E_cons, E_nil, reduceIte, Nat.reduceEqDiff]
      refine .condk _ rfl (fun hc3 => ?_) (fun hc3 => ?_)
      · try simp at hc3
        refine .seqk fun K16 hK16 => ?_
        refine .reg ?_
        simp
        refine hK16 _ ?_
        clear hK16 K16
        refine .keep [4, 5, 6] ?_
        simp only [keepE, E_cons, E_nil, reduceIte, Nat.reduceEqDiff]
        refine .ret ?_
        -- leaf 3
        refine ret_d (v := .tup [.agg [int (oneC s c).1.1, stri (oneC s c).1.2, int 0], int (oneC s c).2.1, int (oneC s c).2.2]) (.inr rfl) ?_ (.refl _) rfl (by first | exact OutEq.outer _ | assumption | (simp; done) | (simp; assumption)) rfl
        have hl : letter c.toNat = true := by simpa [hc2] using hc1
        have hr : (20 : Int) < runB part (strL s) := by rw [hn, hc2, runP_false] at hc3; exact hc3
        simp [oneC, hl, hc2, hr, noTok]
      · try simp at hc3
        refine .skip ?_
        refine hK14 _ ?_
        clear hK14 K14
        refine .seqk fun K17 hK17 => ?_
        refine .reg ?_
        simp [hwn, hni]
        refine hK17 _ ?_
        clear hK17 K17
        refine .keep [4, 5, 6] ?_
        simp only [keepE, E_cons, E_nil, reduceIte, Nat.reduceEqDiff]
        refine .ret ?_
        -- leaf 4
        refine ret_d (v := .tup [.agg [int (oneC s c).1.1, stri (oneC s c).1.2, int 0], int (oneC s c).2.1, int (oneC s c).2.2]) (.inr rfl) ?_ (.refl _) rfl (by first | exact OutEq.outer _ | assumption | (simp; done) | (simp; assumption)) rfl
        have hl : letter c.toNat = true := by simpa [hc2] using hc1
        have hr : ¬ (20 : Int) < runB part (strL s) := by rw [hn, hc2, runP_false] at hc3; omega
        have hn2 : n = runB part (strL s) := by rw [hn, hc2, runP_false]
        simp [oneC, hl, hc2, hr, hn2]
  · try simp at hc1
    refine .skip ?_
    refine hK3 _ ?_
    clear hK3 K3
    refine .seqk fun K18 hK18 => ?_
    refine .seqk fun K19 hK19 => ?_
    refine .reg ?_
    simp
    refine hK19 _ ?_
    clear hK19 K19
    refine .condk _ rfl (fun hc4 => ?_) (fun hc4 => ?_)
    · try simp at hc4
      refine .seqk fun K20 hK20 => ?_
      refine .reg ?_
      refine Sq.cutk 3 fun K21 hK21 => ?_
      simp only [List.take_succ_cons, List.take_zero, List.drop_succ_cons, List.drop_zero]
      simp
      refine PCall.sq (p272 s hm h0) fun h1 he1 => ?_
      simp only [mergeH_eq he1]
      clear he1 h1
      refine hK21 _ ?_
      clear hK21 K21
      simp
      rw [← hq]
      refine hK20 _ ?_
      clear hK20 K20
      refine .keep [0, 1, 4, 11] ?_
      simp only [keepE, E_cons, E_nil, reduceIte, Nat.reduceEqDiff]
      refine .seqk fun K22 hK22 => ?_
      refine .seqk fun K23 hK23 => ?_
      refine .reg ?_
      simp
      refine hK23 _ ?_
      clear hK23 K23
      refine .condk _ rfl (fun hc5 => ?_) (fun hc5 => ?_)
      · try simp at hc5
        refine .seqk fun K24 hK24 => ?_
        refine .reg ?_
        simp
        refine hK24 _ ?_
        clear hK24 K24
        refine .keep [4, 5, 6] ?_
        simp only [keepE, E_cons, E_nil, reduceIte, Nat.reduceEqDiff]
        refine .ret ?_
        -- leaf 5
        refine ret_d (v := .tup [.agg [int (oneC s c).1.1, stri (oneC s c).1.2, int 0], int (oneC s c).2.1, int (oneC s c).2.2]) (.inr rfl) ?_ (.refl _) rfl (by first | exact OutEq.outer _ | assumption | (simp; done) | (simp; assumption)) rfl
        rw [hc4] at hc1
        simp [oneC, hc1, hc4, hc5, ← hq, noTok]
      · try simp at hc5
        refine .skip ?_
        refine hK22 _ ?_
        clear hK22 K22
        refine .seqk fun K25 hK25 => ?_
        refine .seqk fun K26 hK26 => ?_
        have hwq : IntKind.i64.wrap (q - 2) = q - 2 := wrap64 (by omega) (by omega)
        refine .reg ?_
        simp [hwq]
        refine hK26 _ ?_
        clear hK26 K26
        refine .keep [0, 1, 4, 11, 53] ?_
        simp only [keepE, E_cons, E_nil, reduceIte, Nat.reduceEqDiff]
        refine .condk _ rfl (fun hc6 => ?_) (fun hc6 => ?_)
        · try simp at hc6
          refine .seqk fun K27 hK27 => ?_
          refine .reg ?_
          simp
          refine hK27 _ ?_
          clear hK27 K27
          refine .keep [4, 5, 6] ?_
          simp only [keepE, E_cons, E_nil, reduceIte, Nat.reduceEqDiff]
          refine .ret ?_
          -- leaf 6
          refine ret_d (v := .tup [.agg [int (oneC s c).1.1, stri (oneC s c).1.2, int 0], int (oneC s c).2.1, int (oneC s c).2.2]) (.inr rfl) ?_ (.refl _) rfl (by first | exact OutEq.outer _ | assumption | (simp; done) | (simp; assumption)) rfl
          rw [hc4] at hc1
          simp [oneC, hc1, hc4, hc5, hc6, ← hq, noTok]
        · try simp at hc6
          refine .skip ?_
          refine hK25 _ ?_
          clear hK25 K25
          refine .seqk fun K28 hK28 => ?_
          have hq2 : 2 ≤ q := by omega
          have hwq3 : IntKind.i64.wrap q = q := wrap64 (by omega) (by omega)
          have hwq4 : IntKind.i64.wrap (q - 1) = q - 1 := wrap64 (by omega) (by omega)
          have hw1 : IntKind.i64.wrap 1 = 1 := wrap64 (by omega) (by omega)
          have hq5 : 0 ≤ q - 1 := by omega
          have hq6 : q - 1 ≤ (strL s).length := by omega
          have hq1 : 1 ≤ q := by omega
          have hq7 : (1 : Int) ≤ ((q.toNat - 1 : Nat) : Int) := by omega
          refine .reg ?_
          simp [hwq3, hwq4, hw1, hq1, hq6, hq7]
          refine hK28 _ ?_
          clear hK28 K28
          refine .keep [4, 5, 6] ?_
          simp only [keepE, E_cons, E_nil, reduceIte, Nat.reduceEqDiff]
          refine .ret ?_
          -- leaf 7
          refine ret_d (v := .tup [.agg [int (oneC s c).1.1, stri (oneC s c).1.2, int 0], int (oneC s c).2.1, int (oneC s c).2.2]) (.inr rfl) ?_ (.refl _) rfl (by first | exact OutEq.outer _ | assumption | (simp; done) | (simp; assumption)) rfl
          rw [hc4] at hc1
          simp [oneC, hc1, hc4, hc5, Int.not_lt.2 hc6, ← hq]
    · try simp at hc4
      refine .skip ?_
      refine hK18 _ ?_
      clear hK18 K18
      refine .seqk fun K29 hK29 => ?_
      refine .reg ?_
      refine Sq.cutk 1 fun K30 hK30 => ?_
      simp only [List.take_succ_cons, List.take_zero, List.drop_succ_cons, List.drop_zero]
      simp
      refine PCall.sq (p273) fun h1 he1 => ?_
      simp only [mergeH_eq he1]
      clear he1 h1
      refine hK30 _ ?_
      clear hK30 K30
      simp
      refine hK29 _ ?_
      clear hK29 K29
      refine .seqk fun K31 hK31 => ?_
      refine .seqk fun K32 hK32 => ?_
      refine .reg ?_
      simp
      refine hK32 _ ?_
      clear hK32 K32
      refine .block ?_
      refine .count 25 (fun i st => (signsD.drop i).find? (isSign s) = signsD.find? (isSign s) ∧ st = ⟨E [(13, int i), (12, sl (signsD.map S.c)), (0, stri s), (1, int 0), (4, .ptr 4 ((outer h 4).ver + 1) 0 0)], upd (outer h) 4 ⟨(outer h 4).ver + 1, some ⟨3, [[.d (.int .i64 0), .d (.str ⟨#[]⟩), .d (.int .i64 0)]]⟩⟩⟩) 0 (Nat.zero_le _) _ (.cov (by simp) (.refl _)) ⟨rfl, rfl⟩ ?_
      rintro i s hi1 ⟨hp, rfl⟩ K33 hK33
      refine .seqk fun K34 hK34 => ?_
      refine .seqk fun K35 hK35 => ?_
      refine .reg ?_
      simp
      refine hK35 _ ?_
      clear hK35 K35
      refine .keep [0, 1, 4, 12, 13, 69, 83, 84, 85, 86, 87, 88, 89, 90, 91, 92, 93, 94, 95, 96, 97] ?_
      simp only [keepE, E_cons, E_nil, reduceIte, Nat.reduceEqDiff]
      refine .condk _ rfl (fun hc7 => ?_) (fun hc7 => ?_)
      · simp at hc7
        have hlt : i < 25 := hc7
        obtain ⟨x, hx2⟩ := get_some hc7
        have hxl : (strL x).length ≤ 2 := sign_len x (List.mem_of_getElem? hx2)
        have hwl : IntKind.i64.wrap ((strL x).length : Int) = (strL x).length := wrapN (by omega)
        refine .skip ?_
        refine hK34 _ ?_
        clear hK34 K34
        refine .seqk fun K36 hK36 => ?_
        refine .block ?_
        refine .seqdreg mixed (fun hh => hh) (fun ee => [(0, ee 0), (1, ee 1), (4, ee 4), (12, ee 12), (13, ee 13), (98, bo (isSign s x))]) ?_ ?_
        · by_cases h1 : ((strL x).length : Int) ≤ (strL s).length
          · have h2 : (strL x).length ≤ (strL s).length := by omega
            simp [hx2, hwl, h1, h2, isSign]
          · have h2 : ¬ (strL x).length ≤ (strL s).length := by omega
            simp [hx2, hwl, h1, h2, isSign]
        try simp only [E_cons, E_nil, reduceIte, Nat.reduceEqDiff]
        refine .condk _ rfl (fun hc8 => ?_) (fun hc8 => ?_)
        · skip
          refine .seqk fun K37 hK37 => ?_
          refine .dreg mixed ?_
          simp [hx2]
          refine hK37 _ ?_
          clear hK37 K37
          refine .keep [4, 5, 6] ?_
          simp only [keepE, E_cons, E_nil, reduceIte, Nat.reduceEqDiff]
          refine .ret ?_
          -- leaf 8
          refine ret_d (v := .tup [.agg [int (oneC s c).1.1, stri (oneC s c).1.2, int 0], int (oneC s c).2.1, int (oneC s c).2.2]) (.inr rfl) ?_ (.refl _) rfl (by first | exact OutEq.outer _ | assumption | (simp; done) | (simp; assumption)) rfl
          rw [drop_cons hx2, List.find?_cons_of_pos hc8] at hp
          simp [oneC, hc1, hc4, ← hp]
        · skip
          refine .skip ?_
          refine hK36 _ ?_
          clear hK36 K36
          refine .reg ?_
          simp
          -- loop back, leaf 9
          refine hK33 _ _ (by omega) (Wk.cov (by simp; exact wrap64 (by omega) (by omega)) (.refl _)) ⟨?_, rfl⟩
          rw [← hp, drop_cons hx2, List.find?_cons_of_neg (by simp [hc8])]
      · try simp at hc7
        refine .exit ?_
        try simp only [then', inBlk, if_true, if_false, reduceIte, Nat.reduceEqDiff]
        refine hK31 _ ?_
        clear hK34 hK33 hK31 K34 K33 K31
        refine .seqk fun K38 hK38 => ?_
        refine .reg ?_
        simp
        refine hK38 _ ?_
        clear hK38 K38
        refine .keep [4, 5, 6] ?_
        simp only [keepE, E_cons, E_nil, reduceIte, Nat.reduceEqDiff]
        refine .ret ?_
        -- leaf 10
        refine ret_d (v := .tup [.agg [int (oneC s c).1.1, stri (oneC s c).1.2, int 0], int (oneC s c).2.1, int (oneC s c).2.2]) (.inr rfl) ?_ (.refl _) rfl (by first | exact OutEq.outer _ | assumption | (simp; done) | (simp; assumption)) rfl
        rw [drop_nil hc7] at hp
        simp [oneC, hc1, hc4, ← hp, noTok]
end Go.Abs
set_option linter.unusedVariables false
set_option linter.unusedSimpArgs false
namespace Go.Abs
open Go Go.Proofs

def rightI (s : ByteArray) : Bool := match (strL s)[0]? with
  | none => false
  | some c => decide ((oneC s c).2.2 = 0) && decide ((oneC s c).2.1 = (strL s).length) && decide ((oneC s c).1.1 = 1)
def c260 : ACode := (.seq (.reg [⟨(some 1), none, (.box 3 (.t 0))⟩, ⟨(some 2), none, (.mov (.c (.d (.str ⟨⟨[]⟩⟩))))⟩]) (.seq (.seq (.reg [⟨(some 3), none, (.addr 0 (.t 1))⟩, ⟨(some 4), none, (.load none (.t 3))⟩, ⟨(some 5), none, (.bin .eql (.t 4) (.c (.d (.int .i64 3))))⟩]) (.cond (.t 5) (.seq (.reg [⟨(some 6), none, (.addr 1 (.t 1))⟩, ⟨(some 7), none, (.load none (.t 6))⟩, ⟨(some 8), none, (.bin .add (.c (.d (.str ⟨⟨[34]⟩⟩))) (.t 7))⟩, ⟨(some 9), none, (.bin .add (.t 8) (.c (.d (.str ⟨⟨[34]⟩⟩))))⟩, ⟨(some 2), none, (.mov (.t 9))⟩]) .ret) .skip)) (.seq (.reg [⟨(some 10), none, (.addr 1 (.t 1))⟩, ⟨(some 11), none, (.load none (.t 10))⟩, ⟨(some 2), none, (.mov (.t 11))⟩]) .ret)))
theorem b260 : Body Tryz.prog 260 12 c260 [.tmp 2] := Body.of Tryz.f260 Tryz.func260 (by decide +kernel) (by decide +kernel) Tryz.ntmps260 (by decide +kernel) (by decide +kernel)
theorem p260 (s : ByteArray) : PCall Tryz.prog 260 [.agg [int 1, stri s, int 0]] (stri s) := by
  intro h
  refine ACall.of b260 (by simp) ?_
  unfold c260
  refine .seqk fun K1 hK1 => ?_
  refine .reg ?_
  simp
  refine hK1 _ ?_
  clear hK1 K1
  refine .seqk fun K2 hK2 => ?_
  refine .seqk fun K3 hK3 => ?_
  refine .reg ?_
  simp
  refine hK3 _ ?_
  clear hK3 K3
  refine .keep [1, 5] ?_
  simp only [keepE, E_cons, E_nil, reduceIte, Nat.reduceEqDiff]
  refine .condk _ rfl (fun hc1 => ?_) (fun hc1 => ?_)
  · cases hc1
  · skip
    refine .skip ?_
    refine hK2 _ ?_
    clear hK2 K2
    refine .seqk fun K4 hK4 => ?_
    refine .reg ?_
    simp
    refine hK4 _ ?_
    clear hK4 K4
    refine .keep [2] ?_
    simp only [keepE, E_cons, E_nil, reduceIte, Nat.reduceEqDiff]
    refine .ret ?_
    -- leaf 1
    refine ret_d (.inr rfl) rfl (.refl _) rfl (by first | exact OutEq.outer _ | assumption | (simp; done) | (simp; assumption)) ?_
    rfl
def c243 : ACode := (.seq (.reg [⟨(some 1), none, (.box 3 (.t 0))⟩, ⟨(some 2), none, (.mov (.c (.d (.bool false))))⟩]) (.seq (.reg [⟨(some 7), none, (.load (some 3) (.t 1))⟩, ⟨(some 8), none, (.call 260 [(.t 7)])⟩, ⟨(some 3), none, (.mov (.t 8))⟩]) (.seq (.seq (.reg [⟨(some 9), none, (.mov (.t 3))⟩, ⟨(some 10), none, (.bin .eql (.t 9) (.c (.d (.str ⟨⟨[]⟩⟩))))⟩]) (.cond (.t 10) (.seq (.reg [⟨(some 2), none, (.mov (.c (.d (.bool false))))⟩]) .ret) .skip)) (.seq (.reg [⟨(some 12), none, (.mov (.t 3))⟩, ⟨(some 13), none, (.call 261 [(.t 12), (.c (.d (.int .i64 0)))])⟩, ⟨(some 11), none, (.mov (.t 13))⟩, ⟨(some 14), none, (.ext (.t 11) 0)⟩, ⟨(some 15), none, (.ext (.t 11) 1)⟩, ⟨(some 16), none, (.ext (.t 11) 2)⟩, ⟨(some 4), none, (.alloc [(.d (.int .i64 0)), (.d (.str ⟨⟨[]⟩⟩)), (.d (.int .i64 0))])⟩, ⟨none, none, (.store 3 (.t 4) (.t 14))⟩, ⟨(some 5), none, (.mov (.t 15))⟩, ⟨(some 6), none, (.mov (.t 16))⟩]) (.seq (.reg [⟨(some 17), none, (.mov (.t 6))⟩, ⟨(some 18), none, (.bin .eql (.t 17) (.c (.d (.int .i64 0))))⟩, ⟨(some 19), none, (.mov (.t 18))⟩, ⟨(some 20), (some (19, true)), (.mov (.t 5))⟩, ⟨(some 21), (some (19, true)), (.mov (.t 3))⟩, ⟨(some 22), (some (19, true)), (.len true (.t 21))⟩, ⟨(some 23), (some (19, true)), (.bin .eql (.t 20) (.t 22))⟩, ⟨(some 24), none, (.pick (.t 19) (.t 23) (.c (.d (.bool false))))⟩, ⟨(some 25), none, (.mov (.t 24))⟩, ⟨(some 26), (some (25, true)), (.addr 0 (.t 4))⟩, ⟨(some 27), (some (25, true)), (.load none (.t 26))⟩, ⟨(some 28), (some (25, true)), (.addr 0 (.t 1))⟩, ⟨(some 29), (some (25, true)), (.load none (.t 28))⟩, ⟨(some 30), (some (25, true)), (.bin .eql (.t 27) (.t 29))⟩, ⟨(some 31), none, (.pick (.t 25) (.t 30) (.c (.d (.bool false))))⟩, ⟨(some 2), none, (.mov (.t 31))⟩]) .ret)))))
theorem b243 : Body Tryz.prog 243 32 c243 [.tmp 2] := Body.of Tryz.f243 Tryz.func243 (by decide +kernel) (by decide +kernel) Tryz.ntmps243 (by decide +kernel) (by decide +kernel)
theorem p243 (s : ByteArray) (hm : (strL s).length ≤ 140737488355328) : PCall Tryz.prog 243 [.agg [int 1, stri s, int 0]] (bo (rightI s)) := by
  intro h
  refine ACall.of b243 (by simp) ?_
  unfold c243
  refine .seqk fun K1 hK1 => ?_
  refine .reg ?_
  simp
  refine hK1 _ ?_
  clear hK1 K1
  refine .seqk fun K2 hK2 => ?_
  refine .reg ?_
  refine Sq.cutk 2 fun K3 hK3 => ?_
  simp only [List.take_succ_cons, List.take_zero, List.drop_succ_cons, List.drop_zero]
  simp
  refine PCall.sq (p260 s) fun h1 he1 => ?_
  simp only [mergeH_eq he1]
  clear he1 h1
  refine hK3 _ ?_
  clear hK3 K3
  simp
  refine hK2 _ ?_
  clear hK2 K2
  refine .keep [1, 3, 20, 21, 22, 23, 26, 27, 28, 29, 30] ?_
  simp only [keepE, E_cons, E_nil, reduceIte, Nat.reduceEqDiff]
  refine .seqk fun K4 hK4 => ?_
  refine .seqk fun K5 hK5 => ?_
  refine .reg ?_
  simp [toList_strL]
  refine hK5 _ ?_
  clear hK5 K5
  refine .condk _ rfl (fun hc1 => ?_) (fun hc1 => ?_)
  · have hs : strL s = [] := by simpa [toList_strL, strL] using hc1
    refine .seqk fun K6 hK6 => ?_
    refine .reg ?_
    simp
    refine hK6 _ ?_
    clear hK6 K6
    refine .ret ?_
    -- leaf 1
    refine ret_d (.inr rfl) rfl (.refl _) rfl (by first | exact OutEq.outer _ | assumption | (simp; done) | (simp; assumption)) ?_
    simp [rightI, hs]
  · have hne : strL s ≠ [] := by intro e; simp [toList_strL, e, strL] at hc1; exact hc1 (by simpa [strL] using e)
    obtain ⟨c, hx⟩ : ∃ c, (strL s)[0]? = some c := get_some (List.length_pos_iff.2 hne)
    refine .skip ?_
    refine hK4 _ ?_
    clear hK4 K4
    refine .seqk fun K7 hK7 => ?_
    refine .reg ?_
    refine Sq.cutk 2 fun K8 hK8 => ?_
    simp only [List.take_succ_cons, List.take_zero, List.drop_succ_cons, List.drop_zero]
    simp
    refine PCall.sq (p261 s c hm hx) fun h1 he1 => ?_
    simp only [mergeH_eq he1]
    clear he1 h1
    refine hK8 _ ?_
    clear hK8 K8
    simp
    refine hK7 _ ?_
    clear hK7 K7
    refine .keep [1, 3, 4, 5, 6, 20, 21, 22, 23, 26, 27, 28, 29, 30] ?_
    simp only [keepE, E_cons, E_nil, reduceIte, Nat.reduceEqDiff]
    refine .seqreg (fun hh => hh) (fun ee => [(2, bo (rightI s))]) ?_ ?_
    · by_cases h0 : (oneC s c).2.2 = 0 <;> by_cases h1 : (oneC s c).2.1 = (strL s).length <;> by_cases h2 : (oneC s c).1.1 = 1 <;> simp [h0, h1, h2, rightI, hx]
    try simp only [E_cons, E_nil, reduceIte, Nat.reduceEqDiff]
    refine .ret ?_
    -- leaf 2
    refine ret_d (.inr rfl) rfl (.refl _) rfl (by first | exact OutEq.outer _ | assumption | (simp; done) | (simp; assumption)) ?_
    simp
def c209 : ACode := (.seq (.reg [⟨(some 2), none, (.mov (.c (.d (.bool false))))⟩]) (.seq (.reg [⟨(some 3), none, (.mov (.t 0))⟩, ⟨(some 4), none, (.build [(.d (.int .i64 0)), (.d (.str ⟨⟨[]⟩⟩)), (.d (.int .i64 0))] [(0, (1, (.c (.d (.int .i64 1))))), (1, (1, (.t 3)))])⟩, ⟨(some 5), none, (.call 243 [(.t 4)])⟩, ⟨(some 2), none, (.mov (.t 5))⟩]) .ret))
theorem b209 : Body Tryz.prog 209 6 c209 [.tmp 2] := Body.of Tryz.f209 Tryz.func209 (by decide +kernel) (by decide +kernel) Tryz.ntmps209 (by decide +kernel) (by decide +kernel)
theorem p209 (s : ByteArray) (hm : (strL s).length ≤ 140737488355328) : PCall Tryz.prog 209 [stri s] (bo (rightI s)) := by
  intro h
  refine ACall.of b209 (by simp) ?_
  unfold c209
  refine .seqk fun K1 hK1 => ?_
  refine .reg ?_
  simp
  refine hK1 _ ?_
  clear hK1 K1
  refine .seqk fun K2 hK2 => ?_
  refine .reg ?_
  refine Sq.cutk 3 fun K3 hK3 => ?_
  simp only [List.take_succ_cons, List.take_zero, List.drop_succ_cons, List.drop_zero]
  simp
  refine PCall.sq (p243 s hm) fun h1 he1 => ?_
  simp only [mergeH_eq he1]
  clear he1 h1
  refine hK3 _ ?_
  clear hK3 K3
  simp
  refine hK2 _ ?_
  clear hK2 K2
  refine .keep [2] ?_
  simp only [keepE, E_cons, E_nil, reduceIte, Nat.reduceEqDiff]
  refine .ret ?_
  -- leaf 1
  refine ret_d (.inr rfl) rfl (.refl _) rfl (by first | exact OutEq.outer _ | assumption | (simp; done) | (simp; assumption)) ?_
  rfl
end Go.Abs
