/- Contracts of functions of the program, and what they lean on: a part of the proof that planBest_proved stands; no condition. -/
import Derived.Test.YtklbdeenilokiaaGreatProg
import Derived.Test.YtklbdeenilokiaaGreatQ17T1
set_option linter.unusedVariables false
set_option linter.unusedSimpArgs false
namespace Go.Abs
open Go Go.Proofs
theorem mixed : Tryz.prog.follows .mixedOrders = true := by decide +kernel
def letter (n : Int) : Bool := (decide (97 ≤ n) && decide (n ≤ 122)) || (decide (65 ≤ n) && decide (n ≤ 90))
def digit (n : Int) : Bool := decide (48 ≤ n) && decide (n ≤ 57)
def part (n : Int) : Bool := letter n || digit n || decide (n = 95)
def quotable (n : Int) : Bool := decide (32 ≤ n) && decide (n ≤ 126) && decide (n ≠ 34)
def c277 : ACode := (.seq (.reg [⟨some 2,none,.mov (.c (.d (.bool false)))⟩]) (.seq (.reg [⟨some 3,none,.mov (.t 0)⟩,⟨some 4,none,.bin .geq (.t 3) (.c (.d (.int .u8 97)))⟩,⟨some 5,none,.mov (.t 4)⟩,⟨some 6,some (5, true),.mov (.t 0)⟩,⟨some 7,some (5, true),.bin .leq (.t 6) (.c (.d (.int .u8 122)))⟩,⟨some 8,none,.pick (.t 5) (.t 7) (.c (.d (.bool false)))⟩,⟨some 9,none,.mov (.t 8)⟩,⟨some 10,some (9, false),.mov (.t 0)⟩,⟨some 11,some (9, false),.bin .geq (.t 10) (.c (.d (.int .u8 65)))⟩,⟨some 12,some (9, false),.mov (.t 11)⟩,⟨some 13,some (12, true),.mov (.t 0)⟩,⟨some 14,some (12, true),.bin .leq (.t 13) (.c (.d (.int .u8 90)))⟩,⟨some 15,some (9, false),.pick (.t 12) (.t 14) (.c (.d (.bool false)))⟩,⟨some 16,none,.pick (.t 9) (.c (.d (.bool true))) (.t 15)⟩,⟨some 2,none,.mov (.t 16)⟩]) .ret))
theorem b277 : Body Tryz.prog 277 17 c277 [.tmp 2] := Body.of Tryz.f277 Tryz.func277 (by decide +kernel) (by decide +kernel) Tryz.ntmps277 (by decide +kernel) (by decide +kernel)
theorem p277 (n : Int) : PCall Tryz.prog 277 [.d (.int .u8 n)] (bo (letter n)) := by
 intro h
 refine ACall.of b277 (by simp) ?_
 unfold c277
 refine .seqk fun K1 hK1 => ?_
 refine .reg ?_
 simp
 refine hK1 _ ?_
 clear hK1 K1
 refine .seqreg (fun hh => hh) (fun ee => [(2, bo (letter n))]) ?_ ?_
 ·by_cases h0 : 97 ≤ n <;> by_cases h1 : n ≤ 122 <;> by_cases h2 : 65 ≤ n <;> by_cases h3 : n ≤ 90 <;> simp [h0, h1, h2, h3, letter]
 try simp only [E_cons, E_nil]
 refine .ret ?_
 refine ret_z (.inr rfl) rfl rfl ?_
 simp
def c280 : ACode := (.seq (.reg [⟨some 2,none,.mov (.c (.d (.bool false)))⟩]) (.seq (.reg [⟨some 3,none,.mov (.t 0)⟩,⟨some 4,none,.bin .geq (.t 3) (.c (.d (.int .u8 48)))⟩,⟨some 5,none,.mov (.t 4)⟩,⟨some 6,some (5, true),.mov (.t 0)⟩,⟨some 7,some (5, true),.bin .leq (.t 6) (.c (.d (.int .u8 57)))⟩,⟨some 8,none,.pick (.t 5) (.t 7) (.c (.d (.bool false)))⟩,⟨some 2,none,.mov (.t 8)⟩]) .ret))
theorem b280 : Body Tryz.prog 280 9 c280 [.tmp 2] := Body.of Tryz.f280 Tryz.func280 (by decide +kernel) (by decide +kernel) Tryz.ntmps280 (by decide +kernel) (by decide +kernel)
theorem p280 (n : Int) : PCall Tryz.prog 280 [.d (.int .u8 n)] (bo (digit n)) := by
 intro h
 refine ACall.of b280 (by simp) ?_
 unfold c280
 refine .seqk fun K1 hK1 => ?_
 refine .reg ?_
 simp
 refine hK1 _ ?_
 clear hK1 K1
 refine .seqreg (fun hh => hh) (fun ee => [(2, bo (digit n))]) ?_ ?_
 ·by_cases h0 : 48 ≤ n <;> by_cases h1 : n ≤ 57 <;> simp [h0, h1, digit]
 try simp only [E_cons, E_nil]
 refine .ret ?_
 refine ret_z (.inr rfl) rfl rfl ?_
 simp
def c285 : ACode := (.seq (.reg [⟨some 2,none,.mov (.c (.d (.bool false)))⟩]) (.seq (.reg [⟨some 3,none,.mov (.t 0)⟩,⟨some 4,none,.bin .geq (.t 3) (.c (.d (.int .u8 32)))⟩,⟨some 5,none,.mov (.t 4)⟩,⟨some 6,some (5, true),.mov (.t 0)⟩,⟨some 7,some (5, true),.bin .leq (.t 6) (.c (.d (.int .u8 126)))⟩,⟨some 8,none,.pick (.t 5) (.t 7) (.c (.d (.bool false)))⟩,⟨some 9,none,.mov (.t 8)⟩,⟨some 10,some (9, true),.mov (.t 0)⟩,⟨some 11,some (9, true),.bin .neq (.t 10) (.c (.d (.int .u8 34)))⟩,⟨some 12,none,.pick (.t 9) (.t 11) (.c (.d (.bool false)))⟩,⟨some 2,none,.mov (.t 12)⟩]) .ret))
theorem b285 : Body Tryz.prog 285 13 c285 [.tmp 2] := Body.of Tryz.f285 Tryz.func285 (by decide +kernel) (by decide +kernel) Tryz.ntmps285 (by decide +kernel) (by decide +kernel)
theorem p285 (n : Int) : PCall Tryz.prog 285 [.d (.int .u8 n)] (bo (quotable n)) := by
 intro h
 refine ACall.of b285 (by simp) ?_
 unfold c285
 refine .seqk fun K1 hK1 => ?_
 refine .reg ?_
 simp
 refine hK1 _ ?_
 clear hK1 K1
 refine .seqreg (fun hh => hh) (fun ee => [(2, bo (quotable n))]) ?_ ?_
 ·by_cases h0 : 32 ≤ n <;> by_cases h1 : n ≤ 126 <;> by_cases h2 : n = 34 <;> simp [h0, h1, h2, quotable]
 try simp only [E_cons, E_nil]
 refine .ret ?_
 refine ret_z (.inr rfl) rfl rfl ?_
 simp
def c278 : ACode := (.seq (.reg [⟨some 4,none,.mov (.c (.d (.int .i64 0)))⟩]) (.seq (.reg [⟨some 5,none,.mov (.c (.d (.int .i64 0)))⟩]) (.seq (.block 0 (.loop (.seq (.seq (.reg [⟨some 6,none,.mov (.t 5)⟩,⟨some 7,none,.mov (.t 0)⟩,⟨some 8,none,.len true (.t 7)⟩,⟨some 9,none,.bin .lss (.t 6) (.t 8)⟩,⟨some 10,none,.mov (.t 9)⟩,⟨some 11,some (10, true),.mov (.t 1)⟩,⟨some 12,some (10, true),.mov (.t 0)⟩,⟨some 13,some (10, true),.mov (.t 5)⟩,⟨some 14,some (10, true),.sidx (.t 12) (.t 13)⟩,⟨some 15,some (10, true),.callv (.t 11) [(.t 14)]⟩,⟨some 16,none,.pick (.t 10) (.t 15) (.c (.d (.bool false)))⟩]) (.cond (.t 16) .skip (.exit 0))) (.block 1 (.reg [⟨some 17,none,.mov (.t 5)⟩,⟨some 18,none,.bin .add (.t 17) (.c (.d (.int .i64 1)))⟩,⟨some 5,none,.mov (.t 18)⟩]))))) (.seq (.reg [⟨some 19,none,.mov (.t 5)⟩,⟨some 4,none,.mov (.t 19)⟩]) .ret))))
theorem b278 : Body Tryz.prog 278 20 c278 [.tmp 4] := Body.of Tryz.f278 Tryz.func278 (by decide +kernel) (by decide +kernel) Tryz.ntmps278 (by decide +kernel) (by decide +kernel)
theorem p278 (s : ByteArray) (g : FuncId) (caps : List AV) (p : Int → Bool) (hm : (strL s).length ≤ 140737488355328) (hg : ∀ c, PCall Tryz.prog g (.d (.int .u8 c) :: caps) (bo (p c))) : PCall Tryz.prog 278 [stri s, .fn g caps] (int (runB p (strL s))) := by
 intro h
 refine ACall.of b278 (by simp) ?_
 unfold c278
 refine .seqk fun K1 hK1 => ?_
 refine .reg ?_
 simp
 refine hK1 _ ?_
 clear hK1 K1
 refine .seqk fun K2 hK2 => ?_
 refine .reg ?_
 simp
 refine hK2 _ ?_
 clear hK2 K2
 refine .seqk fun K3 hK3 => ?_
 refine .block ?_
 refine .count (strL s).length (fun i st => i + runB p ((strL s).drop i) = runB p (strL s) ∧ st = ⟨E [(5, int i), (0, stri s), (1, .fn g caps)], outer h⟩) 0 (Nat.zero_le _) _ (.cov (h' := outer h) (by simp) (.refl _)) ⟨by simp, rfl⟩ ?_
 rintro i s hi1 ⟨hp, rfl⟩ K4 hK4
 refine .seqk fun K5 hK5 => ?_
 refine .seqreg (fun hh => hh) (fun ee => [(0, ee 0), (1, ee 1), (5, ee 5), (16, bo (match (strL s)[i]? with | some c => p c.toNat | none => false))]) ?_ ?_
 ·cases hx : (strL s)[i]? with
  | none =>
   have hlt : ¬ i < (strL s).length := by simpa using hx
   simp [hlt]
  | some c =>
   have hlt : i < (strL s).length := (List.getElem?_eq_some_iff.1 hx).1
   obtain ⟨hlt', hc⟩ := strL_get hx
   simp [hlt, hc]
   refine PCall.sq (hg _) fun h1 he => ?_
   simp [mergeH_eq he]
 try simp only [E_cons, E_nil]
 refine .condk _ rfl (fun hc1 => ?_) (fun hc1 => ?_)
 ·obtain ⟨c, hx, hpc⟩ : ∃ c, (strL s)[i]? = some c ∧ p c.toNat = true := by
   cases hx : (strL s)[i]? with
   | none => simp [hx] at hc1
   | some c => exact ⟨c, rfl, by simpa [hx] using hc1⟩
  have hlt : i < (strL s).length := (List.getElem?_eq_some_iff.1 hx).1
  refine .skip ?_
  refine hK5 _ ?_
  clear hK5 K5
  refine .block ?_
  refine .reg ?_
  simp
  refine hK4 _ _ (by omega) (Wk.cov (h' := outer h) (by simp; exact wrap64 (by omega) (by omega)) (.refl _)) ⟨?_, rfl⟩
  rw [← hp, List.drop_eq_getElem_cons hlt]
  have : (strL s)[i] = c := by simpa [hlt] using hx
  rw [this]
  simp [runB, hpc]
  omega
 ·have h0 : runB p ((strL s).drop i) = 0 := by
   cases hx : (strL s)[i]? with
   | none => rw [List.drop_eq_nil_of_le (by simpa using hx)]; rfl
   | some c =>
    have hlt : i < (strL s).length := (List.getElem?_eq_some_iff.1 hx).1
    rw [List.drop_eq_getElem_cons hlt]
    have : (strL s)[i] = c := by simpa [hlt] using hx
    simp [hx] at hc1
    simp [runB, this, hc1]
  refine .exit ?_
  try simp only [then', inBlk, if_true, if_false, reduceIte, Nat.reduceEqDiff]
  refine hK3 _ ?_
  clear hK5 hK4 hK3 K5 K4 K3
  refine .seqk fun K6 hK6 => ?_
  refine .reg ?_
  simp
  refine hK6 _ ?_
  clear hK6 K6
  refine .ret ?_
  refine ret_z (.inr rfl) rfl rfl ?_
  simp; omega
end Go.Abs
set_option linter.unusedVariables false
set_option linter.unusedSimpArgs false
namespace Go.Abs
open Go Go.Proofs
def c195 : ACode := (.seq (.reg [⟨some 4,none,.mov (.c (.d (.int .i64 0)))⟩]) (.seq (.seq (.reg [⟨some 6,none,.mov (.t 0)⟩,⟨some 7,none,.len false (.t 6)⟩,⟨some 8,none,.mov (.c (.d (.int .i64 0)))⟩]) (.block 0 (.loop (.seq (.reg [⟨some 9,none,.bin .lss (.t 8) (.t 7)⟩]) (.seq (.cond (.t 9) .skip (.exit 0)) (.seq (.block 1 (.seq (.reg [⟨some 10,none,.mov (.t 8)⟩,⟨some 5,none,.mov (.t 10)⟩]) (.seq (.reg [⟨some 11,none,.mov (.t 1)⟩,⟨some 12,none,.mov (.t 0)⟩,⟨some 13,none,.mov (.t 5)⟩,⟨some 14,none,.idx 1 (.t 12) (.t 13)⟩,⟨some 15,none,.load none (.t 14)⟩,⟨some 16,none,.bin .eql (.t 11) (.t 15)⟩]) (.cond (.t 16) (.seq (.reg [⟨some 17,none,.mov (.t 5)⟩,⟨some 4,none,.mov (.t 17)⟩]) .ret) .skip)))) (.reg [⟨some 18,none,.bin .add (.t 8) (.c (.d (.int .i64 1)))⟩,⟨some 8,none,.mov (.t 18)⟩]))))))) (.seq (.reg [⟨some 4,none,.mov (.c (.d (.int .i64 (-1))))⟩]) .ret)))
theorem b195 : Body Tryz.prog 195 19 c195 [.tmp 4] := Body.of Tryz.f195 Tryz.func195 (by decide +kernel) (by decide +kernel) Tryz.ntmps195 (by decide +kernel) (by decide +kernel)
theorem p195 (l : List Int) (v : Int) : PCall Tryz.prog 195 [sl (l.map I.c), int v] (int (idxF (fun x => v == x) l 0)) := by
 intro h
 refine ACall.lens b195.noExt fun hl => ACall.of b195 (by simp) ?_
 have hla := len_of hl (List.mem_cons_self ..)
 simp only [List.length_map] at hla
 clear hl
 unfold c195
 refine .seqk fun K1 hK1 => ?_
 refine .reg ?_
 simp
 refine hK1 _ ?_
 clear hK1 K1
 refine .seqk fun K2 hK2 => ?_
 refine .seqk fun K3 hK3 => ?_
 refine .reg ?_
 simp
 refine hK3 _ ?_
 clear hK3 K3
 refine .keep [0, 1, 7, 8] ?_
 simp only [keepE, E_cons, E_nil]
 refine .block ?_
 refine .count l.length (fun i st => idxF (fun x => v == x) (l.drop i) i = idxF (fun x => v == x) l 0 ∧ st = ⟨E [(8, int i), (7, int l.length), (0, sl (l.map I.c)), (1, int v)], outer h⟩) 0 (Nat.zero_le _) _ (.cov (h' := outer h) (by simp) (.refl _)) ⟨rfl, rfl⟩ ?_
 rintro i s hi1 ⟨hp, rfl⟩ K4 hK4
 refine .seqk fun K5 hK5 => ?_
 refine .reg ?_
 simp
 refine hK5 _ ?_
 clear hK5 K5
 refine .seqk fun K6 hK6 => ?_
 refine .condk _ rfl (fun hc1 => ?_) (fun hc1 => ?_)
 ·simp at hc1
  obtain ⟨x, hx⟩ := get_some hc1
  refine .skip ?_
  refine hK6 _ ?_
  clear hK6 K6
  refine .seqk fun K7 hK7 => ?_
  refine .block ?_
  refine .seqk fun K8 hK8 => ?_
  refine .reg ?_
  simp
  refine hK8 _ ?_
  clear hK8 K8
  refine .seqk fun K9 hK9 => ?_
  refine .reg ?_
  simp [hx]
  refine hK9 _ ?_
  clear hK9 K9
  refine .keep [0, 1, 5, 7, 8, 16] ?_
  simp only [keepE, E_cons, E_nil]
  refine .condk _ rfl (fun hc2 => ?_) (fun hc2 => ?_)
  ·try simp at hc2
   refine .seqk fun K10 hK10 => ?_
   refine .reg ?_
   simp
   refine hK10 _ ?_
   clear hK10 K10
   refine .ret ?_
   refine ret_z (.inr rfl) rfl rfl ?_
   rw [← hp, drop_cons hx]
   simp [idxF, hc2]
  ·try simp at hc2
   refine .skip ?_
   refine hK7 _ ?_
   clear hK7 K7
   refine .reg ?_
   simp
   refine hK4 _ _ (by omega) (Wk.cov (h' := outer h) (by simp; exact wrap64 (by omega) (by omega)) (.refl _)) ⟨?_, rfl⟩
   rw [← hp, drop_cons hx]
   simp [idxF, hc2]
 ·try simp at hc1
  refine .exit ?_
  try simp only [then', inBlk, if_true, if_false, reduceIte, Nat.reduceEqDiff]
  refine hK2 _ ?_
  clear hK6 hK4 hK2 K6 K4 K2
  refine .seqk fun K11 hK11 => ?_
  refine .reg ?_
  simp
  refine hK11 _ ?_
  clear hK11 K11
  refine .ret ?_
  refine ret_z (.inr rfl) rfl rfl ?_
  rw [← hp, drop_nil hc1]
  rfl
def c144 : ACode := (.seq (.reg [⟨some 4,none,.mov (.c (.d (.bool false)))⟩]) (.seq (.reg [⟨some 5,none,.mov (.t 0)⟩,⟨some 6,none,.mov (.t 1)⟩,⟨some 7,none,.call 195 [(.t 5),(.t 6)]⟩,⟨some 8,none,.bin .geq (.t 7) (.c (.d (.int .i64 0)))⟩,⟨some 4,none,.mov (.t 8)⟩]) .ret))
theorem b144 : Body Tryz.prog 144 9 c144 [.tmp 4] := Body.of Tryz.f144 Tryz.func144 (by decide +kernel) (by decide +kernel) Tryz.ntmps144 (by decide +kernel) (by decide +kernel)
theorem p144 (l : List Int) (v : Int) : PCall Tryz.prog 144 [sl (l.map I.c), int v] (bo (l.any (fun x => v == x))) := by
 intro h
 refine ACall.of b144 (by simp) ?_
 unfold c144
 refine .seqk fun K1 hK1 => ?_
 refine .reg ?_
 simp
 refine hK1 _ ?_
 clear hK1 K1
 refine .seqk fun K2 hK2 => ?_
 refine .reg ?_
 refine Sq.cutk 3 fun K3 hK3 => ?_
 simp only [zt]
 simp
 refine PCall.sq (p195 l v) fun h1 he1 => ?_
 simp only [mergeH_eq he1]
 clear he1 h1
 refine hK3 _ ?_
 clear hK3 K3
 simp
 refine hK2 _ ?_
 clear hK2 K2
 refine .keep [4] ?_
 simp only [keepE, E_cons, E_nil]
 refine .ret ?_
 refine ret_z (.inr rfl) rfl rfl ?_
 simp only [← idxF_ge _ l 0]
 rfl
def c231 : ACode := (.seq (.reg [⟨some 4,none,.mov (.c (.d (.int .i64 0)))⟩]) (.seq (.seq (.reg [⟨some 6,none,.mov (.t 0)⟩,⟨some 7,none,.len false (.t 6)⟩,⟨some 8,none,.mov (.c (.d (.int .i64 0)))⟩]) (.block 0 (.loop (.seq (.reg [⟨some 9,none,.bin .lss (.t 8) (.t 7)⟩]) (.seq (.cond (.t 9) .skip (.exit 0)) (.seq (.block 1 (.seq (.reg [⟨some 10,none,.mov (.t 8)⟩,⟨some 5,none,.mov (.t 10)⟩]) (.seq (.reg [⟨some 11,none,.mov (.t 1)⟩,⟨some 12,none,.mov (.t 0)⟩,⟨some 13,none,.mov (.t 5)⟩,⟨some 14,none,.idx 1 (.t 12) (.t 13)⟩,⟨some 15,none,.load none (.t 14)⟩,⟨some 16,none,.eqb false (.t 11) (.t 15)⟩]) (.cond (.t 16) (.seq (.reg [⟨some 17,none,.mov (.t 5)⟩,⟨some 4,none,.mov (.t 17)⟩]) .ret) .skip)))) (.reg [⟨some 18,none,.bin .add (.t 8) (.c (.d (.int .i64 1)))⟩,⟨some 8,none,.mov (.t 18)⟩]))))))) (.seq (.reg [⟨some 4,none,.mov (.c (.d (.int .i64 (-1))))⟩]) .ret)))
theorem b231 : Body Tryz.prog 231 19 c231 [.tmp 4] := Body.of Tryz.f231 Tryz.func231 (by decide +kernel) (by decide +kernel) Tryz.ntmps231 (by decide +kernel) (by decide +kernel)
theorem p231 (l : List Bool) (v : Bool) : PCall Tryz.prog 231 [sl (l.map Bo.c), bo v] (int (idxF (fun x => v == x) l 0)) := by
 intro h
 refine ACall.lens b231.noExt fun hl => ACall.of b231 (by simp) ?_
 have hla := len_of hl (List.mem_cons_self ..)
 simp only [List.length_map] at hla
 clear hl
 unfold c231
 refine .seqk fun K1 hK1 => ?_
 refine .reg ?_
 simp
 refine hK1 _ ?_
 clear hK1 K1
 refine .seqk fun K2 hK2 => ?_
 refine .seqk fun K3 hK3 => ?_
 refine .reg ?_
 simp
 refine hK3 _ ?_
 clear hK3 K3
 refine .keep [0, 1, 7, 8] ?_
 simp only [keepE, E_cons, E_nil]
 refine .block ?_
 refine .count l.length (fun i st => idxF (fun x => v == x) (l.drop i) i = idxF (fun x => v == x) l 0 ∧ st = ⟨E [(8, int i), (7, int l.length), (0, sl (l.map Bo.c)), (1, bo v)], outer h⟩) 0 (Nat.zero_le _) _ (.cov (h' := outer h) (by simp) (.refl _)) ⟨rfl, rfl⟩ ?_
 rintro i s hi1 ⟨hp, rfl⟩ K4 hK4
 refine .seqk fun K5 hK5 => ?_
 refine .reg ?_
 simp
 refine hK5 _ ?_
 clear hK5 K5
 refine .seqk fun K6 hK6 => ?_
 refine .condk _ rfl (fun hc1 => ?_) (fun hc1 => ?_)
 ·simp at hc1
  obtain ⟨x, hx⟩ := get_some hc1
  refine .skip ?_
  refine hK6 _ ?_
  clear hK6 K6
  refine .seqk fun K7 hK7 => ?_
  refine .block ?_
  refine .seqk fun K8 hK8 => ?_
  refine .reg ?_
  simp
  refine hK8 _ ?_
  clear hK8 K8
  refine .seqk fun K9 hK9 => ?_
  refine .reg ?_
  simp [hx]
  refine hK9 _ ?_
  clear hK9 K9
  refine .keep [0, 1, 5, 7, 8, 16] ?_
  simp only [keepE, E_cons, E_nil]
  refine .condk _ rfl (fun hc2 => ?_) (fun hc2 => ?_)
  ·try simp at hc2
   refine .seqk fun K10 hK10 => ?_
   refine .reg ?_
   simp
   refine hK10 _ ?_
   clear hK10 K10
   refine .ret ?_
   refine ret_z (.inr rfl) rfl rfl ?_
   rw [← hp, drop_cons hx]
   simp [idxF, hc2]
  ·try simp at hc2
   refine .skip ?_
   refine hK7 _ ?_
   clear hK7 K7
   refine .reg ?_
   simp
   refine hK4 _ _ (by omega) (Wk.cov (h' := outer h) (by simp; exact wrap64 (by omega) (by omega)) (.refl _)) ⟨?_, rfl⟩
   rw [← hp, drop_cons hx]
   simp [idxF, hc2]
 ·try simp at hc1
  refine .exit ?_
  try simp only [then', inBlk, if_true, if_false, reduceIte, Nat.reduceEqDiff]
  refine hK2 _ ?_
  clear hK6 hK4 hK2 K6 K4 K2
  refine .seqk fun K11 hK11 => ?_
  refine .reg ?_
  simp
  refine hK11 _ ?_
  clear hK11 K11
  refine .ret ?_
  refine ret_z (.inr rfl) rfl rfl ?_
  rw [← hp, drop_nil hc1]
  rfl
def c188 : ACode := (.seq (.reg [⟨some 4,none,.mov (.c (.d (.bool false)))⟩]) (.seq (.reg [⟨some 5,none,.mov (.t 0)⟩,⟨some 6,none,.mov (.t 1)⟩,⟨some 7,none,.call 231 [(.t 5),(.t 6)]⟩,⟨some 8,none,.bin .geq (.t 7) (.c (.d (.int .i64 0)))⟩,⟨some 4,none,.mov (.t 8)⟩]) .ret))
theorem b188 : Body Tryz.prog 188 9 c188 [.tmp 4] := Body.of Tryz.f188 Tryz.func188 (by decide +kernel) (by decide +kernel) Tryz.ntmps188 (by decide +kernel) (by decide +kernel)
theorem p188 (l : List Bool) (v : Bool) : PCall Tryz.prog 188 [sl (l.map Bo.c), bo v] (bo (l.any (fun x => v == x))) := by
 intro h
 refine ACall.of b188 (by simp) ?_
 unfold c188
 refine .seqk fun K1 hK1 => ?_
 refine .reg ?_
 simp
 refine hK1 _ ?_
 clear hK1 K1
 refine .seqk fun K2 hK2 => ?_
 refine .reg ?_
 refine Sq.cutk 3 fun K3 hK3 => ?_
 simp only [zt]
 simp
 refine PCall.sq (p231 l v) fun h1 he1 => ?_
 simp only [mergeH_eq he1]
 clear he1 h1
 refine hK3 _ ?_
 clear hK3 K3
 simp
 refine hK2 _ ?_
 clear hK2 K2
 refine .keep [4] ?_
 simp only [keepE, E_cons, E_nil]
 refine .ret ?_
 refine ret_z (.inr rfl) rfl rfl ?_
 simp only [← idxF_ge _ l 0]
 rfl
def c284 : ACode := (.seq (.reg [⟨some 4,none,.mov (.c (.d (.int .i64 0)))⟩]) (.seq (.seq (.reg [⟨some 6,none,.mov (.t 0)⟩,⟨some 7,none,.len false (.t 6)⟩,⟨some 8,none,.mov (.c (.d (.int .i64 0)))⟩]) (.block 0 (.loop (.seq (.reg [⟨some 9,none,.bin .lss (.t 8) (.t 7)⟩]) (.seq (.cond (.t 9) .skip (.exit 0)) (.seq (.block 1 (.seq (.reg [⟨some 10,none,.mov (.t 8)⟩,⟨some 5,none,.mov (.t 10)⟩]) (.seq (.reg [⟨some 11,none,.mov (.t 1)⟩,⟨some 12,none,.mov (.t 0)⟩,⟨some 13,none,.mov (.t 5)⟩,⟨some 14,none,.idx 1 (.t 12) (.t 13)⟩,⟨some 15,none,.load none (.t 14)⟩,⟨some 16,none,.bin .eql (.t 11) (.t 15)⟩]) (.cond (.t 16) (.seq (.reg [⟨some 17,none,.mov (.t 5)⟩,⟨some 4,none,.mov (.t 17)⟩]) .ret) .skip)))) (.reg [⟨some 18,none,.bin .add (.t 8) (.c (.d (.int .i64 1)))⟩,⟨some 8,none,.mov (.t 18)⟩]))))))) (.seq (.reg [⟨some 4,none,.mov (.c (.d (.int .i64 (-1))))⟩]) .ret)))
theorem b284 : Body Tryz.prog 284 19 c284 [.tmp 4] := Body.of Tryz.f284 Tryz.func284 (by decide +kernel) (by decide +kernel) Tryz.ntmps284 (by decide +kernel) (by decide +kernel)
theorem p284 (l : List ByteArray) (v : ByteArray) : PCall Tryz.prog 284 [sl (l.map S.c), stri v] (int (idxF (fun x => v.toList == x.toList) l 0)) := by
 intro h
 refine ACall.lens b284.noExt fun hl => ACall.of b284 (by simp) ?_
 have hla := len_of hl (List.mem_cons_self ..)
 simp only [List.length_map] at hla
 clear hl
 unfold c284
 refine .seqk fun K1 hK1 => ?_
 refine .reg ?_
 simp
 refine hK1 _ ?_
 clear hK1 K1
 refine .seqk fun K2 hK2 => ?_
 refine .seqk fun K3 hK3 => ?_
 refine .reg ?_
 simp
 refine hK3 _ ?_
 clear hK3 K3
 refine .keep [0, 1, 7, 8] ?_
 simp only [keepE, E_cons, E_nil]
 refine .block ?_
 refine .count l.length (fun i st => idxF (fun x => v.toList == x.toList) (l.drop i) i = idxF (fun x => v.toList == x.toList) l 0 ∧ st = ⟨E [(8, int i), (7, int l.length), (0, sl (l.map S.c)), (1, stri v)], outer h⟩) 0 (Nat.zero_le _) _ (.cov (h' := outer h) (by simp) (.refl _)) ⟨rfl, rfl⟩ ?_
 rintro i s hi1 ⟨hp, rfl⟩ K4 hK4
 refine .seqk fun K5 hK5 => ?_
 refine .reg ?_
 simp
 refine hK5 _ ?_
 clear hK5 K5
 refine .seqk fun K6 hK6 => ?_
 refine .condk _ rfl (fun hc1 => ?_) (fun hc1 => ?_)
 ·simp at hc1
  obtain ⟨x, hx⟩ := get_some hc1
  refine .skip ?_
  refine hK6 _ ?_
  clear hK6 K6
  refine .seqk fun K7 hK7 => ?_
  refine .block ?_
  refine .seqk fun K8 hK8 => ?_
  refine .reg ?_
  simp
  refine hK8 _ ?_
  clear hK8 K8
  refine .seqk fun K9 hK9 => ?_
  refine .reg ?_
  simp [hx]
  refine hK9 _ ?_
  clear hK9 K9
  refine .keep [0, 1, 5, 7, 8, 16] ?_
  simp only [keepE, E_cons, E_nil]
  refine .condk _ rfl (fun hc2 => ?_) (fun hc2 => ?_)
  ·try simp at hc2
   refine .seqk fun K10 hK10 => ?_
   refine .reg ?_
   simp
   refine hK10 _ ?_
   clear hK10 K10
   refine .ret ?_
   refine ret_z (.inr rfl) rfl rfl ?_
   rw [← hp, drop_cons hx]
   simp [idxF, hc2]
  ·try simp at hc2
   refine .skip ?_
   refine hK7 _ ?_
   clear hK7 K7
   refine .reg ?_
   simp
   refine hK4 _ _ (by omega) (Wk.cov (h' := outer h) (by simp; exact wrap64 (by omega) (by omega)) (.refl _)) ⟨?_, rfl⟩
   rw [← hp, drop_cons hx]
   simp [idxF, hc2]
 ·try simp at hc1
  refine .exit ?_
  try simp only [then', inBlk, if_true, if_false, reduceIte, Nat.reduceEqDiff]
  refine hK2 _ ?_
  clear hK6 hK4 hK2 K6 K4 K2
  refine .seqk fun K11 hK11 => ?_
  refine .reg ?_
  simp
  refine hK11 _ ?_
  clear hK11 K11
  refine .ret ?_
  refine ret_z (.inr rfl) rfl rfl ?_
  rw [← hp, drop_nil hc1]
  rfl
def c276 : ACode := (.seq (.reg [⟨some 4,none,.mov (.c (.d (.bool false)))⟩]) (.seq (.reg [⟨some 5,none,.mov (.t 0)⟩,⟨some 6,none,.mov (.t 1)⟩,⟨some 7,none,.call 284 [(.t 5),(.t 6)]⟩,⟨some 8,none,.bin .geq (.t 7) (.c (.d (.int .i64 0)))⟩,⟨some 4,none,.mov (.t 8)⟩]) .ret))
theorem b276 : Body Tryz.prog 276 9 c276 [.tmp 4] := Body.of Tryz.f276 Tryz.func276 (by decide +kernel) (by decide +kernel) Tryz.ntmps276 (by decide +kernel) (by decide +kernel)
theorem p276 (l : List ByteArray) (v : ByteArray) : PCall Tryz.prog 276 [sl (l.map S.c), stri v] (bo (l.any (fun x => v.toList == x.toList))) := by
 intro h
 refine ACall.of b276 (by simp) ?_
 unfold c276
 refine .seqk fun K1 hK1 => ?_
 refine .reg ?_
 simp
 refine hK1 _ ?_
 clear hK1 K1
 refine .seqk fun K2 hK2 => ?_
 refine .reg ?_
 refine Sq.cutk 3 fun K3 hK3 => ?_
 simp only [zt]
 simp
 refine PCall.sq (p284 l v) fun h1 he1 => ?_
 simp only [mergeH_eq he1]
 clear he1 h1
 refine hK3 _ ?_
 clear hK3 K3
 simp
 refine hK2 _ ?_
 clear hK2 K2
 refine .keep [4] ?_
 simp only [keepE, E_cons, E_nil]
 refine .ret ?_
 refine ret_z (.inr rfl) rfl rfl ?_
 simp only [← idxF_ge _ l 0]
 rfl
def c207 : ACode := (.seq (.reg [⟨some 4,none,.mov (.c (.d (.int .i64 0)))⟩]) (.seq (.seq (.reg [⟨some 6,none,.mov (.t 0)⟩,⟨some 7,none,.len false (.t 6)⟩,⟨some 8,none,.mov (.c (.d (.int .i64 0)))⟩]) (.block 0 (.loop (.seq (.reg [⟨some 9,none,.bin .lss (.t 8) (.t 7)⟩]) (.seq (.cond (.t 9) .skip (.exit 0)) (.seq (.block 1 (.seq (.reg [⟨some 10,none,.mov (.t 8)⟩,⟨some 5,none,.mov (.t 10)⟩]) (.seq (.reg [⟨some 11,none,.mov (.t 1)⟩,⟨some 12,none,.mov (.t 0)⟩,⟨some 13,none,.mov (.t 5)⟩,⟨some 14,none,.idx 1 (.t 12) (.t 13)⟩,⟨some 15,none,.load none (.t 14)⟩,⟨some 16,none,.callv (.t 11) [(.t 15)]⟩]) (.cond (.t 16) (.seq (.reg [⟨some 17,none,.mov (.t 5)⟩,⟨some 4,none,.mov (.t 17)⟩]) .ret) .skip)))) (.reg [⟨some 18,none,.bin .add (.t 8) (.c (.d (.int .i64 1)))⟩,⟨some 8,none,.mov (.t 18)⟩]))))))) (.seq (.reg [⟨some 4,none,.mov (.c (.d (.int .i64 (-1))))⟩]) .ret)))
theorem b207 : Body Tryz.prog 207 19 c207 [.tmp 4] := Body.of Tryz.f207 Tryz.func207 (by decide +kernel) (by decide +kernel) Tryz.ntmps207 (by decide +kernel) (by decide +kernel)
theorem p207 (l : List Int) (g : FuncId) (caps : List AV) (p : Int → Bool) (hg : ∀ x, x ∈ l → PCall Tryz.prog g (int x :: caps) (bo (p x))) : PCall Tryz.prog 207 [sl (l.map I.c), .fn g caps] (int (idxF p l 0)) := by
 intro h
 refine ACall.lens b207.noExt fun hl => ACall.of b207 (by simp) ?_
 have hla := len_of hl (List.mem_cons_self ..)
 simp only [List.length_map] at hla
 clear hl
 unfold c207
 refine .seqk fun K1 hK1 => ?_
 refine .reg ?_
 simp
 refine hK1 _ ?_
 clear hK1 K1
 refine .seqk fun K2 hK2 => ?_
 refine .seqk fun K3 hK3 => ?_
 refine .reg ?_
 simp
 refine hK3 _ ?_
 clear hK3 K3
 refine .keep [0, 1, 7, 8] ?_
 simp only [keepE, E_cons, E_nil]
 refine .block ?_
 refine .count l.length (fun i st => idxF p (l.drop i) i = idxF p l 0 ∧ st = ⟨E [(8, int i), (7, int l.length), (0, sl (l.map I.c)), (1, .fn g caps)], outer h⟩) 0 (Nat.zero_le _) _ (.cov (h' := outer h) (by simp) (.refl _)) ⟨rfl, rfl⟩ ?_
 rintro i s hi1 ⟨hp, rfl⟩ K4 hK4
 refine .seqk fun K5 hK5 => ?_
 refine .reg ?_
 simp
 refine hK5 _ ?_
 clear hK5 K5
 refine .seqk fun K6 hK6 => ?_
 refine .condk _ rfl (fun hc1 => ?_) (fun hc1 => ?_)
 ·simp at hc1
  obtain ⟨x, hx⟩ := get_some hc1
  refine .skip ?_
  refine hK6 _ ?_
  clear hK6 K6
  refine .seqk fun K7 hK7 => ?_
  refine .block ?_
  refine .seqk fun K8 hK8 => ?_
  refine .reg ?_
  simp
  refine hK8 _ ?_
  clear hK8 K8
  refine .seqk fun K9 hK9 => ?_
  refine .reg ?_
  simp [hx]
  refine PCall.sq (hg x (List.mem_of_getElem? hx)) fun h1 he1 => ?_
  simp only [mergeH_eq he1]
  clear he1 h1
  try simp [hx]
  refine hK9 _ ?_
  clear hK9 K9
  refine .keep [0, 1, 5, 7, 8, 16] ?_
  simp only [keepE, E_cons, E_nil]
  refine .condk _ rfl (fun hc2 => ?_) (fun hc2 => ?_)
  ·try simp at hc2
   refine .seqk fun K10 hK10 => ?_
   refine .reg ?_
   simp
   refine hK10 _ ?_
   clear hK10 K10
   refine .ret ?_
   refine ret_z (.inr rfl) rfl rfl ?_
   rw [← hp, drop_cons hx]
   simp [idxF, hc2]
  ·try simp at hc2
   refine .skip ?_
   refine hK7 _ ?_
   clear hK7 K7
   refine .reg ?_
   simp
   refine hK4 _ _ (by omega) (Wk.cov (h' := outer h) (by simp; exact wrap64 (by omega) (by omega)) (.refl _)) ⟨?_, rfl⟩
   rw [← hp, drop_cons hx]
   simp [idxF, hc2]
 ·try simp at hc1
  refine .exit ?_
  try simp only [then', inBlk, if_true, if_false, reduceIte, Nat.reduceEqDiff]
  refine hK2 _ ?_
  clear hK6 hK4 hK2 K6 K4 K2
  refine .seqk fun K11 hK11 => ?_
  refine .reg ?_
  simp
  refine hK11 _ ?_
  clear hK11 K11
  refine .ret ?_
  refine ret_z (.inr rfl) rfl rfl ?_
  rw [← hp, drop_nil hc1]
  rfl
def c149 : ACode := (.seq (.reg [⟨some 4,none,.mov (.c (.d (.bool false)))⟩]) (.seq (.reg [⟨some 5,none,.mov (.t 0)⟩,⟨some 6,none,.mov (.t 1)⟩,⟨some 7,none,.call 207 [(.t 5),(.t 6)]⟩,⟨some 8,none,.bin .geq (.t 7) (.c (.d (.int .i64 0)))⟩,⟨some 4,none,.mov (.t 8)⟩]) .ret))
theorem b149 : Body Tryz.prog 149 9 c149 [.tmp 4] := Body.of Tryz.f149 Tryz.func149 (by decide +kernel) (by decide +kernel) Tryz.ntmps149 (by decide +kernel) (by decide +kernel)
theorem p149 (l : List Int) (g : FuncId) (caps : List AV) (p : Int → Bool) (hg : ∀ x, x ∈ l → PCall Tryz.prog g (int x :: caps) (bo (p x))) : PCall Tryz.prog 149 [sl (l.map I.c), .fn g caps] (bo (l.any p)) := by
 intro h
 refine ACall.of b149 (by simp) ?_
 unfold c149
 refine .seqk fun K1 hK1 => ?_
 refine .reg ?_
 simp
 refine hK1 _ ?_
 clear hK1 K1
 refine .seqk fun K2 hK2 => ?_
 refine .reg ?_
 refine Sq.cutk 3 fun K3 hK3 => ?_
 simp only [zt]
 simp
 refine PCall.sq (p207 l g caps p hg) fun h1 he1 => ?_
 simp only [mergeH_eq he1]
 clear he1 h1
 refine hK3 _ ?_
 clear hK3 K3
 simp
 refine hK2 _ ?_
 clear hK2 K2
 refine .keep [4] ?_
 simp only [keepE, E_cons, E_nil]
 refine .ret ?_
 refine ret_z (.inr rfl) rfl rfl ?_
 simp only [← idxF_ge _ l 0]
 rfl
def c208 : ACode := (.seq (.reg [⟨some 4,none,.mov (.c (.d (.int .i64 0)))⟩]) (.seq (.seq (.reg [⟨some 6,none,.mov (.t 0)⟩,⟨some 7,none,.len false (.t 6)⟩,⟨some 8,none,.mov (.c (.d (.int .i64 0)))⟩]) (.block 0 (.loop (.seq (.reg [⟨some 9,none,.bin .lss (.t 8) (.t 7)⟩]) (.seq (.cond (.t 9) .skip (.exit 0)) (.seq (.block 1 (.seq (.reg [⟨some 10,none,.mov (.t 8)⟩,⟨some 5,none,.mov (.t 10)⟩]) (.seq (.reg [⟨some 11,none,.mov (.t 1)⟩,⟨some 12,none,.mov (.t 0)⟩,⟨some 13,none,.mov (.t 5)⟩,⟨some 14,none,.idx 3 (.t 12) (.t 13)⟩,⟨some 15,none,.load (some 3) (.t 14)⟩,⟨some 16,none,.callv (.t 11) [(.t 15)]⟩]) (.cond (.t 16) (.seq (.reg [⟨some 17,none,.mov (.t 5)⟩,⟨some 4,none,.mov (.t 17)⟩]) .ret) .skip)))) (.reg [⟨some 18,none,.bin .add (.t 8) (.c (.d (.int .i64 1)))⟩,⟨some 8,none,.mov (.t 18)⟩]))))))) (.seq (.reg [⟨some 4,none,.mov (.c (.d (.int .i64 (-1))))⟩]) .ret)))
theorem b208 : Body Tryz.prog 208 19 c208 [.tmp 4] := Body.of Tryz.f208 Tryz.func208 (by decide +kernel) (by decide +kernel) Tryz.ntmps208 (by decide +kernel) (by decide +kernel)
theorem p208 (l : List Edge) (g : FuncId) (caps : List AV) (p : Edge → Bool) (hg : ∀ x, x ∈ l → PCall Tryz.prog g (ag (Edge.c x) :: caps) (bo (p x))) : PCall Tryz.prog 208 [sl (l.map Edge.c), .fn g caps] (int (idxF p l 0)) := by
 intro h
 refine ACall.lens b208.noExt fun hl => ACall.of b208 (by simp) ?_
 have hla := len_of hl (List.mem_cons_self ..)
 simp only [List.length_map] at hla
 clear hl
 unfold c208
 refine .seqk fun K1 hK1 => ?_
 refine .reg ?_
 simp
 refine hK1 _ ?_
 clear hK1 K1
 refine .seqk fun K2 hK2 => ?_
 refine .seqk fun K3 hK3 => ?_
 refine .reg ?_
 simp
 refine hK3 _ ?_
 clear hK3 K3
 refine .keep [0, 1, 7, 8] ?_
 simp only [keepE, E_cons, E_nil]
 refine .block ?_
 refine .count l.length (fun i st => idxF p (l.drop i) i = idxF p l 0 ∧ st = ⟨E [(8, int i), (7, int l.length), (0, sl (l.map Edge.c)), (1, .fn g caps)], outer h⟩) 0 (Nat.zero_le _) _ (.cov (h' := outer h) (by simp) (.refl _)) ⟨rfl, rfl⟩ ?_
 rintro i s hi1 ⟨hp, rfl⟩ K4 hK4
 refine .seqk fun K5 hK5 => ?_
 refine .reg ?_
 simp
 refine hK5 _ ?_
 clear hK5 K5
 refine .seqk fun K6 hK6 => ?_
 refine .condk _ rfl (fun hc1 => ?_) (fun hc1 => ?_)
 ·simp at hc1
  obtain ⟨x, hx⟩ := get_some hc1
  refine .skip ?_
  refine hK6 _ ?_
  clear hK6 K6
  refine .seqk fun K7 hK7 => ?_
  refine .block ?_
  refine .seqk fun K8 hK8 => ?_
  refine .reg ?_
  simp
  refine hK8 _ ?_
  clear hK8 K8
  refine .seqk fun K9 hK9 => ?_
  refine .reg ?_
  simp [hx]
  refine PCall.sq (hg x (List.mem_of_getElem? hx)) fun h1 he1 => ?_
  simp only [mergeH_eq he1]
  clear he1 h1
  try simp [hx]
  refine hK9 _ ?_
  clear hK9 K9
  refine .keep [0, 1, 5, 7, 8, 16] ?_
  simp only [keepE, E_cons, E_nil]
  refine .condk _ rfl (fun hc2 => ?_) (fun hc2 => ?_)
  ·try simp at hc2
   refine .seqk fun K10 hK10 => ?_
   refine .reg ?_
   simp
   refine hK10 _ ?_
   clear hK10 K10
   refine .ret ?_
   refine ret_z (.inr rfl) rfl rfl ?_
   rw [← hp, drop_cons hx]
   simp [idxF, hc2]
  ·try simp at hc2
   refine .skip ?_
   refine hK7 _ ?_
   clear hK7 K7
   refine .reg ?_
   simp
   refine hK4 _ _ (by omega) (Wk.cov (h' := outer h) (by simp; exact wrap64 (by omega) (by omega)) (.refl _)) ⟨?_, rfl⟩
   rw [← hp, drop_cons hx]
   simp [idxF, hc2]
 ·try simp at hc1
  refine .exit ?_
  try simp only [then', inBlk, if_true, if_false, reduceIte, Nat.reduceEqDiff]
  refine hK2 _ ?_
  clear hK6 hK4 hK2 K6 K4 K2
  refine .seqk fun K11 hK11 => ?_
  refine .reg ?_
  simp
  refine hK11 _ ?_
  clear hK11 K11
  refine .ret ?_
  refine ret_z (.inr rfl) rfl rfl ?_
  rw [← hp, drop_nil hc1]
  rfl
def c152 : ACode := (.seq (.reg [⟨some 4,none,.mov (.c (.d (.bool false)))⟩]) (.seq (.reg [⟨some 5,none,.mov (.t 0)⟩,⟨some 6,none,.mov (.t 1)⟩,⟨some 7,none,.call 208 [(.t 5),(.t 6)]⟩,⟨some 8,none,.bin .geq (.t 7) (.c (.d (.int .i64 0)))⟩,⟨some 4,none,.mov (.t 8)⟩]) .ret))
theorem b152 : Body Tryz.prog 152 9 c152 [.tmp 4] := Body.of Tryz.f152 Tryz.func152 (by decide +kernel) (by decide +kernel) Tryz.ntmps152 (by decide +kernel) (by decide +kernel)
theorem p152 (l : List Edge) (g : FuncId) (caps : List AV) (p : Edge → Bool) (hg : ∀ x, x ∈ l → PCall Tryz.prog g (ag (Edge.c x) :: caps) (bo (p x))) : PCall Tryz.prog 152 [sl (l.map Edge.c), .fn g caps] (bo (l.any p)) := by
 intro h
 refine ACall.of b152 (by simp) ?_
 unfold c152
 refine .seqk fun K1 hK1 => ?_
 refine .reg ?_
 simp
 refine hK1 _ ?_
 clear hK1 K1
 refine .seqk fun K2 hK2 => ?_
 refine .reg ?_
 refine Sq.cutk 3 fun K3 hK3 => ?_
 simp only [zt]
 simp
 refine PCall.sq (p208 l g caps p hg) fun h1 he1 => ?_
 simp only [mergeH_eq he1]
 clear he1 h1
 refine hK3 _ ?_
 clear hK3 K3
 simp
 refine hK2 _ ?_
 clear hK2 K2
 refine .keep [4] ?_
 simp only [keepE, E_cons, E_nil]
 refine .ret ?_
 refine ret_z (.inr rfl) rfl rfl ?_
 simp only [← idxF_ge _ l 0]
 rfl
def c263 : ACode := (.seq (.reg [⟨some 4,none,.mov (.c (.d (.int .i64 0)))⟩]) (.seq (.seq (.reg [⟨some 6,none,.mov (.t 0)⟩,⟨some 7,none,.len false (.t 6)⟩,⟨some 8,none,.mov (.c (.d (.int .i64 0)))⟩]) (.block 0 (.loop (.seq (.reg [⟨some 9,none,.bin .lss (.t 8) (.t 7)⟩]) (.seq (.cond (.t 9) .skip (.exit 0)) (.seq (.block 1 (.seq (.reg [⟨some 10,none,.mov (.t 8)⟩,⟨some 5,none,.mov (.t 10)⟩]) (.seq (.reg [⟨some 11,none,.mov (.t 1)⟩,⟨some 12,none,.mov (.t 0)⟩,⟨some 13,none,.mov (.t 5)⟩,⟨some 14,none,.idx 4 (.t 12) (.t 13)⟩,⟨some 15,none,.load (some 4) (.t 14)⟩,⟨some 16,none,.callv (.t 11) [(.t 15)]⟩]) (.cond (.t 16) (.seq (.reg [⟨some 17,none,.mov (.t 5)⟩,⟨some 4,none,.mov (.t 17)⟩]) .ret) .skip)))) (.reg [⟨some 18,none,.bin .add (.t 8) (.c (.d (.int .i64 1)))⟩,⟨some 8,none,.mov (.t 18)⟩]))))))) (.seq (.reg [⟨some 4,none,.mov (.c (.d (.int .i64 (-1))))⟩]) .ret)))
theorem b263 : Body Tryz.prog 263 19 c263 [.tmp 4] := Body.of Tryz.f263 Tryz.func263 (by decide +kernel) (by decide +kernel) Tryz.ntmps263 (by decide +kernel) (by decide +kernel)
theorem p263 (l : List NodeType) (g : FuncId) (caps : List AV) (p : NodeType → Bool) (hg : ∀ x, x ∈ l → PCall Tryz.prog g (ag (NodeType.c x) :: caps) (bo (p x))) : PCall Tryz.prog 263 [sl (l.map NodeType.c), .fn g caps] (int (idxF p l 0)) := by
 intro h
 refine ACall.lens b263.noExt fun hl => ACall.of b263 (by simp) ?_
 have hla := len_of hl (List.mem_cons_self ..)
 simp only [List.length_map] at hla
 clear hl
 unfold c263
 refine .seqk fun K1 hK1 => ?_
 refine .reg ?_
 simp
 refine hK1 _ ?_
 clear hK1 K1
 refine .seqk fun K2 hK2 => ?_
 refine .seqk fun K3 hK3 => ?_
 refine .reg ?_
 simp
 refine hK3 _ ?_
 clear hK3 K3
 refine .keep [0, 1, 7, 8] ?_
 simp only [keepE, E_cons, E_nil]
 refine .block ?_
 refine .count l.length (fun i st => idxF p (l.drop i) i = idxF p l 0 ∧ st = ⟨E [(8, int i), (7, int l.length), (0, sl (l.map NodeType.c)), (1, .fn g caps)], outer h⟩) 0 (Nat.zero_le _) _ (.cov (h' := outer h) (by simp) (.refl _)) ⟨rfl, rfl⟩ ?_
 rintro i s hi1 ⟨hp, rfl⟩ K4 hK4
 refine .seqk fun K5 hK5 => ?_
 refine .reg ?_
 simp
 refine hK5 _ ?_
 clear hK5 K5
 refine .seqk fun K6 hK6 => ?_
 refine .condk _ rfl (fun hc1 => ?_) (fun hc1 => ?_)
 ·simp at hc1
  obtain ⟨x, hx⟩ := get_some hc1
  refine .skip ?_
  refine hK6 _ ?_
  clear hK6 K6
  refine .seqk fun K7 hK7 => ?_
  refine .block ?_
  refine .seqk fun K8 hK8 => ?_
  refine .reg ?_
  simp
  refine hK8 _ ?_
  clear hK8 K8
  refine .seqk fun K9 hK9 => ?_
  refine .reg ?_
  simp [hx]
  refine PCall.sq (hg x (List.mem_of_getElem? hx)) fun h1 he1 => ?_
  simp only [mergeH_eq he1]
  clear he1 h1
  try simp [hx]
  refine hK9 _ ?_
  clear hK9 K9
  refine .keep [0, 1, 5, 7, 8, 16] ?_
  simp only [keepE, E_cons, E_nil]
  refine .condk _ rfl (fun hc2 => ?_) (fun hc2 => ?_)
  ·try simp at hc2
   refine .seqk fun K10 hK10 => ?_
   refine .reg ?_
   simp
   refine hK10 _ ?_
   clear hK10 K10
   refine .ret ?_
   refine ret_z (.inr rfl) rfl rfl ?_
   rw [← hp, drop_cons hx]
   simp [idxF, hc2]
  ·try simp at hc2
   refine .skip ?_
   refine hK7 _ ?_
   clear hK7 K7
   refine .reg ?_
   simp
   refine hK4 _ _ (by omega) (Wk.cov (h' := outer h) (by simp; exact wrap64 (by omega) (by omega)) (.refl _)) ⟨?_, rfl⟩
   rw [← hp, drop_cons hx]
   simp [idxF, hc2]
 ·try simp at hc1
  refine .exit ?_
  try simp only [then', inBlk, if_true, if_false, reduceIte, Nat.reduceEqDiff]
  refine hK2 _ ?_
  clear hK6 hK4 hK2 K6 K4 K2
  refine .seqk fun K11 hK11 => ?_
  refine .reg ?_
  simp
  refine hK11 _ ?_
  clear hK11 K11
  refine .ret ?_
  refine ret_z (.inr rfl) rfl rfl ?_
  rw [← hp, drop_nil hc1]
  rfl
def c248 : ACode := (.seq (.reg [⟨some 4,none,.mov (.c (.d (.bool false)))⟩]) (.seq (.reg [⟨some 5,none,.mov (.t 0)⟩,⟨some 6,none,.mov (.t 1)⟩,⟨some 7,none,.call 263 [(.t 5),(.t 6)]⟩,⟨some 8,none,.bin .geq (.t 7) (.c (.d (.int .i64 0)))⟩,⟨some 4,none,.mov (.t 8)⟩]) .ret))
theorem b248 : Body Tryz.prog 248 9 c248 [.tmp 4] := Body.of Tryz.f248 Tryz.func248 (by decide +kernel) (by decide +kernel) Tryz.ntmps248 (by decide +kernel) (by decide +kernel)
theorem p248 (l : List NodeType) (g : FuncId) (caps : List AV) (p : NodeType → Bool) (hg : ∀ x, x ∈ l → PCall Tryz.prog g (ag (NodeType.c x) :: caps) (bo (p x))) : PCall Tryz.prog 248 [sl (l.map NodeType.c), .fn g caps] (bo (l.any p)) := by
 intro h
 refine ACall.of b248 (by simp) ?_
 unfold c248
 refine .seqk fun K1 hK1 => ?_
 refine .reg ?_
 simp
 refine hK1 _ ?_
 clear hK1 K1
 refine .seqk fun K2 hK2 => ?_
 refine .reg ?_
 refine Sq.cutk 3 fun K3 hK3 => ?_
 simp only [zt]
 simp
 refine PCall.sq (p263 l g caps p hg) fun h1 he1 => ?_
 simp only [mergeH_eq he1]
 clear he1 h1
 refine hK3 _ ?_
 clear hK3 K3
 simp
 refine hK2 _ ?_
 clear hK2 K2
 refine .keep [4] ?_
 simp only [keepE, E_cons, E_nil]
 refine .ret ?_
 refine ret_z (.inr rfl) rfl rfl ?_
 simp only [← idxF_ge _ l 0]
 rfl
def c275 : ACode := (.seq (.reg [⟨some 4,none,.mov (.c (.d (.int .i64 0)))⟩]) (.seq (.seq (.reg [⟨some 6,none,.mov (.t 0)⟩,⟨some 7,none,.len false (.t 6)⟩,⟨some 8,none,.mov (.c (.d (.int .i64 0)))⟩]) (.block 0 (.loop (.seq (.reg [⟨some 9,none,.bin .lss (.t 8) (.t 7)⟩]) (.seq (.cond (.t 9) .skip (.exit 0)) (.seq (.block 1 (.seq (.reg [⟨some 10,none,.mov (.t 8)⟩,⟨some 5,none,.mov (.t 10)⟩]) (.seq (.reg [⟨some 11,none,.mov (.t 1)⟩,⟨some 12,none,.mov (.t 0)⟩,⟨some 13,none,.mov (.t 5)⟩,⟨some 14,none,.idx 4 (.t 12) (.t 13)⟩,⟨some 15,none,.load (some 4) (.t 14)⟩,⟨some 16,none,.callv (.t 11) [(.t 15)]⟩]) (.cond (.t 16) (.seq (.reg [⟨some 17,none,.mov (.t 5)⟩,⟨some 4,none,.mov (.t 17)⟩]) .ret) .skip)))) (.reg [⟨some 18,none,.bin .add (.t 8) (.c (.d (.int .i64 1)))⟩,⟨some 8,none,.mov (.t 18)⟩]))))))) (.seq (.reg [⟨some 4,none,.mov (.c (.d (.int .i64 (-1))))⟩]) .ret)))
theorem b275 : Body Tryz.prog 275 19 c275 [.tmp 4] := Body.of Tryz.f275 Tryz.func275 (by decide +kernel) (by decide +kernel) Tryz.ntmps275 (by decide +kernel) (by decide +kernel)
theorem p275 (l : List Attr) (g : FuncId) (caps : List AV) (p : Attr → Bool) (hg : ∀ x, x ∈ l → PCall Tryz.prog g (ag (Attr.c x) :: caps) (bo (p x))) : PCall Tryz.prog 275 [sl (l.map Attr.c), .fn g caps] (int (idxF p l 0)) := by
 intro h
 refine ACall.lens b275.noExt fun hl => ACall.of b275 (by simp) ?_
 have hla := len_of hl (List.mem_cons_self ..)
 simp only [List.length_map] at hla
 clear hl
 unfold c275
 refine .seqk fun K1 hK1 => ?_
 refine .reg ?_
 simp
 refine hK1 _ ?_
 clear hK1 K1
 refine .seqk fun K2 hK2 => ?_
 refine .seqk fun K3 hK3 => ?_
 refine .reg ?_
 simp
 refine hK3 _ ?_
 clear hK3 K3
 refine .keep [0, 1, 7, 8] ?_
 simp only [keepE, E_cons, E_nil]
 refine .block ?_
 refine .count l.length (fun i st => idxF p (l.drop i) i = idxF p l 0 ∧ st = ⟨E [(8, int i), (7, int l.length), (0, sl (l.map Attr.c)), (1, .fn g caps)], outer h⟩) 0 (Nat.zero_le _) _ (.cov (h' := outer h) (by simp) (.refl _)) ⟨rfl, rfl⟩ ?_
 rintro i s hi1 ⟨hp, rfl⟩ K4 hK4
 refine .seqk fun K5 hK5 => ?_
 refine .reg ?_
 simp
 refine hK5 _ ?_
 clear hK5 K5
 refine .seqk fun K6 hK6 => ?_
 refine .condk _ rfl (fun hc1 => ?_) (fun hc1 => ?_)
 ·simp at hc1
  obtain ⟨x, hx⟩ := get_some hc1
  refine .skip ?_
  refine hK6 _ ?_
  clear hK6 K6
  refine .seqk fun K7 hK7 => ?_
  refine .block ?_
  refine .seqk fun K8 hK8 => ?_
  refine .reg ?_
  simp
  refine hK8 _ ?_
  clear hK8 K8
  refine .seqk fun K9 hK9 => ?_
  refine .reg ?_
  simp [hx]
  refine PCall.sq (hg x (List.mem_of_getElem? hx)) fun h1 he1 => ?_
  simp only [mergeH_eq he1]
  clear he1 h1
  try simp [hx]
  refine hK9 _ ?_
  clear hK9 K9
  refine .keep [0, 1, 5, 7, 8, 16] ?_
  simp only [keepE, E_cons, E_nil]
  refine .condk _ rfl (fun hc2 => ?_) (fun hc2 => ?_)
  ·try simp at hc2
   refine .seqk fun K10 hK10 => ?_
   refine .reg ?_
   simp
   refine hK10 _ ?_
   clear hK10 K10
   refine .ret ?_
   refine ret_z (.inr rfl) rfl rfl ?_
   rw [← hp, drop_cons hx]
   simp [idxF, hc2]
  ·try simp at hc2
   refine .skip ?_
   refine hK7 _ ?_
   clear hK7 K7
   refine .reg ?_
   simp
   refine hK4 _ _ (by omega) (Wk.cov (h' := outer h) (by simp; exact wrap64 (by omega) (by omega)) (.refl _)) ⟨?_, rfl⟩
   rw [← hp, drop_cons hx]
   simp [idxF, hc2]
 ·try simp at hc1
  refine .exit ?_
  try simp only [then', inBlk, if_true, if_false, reduceIte, Nat.reduceEqDiff]
  refine hK2 _ ?_
  clear hK6 hK4 hK2 K6 K4 K2
  refine .seqk fun K11 hK11 => ?_
  refine .reg ?_
  simp
  refine hK11 _ ?_
  clear hK11 K11
  refine .ret ?_
  refine ret_z (.inr rfl) rfl rfl ?_
  rw [← hp, drop_nil hc1]
  rfl
def c264 : ACode := (.seq (.reg [⟨some 4,none,.mov (.c (.d (.bool false)))⟩]) (.seq (.reg [⟨some 5,none,.mov (.t 0)⟩,⟨some 6,none,.mov (.t 1)⟩,⟨some 7,none,.call 275 [(.t 5),(.t 6)]⟩,⟨some 8,none,.bin .geq (.t 7) (.c (.d (.int .i64 0)))⟩,⟨some 4,none,.mov (.t 8)⟩]) .ret))
theorem b264 : Body Tryz.prog 264 9 c264 [.tmp 4] := Body.of Tryz.f264 Tryz.func264 (by decide +kernel) (by decide +kernel) Tryz.ntmps264 (by decide +kernel) (by decide +kernel)
theorem p264 (l : List Attr) (g : FuncId) (caps : List AV) (p : Attr → Bool) (hg : ∀ x, x ∈ l → PCall Tryz.prog g (ag (Attr.c x) :: caps) (bo (p x))) : PCall Tryz.prog 264 [sl (l.map Attr.c), .fn g caps] (bo (l.any p)) := by
 intro h
 refine ACall.of b264 (by simp) ?_
 unfold c264
 refine .seqk fun K1 hK1 => ?_
 refine .reg ?_
 simp
 refine hK1 _ ?_
 clear hK1 K1
 refine .seqk fun K2 hK2 => ?_
 refine .reg ?_
 refine Sq.cutk 3 fun K3 hK3 => ?_
 simp only [zt]
 simp
 refine PCall.sq (p275 l g caps p hg) fun h1 he1 => ?_
 simp only [mergeH_eq he1]
 clear he1 h1
 refine hK3 _ ?_
 clear hK3 K3
 simp
 refine hK2 _ ?_
 clear hK2 K2
 refine .keep [4] ?_
 simp only [keepE, E_cons, E_nil]
 refine .ret ?_
 refine ret_z (.inr rfl) rfl rfl ?_
 simp only [← idxF_ge _ l 0]
 rfl
def c267 : ACode := (.seq (.reg [⟨some 4,none,.mov (.c (.d (.int .i64 0)))⟩]) (.seq (.seq (.reg [⟨some 6,none,.mov (.t 0)⟩,⟨some 7,none,.len false (.t 6)⟩,⟨some 8,none,.mov (.c (.d (.int .i64 0)))⟩]) (.block 0 (.loop (.seq (.reg [⟨some 9,none,.bin .lss (.t 8) (.t 7)⟩]) (.seq (.cond (.t 9) .skip (.exit 0)) (.seq (.block 1 (.seq (.reg [⟨some 10,none,.mov (.t 8)⟩,⟨some 5,none,.mov (.t 10)⟩]) (.seq (.reg [⟨some 11,none,.mov (.t 1)⟩,⟨some 12,none,.mov (.t 0)⟩,⟨some 13,none,.mov (.t 5)⟩,⟨some 14,none,.idx 7 (.t 12) (.t 13)⟩,⟨some 15,none,.load (some 7) (.t 14)⟩,⟨some 16,none,.callv (.t 11) [(.t 15)]⟩]) (.cond (.t 16) (.seq (.reg [⟨some 17,none,.mov (.t 5)⟩,⟨some 4,none,.mov (.t 17)⟩]) .ret) .skip)))) (.reg [⟨some 18,none,.bin .add (.t 8) (.c (.d (.int .i64 1)))⟩,⟨some 8,none,.mov (.t 18)⟩]))))))) (.seq (.reg [⟨some 4,none,.mov (.c (.d (.int .i64 (-1))))⟩]) .ret)))
theorem b267 : Body Tryz.prog 267 19 c267 [.tmp 4] := Body.of Tryz.f267 Tryz.func267 (by decide +kernel) (by decide +kernel) Tryz.ntmps267 (by decide +kernel) (by decide +kernel)
theorem p267 (l : List EdgeType) (g : FuncId) (caps : List AV) (p : EdgeType → Bool) (hg : ∀ x, x ∈ l → PCall Tryz.prog g (ag (EdgeType.c x) :: caps) (bo (p x))) : PCall Tryz.prog 267 [sl (l.map EdgeType.c), .fn g caps] (int (idxF p l 0)) := by
 intro h
 refine ACall.lens b267.noExt fun hl => ACall.of b267 (by simp) ?_
 have hla := len_of hl (List.mem_cons_self ..)
 simp only [List.length_map] at hla
 clear hl
 unfold c267
 refine .seqk fun K1 hK1 => ?_
 refine .reg ?_
 simp
 refine hK1 _ ?_
 clear hK1 K1
 refine .seqk fun K2 hK2 => ?_
 refine .seqk fun K3 hK3 => ?_
 refine .reg ?_
 simp
 refine hK3 _ ?_
 clear hK3 K3
 refine .keep [0, 1, 7, 8] ?_
 simp only [keepE, E_cons, E_nil]
 refine .block ?_
 refine .count l.length (fun i st => idxF p (l.drop i) i = idxF p l 0 ∧ st = ⟨E [(8, int i), (7, int l.length), (0, sl (l.map EdgeType.c)), (1, .fn g caps)], outer h⟩) 0 (Nat.zero_le _) _ (.cov (h' := outer h) (by simp) (.refl _)) ⟨rfl, rfl⟩ ?_
 rintro i s hi1 ⟨hp, rfl⟩ K4 hK4
 refine .seqk fun K5 hK5 => ?_
 refine .reg ?_
 simp
 refine hK5 _ ?_
 clear hK5 K5
 refine .seqk fun K6 hK6 => ?_
 refine .condk _ rfl (fun hc1 => ?_) (fun hc1 => ?_)
 ·simp at hc1
  obtain ⟨x, hx⟩ := get_some hc1
  refine .skip ?_
  refine hK6 _ ?_
  clear hK6 K6
  refine .seqk fun K7 hK7 => ?_
  refine .block ?_
  refine .seqk fun K8 hK8 => ?_
  refine .reg ?_
  simp
  refine hK8 _ ?_
  clear hK8 K8
  refine .seqk fun K9 hK9 => ?_
  refine .reg ?_
  simp [hx]
  refine PCall.sq (hg x (List.mem_of_getElem? hx)) fun h1 he1 => ?_
  simp only [mergeH_eq he1]
  clear he1 h1
  try simp [hx]
  refine hK9 _ ?_
  clear hK9 K9
  refine .keep [0, 1, 5, 7, 8, 16] ?_
  simp only [keepE, E_cons, E_nil]
  refine .condk _ rfl (fun hc2 => ?_) (fun hc2 => ?_)
  ·try simp at hc2
   refine .seqk fun K10 hK10 => ?_
   refine .reg ?_
   simp
   refine hK10 _ ?_
   clear hK10 K10
   refine .ret ?_
   refine ret_z (.inr rfl) rfl rfl ?_
   rw [← hp, drop_cons hx]
   simp [idxF, hc2]
  ·try simp at hc2
   refine .skip ?_
   refine hK7 _ ?_
   clear hK7 K7
   refine .reg ?_
   simp
   refine hK4 _ _ (by omega) (Wk.cov (h' := outer h) (by simp; exact wrap64 (by omega) (by omega)) (.refl _)) ⟨?_, rfl⟩
   rw [← hp, drop_cons hx]
   simp [idxF, hc2]
 ·try simp at hc1
  refine .exit ?_
  try simp only [then', inBlk, if_true, if_false, reduceIte, Nat.reduceEqDiff]
  refine hK2 _ ?_
  clear hK6 hK4 hK2 K6 K4 K2
  refine .seqk fun K11 hK11 => ?_
  refine .reg ?_
  simp
  refine hK11 _ ?_
  clear hK11 K11
  refine .ret ?_
  refine ret_z (.inr rfl) rfl rfl ?_
  rw [← hp, drop_nil hc1]
  rfl
def c253 : ACode := (.seq (.reg [⟨some 4,none,.mov (.c (.d (.bool false)))⟩]) (.seq (.reg [⟨some 5,none,.mov (.t 0)⟩,⟨some 6,none,.mov (.t 1)⟩,⟨some 7,none,.call 267 [(.t 5),(.t 6)]⟩,⟨some 8,none,.bin .geq (.t 7) (.c (.d (.int .i64 0)))⟩,⟨some 4,none,.mov (.t 8)⟩]) .ret))
theorem b253 : Body Tryz.prog 253 9 c253 [.tmp 4] := Body.of Tryz.f253 Tryz.func253 (by decide +kernel) (by decide +kernel) Tryz.ntmps253 (by decide +kernel) (by decide +kernel)
theorem p253 (l : List EdgeType) (g : FuncId) (caps : List AV) (p : EdgeType → Bool) (hg : ∀ x, x ∈ l → PCall Tryz.prog g (ag (EdgeType.c x) :: caps) (bo (p x))) : PCall Tryz.prog 253 [sl (l.map EdgeType.c), .fn g caps] (bo (l.any p)) := by
 intro h
 refine ACall.of b253 (by simp) ?_
 unfold c253
 refine .seqk fun K1 hK1 => ?_
 refine .reg ?_
 simp
 refine hK1 _ ?_
 clear hK1 K1
 refine .seqk fun K2 hK2 => ?_
 refine .reg ?_
 refine Sq.cutk 3 fun K3 hK3 => ?_
 simp only [zt]
 simp
 refine PCall.sq (p267 l g caps p hg) fun h1 he1 => ?_
 simp only [mergeH_eq he1]
 clear he1 h1
 refine hK3 _ ?_
 clear hK3 K3
 simp
 refine hK2 _ ?_
 clear hK2 K2
 refine .keep [4] ?_
 simp only [keepE, E_cons, E_nil]
 refine .ret ?_
 refine ret_z (.inr rfl) rfl rfl ?_
 simp only [← idxF_ge _ l 0]
 rfl
def c258 : ACode := (.seq (.reg [⟨some 4,none,.mov (.c (.d (.int .i64 0)))⟩]) (.seq (.seq (.reg [⟨some 6,none,.mov (.t 0)⟩,⟨some 7,none,.len false (.t 6)⟩,⟨some 8,none,.mov (.c (.d (.int .i64 0)))⟩]) (.block 0 (.loop (.seq (.reg [⟨some 9,none,.bin .lss (.t 8) (.t 7)⟩]) (.seq (.cond (.t 9) .skip (.exit 0)) (.seq (.block 1 (.seq (.reg [⟨some 10,none,.mov (.t 8)⟩,⟨some 5,none,.mov (.t 10)⟩]) (.seq (.reg [⟨some 11,none,.mov (.t 1)⟩,⟨some 12,none,.mov (.t 0)⟩,⟨some 13,none,.mov (.t 5)⟩,⟨some 14,none,.idx 4 (.t 12) (.t 13)⟩,⟨some 15,none,.load (some 4) (.t 14)⟩,⟨some 16,none,.callv (.t 11) [(.t 15)]⟩]) (.cond (.t 16) (.seq (.reg [⟨some 17,none,.mov (.t 5)⟩,⟨some 4,none,.mov (.t 17)⟩]) .ret) .skip)))) (.reg [⟨some 18,none,.bin .add (.t 8) (.c (.d (.int .i64 1)))⟩,⟨some 8,none,.mov (.t 18)⟩]))))))) (.seq (.reg [⟨some 4,none,.mov (.c (.d (.int .i64 (-1))))⟩]) .ret)))
theorem b258 : Body Tryz.prog 258 19 c258 [.tmp 4] := Body.of Tryz.f258 Tryz.func258 (by decide +kernel) (by decide +kernel) Tryz.ntmps258 (by decide +kernel) (by decide +kernel)
theorem p258 (l : List Count) (g : FuncId) (caps : List AV) (p : Count → Bool) (hg : ∀ x, x ∈ l → PCall Tryz.prog g (ag (Count.c x) :: caps) (bo (p x))) : PCall Tryz.prog 258 [sl (l.map Count.c), .fn g caps] (int (idxF p l 0)) := by
 intro h
 refine ACall.lens b258.noExt fun hl => ACall.of b258 (by simp) ?_
 have hla := len_of hl (List.mem_cons_self ..)
 simp only [List.length_map] at hla
 clear hl
 unfold c258
 refine .seqk fun K1 hK1 => ?_
 refine .reg ?_
 simp
 refine hK1 _ ?_
 clear hK1 K1
 refine .seqk fun K2 hK2 => ?_
 refine .seqk fun K3 hK3 => ?_
 refine .reg ?_
 simp
 refine hK3 _ ?_
 clear hK3 K3
 refine .keep [0, 1, 7, 8] ?_
 simp only [keepE, E_cons, E_nil]
 refine .block ?_
 refine .count l.length (fun i st => idxF p (l.drop i) i = idxF p l 0 ∧ st = ⟨E [(8, int i), (7, int l.length), (0, sl (l.map Count.c)), (1, .fn g caps)], outer h⟩) 0 (Nat.zero_le _) _ (.cov (h' := outer h) (by simp) (.refl _)) ⟨rfl, rfl⟩ ?_
 rintro i s hi1 ⟨hp, rfl⟩ K4 hK4
 refine .seqk fun K5 hK5 => ?_
 refine .reg ?_
 simp
 refine hK5 _ ?_
 clear hK5 K5
 refine .seqk fun K6 hK6 => ?_
 refine .condk _ rfl (fun hc1 => ?_) (fun hc1 => ?_)
 ·simp at hc1
  obtain ⟨x, hx⟩ := get_some hc1
  refine .skip ?_
  refine hK6 _ ?_
  clear hK6 K6
  refine .seqk fun K7 hK7 => ?_
  refine .block ?_
  refine .seqk fun K8 hK8 => ?_
  refine .reg ?_
  simp
  refine hK8 _ ?_
  clear hK8 K8
  refine .seqk fun K9 hK9 => ?_
  refine .reg ?_
  simp [hx]
  refine PCall.sq (hg x (List.mem_of_getElem? hx)) fun h1 he1 => ?_
  simp only [mergeH_eq he1]
  clear he1 h1
  try simp [hx]
  refine hK9 _ ?_
  clear hK9 K9
  refine .keep [0, 1, 5, 7, 8, 16] ?_
  simp only [keepE, E_cons, E_nil]
  refine .condk _ rfl (fun hc2 => ?_) (fun hc2 => ?_)
  ·try simp at hc2
   refine .seqk fun K10 hK10 => ?_
   refine .reg ?_
   simp
   refine hK10 _ ?_
   clear hK10 K10
   refine .ret ?_
   refine ret_z (.inr rfl) rfl rfl ?_
   rw [← hp, drop_cons hx]
   simp [idxF, hc2]
  ·try simp at hc2
   refine .skip ?_
   refine hK7 _ ?_
   clear hK7 K7
   refine .reg ?_
   simp
   refine hK4 _ _ (by omega) (Wk.cov (h' := outer h) (by simp; exact wrap64 (by omega) (by omega)) (.refl _)) ⟨?_, rfl⟩
   rw [← hp, drop_cons hx]
   simp [idxF, hc2]
 ·try simp at hc1
  refine .exit ?_
  try simp only [then', inBlk, if_true, if_false, reduceIte, Nat.reduceEqDiff]
  refine hK2 _ ?_
  clear hK6 hK4 hK2 K6 K4 K2
  refine .seqk fun K11 hK11 => ?_
  refine .reg ?_
  simp
  refine hK11 _ ?_
  clear hK11 K11
  refine .ret ?_
  refine ret_z (.inr rfl) rfl rfl ?_
  rw [← hp, drop_nil hc1]
  rfl
def c229 : ACode := (.seq (.reg [⟨some 4,none,.mov (.c (.d (.bool false)))⟩]) (.seq (.reg [⟨some 5,none,.mov (.t 0)⟩,⟨some 6,none,.mov (.t 1)⟩,⟨some 7,none,.call 258 [(.t 5),(.t 6)]⟩,⟨some 8,none,.bin .geq (.t 7) (.c (.d (.int .i64 0)))⟩,⟨some 4,none,.mov (.t 8)⟩]) .ret))
theorem b229 : Body Tryz.prog 229 9 c229 [.tmp 4] := Body.of Tryz.f229 Tryz.func229 (by decide +kernel) (by decide +kernel) Tryz.ntmps229 (by decide +kernel) (by decide +kernel)
theorem p229 (l : List Count) (g : FuncId) (caps : List AV) (p : Count → Bool) (hg : ∀ x, x ∈ l → PCall Tryz.prog g (ag (Count.c x) :: caps) (bo (p x))) : PCall Tryz.prog 229 [sl (l.map Count.c), .fn g caps] (bo (l.any p)) := by
 intro h
 refine ACall.of b229 (by simp) ?_
 unfold c229
 refine .seqk fun K1 hK1 => ?_
 refine .reg ?_
 simp
 refine hK1 _ ?_
 clear hK1 K1
 refine .seqk fun K2 hK2 => ?_
 refine .reg ?_
 refine Sq.cutk 3 fun K3 hK3 => ?_
 simp only [zt]
 simp
 refine PCall.sq (p258 l g caps p hg) fun h1 he1 => ?_
 simp only [mergeH_eq he1]
 clear he1 h1
 refine hK3 _ ?_
 clear hK3 K3
 simp
 refine hK2 _ ?_
 clear hK2 K2
 refine .keep [4] ?_
 simp only [keepE, E_cons, E_nil]
 refine .ret ?_
 refine ret_z (.inr rfl) rfl rfl ?_
 simp only [← idxF_ge _ l 0]
 rfl
end Go.Abs
set_option linter.unusedVariables false
set_option linter.unusedSimpArgs false
namespace Go.Abs
open Go Go.Proofs
def c117 : ACode := (.seq (.reg [zo 2 (.mov (.c (.d .nil)))]) (.seq (.seq (.reg [zm 3 0,zo 4 (.eqn false (.t 3) (.c (.d .nil)))]) (.cond (.t 4) (.seq (.reg [zo 2 (.mov (.c (.d .nil)))]) .ret) .skip)) (.seq (.reg [zo 5 (.lit 1 0 [(.d (.int .i64 0))] []),zm 6 0,zo 7 (.app 1 8 (.t 5) (.t 6)),zm 2 7]) .ret)))
theorem b117 : Body Tryz.prog 117 8 c117 [.tmp 2] := Body.of Tryz.f117 Tryz.func117 (by decide +kernel) (by decide +kernel) Tryz.ntmps117 (by decide +kernel) (by decide +kernel)
def c44 : ACode := (.seq (.reg [⟨some 2,none,.mov (.c (.d .nil))⟩]) (.seq (.seq (.reg [⟨some 3,none,.mov (.t 0)⟩,⟨some 4,none,.eqn false (.t 3) (.c (.d .nil))⟩]) (.cond (.t 4) (.seq (.reg [⟨some 2,none,.mov (.c (.d .nil))⟩]) .ret) .skip)) (.seq (.reg [⟨some 5,none,.lit 2 0 [(.d (.int .i64 0)),(.d (.int .i64 0))] []⟩,⟨some 6,none,.mov (.t 0)⟩,⟨some 7,none,.app 2 16 (.t 5) (.t 6)⟩,⟨some 2,none,.mov (.t 7)⟩]) .ret)))
theorem b44 : Body Tryz.prog 44 8 c44 [.tmp 2] := Body.of Tryz.f44 Tryz.func44 (by decide +kernel) (by decide +kernel) Tryz.ntmps44 (by decide +kernel) (by decide +kernel)
theorem p44 (l : List Oprn) (hm : l.length ≤ 1000000000) : PCall Tryz.prog 44 [sl (l.map Oprn.c)] (sl (l.map Oprn.c)) := by
 intro h
 refine ACall.of b44 (by simp) ?_
 unfold c44
 refine .seqk fun K1 hK1 => ?_
 refine .reg ?_
 simp
 refine hK1 _ ?_
 clear hK1 K1
 refine .seqk fun K2 hK2 => ?_
 refine .seqregx (α := Bool) (fun r => l ≠ [] → r = false) (fun r hh => hh) (fun r ee => [(0, ee 0), (4, bo r)]) ?_ (fun r hx => ?_)
 ·cases l <;> simp
 try simp only [E_cons, E_nil]
 refine .condk _ rfl (fun hc1 => ?_) (fun hc1 => ?_)
 ·have hl0 : l = [] := by cases l <;> simp_all
  subst hl0
  refine .seqk fun K3 hK3 => ?_
  refine .reg ?_
  simp
  refine hK3 _ ?_
  clear hK3 K3
  refine .ret ?_
  refine ret_y (.inr rfl) rfl (.d _ _ .nil) rfl ?_
  rfl
 ·try simp at hc1
  refine .skip ?_
  refine hK2 _ ?_
  clear hK2 K2
  refine .seqregx (α := Nat × Nat) (fun x => True) (fun x hh => upd hh 5 ⟨x.1, some ⟨2, dl (l.map Oprn.c)⟩⟩) (fun x ee => [(2, .sl 5 x.1 0 l.length x.2)]) ?_ (fun x hx => ?_)
  ·have h8 : l.length * 16 ≤ 17592186044416 := by omega
   have h9 : l.length ≤ 17592186044416 := by omega
   by_cases hl0 : l = []
   ·subst hl0
    simp
   ·simp [h8, h9, hl0]
  try simp only [E_cons, E_nil]
  refine .ret ?_
  refine ret_d (.inr rfl) rfl (T.row (xs := l.map Oprn.c) (k := 2) (by simp) (by simp) (by simp)) rfl ((OutEq.outer _).upd (by simp) _) ?_
  rfl
def c222 : ACode := (.seq (.reg [⟨some 2,none,.mov (.c (.d .nil))⟩]) (.seq (.seq (.reg [⟨some 3,none,.mov (.t 0)⟩,⟨some 4,none,.eqn false (.t 3) (.c (.d .nil))⟩]) (.cond (.t 4) (.seq (.reg [⟨some 2,none,.mov (.c (.d .nil))⟩]) .ret) .skip)) (.seq (.reg [⟨some 5,none,.lit 1 0 [(.d (.bool false))] []⟩,⟨some 6,none,.mov (.t 0)⟩,⟨some 7,none,.app 1 1 (.t 5) (.t 6)⟩,⟨some 2,none,.mov (.t 7)⟩]) .ret)))
theorem b222 : Body Tryz.prog 222 8 c222 [.tmp 2] := Body.of Tryz.f222 Tryz.func222 (by decide +kernel) (by decide +kernel) Tryz.ntmps222 (by decide +kernel) (by decide +kernel)
end Go.Abs
set_option linter.unusedVariables false
set_option linter.unusedSimpArgs false
namespace Go.Abs
open Go Go.Proofs
def inR (n m : Int) : Bool := decide (0 ≤ n) && decide (n ≤ m)
def fitsG (e : Edge) (n : Int) : Bool := inR e.ty 99 && inR e.src (n - 1) && inR e.tgt (n - 1)
def gErr (g : Graph) : Int := if (40 : Int) < g.nodes.length ∨ (80 : Int) < g.edges.length then 3 else if g.nodes.any (fun t => !inR t 99) then 6 else if g.edges.any (fun e => !fitsG e g.nodes.length) then 6 else 0
def c151 : ACode := (.seq (.reg [⟨some 4,none,.mov (.c (.d (.bool false)))⟩]) (.seq (.reg [⟨some 5,none,.mov (.t 0)⟩,⟨some 6,none,.bin .geq (.t 5) (.c (.d (.int .i64 0)))⟩,⟨some 7,none,.mov (.t 6)⟩,⟨some 8,some (7, true),.mov (.t 0)⟩,⟨some 9,some (7, true),.mov (.t 1)⟩,⟨some 10,some (7, true),.bin .leq (.t 8) (.t 9)⟩,⟨some 11,none,.pick (.t 7) (.t 10) (.c (.d (.bool false)))⟩,⟨some 4,none,.mov (.t 11)⟩]) .ret))
theorem b151 : Body Tryz.prog 151 12 c151 [.tmp 4] := Body.of Tryz.f151 Tryz.func151 (by decide +kernel) (by decide +kernel) Tryz.ntmps151 (by decide +kernel) (by decide +kernel)
theorem p151 (n m : Int) : PCall Tryz.prog 151 [int n, int m] (bo (inR n m)) := by
 intro h
 refine ACall.of b151 (by simp) ?_
 unfold c151
 refine .seqk fun K1 hK1 => ?_
 refine .reg ?_
 simp
 refine hK1 _ ?_
 clear hK1 K1
 refine .seqreg (fun hh => hh) (fun ee => [(4, bo (inR n m))]) ?_ ?_
 ·by_cases h0 : 0 ≤ n <;> by_cases h1 : n ≤ m <;> simp [h0, h1, inR]
 try simp only [E_cons, E_nil]
 refine .ret ?_
 refine ret_z (.inr rfl) rfl rfl ?_
 simp
def c150 : ACode := (.seq (.reg [⟨some 2,none,.mov (.c (.d (.bool false)))⟩]) (.seq (.reg [⟨some 3,none,.mov (.t 0)⟩,⟨some 4,none,.call 151 [(.t 3),(.c (.d (.int .i64 99)))]⟩,⟨some 5,none,.not (.t 4)⟩,⟨some 2,none,.mov (.t 5)⟩]) .ret))
theorem b150 : Body Tryz.prog 150 6 c150 [.tmp 2] := Body.of Tryz.f150 Tryz.func150 (by decide +kernel) (by decide +kernel) Tryz.ntmps150 (by decide +kernel) (by decide +kernel)
theorem p150 (n : Int) : PCall Tryz.prog 150 [int n] (bo (!inR n 99)) := by
 intro h
 refine ACall.of b150 (by simp) ?_
 unfold c150
 refine .seqk fun K1 hK1 => ?_
 refine .reg ?_
 simp
 refine hK1 _ ?_
 clear hK1 K1
 refine .seqk fun K2 hK2 => ?_
 refine .reg ?_
 refine Sq.cutk 2 fun K3 hK3 => ?_
 simp only [zt]
 simp
 refine PCall.sq (p151 n 99) fun h1 he1 => ?_
 simp only [mergeH_eq he1]
 clear he1 h1
 refine hK3 _ ?_
 clear hK3 K3
 simp
 refine hK2 _ ?_
 clear hK2 K2
 refine .keep [2] ?_
 simp only [keepE, E_cons, E_nil]
 refine .ret ?_
 refine ret_z (.inr rfl) rfl rfl ?_
 rfl
def c154 : ACode := (.seq (.reg [⟨some 2,none,.box 3 (.t 0)⟩,⟨some 4,none,.mov (.c (.d (.bool false)))⟩]) (.seq (.reg [⟨some 5,none,.addr 0 (.t 2)⟩,⟨some 6,none,.load none (.t 5)⟩,⟨some 7,none,.call 151 [(.t 6),(.c (.d (.int .i64 99)))]⟩,⟨some 8,none,.mov (.t 7)⟩,⟨some 9,some (8, true),.addr 1 (.t 2)⟩,⟨some 10,some (8, true),.load none (.t 9)⟩,⟨some 11,some (8, true),.mov (.t 1)⟩,⟨some 12,some (8, true),.bin .sub (.t 11) (.c (.d (.int .i64 1)))⟩,⟨some 13,some (8, true),.call 151 [(.t 10),(.t 12)]⟩,⟨some 14,none,.pick (.t 8) (.t 13) (.c (.d (.bool false)))⟩,⟨some 15,none,.mov (.t 14)⟩,⟨some 16,some (15, true),.addr 2 (.t 2)⟩,⟨some 17,some (15, true),.load none (.t 16)⟩,⟨some 18,some (15, true),.mov (.t 1)⟩,⟨some 19,some (15, true),.bin .sub (.t 18) (.c (.d (.int .i64 1)))⟩,⟨some 20,some (15, true),.call 151 [(.t 17),(.t 19)]⟩,⟨some 21,none,.pick (.t 15) (.t 20) (.c (.d (.bool false)))⟩,⟨some 4,none,.mov (.t 21)⟩]) .ret))
theorem b154 : Body Tryz.prog 154 22 c154 [.tmp 4] := Body.of Tryz.f154 Tryz.func154 (by decide +kernel) (by decide +kernel) Tryz.ntmps154 (by decide +kernel) (by decide +kernel)
theorem p154 (e : Edge) (n : Int) (h0 : 0 ≤ n) (h1 : n ≤ 1000000000000000) : PCall Tryz.prog 154 [ag (Edge.c e), int n] (bo (fitsG e n)) := by
 intro h
 refine ACall.of b154 (by simp) ?_
 unfold c154
 refine .seqk fun K1 hK1 => ?_
 refine .reg ?_
 simp
 refine hK1 _ ?_
 clear hK1 K1
 refine .seqreg (fun hh => hh) (fun ee => [(4, bo (fitsG e n))]) ?_ ?_
 ·have hw : IntKind.i64.wrap (n - 1) = n - 1 := wrap64 (by omega) (by omega)
  refine Sq.cutk 3 fun K1 hK1 => ?_
  simp
  refine PCall.sq (p151 e.ty 99) fun _ he => ?_
  simp only [mergeH_eq he]
  refine hK1 _ ?_
  by_cases h1 : inR e.ty 99 = true
  ·refine Sq.cutk 6 fun K2 hK2 => ?_
   simp [h1, hw]
   refine PCall.sq (p151 e.src (n-1)) fun _ he => ?_
   simp only [mergeH_eq he]
   refine hK2 _ ?_
   by_cases h2 : inR e.src (n-1) = true
   ·refine Sq.cutk 7 fun K3 hK3 => ?_
    simp [h1, h2, hw]
    refine PCall.sq (p151 e.tgt (n-1)) fun _ he => ?_
    simp only [mergeH_eq he]
    refine hK3 _ ?_
    simp [fitsG, h1, h2]
   ·simp at h2; simp [h1, h2, fitsG]
  ·simp at h1; simp [h1, fitsG]
 try simp only [E_cons, E_nil]
 refine .ret ?_
 refine ret_z (.inr rfl) rfl rfl ?_
 simp
def c153 : ACode := (.seq (.reg [⟨some 2,none,.box 3 (.t 0)⟩,⟨some 3,none,.mov (.c (.d (.bool false)))⟩]) (.seq (.reg [⟨some 4,none,.load (some 3) (.t 2)⟩,⟨some 5,none,.addr 0 (.t 1)⟩,⟨some 6,none,.load none (.t 5)⟩,⟨some 7,none,.len false (.t 6)⟩,⟨some 8,none,.call 154 [(.t 4),(.t 7)]⟩,⟨some 9,none,.not (.t 8)⟩,⟨some 3,none,.mov (.t 9)⟩]) .ret))
theorem b153 : Body Tryz.prog 153 10 c153 [.tmp 3] := Body.of Tryz.f153 Tryz.func153 (by decide +kernel) (by decide +kernel) Tryz.ntmps153 (by decide +kernel) (by decide +kernel)
theorem p153 (x : Edge) (g : Graph) (hm : g.nodes.length ≤ 1000000000000000) : PCall Tryz.prog 153 [ag (Edge.c x), .dptr (Graph.c g)] (bo (!fitsG x g.nodes.length)) := by
 intro h
 refine ACall.lens b153.noExt fun hl => ACall.of b153 (by simp) ?_
 have hla : g.nodes.length ≤ 1000000000000000 := hm
 clear hl
 unfold c153
 refine .seqk fun K1 hK1 => ?_
 refine .reg ?_
 simp
 refine hK1 _ ?_
 clear hK1 K1
 refine .seqk fun K2 hK2 => ?_
 refine .reg ?_
 refine Sq.cutk 5 fun K3 hK3 => ?_
 simp only [zt]
 simp
 refine PCall.sq (p154 x g.nodes.length (by omega) (by omega)) fun h1 he1 => ?_
 simp only [mergeH_eq he1]
 clear he1 h1
 refine hK3 _ ?_
 clear hK3 K3
 simp
 refine hK2 _ ?_
 clear hK2 K2
 refine .keep [3] ?_
 simp only [keepE, E_cons, E_nil]
 refine .ret ?_
 refine ret_z (.inr rfl) rfl rfl ?_
 rfl
def c96 : ACode := (.seq (.reg [⟨some 1,none,.box 2 (.t 0)⟩,⟨some 2,none,.mov (.c (.d (.int .i64 0)))⟩]) (.seq (.seq (.reg [⟨some 3,none,.addr 0 (.t 1)⟩,⟨some 4,none,.load none (.t 3)⟩,⟨some 5,none,.len false (.t 4)⟩,⟨some 6,none,.bin .gtr (.t 5) (.c (.d (.int .i64 40)))⟩,⟨some 7,none,.mov (.t 6)⟩,⟨some 8,some (7, false),.addr 1 (.t 1)⟩,⟨some 9,some (7, false),.load none (.t 8)⟩,⟨some 10,some (7, false),.len false (.t 9)⟩,⟨some 11,some (7, false),.bin .gtr (.t 10) (.c (.d (.int .i64 80)))⟩,⟨some 12,none,.pick (.t 7) (.c (.d (.bool true))) (.t 11)⟩]) (.cond (.t 12) (.seq (.reg [⟨some 2,none,.mov (.c (.d (.int .i64 3)))⟩]) .ret) .skip)) (.seq (.seq (.reg [⟨some 13,none,.addr 0 (.t 1)⟩,⟨some 14,none,.load none (.t 13)⟩,⟨some 15,none,.call 149 [(.t 14),(.c (.fn 150 []))]⟩]) (.cond (.t 15) (.seq (.reg [⟨some 2,none,.mov (.c (.d (.int .i64 6)))⟩]) .ret) .skip)) (.seq (.seq (.reg [⟨some 16,none,.addr 1 (.t 1)⟩,⟨some 17,none,.load none (.t 16)⟩,⟨some 18,none,.func 153 [(.t 1)]⟩,⟨some 19,none,.call 152 [(.t 17),(.t 18)]⟩]) (.cond (.t 19) (.seq (.reg [⟨some 2,none,.mov (.c (.d (.int .i64 6)))⟩]) .ret) .skip)) (.seq (.reg [⟨some 2,none,.mov (.c (.d (.int .i64 0)))⟩]) .ret)))))
theorem b96 : Body Tryz.prog 96 20 c96 [.tmp 2] := Body.of Tryz.f96 Tryz.func96 (by decide +kernel) (by decide +kernel) Tryz.ntmps96 (by decide +kernel) (by decide +kernel)
theorem p96 (g : Graph) : PCall Tryz.prog 96 [ag (Graph.c g)] (int (gErr g)) := by
 intro h
 refine ACall.of b96 (by simp) ?_
 unfold c96
 refine .seqk fun K1 hK1 => ?_
 refine .reg ?_
 simp
 refine hK1 _ ?_
 clear hK1 K1
 refine .keep [1, 8, 9, 10, 11] ?_
 simp only [keepE, E_cons, E_nil]
 refine .see (upd _ 1 ⟨_, none⟩) [(1, .dptr (Graph.c g))] ⟨T.box (k := 2) (cs := Graph.c g) (by simp) (by simp), trivial⟩ (Dies.kill _ _ _ _) ?_
 refine .seqk fun K2 hK2 => ?_
 refine .seqreg (fun hh => hh) (fun ee => [(1, ee 1), (12, bo (decide ((40 : Int) < g.nodes.length) || decide ((80 : Int) < g.edges.length)))]) ?_ ?_
 ·by_cases h0 : (40 : Int) < g.nodes.length <;> by_cases h1 : (80 : Int) < g.edges.length <;> simp [h0, h1, True]
 try simp only [E_cons, E_nil]
 refine .condk _ rfl (fun hc1 => ?_) (fun hc1 => ?_)
 ·try simp at hc1
  refine .seqk fun K3 hK3 => ?_
  refine .reg ?_
  simp
  refine hK3 _ ?_
  clear hK3 K3
  refine .ret ?_
  refine ret_z (.inr rfl) rfl rfl ?_
  simp [gErr, hc1]
 ·try simp at hc1
  refine .skip ?_
  refine hK2 _ ?_
  clear hK2 K2
  refine .seqk fun K4 hK4 => ?_
  refine .seqk fun K5 hK5 => ?_
  refine .reg ?_
  simp
  refine PCall.sq (p149 g.nodes 150 [] (fun t => !inR t 99) (fun x _ => p150 x)) fun h1 he1 => ?_
  simp only [mergeH_eq he1]
  clear he1 h1
  try simp
  refine hK5 _ ?_
  clear hK5 K5
  refine .keep [1, 15] ?_
  simp only [keepE, E_cons, E_nil]
  refine .condk _ rfl (fun hc2 => ?_) (fun hc2 => ?_)
  ·skip
   refine .seqk fun K6 hK6 => ?_
   refine .reg ?_
   simp
   refine hK6 _ ?_
   clear hK6 K6
   refine .ret ?_
   refine ret_z (.inr rfl) rfl rfl ?_
   simp [gErr, hc1, hc2]
  ·skip
   refine .skip ?_
   refine hK4 _ ?_
   clear hK4 K4
   refine .seqk fun K7 hK7 => ?_
   refine .seqk fun K8 hK8 => ?_
   refine .reg ?_
   simp
   refine PCall.sq (p152 g.edges 153 [.dptr (Graph.c g)] (fun e => !fitsG e g.nodes.length) (fun x _ => p153 x g (by omega))) fun h1 he1 => ?_
   simp only [mergeH_eq he1]
   clear he1 h1
   try simp
   refine hK8 _ ?_
   clear hK8 K8
   refine .keep [19] ?_
   simp only [keepE, E_cons, E_nil]
   refine .condk _ rfl (fun hc3 => ?_) (fun hc3 => ?_)
   ·skip
    refine .seqk fun K9 hK9 => ?_
    refine .reg ?_
    simp
    refine hK9 _ ?_
    clear hK9 K9
    refine .ret ?_
    refine ret_z (.inr rfl) rfl rfl ?_
    simp [gErr, hc1, hc2, hc3]
   ·skip
    refine .skip ?_
    refine hK7 _ ?_
    clear hK7 K7
    refine .seqk fun K10 hK10 => ?_
    refine .reg ?_
    simp
    refine hK10 _ ?_
    clear hK10 K10
    refine .ret ?_
    refine ret_z (.inr rfl) rfl rfl ?_
    simp [gErr, hc1, hc2, hc3]
end Go.Abs
