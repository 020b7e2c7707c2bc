/- Contracts of functions of the program, and what they lean on: a part of the proof that planBest_proved stands; no condition. -/
import Derived.Test.YtklbdeenilokiaaGreatQ17A2
/- The examples of the chapters: closed runs. -/
set_option linter.unusedVariables false
set_option linter.unusedSimpArgs false
set_option maxRecDepth 1000000
namespace Go.Abs
open Go Go.Proofs
theorem v101 : PCall Tryz.prog 101 [exT] (.tup [stri (bs []), int 0]) := .closed T0_ok mixed 3000 (by decide +kernel) rfl rfl
def known2 (f : FuncId) (args : List AV) : Option AV := if f = 101 then (match args with
  | [a] => if a = exT then some (.tup [stri (bs []), int 0]) else none
  | _ => none) else known1 f args
theorem known2_ok (f : FuncId) (args : List AV) (r : AV) (h : known2 f args = some r) : PCall Tryz.prog f args r := by
 unfold known2 at h
 split at h
 ·rename_i hf
  subst hf
  split at h
  ·rename_i a
   split at h
   ·rename_i ha; cases h; subst ha; exact v101
   ·cases h
  ·cases h
 ·exact known1_ok f args r h
def T2 : Tab := ⟨look tabL, known2⟩
theorem T2_ok : T2.OK Tryz.prog := ⟨fun f N c rs h => look_ok tabL_ok f N c rs h, known2_ok⟩
/-- The chapter's example on plans. -/
theorem p34 : PCall Tryz.prog 34 [] (bo true) := .closed T2_ok mixed 3000 (by decide +kernel) rfl rfl
end Go.Abs
