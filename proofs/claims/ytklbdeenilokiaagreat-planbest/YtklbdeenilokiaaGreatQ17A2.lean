/- Contracts of functions of the program, and what they lean on: a part of the proof that planBest_proved stands; no condition. -/
import Derived.Test.YtklbdeenilokiaaGreatQ17M17
/- The examples of the chapters: closed runs. -/
set_option linter.unusedVariables false
set_option linter.unusedSimpArgs false
set_option maxRecDepth 1000000
namespace Go.Abs
open Go Go.Proofs
def known1 (f : FuncId) (args : List AV) : Option AV := if f = 182 then (match args with
  | [a] => if a = exT then some (.tup [stri (bs []), int 0]) else none
  | _ => none) else known0 f args
theorem known1_ok (f : FuncId) (args : List AV) (r : AV) (h : known1 f args = some r) : PCall Tryz.prog f args r := by
 unfold known1 at h
 split at h
 ·rename_i hf
  subst hf
  split at h
  ·rename_i a
   split at h
   ·rename_i ha; cases h; subst ha; exact v182
   ·cases h
  ·cases h
 ·exact known0_ok f args r h
end Go.Abs
