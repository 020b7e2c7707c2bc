/- The examples of the chapters: closed runs. -/
import Derived.Test.YtklbdeenilokiaaGreatQ14M4
import Derived.Test.YtklbdeenilokiaaGreatQ14S1
import Derived.Test.YtklbdeenilokiaaGreatQ14M8
import Derived.Test.YtklbdeenilokiaaGreatQ14M9
import Derived.Test.YtklbdeenilokiaaGreatQ14B1
import Derived.Test.YtklbdeenilokiaaGreatQ14B2
import Derived.Test.YtklbdeenilokiaaGreatQ14B3
import Derived.Test.YtklbdeenilokiaaGreatQ14B4
import Derived.Test.YtklbdeenilokiaaGreatQ14B5
import Derived.Test.YtklbdeenilokiaaGreatQ14B6
set_option linter.unusedVariables false
set_option linter.unusedSimpArgs false
set_option maxRecDepth 1000000
namespace Go.Abs
open Go Go.Proofs
def tabL : List (Nat × Nat × ACode × List Res) := [(18, 85, c18, [.tmp 0]), (20, 31, c20, [.cell (some 5) 8, .tmp 9]), (23, 26, c23, [.tmp 4]), (25, 24, c25, [.cell (some 5) 6, .tmp 7, .tmp 8]), (61, 15, c61, [.cell (some 2) 0]), (62, 58, c62, [.tmp 8, .tmp 9]), (63, 19, c63, [.tmp 2]), (64, 10, c64, [.cell (some 2) 2]), (68, 32, c68, [.tmp 6]), (69, 8, c69, [.tmp 4]), (70, 32, c70, [.tmp 6]), (71, 9, c71, [.tmp 4]), (73, 116, c73, [.cell (some 5) 6, .tmp 7, .tmp 8]), (90, 48, c90, [.tmp 4]), (92, 14, c92, []), (94, 18, c94, [.tmp 2]), (95, 36, c95, [.tmp 4]), (96, 20, c96, [.tmp 2]), (109, 24, c109, [.tmp 2]), (110, 86, c110, [.tmp 8]), (116, 26, c116, [.tmp 8, .tmp 9]), (117, 8, c117, [.tmp 2]), (118, 8, c118, [.tmp 2]), (119, 17, c119, [.tmp 4]), (120, 92, c120, [.cell (some 2) 4]), (121, 47, c121, [.tmp 4, .tmp 5]), (122, 71, c122, [.tmp 10, .tmp 11]), (123, 13, c123, [.tmp 4]), (139, 44, c139, [.tmp 6]), (140, 29, c140, [.tmp 12]), (144, 9, c144, [.tmp 4]), (146, 148, c146, []), (148, 20, c148, [.tmp 4]), (149, 9, c149, [.tmp 4]), (150, 6, c150, [.tmp 2]), (151, 12, c151, [.tmp 4]), (152, 9, c152, [.tmp 4]), (153, 10, c153, [.tmp 3]), (154, 22, c154, [.tmp 4]), (165, 13, c165, [.tmp 3]), (166, 16, c166, [.tmp 3]), (171, 23, c171, [.tmp 10, .tmp 11]), (172, 33, c172, [.tmp 6]), (173, 11, c173, [.tmp 4]), (174, 33, c174, [.tmp 6]), (175, 25, c175, [.tmp 4]), (176, 14, c176, [.cell (some 2) 2]), (177, 64, c177, [.tmp 10, .tmp 11]), (178, 66, c178, [.tmp 4]), (179, 36, c179, [.tmp 2]), (182, 60, c182, [.tmp 2, .tmp 3]), (190, 17, c190, [.tmp 4]), (191, 42, c191, [.tmp 2]), (192, 208, c192, []), (195, 19, c195, [.tmp 4]), (196, 53, c196, []), (197, 60, c197, []), (198, 67, c198, []), (199, 63, c199, [.tmp 8, .tmp 9]), (200, 34, c200, []), (201, 141, c201, [.tmp 8]), (202, 90, c202, [.tmp 10]), (203, 178, c203, [.tmp 10, .tmp 11]), (206, 6, c206, [.tmp 2]), (207, 19, c207, [.tmp 4]), (208, 19, c208, [.tmp 4]), (223, 8, c223, [.tmp 4]), (224, 27, c224, [.tmp 4]), (225, 70, c225, [.tmp 4]), (226, 52, c226, [.tmp 4]), (227, 18, c227, [.tmp 4]), (228, 12, c228, [.tmp 6]), (232, 9, c232, [.tmp 3]), (233, 10, c233, [.tmp 3]), (234, 32, c234, [.tmp 4, .tmp 5]), (235, 11, c235, [.tmp 4]), (236, 49, c236, [.tmp 2]), (237, 59, c237, [.tmp 6]), (238, 82, c238, []), (239, 7, c239, [.tmp 2]), (240, 33, c240, [.tmp 2]), (241, 18, c241, [.tmp 8]), (242, 41, c242, [.tmp 12]), (246, 11, c246, [.tmp 3]), (248, 9, c248, [.tmp 4]), (249, 9, c249, [.tmp 3]), (250, 26, c250, [.tmp 4]), (251, 55, c251, [.tmp 4]), (252, 13, c252, [.tmp 3]), (253, 9, c253, [.tmp 4]), (254, 9, c254, [.tmp 3]), (255, 24, c255, [.tmp 4]), (256, 13, c256, [.tmp 3]), (257, 21, c257, [.tmp 4]), (259, 32, c259, [.tmp 10, .tmp 11]), (263, 19, c263, [.tmp 4]), (264, 9, c264, [.tmp 4]), (265, 9, c265, [.tmp 3]), (266, 26, c266, [.tmp 2]), (267, 19, c267, [.tmp 4]), (268, 28, c268, []), (275, 19, c275, [.tmp 4]), (276, 9, c276, [.tmp 4]), (284, 19, c284, [.tmp 4])]
theorem tabL_ok : AllB Tryz.prog tabL := ⟨b18, b20, b23, b25, b61, b62, b63, b64, b68, b69, b70, b71, b73, b90, b92, b94, b95, b96, b109, b110, b116, b117, b118, b119, b120, b121, b122, b123, b139, b140, b144, b146, b148, b149, b150, b151, b152, b153, b154, b165, b166, b171, b172, b173, b174, b175, b176, b177, b178, b179, b182, b190, b191, b192, b195, b196, b197, b198, b199, b200, b201, b202, b203, b206, b207, b208, b223, b224, b225, b226, b227, b228, b232, b233, b234, b235, b236, b237, b238, b239, b240, b241, b242, b246, b248, b249, b250, b251, b252, b253, b254, b255, b256, b257, b259, b263, b264, b265, b266, b267, b268, b275, b276, b284, trivial⟩

def known0 (f : FuncId) (args : List AV) : Option AV := match args with
  | [.d (.str s)] => if f = 247 then (if (strL s).length ≤ 140737488355328 then some (bo (wholeI s)) else none)
    else if f = 209 then (if (strL s).length ≤ 140737488355328 then some (bo (rightI s)) else none) else none
  | [.d (.int .u64 x)] => if f = 147 then (if 0 ≤ x ∧ x ≤ 18446744073709551615 then some (int (Lib.bitLen x.toNat)) else none) else none
  | [.d (.int .u64 x), .d (.int .u64 y)] => if f = 141 then (if 0 ≤ x ∧ x < 18446744073709551616 ∧ 0 ≤ y ∧ y < 18446744073709551616 then
      some (.tup [.d (.int .u64 ((x.toNat * y.toNat / 18446744073709551616 : Nat) : Int)), .d (.int .u64 ((x.toNat * y.toNat % 18446744073709551616 : Nat) : Int))]) else none) else none
  | _ => none
theorem known0_ok (f : FuncId) (args : List AV) (r : AV) (h : known0 f args = some r) : PCall Tryz.prog f args r := by
  unfold known0 at h
  split at h
  · rename_i s
    split at h
    · rename_i hf
      split at h
      · rename_i hs; cases h; subst hf; exact p247 s hs
      · cases h
    · split at h
      · rename_i hf
        split at h
        · rename_i hs; cases h; subst hf; exact p209 s hs
        · cases h
      · cases h
  · rename_i x
    split at h
    · rename_i hf
      split at h
      · rename_i hs; cases h; subst hf; exact p147 x hs.1 hs.2
      · cases h
    · cases h
  · rename_i x y
    split at h
    · rename_i hf
      split at h
      · rename_i hs
        cases h
        subst hf
        obtain ⟨h1, h2, h3, h4⟩ := hs
        obtain ⟨m, rfl⟩ : ∃ m : Nat, x = m := ⟨x.toNat, by omega⟩
        obtain ⟨n, rfl⟩ : ∃ n : Nat, y = n := ⟨y.toNat, by omega⟩
        simp only [Int.toNat_natCast]
        exact p141 m n (by omega) (by omega)
      · cases h
    · cases h
  · cases h

def T0 : Tab := ⟨look tabL, known0⟩
theorem T0_ok : T0.OK Tryz.prog := ⟨fun f N c rs h => look_ok tabL_ok f N c rs h, known0_ok⟩

def bs (l : List UInt8) : ByteArray := ⟨⟨l⟩⟩
def I (n : Int) : D := .int .i64 n
/-- The shared example of the document, as the program lays it. -/
def exT : AV := .agg [.d (.slice [[.str (bs [65, 99, 99, 111, 117, 110, 116]), I (-1), .bool true, .slice [[.str (bs [98, 97, 108, 97, 110, 99, 101]), I (-1000), I 1000, .nil]]],
    [.str (bs [67, 97, 115, 104]), I 0, .bool false, .nil],
    [.str (bs [76, 111, 97, 110]), I 0, .bool false, .slice [[.str (bs [115, 116, 97, 116, 101]), I 0, I 1, .slice [[.str (bs [111, 112, 101, 110])], [.str (bs [99, 108, 111, 115, 101, 100])]]]]],
    [.str (bs [80, 101, 114, 115, 111, 110]), I (-1), .bool false, .nil]]),
  .d (.slice [[.str (bs [111, 119, 110, 115]), I 3, I 0, I 0, I (-1), I 1, I 1], [.str (bs [112, 97, 121, 115]), I 1, I 1, I 0, I (-1), I 0, I (-1)]])]
theorem v182 : PCall Tryz.prog 182 [exT] (.tup [stri (bs []), int 0]) := .closed T0_ok mixed 3000 (by decide +kernel) rfl rfl
end Go.Abs
