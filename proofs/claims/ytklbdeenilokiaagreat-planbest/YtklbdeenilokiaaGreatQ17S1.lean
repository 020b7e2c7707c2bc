/- Contracts of functions of the program, and what they lean on: a part of the proof that planBest_proved stands; no condition. -/
import Derived.Shelf.Small.Bits
import Derived.Shelf.Small.Strs
import Derived.Shelf.Strconv.Itoa0
import Derived.Shelf.Strings.Search1
import Derived.Shelf.Bits.Mul64
import Derived.Test.YtklbdeenilokiaaGreatProg
import Derived.Test.YtklbdeenilokiaaGreatQ17T1
-- The layings and the contracts of this part are lines that the kit's shelf tools (lay-shelf.mjs, lay-plain.mjs) wrote for this program.
namespace Go.Proofs
open Go.Shelf
def Tryz.lays125_ren : Go.Shelf.Ren := ⟨fun | 125 => 147 | 128 => 204 | 129 => 205 | n => n, fun | 46 => 220 | 3 => 3 | 51 => 262 | 53 => 265 | 4 => 4 | 5 => 5 | 9 => 9 | n => n, fun | n => n⟩
theorem Tryz.lays125 : Go.Proofs.Lays.n125 Tryz.prog Tryz.lays125_ren := {
 mixed := by kernel_rfl
 f125 := Tryz.func147.trans (congrArg some (by kernel_rfl))
 f128 := Tryz.func204.trans (congrArg some (by kernel_rfl))
 f129 := Tryz.func205.trans (congrArg some (by kernel_rfl))
 t3 := Tryz.underlying3
 a3 := Tryz.isAgg3
 z3 := Tryz.sizeOf3
 v3 := Tryz.zeroValue3
 t4 := Tryz.underlying4
 a4 := Tryz.isAgg4
 z4 := Tryz.sizeOf4
 v4 := Tryz.zeroValue4
 t5 := Tryz.underlying5
 a5 := Tryz.isAgg5
 z5 := Tryz.sizeOf5
 v5 := Tryz.zeroValue5
 t9 := Tryz.underlying9
 a9 := Tryz.isAgg9
 z9 := Tryz.sizeOf9
 v9 := Tryz.zeroValue9
 t46 := Tryz.underlying220
 a46 := Tryz.isAgg220
 z46 := Tryz.sizeOf220
 v46 := Tryz.zeroValue220
 t51 := Tryz.underlying262
 a51 := Tryz.isAgg262
 z51 := Tryz.sizeOf262
 v51 := Tryz.zeroValue262
 t53 := Tryz.underlying265
 a53 := Tryz.isAgg265
 z53 := Tryz.sizeOf265
 v53 := Tryz.zeroValue265 }
/-- bits.Len: "Len returns the minimum number of bits required to represent x; the result is 0 for x == 0.": IT RETURNS 'Lib.bitLen x'; the world is as it was. (A uint has 64 bits in the model.) ITS CALLEE bits.Len64 IS MET BY ITS OWN CONTRACT OFF THE SHELF (lay that first). (LAID: no walk: one application.) -/
theorem Tryz.bits_Len (x : Int) (w : World) (h0 : 0 ≤ x) (h1 : x ≤ 18446744073709551615) :
  Calls Tryz.prog 147 #[.int .u64 x] w fun e w' => e = .returned (.int .i64 (Lib.bitLen x.toNat)) ∧ w' = w := Any.bits_Len Tryz.lays125 x w h0 h1
def Tryz.lays137_ren : Go.Shelf.Ren := ⟨fun | 137 => 283 | 217 => 286 | 266 => 287 | n => n, fun | 9 => 9 | 5 => 5 | 3 => 3 | n => n, fun | n => n⟩
theorem Tryz.lays137 : Go.Proofs.Lays.n137 Tryz.prog Tryz.lays137_ren := {
 mixed := by kernel_rfl
 f137 := Tryz.func283.trans (congrArg some (by kernel_rfl))
 f217 := Tryz.func286.trans (congrArg some (by kernel_rfl))
 f266 := Tryz.func287.trans (congrArg some (by kernel_rfl))
 t3 := Tryz.underlying3
 a3 := Tryz.isAgg3
 z3 := Tryz.sizeOf3
 v3 := Tryz.zeroValue3
 t5 := Tryz.underlying5
 a5 := Tryz.isAgg5
 z5 := Tryz.sizeOf5
 v5 := Tryz.zeroValue5
 t9 := Tryz.underlying9
 a9 := Tryz.isAgg9
 z9 := Tryz.sizeOf9
 v9 := Tryz.zeroValue9 }
open Go.RowKit in
/-- strings.IndexByte: "IndexByte returns the index of the first instance of c in s, or -1 if c is not present in s.": IT RETURNS 'Lib.indexByte s c'; the world is as it was. (LAID: no walk: one application.) -/
theorem Tryz.strings_IndexByte (s : ByteArray) (c : Int) (w : World) :
  Calls Tryz.prog 283 #[.string s, .int .u8 c] w fun e w' => e = .returned (.int .i64 (Lib.indexByte s.data.toList c.toNat.toUInt8)) ∧ w' = w := Any.strings_IndexByte Tryz.lays137 s c w
def Tryz.lays212_ren : Go.Shelf.Ren := ⟨fun | 212 => 141 | 263 => 193 | 264 => 194 | n => n, fun | 46 => 220 | 51 => 262 | 146 => 263 | 53 => 265 | 148 => 266 | n => n, fun | n => n⟩
theorem Tryz.lays212 : Go.Proofs.Lays.n212 Tryz.prog Tryz.lays212_ren := {
 mixed := by kernel_rfl
 f212 := Tryz.func141.trans (congrArg some (by kernel_rfl))
 f263 := Tryz.func193.trans (congrArg some (by kernel_rfl))
 f264 := Tryz.func194.trans (congrArg some (by kernel_rfl))
 t46 := Tryz.underlying220
 a46 := Tryz.isAgg220
 z46 := Tryz.sizeOf220
 v46 := Tryz.zeroValue220
 t51 := Tryz.underlying262
 a51 := Tryz.isAgg262
 z51 := Tryz.sizeOf262
 v51 := Tryz.zeroValue262
 t53 := Tryz.underlying265
 a53 := Tryz.isAgg265
 z53 := Tryz.sizeOf265
 v53 := Tryz.zeroValue265
 t146 := Tryz.underlying263
 a146 := Tryz.isAgg263
 z146 := Tryz.sizeOf263
 v146 := Tryz.zeroValue263
 t148 := Tryz.underlying266
 a148 := Tryz.isAgg266
 z148 := Tryz.sizeOf266
 v148 := Tryz.zeroValue266 }
open Go.RowKit Go.Lib in
/-- math/bits.Mul: "Mul returns the full-width product of x and y": on a machine of 64 bits: Mul64's. (LAID: no walk: one application.) -/
theorem Tryz.bits_Mul (x y : Nat) (hx : x < 18446744073709551616) (hy : y < 18446744073709551616) (w : World) :
  Calls Tryz.prog 141 #[.int .u64 x, .int .u64 y] w fun e w' => e = .returned (.tuple #[.int .u64 ((x * y / 18446744073709551616 : Nat) : Int), .int .u64 ((x * y % 18446744073709551616 : Nat) : Int)]) ∧ w' = w := Any.bits_Mul Tryz.lays212 x y hx hy w
end Go.Proofs
namespace Go.Abs
open Go Go.Proofs
/-- A contract of the library, as a call that computes. -/
theorem PCall.of_calls {P : Program} {f : FuncId} {args : List AV} {r : AV} {us : Array Value} {v : Value} (hn : noExt P f = true) (hr : outOnly r = true)
  (ha : ∀ (w : World) (F : Nat → Prop) (G : Pl) (vs : Array Value), vs.size = args.length → (∀ (j : Nat) c v, args[j]? = some c → vs[j]? = some v → VR w F G c v) → vs = us)
  (hv : ∀ (w : World) (F : Nat → Prop) (G : Pl), VR w F G r v) (hc : ∀ w, Calls P f us w fun e w' => e = .returned v ∧ w' = w) : PCall P f args r := by
 intro h
 refine ⟨hn, fun w X ι vs h1 h2 h3 h4 => ?_⟩
 rw [ha w _ _ vs h3 h4]
 refine (hc w).mono ?_
 rintro e w' ⟨rfl, rfl⟩
 exact ⟨r, v, h, ι, ⟨rfl, OutEq.refl h⟩, rfl, h1, h2, hr, hv _ _ _, Evo.refl _ _⟩
theorem args2 {w : World} {F : Nat → Prop} {G : Pl} {a b : AV} {x y : Value} {vs : Array Value} (hl : vs.size = [a, b].length) (hv : ∀ (j : Nat) c v, [a, b][j]? = some c → vs[j]? = some v → VR w F G c v)
  (ha : ∀ v, VR w F G a v → v = x) (hb : ∀ v, VR w F G b v → v = y) : vs = #[x, y] := by
 have hl : vs.size = 2 := hl
 have h0 := ha vs[0] (hv 0 a vs[0] rfl (by simp [hl]))
 have h1 := hb vs[1] (hv 1 b vs[1] rfl (by simp [hl]))
 apply Array.ext
 ·simp [hl]
 ·intro i hi hi2
  have : i = 0 ∨ i = 1 := by omega
  rcases this with rfl | rfl
  ·simpa using h0
  ·simpa using h1
theorem p283 (s : ByteArray) (c : Int) : PCall Tryz.prog 283 [stri s, .d (.int .u8 c)] (int (Lib.indexByte (strL s) c.toNat.toUInt8)) :=
 PCall.of_calls (by decide +kernel) rfl (fun w F G vs h1 h2 => args2 h1 h2 (fun v h => h.str_inv) (fun v h => h.int_inv)) (fun w F G => .d _ _ (.int _ _)) (fun w => Tryz.strings_IndexByte s c w)
theorem p141 (x y : Nat) (hx : x < 18446744073709551616) (hy : y < 18446744073709551616) : PCall Tryz.prog 141 [.d (.int .u64 x), .d (.int .u64 y)] (.tup [.d (.int .u64 ((x * y / 18446744073709551616 : Nat) : Int)), .d (.int .u64 ((x * y % 18446744073709551616 : Nat) : Int))]) :=
 PCall.of_calls (by decide +kernel) rfl (fun w F G vs h1 h2 => args2 h1 h2 (fun v h => h.int_inv) (fun v h => h.int_inv))
  (fun w F G => .tup _ _ rfl (fun j c v hc hv => by
   match j with
   | 0 => simp at hc hv; subst hc; subst hv; exact .d _ _ (.int _ _)
   | 1 => simp at hc hv; subst hc; subst hv; exact .d _ _ (.int _ _)
   | j + 2 => simp at hc)) (fun w => Tryz.bits_Mul x y hx hy w)
theorem args1 {w : World} {F : Nat → Prop} {G : Pl} {a : AV} {x : Value} {vs : Array Value} (hl : vs.size = [a].length) (hv : ∀ (j : Nat) c v, [a][j]? = some c → vs[j]? = some v → VR w F G c v)
  (ha : ∀ v, VR w F G a v → v = x) : vs = #[x] := by
 have hl : vs.size = 1 := hl
 have h0 := ha vs[0] (hv 0 a vs[0] rfl (by simp [hl]))
 apply Array.ext
 ·simp [hl]
 ·intro i hi hi2
  have : i = 0 := by omega
  subst this
  simpa using h0
theorem p147 (x : Int) (h0 : 0 ≤ x) (h1 : x ≤ 18446744073709551615) : PCall Tryz.prog 147 [.d (.int .u64 x)] (int (Lib.bitLen x.toNat)) :=
 PCall.of_calls (by decide +kernel) rfl (fun w F G vs h1 h2 => args1 h1 h2 (fun v h => h.int_inv)) (fun w F G => .d _ _ (.int _ _)) (fun w => Tryz.bits_Len x w h0 h1)
end Go.Abs
