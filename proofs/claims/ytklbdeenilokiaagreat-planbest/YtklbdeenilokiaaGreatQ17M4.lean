/- Contracts of functions of the program, and what they lean on: a part of the proof that planBest_proved stands; no condition. -/
import Derived.Test.YtklbdeenilokiaaGreatQ17M3
/- Blocks that are handed on: a block of one's own gets a number from 'lim' on; nil rows are seen as empty rows of such blocks. -/
set_option linter.unusedVariables false
set_option linter.unusedSimpArgs false
namespace Go.Abs
mutual
/-- The block b of version v, under the number B with version u. -/
def renA (b v B u : Nat) : AV → AV
 | .ptr c w i o => if c = b ∧ w = v then .ptr B u i o else .ptr c w i o
 | .sl c w i n m => if c = b ∧ w = v then .sl B u i n m else .sl c w i n m
 | .agg cs => .agg (renAs b v B u cs)
 | .fn f cs => .fn f (renAs b v B u cs)
 | .tup cs => .tup (renAs b v B u cs)
 | .d x => .d x
 | .dptr cs => .dptr cs
 | .empty => .empty
 | .undef => .undef
def renAs (b v B u : Nat) : List AV → List AV
 | [] => []
 | c :: cs => renA b v B u c :: renAs b v B u cs
end
theorem renAs_eq (b v B u : Nat) : ∀ cs : List AV, renAs b v B u cs = cs.map (renA b v B u)
 | [] => rfl
 | c :: cs => by simp [renAs, renAs_eq b v B u cs]
def renE (b v B u : Nat) : List (Nat × AV) → List (Nat × AV)
 | [] => []
 | (t, x) :: l => (t, renA b v B u x) :: renE b v B u l
theorem E_renE (b v B u : Nat) : ∀ (l : List (Nat × AV)) (t : Nat), E (renE b v B u l) t = renA b v B u (E l t)
 | [], t => by simp [renE, E, renA]
 | (s, x) :: l, t => by
  simp only [renE, E]
  split
  ·rfl
  ·exact E_renE b v B u l t
attribute [simp] renA renAs renE
section
variable {h h' : Heap} {src : Nat → Option Nat}
mutual
theorem T.ren {b v B u : Nat} (hl : (h b).live.isSome = true) (hv : (h b).ver = v) (hl' : (h' B).live.isSome = true) (hv' : (h' B).ver = u) (hs : src B = some b) : (x : AV) → T h h' src x (renA b v B u x)
 | AV.ptr c w i o => by
  simp only [renA]
  split
  ·rename_i e
   obtain ⟨rfl, rfl⟩ := e
   rw [← hv, ← hv']
   exact .renp _ _ _ _ hl hl' hs
  ·exact .refl _
 | AV.sl c w i n m => by
  simp only [renA]
  split
  ·rename_i e
   obtain ⟨rfl, rfl⟩ := e
   rw [← hv, ← hv']
   exact .rens _ _ _ _ _ hl hl' hs
  ·exact .refl _
 | AV.agg cs => by simp only [renA]; exact T.agg _ _ (by rw [renAs_eq]; simp) (T.rens' hl hv hl' hv' hs cs)
 | AV.fn f cs => by simp only [renA]; exact .fn _ _ _ (by rw [renAs_eq]; simp) (T.rens' hl hv hl' hv' hs cs)
 | AV.tup cs => by simp only [renA]; exact .tup _ _ (by rw [renAs_eq]; simp) (T.rens' hl hv hl' hv' hs cs)
 | AV.d x => T.refl _
 | AV.dptr cs => T.refl _
 | AV.empty => T.refl _
 | AV.undef => T.refl _
theorem T.rens' {b v B u : Nat} (hl : (h b).live.isSome = true) (hv : (h b).ver = v) (hl' : (h' B).live.isSome = true) (hv' : (h' B).ver = u) (hs : src B = some b) : (cs : List AV) → ∀ (j : Nat) c d, cs[j]? = some c → (renAs b v B u cs)[j]? = some d → T h h' src c d
 | [], j, c, z, h1, h2 => by simp at h1
 | x :: cs, 0, c, z, h1, h2 => by
  simp only [renAs, List.getElem?_cons_zero, Option.some.injEq] at h1 h2
  subst h1 h2
  exact T.ren hl hv hl' hv' hs x
 | x :: cs, j + 1, c, z, h1, h2 => by
  simp only [renAs, List.getElem?_cons_succ] at h1 h2
  exact T.rens' hl hv hl' hv' hs cs j c z h1 h2
end
end
/-- A block of one's own is handed on under the number B. -/
theorem Wk.renF {env : Env} {h : Heap} (b B u : Nat) {v : Nat} {blk : Blk} (hb : b < lim) (hB : lim ≤ B) (hl : h b = ⟨v, some blk⟩) (hd : (h B).live = none) (hu : (h B).ver < u) (ho : blk.elems.all outOnlys = true) :
  Wk ⟨env, h⟩ ⟨fun t => renA b v B u (env t), upd (upd h b ⟨v, none⟩) B ⟨u, some blk⟩⟩ := by
 have hne : b ≠ B := by omega
 have eB : upd (upd h b ⟨v, none⟩) B ⟨u, some blk⟩ B = ⟨u, some blk⟩ := upd_same _ _ _
 have eb : upd (upd h b ⟨v, none⟩) B ⟨u, some blk⟩ b = ⟨v, none⟩ := by rw [upd_ne _ _ _ _ hne, upd_same]
 have eo : ∀ c, c ≠ B → c ≠ b → upd (upd h b ⟨v, none⟩) B ⟨u, some blk⟩ c = h c := fun c h1 h2 => by rw [upd_ne _ _ _ _ h1, upd_ne _ _ _ _ h2]
 have hsrc : ∀ c, (upd (upd h b ⟨v, none⟩) B ⟨u, some blk⟩ c).live.isSome = true → c ≠ b := by
  intro c hc e
  subst e
  rw [eb] at hc
  cases hc
 refine .of (fun c => if c = B then some b else some c) ⟨fun c hc => ?_, fun c hc => ?_, fun c c' d h1 h2 h3 h4 => ?_, fun c x h1 h2 => ?_, fun c x d h1 h2 => ?_⟩ (fun t => ?_) ?_
 ·show (h c).ver ≤ (upd (upd h b ⟨v, none⟩) B ⟨u, some blk⟩ c).ver
  by_cases h1 : c = B
  ·subst h1; rw [eB]; exact Nat.le_of_lt hu
  ·by_cases h2 : c = b
   ·subst h2; rw [eb, hl]; exact Nat.le_refl _
   ·rw [eo c h1 h2]; exact Nat.le_refl _
 ·show _ ∧ (upd (upd h b ⟨v, none⟩) B ⟨u, some blk⟩ c).ver = (h c).ver ∨ (h c).ver < (upd (upd h b ⟨v, none⟩) B ⟨u, some blk⟩ c).ver
  by_cases h1 : c = B
  ·subst h1; right; rw [eB]; exact hu
  ·left
   exact ⟨by simp [h1], by rw [eo c h1 (hsrc c hc)]⟩
 ·have k1 := hsrc c h1
  have k2 := hsrc c' h2
  split at h3 <;> split at h4 <;> simp at h3 h4 <;> omega
 ·split at h2 <;> cases h2
 ·have h1' : (upd (upd h b ⟨v, none⟩) B ⟨u, some blk⟩ c).live = some x := h1
  by_cases hc : c = B
  ·simp only [hc, if_true, Option.some.injEq] at h2
   subst h2
   rw [hc, eB] at h1'
   simp only [Option.some.injEq] at h1'
   subst h1'
   exact ⟨blk, by show (h b).live = some blk; rw [hl], rfl, fun i y hy => ⟨y, hy, rfl, fun j a ha => ⟨a, ha, .refl a⟩⟩⟩
  ·simp only [hc, if_false, Option.some.injEq] at h2
   subst h2
   rw [eo c hc (hsrc c (by rw [h1']; rfl))] at h1'
   exact ⟨x, h1', rfl, fun i y hy => ⟨y, hy, rfl, fun j a ha => ⟨a, ha, .refl a⟩⟩⟩
 ·show T _ _ _ (env t) (renA b v B u (env t))
  exact T.ren (by show (h b).live.isSome = true; rw [hl]; rfl) (by show (h b).ver = v; rw [hl]) (by show (upd (upd h b ⟨v, none⟩) B ⟨u, some blk⟩ B).live.isSome = true; rw [eB]; rfl) (by show (upd (upd h b ⟨v, none⟩) B ⟨u, some blk⟩ B).ver = u; rw [eB]) (by simp) _
 ·intro hoo c x hc hx
  have hx' : (upd (upd h b ⟨v, none⟩) B ⟨u, some blk⟩ c).live = some x := hx
  by_cases h1 : c = B
  ·rw [h1, eB] at hx'
   simp only [Option.some.injEq] at hx'
   subst hx'
   intro y hy a ha
   exact outOnlys_mem (List.all_eq_true.1 ho y hy) a ha
  ·rw [eo c h1 (hsrc c (by rw [hx']; rfl))] at hx'
   exact hoo c x hc hx'
theorem Wk.ren {l : List (Nat × AV)} {h : Heap} (b B u : Nat) {v : Nat} {blk : Blk} (hb : b < lim) (hB : lim ≤ B) (hl : h b = ⟨v, some blk⟩) (hd : (h B).live = none) (hu : (h B).ver < u) (ho : blk.elems.all outOnlys = true) :
  Wk ⟨E l, h⟩ ⟨E (renE b v B u l), upd (upd h b ⟨v, none⟩) B ⟨u, some blk⟩⟩ := by
 have := Wk.renF (env := E l) b B u hb hB hl hd hu ho
 rwa [show (fun t => renA b v B u (E l t)) = E (renE b v B u l) from funext fun t => (E_renE b v B u l t).symm] at this
theorem AW.ren {P : Program} {N : Nat} {c : ACode} {Q : AX → St → Prop} {l : List (Nat × AV)} {h : Heap} (b B u : Nat) {v : Nat} {blk : Blk} (hb : b < lim) (hB : lim ≤ B) (hl : h b = ⟨v, some blk⟩) (hd : (h B).live = none) (hu : (h B).ver < u) (ho : blk.elems.all outOnlys = true)
  (hw : AW P N c Q ⟨E (renE b v B u l), upd (upd h b ⟨v, none⟩) B ⟨u, some blk⟩⟩) : AW P N c Q ⟨E l, h⟩ := .weak (Wk.ren b B u hb hB hl hd hu ho) hw
theorem SQ.ren {P : Program} {N : Nat} {gs : List GOp} {K : St → Prop} {l : List (Nat × AV)} {h : Heap} (b B u : Nat) {v : Nat} {blk : Blk} (hb : b < lim) (hB : lim ≤ B) (hl : h b = ⟨v, some blk⟩) (hd : (h B).live = none) (hu : (h B).ver < u) (ho : blk.elems.all outOnlys = true)
  (hw : SQ P N gs ⟨E (renE b v B u l), upd (upd h b ⟨v, none⟩) B ⟨u, some blk⟩⟩ K) : SQ P N gs ⟨E l, h⟩ K := .weak (Wk.ren b B u hb hB hl hd hu ho) hw
end Go.Abs
/- Closed runs: the operations, each by itself (so that the kernel unfolds little). -/
set_option linter.unusedVariables false
set_option linter.unusedSimpArgs false
namespace Go.Abs
def newE (dst : Nat) (h : Heap) (blk : Blk) (v : Nat → AV) : Option Eff := some ⟨v ((h dst).ver + 1), some (dst, ⟨(h dst).ver + 1, some blk⟩), [dst]⟩
def x_mov (x : AArg) (dst : Nat) (env : Env) (h : Heap) : Option Eff := some ⟨x.ev env, none, []⟩
def x_pick (c : AArg) (a : AArg) (b : AArg) (dst : Nat) (env : Env) (h : Heap) : Option Eff := match c.ev env with
  | .d (.bool t) => some ⟨if t then a.ev env else b.ev env, none, []⟩
  | _ => none
def x_alloc (zs : List AV) (dst : Nat) (env : Env) (h : Heap) : Option Eff := newE dst h ⟨zs.length, [zs]⟩ fun v => .ptr dst v 0 0
def x_box (k : Nat) (x : AArg) (dst : Nat) (env : Env) (h : Heap) : Option Eff := if (cellsOf (x.ev env)).length = k ∧ (cellsOf (x.ev env)).all isCell then newE dst h ⟨k, [cellsOf (x.ev env)]⟩ fun v => .ptr dst v 0 0 else none
def x_build (zs : List AV) (parts : List (Nat × Nat × AArg)) (dst : Nat) (env : Env) (h : Heap) : Option Eff := (fillA zs (parts.map fun p => (p.1, p.2.1, p.2.2.ev env))).bind fun cs => some ⟨.agg cs, none, []⟩
def x_lit (k : Nat) (len : Nat) (zs : List AV) (parts : List (Nat × AArg)) (dst : Nat) (env : Env) (h : Heap) : Option Eff :=
  if parts.length = len ∧ (parts.map (·.1)) = List.range len ∧ parts.all (fun p => (cellsOf (p.2.ev env)).length = k ∧ (cellsOf (p.2.ev env)).all isCell) then
   newE dst h ⟨k, parts.map fun p => cellsOf (p.2.ev env)⟩ fun v => .sl dst v 0 len len
  else none
def x_load (ag : Option Nat) (a : AArg) (dst : Nat) (env : Env) (h : Heap) : Option Eff := match a.ev env with
  | .ptr b ver i o => (getBlk h b ver).bind fun blk => (blk.elems[i]?).bind fun x => match ag with
   | none => (x[o]?).bind fun v => some ⟨v, none, [b]⟩
   | some n => if o + n ≤ x.length then some ⟨.agg ((x.drop o).take n), none, [b]⟩ else none
  | .dptr cs => match ag with
   | none => (cs[0]?).bind fun v => some ⟨.d v, none, []⟩
   | some n => if n ≤ cs.length then some ⟨.agg ((cs.take n).map .d), none, []⟩ else none
  | _ => none
def x_store (k : Nat) (a : AArg) (x : AArg) (dst : Nat) (env : Env) (h : Heap) : Option Eff := match a.ev env with
  | .ptr b ver i o => (getBlk h b ver).bind fun blk => (blk.elems[i]?).bind fun y =>
   if (cellsOf (x.ev env)).length = k ∧ (cellsOf (x.ev env)).all isCell ∧ o + k ≤ y.length then
    some ⟨.undef, some (b, ⟨ver, some ⟨blk.k, blk.elems.set i (spl y o (cellsOf (x.ev env)))⟩⟩), [b]⟩
   else none
  | _ => none
def x_chk (x : AArg) (dst : Nat) (env : Env) (h : Heap) : Option Eff := match x.ev env with
  | .ptr b ver i o => if (getBlk h b ver).isSome then some ⟨.ptr b ver i o, none, [b]⟩ else none
  | .dptr cs => some ⟨.dptr cs, none, []⟩
  | .fn f caps => some ⟨.fn f caps, none, []⟩
  | _ => none
def x_bin (op : BinOp) (x : AArg) (y : AArg) (dst : Nat) (env : Env) (h : Heap) : Option Eff := (bin op (x.ev env) (y.ev env)).bind fun d => some ⟨.d d, none, []⟩
def x_eqb (neg : Bool) (x : AArg) (y : AArg) (dst : Nat) (env : Env) (h : Heap) : Option Eff := match x.ev env, y.ev env with
  | .d (.bool a), .d (.bool b) => some ⟨.d (.bool (if neg then !(a == b) else a == b)), none, []⟩
  | _, _ => none
def x_eqn (neg : Bool) (x : AArg) (y : AArg) (dst : Nat) (env : Env) (h : Heap) : Option Eff := match y.ev env with
  | .d .nil => match x.ev env with
   | .sl b ver _ n _ => (getBlk h b ver).bind fun _ => if 0 < n then some ⟨.d (.bool neg), none, [b]⟩ else none
   | v => (isNilSl v).bind fun r => some ⟨.d (.bool (if neg then !r else r)), none, []⟩
  | _ => none
def x_eqs (neg : Bool) (ks : List Nat) (x : AArg) (y : AArg) (dst : Nat) (env : Env) (h : Heap) : Option Eff := match x.ev env, y.ev env with
  | .agg a, .agg b => (eqCells ks a b).bind fun r => some ⟨.d (.bool (if neg then !r else r)), none, []⟩
  | _, _ => none
def x_not (x : AArg) (dst : Nat) (env : Env) (h : Heap) : Option Eff := match x.ev env with
  | .d (.bool b) => some ⟨.d (.bool !b), none, []⟩
  | _ => none
def x_conv (k : IntKind) (x : AArg) (dst : Nat) (env : Env) (h : Heap) : Option Eff := match x.ev env with
  | .d (.int _ n) => some ⟨.d (.int k (k.wrap n)), none, []⟩
  | _ => none
def x_func (f : FuncId) (caps : List AArg) (dst : Nat) (env : Env) (h : Heap) : Option Eff := some ⟨.fn f (caps.map (·.ev env)), none, []⟩
def x_make (k : Nat) (bytes : Nat) (zs : List AV) (l : AArg) (c : AArg) (dst : Nat) (env : Env) (h : Heap) : Option Eff := match intOfA (l.ev env), intOfA (c.ev env) with
  | some l, some c => if 0 ≤ l ∧ l ≤ c ∧ c * bytes ≤ 140737488355328 ∧ c ≤ 140737488355328 ∧ zs.length = k then
    newE dst h ⟨k, List.replicate c.toNat zs⟩ fun v => .sl dst v 0 l.toNat c.toNat else none
  | _, _ => none
def x_addr (o : Nat) (x : AArg) (dst : Nat) (env : Env) (h : Heap) : Option Eff := match x.ev env with
  | .ptr b ver i o' => if (getBlk h b ver).isSome then some ⟨.ptr b ver i (o' + o), none, [b]⟩ else none
  | .dptr cs => if o ≤ cs.length then some ⟨.dptr (cs.drop o), none, []⟩ else none
  | _ => none
def x_idx (k : Nat) (x : AArg) (i : AArg) (dst : Nat) (env : Env) (h : Heap) : Option Eff := match x.ev env, intOfA (i.ev env) with
  | .d (.slice xs), some i => if 0 ≤ i then (xs[i.toNat]?).bind fun cs => if cs.length = k then some ⟨.dptr cs, none, []⟩ else none else none
  | .sl b ver j n _, some i => (getBlk h b ver).bind fun blk => if 0 ≤ i ∧ i < n ∧ blk.k = k then some ⟨.ptr b ver (j + i.toNat) 0, none, [b]⟩ else none
  | _, _ => none
def x_sidx (x : AArg) (i : AArg) (dst : Nat) (env : Env) (h : Heap) : Option Eff := match x.ev env, intOfA (i.ev env) with
  | .d (.str s), some i => if 0 ≤ i then (s[i.toNat]?).bind fun c => some ⟨.d (.int .u8 c.toNat), none, []⟩ else none
  | _, _ => none
def x_ext (x : AArg) (i : Nat) (dst : Nat) (env : Env) (h : Heap) : Option Eff := match x.ev env with
  | .tup vs => (vs[i]?).bind fun v => some ⟨v, none, []⟩
  | _ => none
def x_len (st : Bool) (x : AArg) (dst : Nat) (env : Env) (h : Heap) : Option Eff := match x.ev env with
  | .d (.str s) => if st then some ⟨.d (.int .i64 s.size), none, []⟩ else none
  | v => if st then none else match v with
  | .d .nil => some ⟨.d (.int .i64 0), none, []⟩
  | .d (.slice xs) => some ⟨.d (.int .i64 xs.length), none, []⟩
  | .empty => some ⟨.d (.int .i64 0), none, []⟩
  | .sl b ver _ n _ => if (getBlk h b ver).isSome then some ⟨.d (.int .i64 n), none, [b]⟩ else none
  | _ => none
def x_mm (mx : Bool) (xs : List AArg) (dst : Nat) (env : Env) (h : Heap) : Option Eff := (mmA mx (xs.map (·.ev env))).bind fun d => some ⟨.d d, none, []⟩
def x_app (k : Nat) (bytes : Nat) (s : AArg) (x : AArg) (dst : Nat) (env : Env) (h : Heap) : Option Eff := (elemsOf h (x.ev env)).bind fun src => if allLen src k = false then none else match s.ev env with
  | .d .nil => if src.length * bytes ≤ 17592186044416 ∧ src.length ≤ 17592186044416 then
    some ⟨.sl dst ((h dst).ver + 1) 0 src.length src.length, some (dst, ⟨(h dst).ver + 1, some ⟨k, src⟩⟩), dst :: srcOf (x.ev env)⟩ else none
  | .empty => if src.length * bytes ≤ 17592186044416 ∧ src.length ≤ 17592186044416 then
    some ⟨.sl dst ((h dst).ver + 1) 0 src.length src.length, some (dst, ⟨(h dst).ver + 1, some ⟨k, src⟩⟩), dst :: srcOf (x.ev env)⟩ else none
  | .sl b ver 0 n cap => (getBlk h b ver).bind fun blk =>
    if (n + src.length) * bytes ≤ 17592186044416 ∧ n + src.length ≤ 17592186044416 ∧ n ≤ blk.elems.length ∧ blk.k = k then
     if n + src.length ≤ cap ∧ n + src.length ≤ blk.elems.length then
      some ⟨.sl b ver 0 (n + src.length) cap, some (b, ⟨ver, some ⟨k, blk.elems.take n ++ src ++ blk.elems.drop (n + src.length)⟩⟩), b :: srcOf (x.ev env)⟩
     else some ⟨.sl b (ver + 1) 0 (n + src.length) (n + src.length), some (b, ⟨ver + 1, some ⟨k, blk.elems.take n ++ src⟩⟩), b :: srcOf (x.ev env)⟩
    else none
  | _ => none
def x_copy (k : Nat) (d : AArg) (s : AArg) (dst : Nat) (env : Env) (h : Heap) : Option Eff := (elemsOf h (s.ev env)).bind fun src => match d.ev env with
  | .sl b ver i n cap => (getBlk h b ver).bind fun blk =>
    if allLen src k = true ∧ blk.k = k ∧ i + n ≤ blk.elems.length then
     some ⟨.d (.int .i64 ((min src.length n : Nat) : Int)), some (b, ⟨ver, some ⟨blk.k, blk.elems.take i ++ src.take (min src.length n) ++ blk.elems.drop (i + min src.length n)⟩⟩), b :: srcOf (s.ev env)⟩
    else none
  | _ => none
def x_clear (k : Nat) (zs : List AV) (s : AArg) (dst : Nat) (env : Env) (h : Heap) : Option Eff := match s.ev env with
  | .sl b ver i n cap => (getBlk h b ver).bind fun blk =>
    if i + n ≤ blk.elems.length ∧ blk.k = k ∧ zs.length = k then
     some ⟨.undef, some (b, ⟨ver, some ⟨k, blk.elems.take i ++ List.replicate n zs ++ blk.elems.drop (i + n)⟩⟩), [b]⟩
    else none
  | _ => none
def x_capn (x : AArg) (dst : Nat) (env : Env) (h : Heap) : Option Eff := match x.ev env with
  | .d .nil => some ⟨.d (.int .i64 0), none, []⟩
  | _ => none
def x_appz (k : Nat) (bytes : Nat) (zs : List AV) (s : AArg) (n : AArg) (dst : Nat) (env : Env) (h : Heap) : Option Eff := match s.ev env, intOfA (n.ev env) with
  | .d .nil, some m => if 0 < m ∧ m * bytes ≤ 17592186044416 ∧ m ≤ 17592186044416 ∧ zs.length = k then newE dst h ⟨k, List.replicate m.toNat zs⟩ fun v => .sl dst v 0 m.toNat m.toNat else none
  | _, _ => none
def x_slice (q : Nat) (x : AArg) (lo hi mx : Option AArg) (dst : Nat) (env : Env) (h : Heap) : Option Eff := match q with
 | 0 => match x.ev env with
  | .d (.str s) => if mx.isSome then none else (boundOf env s.size s.size hi).bind fun hi => (boundOf env 0 hi lo).bind fun lo => some ⟨.d (.str (s.extract lo hi)), none, []⟩
  | _ => none
 | k + 1 => match x.ev env, mx with
  | .d (.slice xs), none => (boundOf env xs.length xs.length hi).bind fun hi => (boundOf env 0 hi lo).bind fun lo =>
    if xs.all (·.length = k + 1) then some ⟨.d (.slice ((xs.take hi).drop lo)), none, []⟩ else none
  | .d (.slice xs), some m => (boundOf env 0 0 (some m)).bind fun _ => (boundOf env 0 0 hi).bind fun hi => (boundOf env 0 hi lo).bind fun _ => some ⟨.empty, none, []⟩
  | .d .nil, none => (boundOf env 0 0 hi).bind fun hi => (boundOf env 0 hi lo).bind fun _ => some ⟨.d .nil, none, []⟩
  | .d .nil, some m => (boundOf env 0 0 (some m)).bind fun _ => (boundOf env 0 0 hi).bind fun hi => (boundOf env 0 hi lo).bind fun _ => some ⟨.empty, none, []⟩
  | .sl b ver i n cap, none => (getBlk h b ver).bind fun blk => if blk.k = k + 1 then
    (boundOf env n (max n cap) hi).bind fun hi => (boundOf env 0 hi lo).bind fun lo => some ⟨.sl b ver (i + lo) (hi - lo) (max hi cap - lo), none, [b]⟩ else none
  | .sl b ver i n cap, some m => (getBlk h b ver).bind fun blk => if blk.k = k + 1 then
    (boundOf env 0 (max n cap) (some m)).bind fun m => (boundOf env n m hi).bind fun hi => (boundOf env 0 hi lo).bind fun lo =>
     some ⟨if m = 0 then .empty else .sl b ver (i + lo) (hi - lo) (m - lo), none, [b]⟩ else none
  | _, _ => none
/-- An operation, taken apart once. -/
structure OpC where
 isCall : Bool
 lit : Bool
 keep : Bool
 run : Nat → Env → Heap → Option Eff
 callee : Env → Option (FuncId × List AV)
def prep (op : AOp) : OpC := match op with
 | .mov x => ⟨false, false, false, fun dst env h => x_mov x dst env h, fun _ => none⟩
 | .pick c a b => ⟨false, false, false, fun dst env h => x_pick c a b dst env h, fun _ => none⟩
 | .alloc zs => ⟨false, false, true, fun dst env h => x_alloc zs dst env h, fun _ => none⟩
 | .box k x => ⟨false, false, false, fun dst env h => x_box k x dst env h, fun _ => none⟩
 | .build zs parts => ⟨false, false, false, fun dst env h => x_build zs parts dst env h, fun _ => none⟩
 | .lit k len zs parts => ⟨false, true, true, fun dst env h => x_lit k len zs parts dst env h, fun _ => none⟩
 | .load ag a => ⟨false, false, false, fun dst env h => x_load ag a dst env h, fun _ => none⟩
 | .store k a x => ⟨false, false, false, fun dst env h => x_store k a x dst env h, fun _ => none⟩
 | .chk x => ⟨false, false, false, fun dst env h => x_chk x dst env h, fun _ => none⟩
 | .bin op x y => ⟨false, false, false, fun dst env h => x_bin op x y dst env h, fun _ => none⟩
 | .eqb neg x y => ⟨false, false, false, fun dst env h => x_eqb neg x y dst env h, fun _ => none⟩
 | .eqn neg x y => ⟨false, false, false, fun dst env h => x_eqn neg x y dst env h, fun _ => none⟩
 | .eqs neg ks x y => ⟨false, false, false, fun dst env h => x_eqs neg ks x y dst env h, fun _ => none⟩
 | .not x => ⟨false, false, false, fun dst env h => x_not x dst env h, fun _ => none⟩
 | .conv k x => ⟨false, false, false, fun dst env h => x_conv k x dst env h, fun _ => none⟩
 | .func f caps => ⟨false, false, false, fun dst env h => x_func f caps dst env h, fun _ => none⟩
 | .make k bytes zs l c => ⟨false, false, false, fun dst env h => x_make k bytes zs l c dst env h, fun _ => none⟩
 | .addr o x => ⟨false, false, false, fun dst env h => x_addr o x dst env h, fun _ => none⟩
 | .idx k x i => ⟨false, false, false, fun dst env h => x_idx k x i dst env h, fun _ => none⟩
 | .sidx x i => ⟨false, false, false, fun dst env h => x_sidx x i dst env h, fun _ => none⟩
 | .ext x i => ⟨false, false, false, fun dst env h => x_ext x i dst env h, fun _ => none⟩
 | .len st x => ⟨false, false, false, fun dst env h => x_len st x dst env h, fun _ => none⟩
 | .mm mx xs => ⟨false, false, false, fun dst env h => x_mm mx xs dst env h, fun _ => none⟩
 | .app k bytes s x => ⟨false, false, false, fun dst env h => x_app k bytes s x dst env h, fun _ => none⟩
 | .copy k d s => ⟨false, false, false, fun dst env h => x_copy k d s dst env h, fun _ => none⟩
 | .clear k zs s => ⟨false, false, false, fun dst env h => x_clear k zs s dst env h, fun _ => none⟩
 | .capn x => ⟨false, false, false, fun dst env h => x_capn x dst env h, fun _ => none⟩
 | .appz k bytes zs s n => ⟨false, false, false, fun dst env h => x_appz k bytes zs s n dst env h, fun _ => none⟩
 | .slice k x lo hi mx => ⟨false, false, false, fun dst env h => x_slice k x lo hi mx dst env h, fun _ => none⟩
 | .call f xs => ⟨true, false, false, fun _ _ _ => none, fun env => some (f, xs.map (·.ev env))⟩
 | .callv fv xs => ⟨true, false, false, fun _ _ _ => none, fun env => match fv.ev env with
  | .fn f caps => some (f, xs.map (·.ev env) ++ caps)
  | _ => none⟩
 | .bad => ⟨false, false, false, fun _ _ _ => none, fun _ => none⟩
theorem prep_run (op : AOp) (dst : Nat) (env : Env) (h : Heap) : (prep op).run dst env h = exec op dst env h := by
 cases op
 case slice k x lo hi mx => cases k <;> rfl
 all_goals rfl
theorem prep_call (op : AOp) : (prep op).isCall = isCallA op := by cases op <;> rfl
theorem prep_callee (op : AOp) (env : Env) : (prep op).callee env = calleeOf op env := by cases op <;> rfl
end Go.Abs
/- Closed runs: an interpreter of the abstract machine, for calls whose arguments are given. -/
set_option linter.unusedVariables false
set_option linter.unusedSimpArgs false
namespace Go.Abs
inductive Tr (α : Type) where
 | leaf
 | node (v : Option α) (l r : Tr α)
def Tr.get {α : Type} : Tr α → Nat → Option α
 | .leaf, _ => none
 | .node v l r, i => bif Nat.beq i 0 then v else bif Nat.beq (i % 2) 1 then l.get (i / 2) else r.get (i / 2 - 1)
def Tr.set {α : Type} : Nat → Tr α → Nat → α → Option (Tr α)
 | 0, _, _, _ => none
 | n + 1, .leaf, i, x => bif Nat.beq i 0 then some (.node (some x) .leaf .leaf) else bif Nat.beq (i % 2) 1 then (match Tr.set n .leaf (i / 2) x with | some l => some (.node none l .leaf) | none => none)
   else match Tr.set n .leaf (i / 2 - 1) x with | some r => some (.node none .leaf r) | none => none
 | n + 1, .node v l r, i, x => bif Nat.beq i 0 then some (.node (some x) l r) else bif Nat.beq (i % 2) 1 then (match Tr.set n l (i / 2) x with | some l' => some (.node v l' r) | none => none)
   else match Tr.set n r (i / 2 - 1) x with | some r' => some (.node v l r') | none => none
def Tr.map {α : Type} (f : α → α) : Tr α → Tr α
 | .leaf => .leaf
 | .node v l r => .node (match v with | some x => some (f x) | none => none) (l.map f) (r.map f)
theorem Tr.get_map {α : Type} (f : α → α) : ∀ (t : Tr α) (i : Nat), (t.map f).get i = (t.get i).map f
 | .leaf, _ => rfl
 | .node v l r, i => by
  simp only [Tr.map, Tr.get]
  cases Nat.beq i 0 with
  | true => cases v <;> rfl
  | false =>
   cases Nat.beq (i % 2) 1 with
   | true => exact Tr.get_map f l _
   | false => exact Tr.get_map f r _
theorem half_eq {i j : Nat} (h : i % 2 = j % 2) (h2 : i / 2 = j / 2) : i = j := by omega
theorem beqT {a b : Nat} : Nat.beq a b = true ↔ a = b := ⟨Nat.eq_of_beq_eq_true, fun h => by subst h; exact Nat.beq_refl a⟩
theorem beqF {a b : Nat} : Nat.beq a b = false ↔ a ≠ b := by
 constructor
 ·intro h e; rw [beqT.2 e] at h; cases h
 ·intro h
  cases hb : Nat.beq a b with
  | true => exact absurd (beqT.1 hb) h
  | false => rfl
theorem Tr.get_set {α : Type} : ∀ (n : Nat) (t t' : Tr α) (i : Nat) (x : α), Tr.set n t i x = some t' → ∀ j, t'.get j = if j = i then some x else t.get j
 | 0, t, t', i, x, h => by simp [Tr.set] at h
 | n + 1, .leaf, t', i, x, h => by
  intro j
  simp only [Tr.set] at h
  cases h0 : Nat.beq i 0 with
  | true =>
   rw [h0] at h
   simp only [cond_true, Option.some.injEq] at h
   subst h
   have := beqT.1 h0
   subst this
   simp only [Tr.get]
   cases hj : Nat.beq j 0 with
   | true => simp [beqT.1 hj]
   | false => rw [if_neg (beqF.1 hj)]; cases Nat.beq (j % 2) 1 <;> rfl
  | false =>
   rw [h0] at h
   simp only [cond_false] at h
   have hi0 := beqF.1 h0
   cases h1 : Nat.beq (i % 2) 1 with
   | true =>
    rw [h1] at h
    simp only [cond_true] at h
    split at h
    ·rename_i l hl
     cases h
     have ih := Tr.get_set n .leaf l (i / 2) x hl
     have hi1 := beqT.1 h1
     simp only [Tr.get]
     cases hj : Nat.beq j 0 with
     | true => rw [if_neg (fun e => hi0 (by rw [← e]; exact beqT.1 hj))]; rfl
     | false =>
      simp only [cond_false]
      cases hj1 : Nat.beq (j % 2) 1 with
      | true =>
       simp only [cond_true, ih]
       have := beqT.1 hj1
       by_cases e : j = i
       ·subst e; simp
       ·rw [if_neg e, if_neg (fun e2 => e (half_eq (by omega) e2))]; rfl
      | false =>
       simp only [cond_false]
       have := beqF.1 hj1
       rw [if_neg (by intro e; subst e; omega)]
    ·cases h
   | false =>
    rw [h1] at h
    simp only [cond_false] at h
    split at h
    ·rename_i r hl
     cases h
     have ih := Tr.get_set n .leaf r (i / 2 - 1) x hl
     have hi1 := beqF.1 h1
     simp only [Tr.get]
     cases hj : Nat.beq j 0 with
     | true => rw [if_neg (fun e => hi0 (by rw [← e]; exact beqT.1 hj))]; rfl
     | false =>
      have hj0 := beqF.1 hj
      simp only [cond_false]
      cases hj1 : Nat.beq (j % 2) 1 with
      | true =>
       simp only [cond_true]
       have := beqT.1 hj1
       rw [if_neg (by intro e; subst e; omega)]
      | false =>
       simp only [cond_false, ih]
       have := beqF.1 hj1
       by_cases e : j = i
       ·subst e; simp
       ·rw [if_neg e, if_neg (fun e2 => e (half_eq (by omega) (by omega)))]; rfl
    ·cases h
 | n + 1, .node v l r, t', i, x, h => by
  intro j
  simp only [Tr.set] at h
  cases h0 : Nat.beq i 0 with
  | true =>
   rw [h0] at h
   simp only [cond_true, Option.some.injEq] at h
   subst h
   have := beqT.1 h0
   subst this
   simp only [Tr.get]
   cases hj : Nat.beq j 0 with
   | true => simp [beqT.1 hj]
   | false => rw [if_neg (beqF.1 hj)]; rfl
  | false =>
   rw [h0] at h
   simp only [cond_false] at h
   have hi0 := beqF.1 h0
   cases h1 : Nat.beq (i % 2) 1 with
   | true =>
    rw [h1] at h
    simp only [cond_true] at h
    split at h
    ·rename_i l' hl
     cases h
     have ih := Tr.get_set n l l' (i / 2) x hl
     have hi1 := beqT.1 h1
     simp only [Tr.get]
     cases hj : Nat.beq j 0 with
     | true => rw [if_neg (fun e => hi0 (by rw [← e]; exact beqT.1 hj))]; rfl
     | false =>
      simp only [cond_false]
      cases hj1 : Nat.beq (j % 2) 1 with
      | true =>
       simp only [cond_true, ih]
       have := beqT.1 hj1
       by_cases e : j = i
       ·subst e; simp
       ·rw [if_neg e, if_neg (fun e2 => e (half_eq (by omega) e2))]
      | false =>
       simp only [cond_false]
       have := beqF.1 hj1
       rw [if_neg (by intro e; subst e; omega)]
    ·cases h
   | false =>
    rw [h1] at h
    simp only [cond_false] at h
    split at h
    ·rename_i r' hl
     cases h
     have ih := Tr.get_set n r r' (i / 2 - 1) x hl
     have hi1 := beqF.1 h1
     simp only [Tr.get]
     cases hj : Nat.beq j 0 with
     | true => rw [if_neg (fun e => hi0 (by rw [← e]; exact beqT.1 hj))]; rfl
     | false =>
      have hj0 := beqF.1 hj
      simp only [cond_false]
      cases hj1 : Nat.beq (j % 2) 1 with
      | true =>
       simp only [cond_true]
       have := beqT.1 hj1
       rw [if_neg (by intro e; subst e; omega)]
      | false =>
       simp only [cond_false, ih]
       have := beqF.1 hj1
       by_cases e : j = i
       ·subst e; simp
       ·rw [if_neg e, if_neg (fun e2 => e (half_eq (by omega) (by omega)))]
    ·cases h
/-- env: the temporaries; k: the version of the dead blocks of one's own; n: the next name; own: blocks of one's own (within a drawn region); hp: what is handed on; lg: which of these were written. -/
structure CS where
 env : Tr AV
 k : Nat
 n : Nat
 own : List (Nat × HB)
 hp : Tr HB
 lg : List Nat
def EF (t : Tr AV) : Env := fun i => match t.get i with | some x => x | none => .undef
def lookL : List (Nat × HB) → Nat → Option HB
 | [], _ => none
 | (c, x) :: l, b => bif Nat.beq c b then some x else lookL l b
def hpF (k : Nat) (own : List (Nat × HB)) (hp : Tr HB) : Heap := fun b => if b < lim then (match lookL own b with | some x => x | none => ⟨k, none⟩) else match hp.get (b - lim) with
 | some x => x
 | none => ⟨0, none⟩
def CS.st (c : CS) : St := ⟨EF c.env, hpF c.k c.own c.hp⟩
def setO (t : Tr AV) : Option Nat → AV → Option (Tr AV)
 | some i, v => t.set 16 i v
 | none, _ => some t
abbrev CallT := FuncId → List AV → Nat → Nat → Tr HB → Option (AV × Nat × Tr HB × List Nat)
def dataCells : List AV → Option (List D)
 | [] => some []
 | .d x :: l => match dataCells l with | some y => some (x :: y) | none => none
 | _ => none
def dataRows : List (List AV) → Option (List (List D))
 | [] => some []
 | r :: l => match dataCells r, dataRows l with | some x, some y => some (x :: y) | _, _ => none
def litXs (lit : Bool) (w : Option (Nat × HB)) : Option (List (List D)) := match lit with
 | true => (match w with
  | some (_, ⟨_, some ⟨_, y :: ys⟩⟩) => dataRows (y :: ys)
  | _ => none)
 | false => none
/-- How a new block is seen. -/
def chooseAlt (dr : Bool) (o : GOp) (n : Nat) (e : Eff) : Alt := match litXs (prep o.op).lit e.w with
 | some xs => .frozen xs
 | none => bif dr && (prep o.op).keep then .plain else match e.w with
  | some (b, _) => if b < lim ∧ b = o.dst.getD 0 then .named (lim + n) 1 else .plain
  | none => .plain
def setOwn : List (Nat × HB) → Nat → HB → List (Nat × HB)
 | [], b, x => [(b, x)]
 | (c, y) :: l, b, x => bif Nat.beq c b then (b, x) :: l else (c, y) :: setOwn l b x
/-- Writes, carried out. -/
def putW : List (Nat × HB) → List (Nat × HB) → Tr HB → List Nat → Option (List (Nat × HB) × Tr HB × List Nat)
 | [], own, hp, lg => some (own, hp, lg)
 | (b, x) :: ws, own, hp, lg => if b < lim then putW ws (setOwn own b x) hp lg else match hp.set 32 (b - lim) x with
  | some hp => putW ws own hp ((b - lim) :: lg)
  | none => none
/-- An effect outside of drawn regions: nothing of one's own stays. -/
def put1 (c : CS) (o : GOp) (e : Eff) : Option CS := match e.w with
 | none => match setO c.env o.dst e.v with
  | some env => some ⟨env, c.k, c.n, [], c.hp, c.lg⟩
  | none => none
 | some _ => match altOf (chooseAlt false o c.n e) o.dst (hpF c.k [] c.hp) e with
  | none => none
  | some (v, ws, rd) => if outWs ws = true then match setO c.env o.dst v, putW ws [] c.hp c.lg with
    | some env, some (own, hp, lg) => if own.all (fun p => p.2.live.isNone && Nat.ble p.2.ver (c.k + 4)) then some ⟨env, c.k + 4, c.n + 1, [], hp, lg⟩ else none
    | _, _ => none
   else none
def runOp (call : CallT) (o : GOp) (c : CS) : Option CS := match guardVal o (EF c.env) with
 | none => none
 | some false => match setO c.env o.dst (.tup []) with
  | some env => some ⟨env, c.k, c.n, [], c.hp, c.lg⟩
  | none => none
 | some true => match (prep o.op).isCall with
  | true => match (prep o.op).callee (EF c.env) with
   | none => none
   | some (f, args) => match call f args c.k c.n c.hp with
    | none => none
    | some (r, n, hp, lg) => match setO c.env o.dst r with
     | some env => some ⟨env, c.k, n, [], hp, lg ++ c.lg⟩
     | none => none
  | false => match (prep o.op).run (o.dst.getD 0) (EF c.env) (hpF c.k [] c.hp) with
   | none => none
   | some e => put1 c o e
def runOps (call : CallT) : List GOp → CS → Option CS
 | [], c => some c
 | o :: ops, c => match runOp call o c with
  | none => none
  | some c' => runOps call ops c'
def wsOf (lg : List Nat) (hp : Tr HB) : List (Nat × HB) := lg.map fun i => (lim + i, match hp.get i with | some x => x | none => ⟨0, none⟩)
def runDr (call : CallT) : List GOp → CS → Option (CS × List Fp)
 | [], c => some (c, [])
 | o :: ops, c => match guardVal o (EF c.env) with
  | none => none
  | some false => match setO c.env o.dst (.tup []) with
   | none => none
   | some env => match runDr call ops ⟨env, c.k, c.n, c.own, c.hp, c.lg⟩ with
    | none => none
    | some (c', fs) => some (c', ⟨[], [], false⟩ :: fs)
  | some true => match (prep o.op).isCall with
   | true => match (prep o.op).callee (EF c.env) with
    | none => none
    | some (f, args) => if outOnlys args = true then match call f args c.k c.n c.hp with
      | none => none
      | some (r, n, hp, lg) => match setO c.env o.dst r with
       | none => none
       | some env => match runDr call ops ⟨env, c.k, n, c.own, hp, lg ++ c.lg⟩ with
        | none => none
        | some (c', fs) => some (c', ⟨(wsOf lg hp).map (·.1), (wsOf lg hp).map (·.1), true⟩ :: fs)
     else none
   | false => match (prep o.op).run (o.dst.getD 0) (EF c.env) (hpF c.k c.own c.hp) with
    | none => none
    | some e => match altOf (chooseAlt true o c.n e) o.dst (hpF c.k c.own c.hp) e with
     | none => none
     | some (v, ws, rd) => if outWs ws = true then match setO c.env o.dst v, putW ws c.own c.hp c.lg with
       | some env, some (own, hp, lg) => match runDr call ops ⟨env, c.k, c.n + 1, own, hp, lg⟩ with
        | none => none
        | some (c', fs) => some (c', ⟨rd, ws.map (·.1), false⟩ :: fs)
       | _, _ => none
      else none
/-- Behind a drawn region: its blocks get lasting names. -/
def clean : List (Nat × HB) → CS → Option CS
 | [], c => if c.own.all (fun p => p.2.live.isNone && Nat.ble p.2.ver (c.k + 4)) then some ⟨c.env, c.k + 4, c.n, [], c.hp, c.lg⟩ else none
 | (b, ⟨v, none⟩) :: l, c => clean l c
 | (b, ⟨v, some blk⟩) :: l, c => match lookL c.own b, c.hp.get c.n with
  | some ⟨v', some blk'⟩, none => if b < lim ∧ blk'.elems.all outOnlys = true then match c.hp.set 32 c.n ⟨1, some blk'⟩ with
    | some hp => clean l ⟨c.env.map (renA b v' (lim + c.n) 1), c.k, c.n + 1, setOwn c.own b ⟨v', none⟩, hp, c.n :: c.lg⟩
    | none => none
   else none
  | _, _ => clean l c
structure Tab where
 body : FuncId → Option (Nat × ACode × List Res)
 known : FuncId → List AV → Option AV
def parT : List AV → Nat → Tr AV → Option (Tr AV)
 | [], _, t => some t
 | a :: als, i, t => match t.set 16 i a with
  | some t => parT als (i + 1) t
  | none => none
def callF (T : Tab) (rec : ACode → CS → Option (AX × CS)) : CallT := fun f args k n hp => match T.known f args with
 | some r => some (r, n, hp, [])
 | none => match T.body f with
  | none => none
  | some (N, c, rs) => if args.length ≤ N then match parT args 0 .leaf with
    | none => none
    | some env => match rec c ⟨env, k, n, [], hp, []⟩ with
     | none => none
     | some (x, s) => match x with
      | .exit _ => none
      | _ => match resA s.st rs with
       | none => none
       | some r => if outOnly r = true then some (r, s.n, s.hp, s.lg) else none
   else none
def runC (T : Tab) : Nat → ACode → CS → Option (AX × CS)
 | 0, _, _ => none
 | n + 1, c, s => match c with
  | .skip => some (.normal, s)
  | .reg ops => match runOps (callF T (runC T n)) ops s with
   | none => none
   | some s' => some (.normal, s')
  | .dreg ops un => match runDr (callF T (runC T n)) ops s with
   | none => none
   | some (s', fs) => if conf un fs = true then match clean s'.own s' with
     | none => none
     | some s' => some (.normal, s')
    else none
  | .seq a b => match runC T n a s with
   | none => none
   | some (x, s') => match x with
    | .normal => runC T n b s'
    | x => some (x, s')
  | .cond x a b => match x.ev (EF s.env) with
   | .d (.bool t) => (match t with
    | true => runC T n a s
    | false => runC T n b s)
   | _ => none
  | .block id c => match runC T n c s with
   | none => none
   | some (x, s') => match x with
    | .exit i => if i = id then some (.normal, s') else some (.exit i, s')
    | x => some (x, s')
  | .loop c => match runC T n c s with
   | none => none
   | some (x, s') => match x with
    | .normal => runC T n (.loop c) s'
    | x => some (x, s')
  | .exit id => some (.exit id, s)
  | .ret => some (.ret, s)
  | .bad => none
end Go.Abs
/- Closed runs, second part: soundness; a closed run is a call that only computes. -/
set_option linter.unusedVariables false
set_option linter.unusedSimpArgs false
namespace Go.Abs
theorem EF_leaf : EF .leaf = fun _ => .undef := rfl
theorem EF_set {t t' : Tr AV} {n i : Nat} {v : AV} (h : t.set n i v = some t') : EF t' = upd (EF t) i v := by
 funext j
 simp only [EF, Tr.get_set n t t' i v h j, upd]
 by_cases e : j = i <;> simp [e]
theorem EF_setO {t t' : Tr AV} {d : Option Nat} {v : AV} (h : setO t d v = some t') : EF t' = updo (EF t) d v := by
 cases d with
 | none => simp only [setO, Option.some.injEq] at h; subst h; rfl
 | some i => exact EF_set h
theorem EF_map (f : AV → AV) (hf : f .undef = .undef) (t : Tr AV) : EF (t.map f) = fun i => f (EF t i) := by
 funext i
 simp only [EF, Tr.get_map]
 cases t.get i <;> simp [hf]
theorem lookL_setOwn : ∀ (own : List (Nat × HB)) (b : Nat) (x : HB) (c : Nat), lookL (setOwn own b x) c = if c = b then some x else lookL own c
 | [], b, x, c => by
  simp only [setOwn, lookL]
  cases h : Nat.beq b c with
  | true => rw [if_pos (beqT.1 h).symm]; rfl
  | false => rw [if_neg (fun e => beqF.1 h e.symm)]; rfl
 | (d, y) :: l, b, x, c => by
  simp only [setOwn]
  cases h : Nat.beq d b with
  | true =>
   have e := beqT.1 h
   subst e
   simp only [cond_true, lookL]
   cases h2 : Nat.beq d c with
   | true => rw [if_pos (beqT.1 h2).symm]; rfl
   | false => rw [if_neg (fun e => beqF.1 h2 e.symm)]; rfl
  | false =>
   simp only [cond_false, lookL, lookL_setOwn l b x c]
   cases h2 : Nat.beq d c with
   | true =>
    have e := beqT.1 h2
    subst e
    simp only [cond_true]
    rw [if_neg (beqF.1 h)]
   | false => rfl
theorem hpF_lo {k : Nat} {own : List (Nat × HB)} {hp : Tr HB} {b : Nat} (h : b < lim) : hpF k own hp b = match lookL own b with | some x => x | none => ⟨k, none⟩ := by
 unfold hpF
 rw [if_pos h]
 try (cases lookL own b <;> rfl)
theorem hpF_hi {k k' : Nat} {own own' : List (Nat × HB)} {hp : Tr HB} {b : Nat} (h : lim ≤ b) : hpF k own hp b = hpF k' own' hp b := by simp only [hpF, Nat.not_lt.2 h, if_false]
theorem hpF_outer (k : Nat) (hp : Tr HB) : outer (hpF k [] hp) = hpF k [] hp := by
 funext b
 simp only [outer]
 split
 ·rename_i h; rw [hpF_lo h]; rfl
 ·rfl
theorem hpF_merge {k : Nat} {hp hp' : Tr HB} {h' : Heap} (h : OutEq h' (hpF 0 [] hp')) : mergeH (hpF k [] hp) h' = hpF k [] hp' := by
 funext b
 simp only [mergeH]
 split
 ·rename_i hb; rw [hpF_lo hb, hpF_lo hb]
 ·rename_i hb; rw [h b (by omega)]; exact hpF_hi (by omega)
theorem hpF_own {k : Nat} {own : List (Nat × HB)} {hp : Tr HB} {b : Nat} {x : HB} (h : b < lim) : upd (hpF k own hp) b x = hpF k (setOwn own b x) hp := by
 funext c
 simp only [upd]
 by_cases hc : c = b
 ·subst hc
  rw [if_pos rfl, hpF_lo h, lookL_setOwn, if_pos rfl]
 ·rw [if_neg hc]
  by_cases hl : c < lim
  ·rw [hpF_lo hl, hpF_lo hl, lookL_setOwn, if_neg hc]
  ·exact hpF_hi (by omega)
theorem hpF_set {k m : Nat} {own : List (Nat × HB)} {hp hp' : Tr HB} {b : Nat} {x : HB} (h1 : lim ≤ b) (h : hp.set m (b - lim) x = some hp') : upd (hpF k own hp) b x = hpF k own hp' := by
 funext c
 simp only [upd]
 by_cases hc : c = b
 ·subst hc
  simp only [if_true, hpF, Nat.not_lt.2 h1, if_false, Tr.get_set m hp hp' _ _ h]
 ·rw [if_neg hc]
  by_cases hl : c < lim
  ·rw [hpF_lo hl, hpF_lo hl]
  ·simp only [hpF, hl, if_false, Tr.get_set m hp hp' _ _ h]
   rw [if_neg (by omega)]
/-- What is not listed is as it was. -/
def Keeps (lg : List Nat) (hp0 hp : Tr HB) : Prop := ∀ i, i ∉ lg → hp.get i = hp0.get i
theorem Keeps.refl (lg : List Nat) (hp : Tr HB) : Keeps lg hp hp := fun i _ => rfl
theorem Keeps.set {lg : List Nat} {hp0 hp hp' : Tr HB} {m i : Nat} {x : HB} (hk : Keeps lg hp0 hp) (h : hp.set m i x = some hp') : Keeps (i :: lg) hp0 hp' := fun j hj => by
 simp only [List.mem_cons, not_or] at hj
 rw [Tr.get_set m hp hp' i x h j, if_neg hj.1]
 exact hk j hj.2
theorem Keeps.append {lg lg' : List Nat} {hp0 hp hp' : Tr HB} (hk : Keeps lg hp0 hp) (hk' : Keeps lg' hp hp') : Keeps (lg' ++ lg) hp0 hp' := fun i hi => by
 simp only [List.mem_append, not_or] at hi
 rw [hk' i hi.1, hk i hi.2]
theorem putW_ok {k : Nat} : ∀ (ws own : List (Nat × HB)) (hp : Tr HB) (lg : List Nat) {own' : List (Nat × HB)} {hp' : Tr HB} {lg' : List Nat}, putW ws own hp lg = some (own', hp', lg') →
  hpF k own' hp' = appws ws (hpF k own hp) ∧ ∀ hp0, Keeps lg hp0 hp → Keeps lg' hp0 hp'
 | [], own, hp, lg, own', hp', lg', h => by
  simp only [putW, Option.some.injEq, Prod.mk.injEq] at h
  obtain ⟨rfl, rfl, rfl⟩ := h
  exact ⟨rfl, fun _ hk => hk⟩
 | (b, x) :: ws, own, hp, lg, own', hp', lg', h => by
  simp only [putW] at h
  split at h
  ·rename_i hb
   obtain ⟨h1, h2⟩ := putW_ok (k := k) ws _ _ _ h
   refine ⟨?_, h2⟩
   rw [h1, appws, hpF_own hb]
  ·rename_i hb
   split at h
   ·rename_i hp1 hs
    obtain ⟨h1, h2⟩ := putW_ok (k := k) ws _ _ _ h
    refine ⟨?_, fun hp0 hk => h2 hp0 (hk.set hs)⟩
    rw [h1, appws, hpF_set (by omega) hs]
   ·cases h
theorem Wk.raise {env : Env} {k k' : Nat} {own : List (Nat × HB)} {hp : Tr HB} (hk : k ≤ k') (ho : ∀ b x, lookL own b = some x → x.live = none ∧ x.ver ≤ k') : Wk ⟨env, hpF k own hp⟩ ⟨env, hpF k' [] hp⟩ := by
 have hd : Dies (hpF k own hp) (hpF k' [] hp) := by
  intro b
  by_cases hb : b < lim
  ·right
   rw [hpF_lo hb, hpF_lo hb]
   refine ⟨rfl, ?_⟩
   cases hl : lookL own b with
   | none => exact hk
   | some x => exact (ho b x hl).2
  ·left; exact hpF_hi (by omega)
 exact .of some (HT.dies hd) (fun t => .refl _) hd.out
theorem all_own {own : List (Nat × HB)} {m : Nat} (h : own.all (fun p => p.2.live.isNone && Nat.ble p.2.ver m) = true) : ∀ b x, lookL own b = some x → x.live = none ∧ x.ver ≤ m := by
 induction own with
 | nil => intro b x hx; cases hx
 | cons p l ih =>
  obtain ⟨c, y⟩ := p
  simp only [List.all_cons, Bool.and_eq_true] at h
  intro b x hx
  simp only [lookL] at hx
  cases hb : Nat.beq c b with
  | true =>
   rw [hb] at hx
   simp only [cond_true, Option.some.injEq] at hx
   subst hx
   exact ⟨Option.isNone_iff_eq_none.1 h.1.1, Nat.le_of_ble_eq_true h.1.2⟩
  | false =>
   rw [hb] at hx
   exact ih h.2 b x hx
theorem outWs_in : ∀ (ws : List (Nat × HB)) (h : Heap) (c : Nat), outWs ws = true → c ∈ ws.map (·.1) → lim ≤ c → blkOut (appws ws h c) = true
 | [], h, c, _, hc, _ => by simp at hc
 | (b, x) :: ws, h, c, ho, hc, hl => by
  simp only [outWs, List.all_cons, Bool.and_eq_true] at ho
  simp only [appws]
  by_cases hm : c ∈ ws.map (·.1)
  ·exact outWs_in ws _ c ho.2 hm hl
  ·rw [appws_ne ws _ c hm]
   simp only [List.map_cons, List.mem_cons] at hc
   have e := hc.resolve_right hm
   subst e
   rw [upd_same]
   have := ho.1
   simp only [Bool.or_eq_true, decide_eq_true_eq] at this
   exact this.resolve_left (by omega)
theorem altOf_w {alt : Alt} {dst : Option Nat} {h : Heap} {e : Eff} {v : AV} {ws : List (Nat × HB)} {rd : List Nat} (halt : altOf alt dst h e = some (v, ws, rd)) :
  (∀ b x, e.w = some (b, x) → b ∈ ws.map (·.1)) ∧ (outWs ws = true → outW e.w = true) := by
 cases alt with
 | plain =>
  simp only [altOf, Option.some.injEq, Prod.mk.injEq] at halt
  obtain ⟨_, rfl, _⟩ := halt
  cases hw : e.w with
  | none =>
   refine ⟨fun b x hx => ?_, fun _ => rfl⟩
   cases hx
  | some p =>
   obtain ⟨c, y⟩ := p
   refine ⟨fun b x hx => ?_, fun ho => ?_⟩
   ·simp only [Option.some.injEq, Prod.mk.injEq] at hx
    simp [hx.1]
   ·simpa [outWs, outW] using ho
 | named B u =>
  unfold altOf at halt
  simp only at halt
  split at halt
  ·rename_i d b v' blk hx
   split at halt
   ·rename_i hc
    simp only [Option.map_eq_some_iff] at halt
    obtain ⟨x, _, halt⟩ := halt
    simp only [Prod.mk.injEq] at halt
    obtain ⟨_, rfl, _⟩ := halt
    rw [hx]
    refine ⟨fun b' x' hx' => ?_, fun _ => ?_⟩
    ·simp only [Option.some.injEq, Prod.mk.injEq] at hx'
     simp [hx'.1]
    ·simp only [outW, hc.2.1, decide_true, Bool.true_or]
   ·cases halt
  ·cases halt
 | frozen xs =>
  unfold altOf at halt
  simp only at halt
  split at halt
  ·rename_i d b v' blk b' v'' n cap hx hv
   split at halt
   ·rename_i hc
    simp only [Option.some.injEq, Prod.mk.injEq] at halt
    obtain ⟨_, rfl, _⟩ := halt
    rw [hx]
    refine ⟨fun b' x' hx' => ?_, fun _ => ?_⟩
    ·simp only [Option.some.injEq, Prod.mk.injEq] at hx'
     simp [hx'.1]
    ·simp only [outW, hc.2.1, decide_true, Bool.true_or]
   ·cases halt
  ·cases halt
section
variable {P : Program} {N : Nat}
def CallOK (P : Program) (call : CallT) : Prop := ∀ f args k n hp r n' hp' lg, call f args k n hp = some (r, n', hp', lg) → Keeps lg hp hp' ∧ ACall P f args (hpF k [] hp) fun r' h' => r' = r ∧ OutEq h' (hpF 0 [] hp')
theorem put1_ok {c c' : CS} {o : GOp} {e : Eff} (hown : c.own = []) (h : put1 c o e = some c') :
  c'.own = [] ∧ (∀ hp0, Keeps c.lg hp0 c.hp → Keeps c'.lg hp0 c'.hp) ∧ outW e.w = true ∧ Wk ⟨updo (EF c.env) o.dst e.v, appw e.w (hpF c.k [] c.hp)⟩ c'.st := by
 unfold put1 at h
 split at h
 ·rename_i hw
  split at h
  ·rename_i env henv
   simp only [Option.some.injEq] at h
   subst h
   refine ⟨rfl, fun _ hk => hk, by rw [hw]; rfl, ?_⟩
   rw [hw]
   simp only [appw, CS.st, EF_setO henv]
   exact .refl _
  ·cases h
 ·split at h
  ·cases h
  ·rename_i v ws rd halt
   split at h
   ·rename_i hout
    split at h
    ·rename_i env own hp lg henv hput
     split at h
     ·rename_i hall
      simp only [Option.some.injEq] at h
      subst h
      obtain ⟨p1, p2⟩ := putW_ok (k := c.k) ws [] c.hp c.lg hput
      obtain ⟨w1, w2⟩ := altOf_w halt
      refine ⟨rfl, p2, w2 hout, ?_⟩
      obtain ⟨src, hHT, hT⟩ := alt_heap (env := EF c.env) halt
      have k1 : Wk ⟨updo (EF c.env) o.dst e.v, appw e.w (hpF c.k [] c.hp)⟩ ⟨updo (EF c.env) o.dst v, appws ws (hpF c.k [] c.hp)⟩ := by
       refine .of src hHT hT fun ho b blk hb hl => ?_
       have hl : (appws ws (hpF c.k [] c.hp) b).live = some blk := hl
       by_cases hm : b ∈ ws.map (·.1)
       ·have := outWs_in ws (hpF c.k [] c.hp) b hout hm hb
        simp only [blkOut, hl] at this
        intro y hy z hz
        exact outOnlys_mem (List.all_eq_true.1 this y hy) z hz
       ·rw [appws_ne ws _ b hm] at hl
        refine ho b blk hb ?_
        show (appw e.w (hpF c.k [] c.hp) b).live = some blk
        cases hw : e.w with
        | none => exact hl
        | some p =>
         obtain ⟨b', x⟩ := p
         simp only [appw]
         rw [upd_ne _ _ _ _ (fun e' => hm (by rw [e']; exact w1 b' x hw))]
         exact hl
      rw [← p1, ← EF_setO henv] at k1
      exact k1.trans (.raise (Nat.le_add_right c.k 4) (all_own hall))
     ·cases h
    ·cases h
   ·cases h
theorem runOp_sound {call : CallT} (hc : CallOK P call) {o : GOp} {c c' : CS} (hown : c.own = []) (h : runOp call o c = some c') :
  c'.own = [] ∧ (∀ hp0, Keeps c.lg hp0 c.hp → Keeps c'.lg hp0 c'.hp) ∧ ∀ {K : St → Prop} (hk : ∀ s, Wk s c'.st → K s), Sq P [o] c.st K := by
 have est : c.st = ⟨EF c.env, hpF c.k [] c.hp⟩ := by simp only [CS.st, hown]
 unfold runOp at h
 rw [est]
 unfold Sq
 simp only
 cases hg : guardVal o (EF c.env) with
 | none => rw [hg] at h; cases h
 | some g =>
  rw [hg] at h
  cases g with
  | false =>
   simp only at h
   split at h
   ·rename_i env henv
    simp only [Option.some.injEq] at h
    subst h
    refine ⟨rfl, fun _ hk => hk, fun hk => hk _ ?_⟩
    simp only [CS.st, EF_setO henv]
    exact .refl _
   ·cases h
  | true =>
   simp only [prep_call, prep_callee, prep_run] at h
   simp only
   cases hi : isCallA o.op with
   | true =>
    rw [hi] at h
    simp only at h
    cases hf : calleeOf o.op (EF c.env) with
    | none => rw [hf] at h; cases h
    | some p =>
     obtain ⟨f, args⟩ := p
     rw [hf] at h
     simp only at h
     split at h
     ·cases h
     ·rename_i r n hp lg hr
      split at h
      ·rename_i env henv
       simp only [Option.some.injEq] at h
       subst h
       obtain ⟨k1, k2⟩ := hc f args c.k c.n c.hp r n hp lg hr
       refine ⟨rfl, fun hp0 hk => hk.append k1, fun hk => k2.mono fun r' h' ⟨e1, e2⟩ => ?_⟩
       subst e1
       refine hk _ ?_
       simp only [CS.st, EF_setO henv, hpF_merge e2]
       exact .refl _
      ·cases h
   | false =>
    rw [hi] at h
    simp only at h
    cases he : exec o.op (o.dst.getD 0) (EF c.env) (hpF c.k [] c.hp) with
    | none => rw [he] at h; cases h
    | some e =>
     rw [he] at h
     simp only at h
     obtain ⟨a1, a2, a3, a4⟩ := put1_ok hown h
     exact ⟨a1, a2, fun hk => ⟨a3, hk _ a4⟩⟩
theorem runOps_sound {call : CallT} (hc : CallOK P call) : ∀ (ops : List GOp) {c c' : CS} (hown : c.own = []) (h : runOps call ops c = some c'),
  c'.own = [] ∧ (∀ hp0, Keeps c.lg hp0 c.hp → Keeps c'.lg hp0 c'.hp) ∧ ∀ {K : St → Prop} (hk : K c'.st), SQ P N ops c.st K
 | [], c, c', hown, h => by
  simp only [runOps, Option.some.injEq] at h
  subst h
  exact ⟨hown, fun _ hk => hk, fun hk => .of hk⟩
 | o :: ops, c, c', hown, h => by
  simp only [runOps] at h
  split at h
  ·cases h
  ·rename_i c1 h1
   obtain ⟨a1, a2, a3⟩ := runOp_sound (P := P) hc hown h1
   obtain ⟨b1, b2, b3⟩ := runOps_sound hc ops a1 h
   refine ⟨b1, fun hp0 hk => b2 hp0 (a2 hp0 hk), fun hk => ?_⟩
   refine .cut 1 fun K' hK' => .of ?_
   refine a3 fun s hs => hK' s ?_
   exact .weak hs (b3 hk)
theorem own_outEq {w : World} {ι : Nat → Bd} {h h' : Heap} (he : OutEq h' h) (n : Nat) : Own (place (outer h') ι) n ↔ Own (place (outer h) ι) n := by
 rw [own_outer, own_outer]
 constructor
 ·rintro ⟨b, h1, h2, h3⟩; exact ⟨b, h1, by rw [← he b h1]; exact h2, h3⟩
 ·rintro ⟨b, h1, h2, h3⟩; exact ⟨b, h1, by rw [he b h1]; exact h2, h3⟩
theorem outer_outEq {ι : Nat → Bd} {h h' : Heap} (he : OutEq h' h) : ∀ b, lim ≤ b → place (outer h') ι b = place (outer h) ι b := by
 intro b hb
 simp only [place, outer, Nat.not_lt.2 hb, if_false, he b hb]
variable {w : World} {X : Nat → Prop} {ι : Nat → Bd}
theorem VR.own {h h' : Heap} (he : OutEq h' h) {x : AV} {v : Value} (hv : VR w (Forb X (place (outer h) ι)) (place (outer h) ι) x v) (ho : outOnly x = true) : VR w (Forb X (place (outer h') ι)) (place (outer h') ι) x v :=
 hv.switch (fun n hF hF' => hF (by rcases hF' with h1 | h1; exact .inl h1; exact .inr ((own_outEq (w := w) he n).1 h1))) (outer_outEq he) ho
theorem HRel.own {h h' : Heap} (he : OutEq h' h) (hr : HRel w X ι (outer h)) (ho : OutOK h) : HRel w X ι (outer h') where
 blks b blk hb := by
  by_cases hlt : b < lim
  ·simp only [outer, hlt, if_true] at hb; cases hb
  ·have hb2 : (outer h b).live = some blk := by
    simp only [outer, hlt, if_false] at hb ⊢
    rw [← he b (by omega)]; exact hb
   obtain ⟨h1, h2, h3⟩ := hr.blks b blk hb2
   refine ⟨h1, h2, ?_⟩
   cases hl : (ι b).loc with
   | none => rw [hl] at h3; exact h3
   | some n =>
    rw [hl] at h3
    obtain ⟨cs, t, h4, h5, h6, h7⟩ := h3
    refine ⟨cs, t, h4, h5, h6, fun i x j c hi hj => ?_⟩
    obtain ⟨v, k1, k2, k3⟩ := h7 i x j c hi hj
    have hb3 : (h b).live = some blk := by simpa only [outer, hlt, if_false] using hb2
    exact ⟨v, k1, k2, k3.own he (ho b blk (by omega) hb3 x (List.mem_of_getElem? hi) c (List.mem_of_getElem? hj))⟩
 inj b b' n hb hb' hl hl' := by
  have conv : ∀ b, (outer h' b).live.isSome = true → (outer h b).live.isSome = true := by
   intro b hb
   by_cases hlt : b < lim
   ·simp only [outer, hlt, if_true] at hb; cases hb
   ·simp only [outer, hlt, if_false] at hb ⊢
    rw [← he b (by omega)]; exact hb
  exact hr.inj b b' n (conv b hb) (conv b' hb') hl hl'
 notX n hn := hr.notX n ((own_outEq (w := w) he n).1 hn)
 xlt := hr.xlt
theorem OutOK.own {h h' : Heap} (he : OutEq h' h) (ho : OutOK h) : OutOK h' := fun b blk hb hl => ho b blk hb (by rw [← he b hb]; exact hl)
theorem OutEq.symm {h h' : Heap} (he : OutEq h' h) : OutEq h h' := fun b hb => (he b hb).symm
theorem OutEq.trans {h h' h'' : Heap} (he : OutEq h'' h') (he' : OutEq h' h) : OutEq h'' h := fun b hb => (he b hb).trans (he' b hb)
/-- A call does not look at the caller's own blocks. -/
theorem ACall.own {f : FuncId} {args : List AV} {h h1 hN : Heap} {r : AV} (he : OutEq h1 h) (ha : outOnlys args = true) (hc : ACall P f args h fun r' h' => r' = r ∧ OutEq h' hN) : ACall P f args h1 fun r' h' => r' = r ∧ OutEq h' hN := by
 refine ⟨hc.1, fun w X ι vs h2 h0 h3 h4 => ?_⟩
 have k2 : HRel w X ι (outer h) := h2.own he.symm h0
 refine (hc.2 w X ι vs k2 (h0.own he.symm) h3 fun j c v hj hv => (h4 j c v hj hv).own he.symm (outOnlys_mem ha c (List.mem_of_getElem? hj))).mono ?_
 rintro e w' ⟨r', v, h', ι', ⟨e1, e2⟩, rfl, q1, q2, q3, q4, q5⟩
 let h'' : Heap := fun b => if b < lim then h1 b else h' b
 have e3 : OutEq h'' h' := fun b hb => by simp only [h'', Nat.not_lt.2 hb, if_false]
 refine ⟨r', v, h'', ι', ⟨e1, e3.trans e2⟩, rfl, q1.own e3 q2, q2.own e3, q3, q4.own e3 q3, ?_⟩
 exact {
  size := q5.size
  keep := fun n hn ho => q5.keep n hn fun o => ho ((own_outEq (w := w) he n).2 o)
  own := fun n hn ho => (own_outEq (w := w) he n).2 (q5.own n hn ((own_outEq (w := w) e3 n).1 ho))
  gle := fun b => by
   by_cases hb : b < lim
   ·left
    have e4 : h'' b = h1 b := if_pos hb
    simp only [place, outer, hb, if_true, e4]
    rfl
   ·have := q5.gle b
    rw [outer_outEq he b (by omega), outer_outEq e3 b (by omega)]
    exact this
  os := q5.os
  tape := q5.tape
  output := q5.output }
theorem wsOf_get : ∀ (lg : List Nat) (hp : Tr HB) (h : Heap) (b : Nat), lim ≤ b → appws (wsOf lg hp) h b = if b - lim ∈ lg then hpF 0 [] hp b else h b := by
 intro lg
 induction lg with
 | nil => intro hp h b hb; simp [wsOf, appws]
 | cons i lg ih =>
  intro hp h b hb
  show appws (wsOf lg hp) (upd h (lim + i) (match hp.get i with | some x => x | none => ⟨0, none⟩)) b = _
  rw [ih hp _ b hb]
  by_cases h1 : b - lim ∈ lg
  ·simp only [h1, if_true, List.mem_cons, or_true]
  ·simp only [h1, if_false, List.mem_cons, or_false]
   by_cases h2 : b - lim = i
   ·have e : b = lim + i := by omega
    subst e
    have e2 : lim + i - lim = i := by omega
    rw [upd_same, if_pos h2]
    simp only [hpF, Nat.not_lt.2 hb, if_false, e2]
    try (cases hp.get i <;> rfl)
   ·rw [if_neg h2, upd_ne _ _ _ _ (by omega)]
theorem callNC {call : CallT} (hc : CallOK P call) {f : FuncId} {args : List AV} {k n n' : Nat} {own : List (Nat × HB)} {hp hp' : Tr HB} {r : AV} {lg : List Nat} (h : call f args k n hp = some (r, n', hp', lg)) (ha : outOnlys args = true) :
  NC P f args (hpF k own hp) false r (wsOf lg hp') ∧ hpF k own hp' = appws (wsOf lg hp') (hpF k own hp) := by
 obtain ⟨k1, k2⟩ := hc f args k n hp r n' hp' lg h
 have key : ∀ h1 : Heap, OutEq h1 (hpF k own hp) → OutEq (hpF 0 [] hp') (appws (wsOf lg hp') h1) := by
  intro h1 he b hb
  rw [wsOf_get lg hp' h1 b hb]
  split
  ·rfl
  ·rename_i hm
   rw [he b hb]
   have := k1 _ hm
   simp only [hpF, Nat.not_lt.2 hb, if_false, this]
 have ids : ∀ p ∈ wsOf lg hp', lim ≤ p.1 := by
  intro p hp
  simp only [wsOf, List.mem_map] at hp
  obtain ⟨i, _, rfl⟩ := hp
  exact Nat.le_add_right _ _
 refine ⟨⟨ids, fun h1 he _ => ?_⟩, ?_⟩
 ·have he1 : OutEq h1 (hpF k [] hp) := fun b hb => by rw [he rfl b hb]; exact hpF_hi hb
  exact (ACall.own he1 ha k2).mono fun r' h' ⟨e1, e2⟩ => ⟨e1, e2.trans (key h1 (he rfl))⟩
 ·funext b
  by_cases hb : b < lim
  ·rw [appws_ne _ _ b (fun hm => by
    obtain ⟨p, hp, rfl⟩ := List.mem_map.1 hm
    have := ids p hp
    omega), hpF_lo hb, hpF_lo hb]
  ·rw [← key _ (fun b hb => rfl) b (by omega)]
   exact hpF_hi (by omega)
theorem runDr_sound {call : CallT} (hc : CallOK P call) : ∀ (ops : List GOp) {c c' : CS} {fs : List Fp} (h : runDr call ops c = some (c', fs)),
  (∀ hp0, Keeps c.lg hp0 c.hp → Keeps c'.lg hp0 c'.hp) ∧ ∃ als, ∀ {K : St → List Fp → Prop} (hk : K c'.st fs), Dn P als ops c.st K
 | [], c, c', fs, h => by
  simp only [runDr, Option.some.injEq, Prod.mk.injEq] at h
  obtain ⟨rfl, rfl⟩ := h
  exact ⟨fun _ hk => hk, [], fun hk => hk⟩
 | o :: ops, c, c', fs, h => by
  unfold runDr at h
  cases hg : guardVal o (EF c.env) with
  | none => rw [hg] at h; cases h
  | some g =>
   have hg' : guardVal o c.st.env = some g := hg
   rw [hg] at h
   cases g with
   | false =>
    simp only at h
    split at h
    ·cases h
    ·rename_i env henv
     split at h
     ·cases h
     ·rename_i c1 fs1 h1
      simp only [Option.some.injEq, Prod.mk.injEq] at h
      obtain ⟨rfl, rfl⟩ := h
      obtain ⟨a1, als, a2⟩ := runDr_sound hc ops h1
      refine ⟨a1, .plain :: als, fun {K} hk => ?_⟩
      unfold Dn
      rw [hg']
      simp only [List.tail_cons]
      have := a2 (K := fun s2 fs => K s2 (⟨[], [], false⟩ :: fs)) hk
      simp only [CS.st, EF_setO henv] at this
      exact this
   | true =>
    simp only [prep_call, prep_callee, prep_run] at h
    cases hi : isCallA o.op with
    | true =>
     rw [hi] at h
     simp only at h
     cases hf : calleeOf o.op (EF c.env) with
     | none => rw [hf] at h; cases h
     | some p =>
      obtain ⟨f, args⟩ := p
      have hf' : calleeOf o.op c.st.env = some (f, args) := hf
      rw [hf] at h
      simp only at h
      split at h
      ·rename_i ha
       split at h
       ·cases h
       ·rename_i r n hp lg hr
        split at h
        ·cases h
        ·rename_i env henv
         split at h
         ·cases h
         ·rename_i c1 fs1 h1
          simp only [Option.some.injEq, Prod.mk.injEq] at h
          obtain ⟨rfl, rfl⟩ := h
          obtain ⟨a1, als, a2⟩ := runDr_sound hc ops h1
          obtain ⟨k1, k2⟩ := callNC (own := c.own) hc hr ha
          have k3 := (hc f args c.k c.n c.hp r n hp lg hr).1
          refine ⟨fun hp0 hk => a1 hp0 (hk.append k3), .plain :: als, fun {K} hk => ?_⟩
          unfold Dn
          rw [hg']
          simp only [hi, hf', List.tail_cons]
          refine ⟨false, r, wsOf lg hp, k1, ?_⟩
          have := a2 (K := fun s2 fs => K s2 (⟨(wsOf lg hp).map (·.1), (wsOf lg hp).map (·.1), true⟩ :: fs)) hk
          simp only [CS.st, EF_setO henv] at this
          rw [k2] at this
          exact this
      ·cases h
    | false =>
     rw [hi] at h
     simp only at h
     cases he : exec o.op (o.dst.getD 0) (EF c.env) (hpF c.k c.own c.hp) with
     | none => rw [he] at h; cases h
     | some e =>
      have he' : exec o.op (o.dst.getD 0) c.st.env c.st.h = some e := he
      rw [he] at h
      simp only at h
      split at h
      ·cases h
      ·rename_i v ws rd halt
       split at h
       ·rename_i hout
        split at h
        ·rename_i env own hp lg henv hput
         split at h
         ·cases h
         ·rename_i c1 fs1 h1
          simp only [Option.some.injEq, Prod.mk.injEq] at h
          obtain ⟨rfl, rfl⟩ := h
          obtain ⟨a1, als, a2⟩ := runDr_sound hc ops h1
          obtain ⟨p1, p2⟩ := putW_ok (k := c.k) ws c.own c.hp c.lg hput
          refine ⟨fun hp0 hk => a1 hp0 (p2 hp0 hk), chooseAlt true o c.n e :: als, fun {K} hk => ?_⟩
          have halt' : altOf (chooseAlt true o c.n e) o.dst c.st.h e = some (v, ws, rd) := halt
          unfold Dn
          rw [hg']
          simp only [hi, he', List.headD_cons, halt', List.tail_cons]
          refine ⟨hout, ?_⟩
          have := a2 (K := fun s2 fs => K s2 (⟨rd, ws.map (·.1), false⟩ :: fs)) hk
          simp only [CS.st, EF_setO henv] at this
          rw [p1] at this
          exact this
        ·cases h
       ·cases h
theorem clean_sound : ∀ (l : List (Nat × HB)) (c c' : CS), clean l c = some c' → c'.own = [] ∧ (∀ hp0, Keeps c.lg hp0 c.hp → Keeps c'.lg hp0 c'.hp) ∧ Wk c.st c'.st
 | [], c, c', h => by
  simp only [clean] at h
  split at h
  ·rename_i hall
   simp only [Option.some.injEq] at h
   subst h
   exact ⟨rfl, fun _ hk => hk, .raise (Nat.le_add_right c.k 4) (all_own hall)⟩
  ·cases h
 | (b, ⟨v, none⟩) :: l, c, c', h => clean_sound l c c' h
 | (b, ⟨v, some blk⟩) :: l, c, c', h => by
  unfold clean at h
  split at h
  ·rename_i v' blk' hl hn
   split at h
   ·rename_i hcond
    split at h
    ·rename_i hp hs
     obtain ⟨a1, a2, a3⟩ := clean_sound l _ c' h
     refine ⟨a1, fun hp0 hk => a2 hp0 (hk.set hs), ?_⟩
     refine Wk.trans ?_ a3
     have hb : hpF c.k c.own c.hp b = ⟨v', some blk'⟩ := by rw [hpF_lo hcond.1, hl]
     have hB : hpF c.k c.own c.hp (lim + c.n) = ⟨0, none⟩ := by
      have e : lim + c.n - lim = c.n := by omega
      simp only [hpF, Nat.not_lt.2 (Nat.le_add_right lim c.n), if_false, e, hn]
     have := Wk.renF (env := EF c.env) (h := hpF c.k c.own c.hp) b (lim + c.n) 1 hcond.1 (Nat.le_add_right _ _) hb (by rw [hB]) (by rw [hB]; exact Nat.zero_lt_one) hcond.2
     rw [hpF_own hcond.1, hpF_set (m := 32) (hp' := hp) (Nat.le_add_right _ _) (by rw [show lim + c.n - lim = c.n by omega]; exact hs)] at this
     simp only [CS.st]
     rw [EF_map _ rfl]
     exact this
    ·cases h
   ·cases h
  ·exact clean_sound l c c' h
def Tab.OK (P : Program) (T : Tab) : Prop :=
 (∀ f N c rs, T.body f = some (N, c, rs) → Body P f N c rs) ∧ ∀ f args r, T.known f args = some r → PCall P f args r
def RecOK (P : Program) (rec : ACode → CS → Option (AX × CS)) : Prop := ∀ (N : Nat) c s x s' (Q : AX → St → Prop), s.own = [] → rec c s = some (x, s') →
 s'.own = [] ∧ (∀ hp0, Keeps s.lg hp0 s.hp → Keeps s'.lg hp0 s'.hp) ∧ (Q x s'.st → AW P N c Q s.st)
theorem parT_ok : ∀ (als : List AV) (i : Nat) (t t' : Tr AV), parT als i t = some t' → ∀ j, EF t' j = if i ≤ j ∧ j - i < als.length then (als[j - i]?).getD .undef else EF t j
 | [], i, t, t', h, j => by
  simp only [parT, Option.some.injEq] at h
  subst h
  simp
 | a :: als, i, t, t', h, j => by
  simp only [parT] at h
  split at h
  ·rename_i t1 h1
   rw [parT_ok als (i + 1) t1 t' h j, EF_set h1]
   simp only [upd, List.length_cons]
   by_cases e : j = i
   ·subst e
    rw [if_neg (by omega), if_pos rfl, if_pos (by omega)]
    simp
   ·rw [if_neg e]
    by_cases h2 : i + 1 ≤ j ∧ j - (i + 1) < als.length
    ·rw [if_pos h2, if_pos (by omega), show j - i = (j - (i + 1)) + 1 by omega]
     simp
    ·rw [if_neg h2, if_neg (by omega)]
  ·cases h
theorem parT_env {args : List AV} {t : Tr AV} (h : parT args 0 .leaf = some t) : EF t = E (par args 0) := by
 funext j
 rw [parT_ok args 0 .leaf t h j, par_get]
 simp only [Nat.zero_le, true_and, if_true, Nat.sub_zero, EF_leaf]
 by_cases hj : j < args.length
 ·simp [hj]
 ·simp [hj, List.getElem?_eq_none (Nat.le_of_not_lt hj)]
theorem callF_sound {T : Tab} (hT : T.OK P) {rec : ACode → CS → Option (AX × CS)} (hrec : RecOK P rec) : CallOK P (callF T rec) := by
 intro f args k n hp r n' hp' lg h
 unfold callF at h
 split at h
 ·rename_i r' hk
  simp only [Option.some.injEq, Prod.mk.injEq] at h
  obtain ⟨rfl, rfl, rfl, rfl⟩ := h
  exact ⟨.refl _ _, ((hT.2 f args _ hk) _).mono fun r' h' ⟨e1, e2⟩ => ⟨e1, fun b hb => by rw [e2 b hb]; exact hpF_hi hb⟩⟩
 ·split at h
  ·cases h
  ·rename_i N c rs hb
   split at h
   ·rename_i hN
    split at h
    ·cases h
    ·rename_i env henv
     split at h
     ·cases h
     ·rename_i x s hs
      have hb' := hT.1 f N c rs hb
      have base := fun Q => hrec N c ⟨env, k, n, [], hp, []⟩ x s Q rfl hs
      have fin : ∀ (hx : x = .normal ∨ x = .ret), (match resA s.st rs with | none => none | some r => if outOnly r = true then some (r, s.n, s.hp, s.lg) else none) = some (r, n', hp', lg) →
        Keeps lg hp hp' ∧ ACall P f args (hpF k [] hp) fun r' h' => r' = r ∧ OutEq h' (hpF 0 [] hp') := by
       intro hx h
       split at h
       ·cases h
       ·rename_i r0 hr0
        split at h
        ·rename_i ho
         simp only [Option.some.injEq, Prod.mk.injEq] at h
         obtain ⟨rfl, rfl, rfl, rfl⟩ := h
         refine ⟨(base (fun _ _ => True)).2.1 hp (.refl _ _), ?_⟩
         refine ACall.of hb' hN ?_
         rw [hpF_outer]
         have := (base (Ret rs fun r' h' => r' = r0 ∧ OutEq h' (hpF 0 [] s.hp))).2.2 (by
          rcases hx with rfl | rfl
          ·exact ⟨r0, r0, hr0, .refl _, ho, rfl, fun b hb => hpF_hi hb⟩
          ·exact ⟨r0, r0, hr0, .refl _, ho, rfl, fun b hb => hpF_hi hb⟩)
         simp only [CS.st, parT_env henv] at this
         exact this
        ·cases h
      cases x with
      | exit i => cases h
      | normal => exact fin (.inl rfl) h
      | ret => exact fin (.inr rfl) h
   ·cases h
theorem rounds_mono {code : Code} {Q Q' : Exit → Act → World → Prop} (hq : ∀ e a w, Q e a w → Q' e a w) : ∀ (n : Nat) a w, Code.rounds P code Q n a w → Code.rounds P code Q' n a w
 | 0, _, _, h => h
 | n + 1, a, w, h => by
  rw [rounds_succ] at h ⊢
  refine Code.wp_mono (fun e a w q => ?_) h
  cases e with
  | normal => exact rounds_mono hq n a w q
  | exit i => exact hq _ _ _ q
  | goto l => exact hq _ _ _ q
  | ret => exact hq _ _ _ q
  | panic ch => exact hq _ _ _ q
  | outgrown => exact hq _ _ _ q
theorem loop_rounds {T : Tab} {c : ACode} {x : AX} {s' : CS} {Q : AX → St → Prop} : ∀ (n : Nat), (∀ k, k < n → RecOK P (runC T k)) → ∀ (s : CS), s.own = [] → runC T n (.loop c) s = some (x, s') →
  s'.own = [] ∧ (∀ hp0, Keeps s.lg hp0 s.hp → Keeps s'.lg hp0 s'.hp) ∧ (Q x s'.st → ∀ code, comp P N code = c → ∀ w X ι a, SRel N w X ι s.st a → Code.rounds P code (Lift N w X ι s.st.h Q) n a w)
 | 0, _, s, _, h => by simp [runC] at h
 | n + 1, ih, s, hown, h => by
  unfold runC at h
  simp only at h
  split at h
  ·cases h
  ·rename_i x1 s1 h1
   have hb := ih n (by omega) N c s x1 s1 (fun y t => y = x1 ∧ t = s1.st) hown h1
   have step : ∀ (n : Nat) (Q2 : Exit → Act → World → Prop) code, comp P N code = c → ∀ w X ι a, SRel N w X ι s.st a →
     (∀ a2 w2 ι2, SRel N w2 X ι2 s1.st a2 → Evo w (place s.st.h ι) w2 (place s1.st.h ι2) → (match x1 with | .normal => Code.rounds P code Q2 n a2 w2 | y => Q2 (AX.ex y) a2 w2)) → Code.rounds P code Q2 (n + 1) a w := by
    intro n Q2 code hc w X ι a hr hk
    rw [rounds_succ]
    refine Code.wp_mono ?_ (hb.2.2 ⟨rfl, rfl⟩ code hc w X ι a hr)
    rintro e a2 w2 ⟨z, s2, ι2, rfl, ⟨rfl, rfl⟩, h3, h4⟩
    have := hk a2 w2 ι2 h3 h4
    cases z <;> exact this
   cases x1 with
   | normal =>
    simp only at h
    obtain ⟨b1, b2, b3⟩ := loop_rounds (Q := Q) n (fun k hk => ih k (by omega)) s1 hb.1 h
    refine ⟨b1, fun hp0 hk => b2 hp0 (hb.2.1 hp0 hk), fun hq code hc w X ι a hr => step n _ code hc w X ι a hr fun a2 w2 ι2 h3 h4 => ?_⟩
    exact rounds_mono (fun e a3 w3 ⟨y, s3, ι3, k1, k2, k3, k4⟩ => ⟨y, s3, ι3, k1, k2, k3, h4.trans k4⟩) n a2 w2 (b3 hq code hc w2 X ι2 a2 h3)
   | exit i =>
    simp only [Option.some.injEq, Prod.mk.injEq] at h
    obtain ⟨rfl, rfl⟩ := h
    exact ⟨hb.1, hb.2.1, fun hq code hc w X ι a hr => step n _ code hc w X ι a hr fun a2 w2 ι2 h3 h4 => ⟨_, _, ι2, rfl, hq, h3, h4⟩⟩
   | ret =>
    simp only [Option.some.injEq, Prod.mk.injEq] at h
    obtain ⟨rfl, rfl⟩ := h
    exact ⟨hb.1, hb.2.1, fun hq code hc w X ι a hr => step n _ code hc w X ι a hr fun a2 w2 ι2 h3 h4 => ⟨_, _, ι2, rfl, hq, h3, h4⟩⟩
theorem AW.rounds {c : ACode} {Q : AX → St → Prop} {s : St} (n : Nat) (h : ∀ code, comp P N code = c → ∀ w X ι a, SRel N w X ι s a → Code.rounds P code (Lift N w X ι s.h Q) n a w) : AW P N (.loop c) Q s := by
 intro code hc w X ι a hr
 cases code
 case region id ops b =>
  rcases comp_reg P N id ops b with ⟨_, h'⟩ | ⟨_, un, _, h'⟩ | h' <;> rw [h'] at hc <;> cases hc
 case loop c1 =>
  simp only [comp, ACode.loop.injEq] at hc
  exact wp_loop_rounds n (h c1 hc w X ι a hr)
 all_goals (simp only [comp] at hc; cases hc)
theorem runC_sound' {T : Tab} (hT : T.OK P) (hm : P.follows .mixedOrders = true) : ∀ n, (∀ k, k < n → RecOK P (runC T k)) → RecOK P (runC T n)
 | 0 => fun _ N c s x s' Q _ h => by simp [runC] at h
 | n + 1 => by
  intro hall
  have ih := hall n (by omega)
  have hcall := callF_sound hT ih
  intro N c s x s' Q hown h
  have h0 := h
  unfold runC at h
  cases c with
  | skip =>
   simp only [Option.some.injEq, Prod.mk.injEq] at h
   obtain ⟨rfl, rfl⟩ := h
   exact ⟨hown, fun _ hk => hk, fun hq => .skip hq⟩
  | reg ops =>
   simp only at h
   split at h
   ·cases h
   ·rename_i s1 h1
    simp only [Option.some.injEq, Prod.mk.injEq] at h
    obtain ⟨rfl, rfl⟩ := h
    obtain ⟨a1, a2, a3⟩ := runOps_sound (P := P) (N := N) hcall ops hown h1
    exact ⟨a1, a2, fun hq => .regS (a3 hq)⟩
  | dreg ops un =>
   simp only at h
   split at h
   ·cases h
   ·rename_i s1 fs h1
    split at h
    ·rename_i hcf
     split at h
     ·cases h
     ·rename_i s2 h2
      simp only [Option.some.injEq, Prod.mk.injEq] at h
      obtain ⟨rfl, rfl⟩ := h
      obtain ⟨a1, als, a2⟩ := runDr_sound (P := P) hcall ops h1
      obtain ⟨b1, b2, b3⟩ := clean_sound _ _ _ h2
      refine ⟨b1, fun hp0 hk => b2 hp0 (a1 hp0 hk), fun hq => ?_⟩
      refine AW.post (Q := fun x' t => x' = .normal ∧ t = s1.st) (.dregn hm als (a2 ⟨hcf, rfl, rfl⟩)) ?_
      rintro x' t ⟨rfl, rfl⟩
      exact ⟨_, b3, hq⟩
    ·cases h
  | seq a b =>
   simp only at h
   split at h
   ·cases h
   ·rename_i x1 s1 h1
    have ha := fun Q' => ih N a s x1 s1 Q' hown h1
    cases x1 with
    | normal =>
     simp only at h
     have hb := ih N b s1 x s' Q (ha (fun _ _ => True)).1 h
     exact ⟨hb.1, fun hp0 hk => hb.2.1 hp0 ((ha (fun _ _ => True)).2.1 hp0 hk), fun hq => .seq ((ha _).2.2 (hb.2.2 hq))⟩
    | exit i =>
     simp only [Option.some.injEq, Prod.mk.injEq] at h
     obtain ⟨rfl, rfl⟩ := h
     exact ⟨(ha Q).1, (ha Q).2.1, fun hq => .seq ((ha _).2.2 hq)⟩
    | ret =>
     simp only [Option.some.injEq, Prod.mk.injEq] at h
     obtain ⟨rfl, rfl⟩ := h
     exact ⟨(ha Q).1, (ha Q).2.1, fun hq => .seq ((ha _).2.2 hq)⟩
  | cond y a b =>
   simp only at h
   split at h
   ·rename_i t hy
    have hy' : y.ev s.st.env = .d (.bool t) := hy
    cases t with
    | true =>
     have ha := ih N a s x s' Q hown h
     exact ⟨ha.1, ha.2.1, fun hq => .cond true hy' (ha.2.2 hq)⟩
    | false =>
     have ha := ih N b s x s' Q hown h
     exact ⟨ha.1, ha.2.1, fun hq => .cond false hy' (ha.2.2 hq)⟩
   ·cases h
  | block id c =>
   simp only at h
   split at h
   ·cases h
   ·rename_i x1 s1 h1
    have ha := fun Q' => ih N c s x1 s1 Q' hown h1
    cases x1 with
    | normal =>
     simp only [Option.some.injEq, Prod.mk.injEq] at h
     obtain ⟨rfl, rfl⟩ := h
     exact ⟨(ha Q).1, (ha Q).2.1, fun hq => .block ((ha _).2.2 hq)⟩
    | exit i =>
     simp only at h
     split at h
     ·rename_i hi
      simp only [Option.some.injEq, Prod.mk.injEq] at h
      obtain ⟨rfl, rfl⟩ := h
      exact ⟨(ha Q).1, (ha Q).2.1, fun hq => .block ((ha _).2.2 (by simp only [inBlk, hi, if_true]; exact hq))⟩
     ·rename_i hi
      simp only [Option.some.injEq, Prod.mk.injEq] at h
      obtain ⟨rfl, rfl⟩ := h
      exact ⟨(ha Q).1, (ha Q).2.1, fun hq => .block ((ha _).2.2 (by simp only [inBlk, hi, if_false]; exact hq))⟩
    | ret =>
     simp only [Option.some.injEq, Prod.mk.injEq] at h
     obtain ⟨rfl, rfl⟩ := h
     exact ⟨(ha Q).1, (ha Q).2.1, fun hq => .block ((ha _).2.2 hq)⟩
  | loop c =>
   obtain ⟨a1, a2, a3⟩ := loop_rounds (P := P) (N := N) (Q := Q) (n + 1) hall s hown h0
   exact ⟨a1, a2, fun hq => .rounds (n + 1) (a3 hq)⟩
  | exit id =>
   simp only [Option.some.injEq, Prod.mk.injEq] at h
   obtain ⟨rfl, rfl⟩ := h
   exact ⟨hown, fun _ hk => hk, fun hq => .exit hq⟩
  | ret =>
   simp only [Option.some.injEq, Prod.mk.injEq] at h
   obtain ⟨rfl, rfl⟩ := h
   exact ⟨hown, fun _ hk => hk, fun hq => .ret hq⟩
  | bad => cases h
theorem runC_sound {T : Tab} (hT : T.OK P) (hm : P.follows .mixedOrders = true) (n : Nat) : RecOK P (runC T n) :=
 Nat.strongRecOn n fun n ih => runC_sound' hT hm n ih
mutual
def pureAV : AV → Bool
 | .ptr .. => false
 | .sl .. => false
 | .agg cs => pureAVs cs
 | .fn _ cs => pureAVs cs
 | .tup cs => pureAVs cs
 | _ => true
def pureAVs : List AV → Bool
 | [] => true
 | c :: cs => pureAV c && pureAVs cs
end
theorem pureAVs_mem : ∀ {cs : List AV}, pureAVs cs = true → ∀ c ∈ cs, pureAV c = true
 | [], _, c, hc => by simp at hc
 | d :: cs, h, c, hc => by
  simp only [pureAVs, Bool.and_eq_true] at h
  rcases List.mem_cons.1 hc with rfl | hc
  ·exact h.1
  ·exact pureAVs_mem h.2 c hc
theorem VR.pure {F F' : Nat → Prop} {G G' : Pl} (hF : ∀ n, ¬ F n → ¬ F' n) {x : AV} {v : Value} (hv : VR w F G x v) : pureAV x = true → VR w F' G' x v := by
 induction hv with
 | d x v hd => exact fun _ => .d _ _ (hd.mono (Nat.le_refl _) (fun n _ h => ⟨hF n h, rfl⟩))
 | ptrX b ver i o a hh => intro ho; simp [pureAV] at ho
 | ptr b ver i o n k sz hh => intro ho; simp [pureAV] at ho
 | dptr cs blk off vs h1 h2 h3 => exact fun _ => .dptr _ _ _ _ (fun h => ⟨hF _ (h1 h).1, (h1 h).2⟩) h2 (fun j d hj => (h3 j d hj).mono (Nat.le_refl _) (fun n _ h => ⟨hF n h, rfl⟩))
 | slX b ver i n cap a m c hh => intro ho; simp [pureAV] at ho
 | slN b ver k sz a hh => intro ho; simp [pureAV] at ho
 | sl b ver i n cap nb k sz a c hh h1 h2 h3 h4 h5 => intro ho; simp [pureAV] at ho
 | empty a => exact fun _ => .empty _
 | agg cs vs hl h1 hr ih => intro ho; simp only [pureAV] at ho; exact .agg _ _ hl h1 (fun j c v hj hv => ih j c v hj hv (pureAVs_mem ho c (List.mem_of_getElem? hj)))
 | fn f caps vs hl hr ih => intro ho; simp only [pureAV] at ho; exact .fn _ _ _ hl (fun j c v hj hv => ih j c v hj hv (pureAVs_mem ho c (List.mem_of_getElem? hj)))
 | tup cs vs hl hr ih => intro ho; simp only [pureAV] at ho; exact .tup _ _ hl (fun j c v hj hv => ih j c v hj hv (pureAVs_mem ho c (List.mem_of_getElem? hj)))
 | undef v => exact fun _ => .undef _
/-- No block is there. -/
def h00 : Heap := fun _ => ⟨0, none⟩
theorem outer_h00 : outer h00 = h00 := by funext b; simp only [outer, h00]; split <;> rfl
theorem hpF_h00 : hpF 0 [] .leaf = h00 := by
 funext b
 simp only [hpF, h00, lookL, Tr.get]
 split <;> rfl
/-- A call that is handed data and hands back data only computes: it is enough to know it where no block is there. -/
theorem PCall.frame {f : FuncId} {args : List AV} {r : AV} (ha : pureAVs args = true) (hp : pureAV r = true) (hc : ACall P f args h00 fun r' _ => r' = r) : PCall P f args r := by
 intro h1
 refine ⟨hc.1, fun w X ι vs hr h0 hs hv => ?_⟩
 have noown : ∀ n, ¬ Own (place (outer h00) ι) n := by
  intro n ho
  obtain ⟨b, h1, _⟩ := own_iff.1 ho
  rw [outer_h00] at h1
  cases h1
 have r0 : HRel w (fun n => X n ∨ Own (place (outer h1) ι) n) ι (outer h00) := {
  blks := fun b blk hb => by rw [outer_h00] at hb; cases hb
  inj := fun b b' n hb => by rw [outer_h00] at hb; cases hb
  notX := fun n ho => (noown n ho).elim
  xlt := fun n hx => by
   rcases hx with hx | hx
   ·exact hr.xlt n hx
   ·exact hr.lt hx }
 refine (hc.2 w _ ι vs r0 (fun b blk hb hl => by cases hl) hs fun j c v hj hcv => ?_).mono ?_
 ·refine (hv j c v hj hcv).pure (fun n hF hF' => hF ?_) (pureAVs_mem ha c (List.mem_of_getElem? hj))
  rcases hF' with (h2 | h2) | h2
  ·exact .inl h2
  ·exact .inr h2
  ·exact (noown n h2).elim
 ·rintro e w' ⟨r', v, h', ι', rfl, rfl, q1, q2, q3, q4, q5⟩
  have keep : ∀ n, n < w.heap.size → w'.heap[n]? = w.heap[n]? := fun n hn => q5.keep n hn (noown n)
  refine ⟨r', v, h1, ι, ⟨rfl, .refl _⟩, rfl, ?_, h0, q3, ?_, ?_⟩
  ·exact {
    blks := fun b blk hb => by
     obtain ⟨k1, k2, k3⟩ := hr.blks b blk hb
     refine ⟨k1, k2, ?_⟩
     cases hl : (ι b).loc with
     | none => rw [hl] at k3; exact k3
     | some n =>
      rw [hl] at k3
      obtain ⟨cs, t, h4, h5, h6, h7⟩ := k3
      have hn : n < w.heap.size := (Array.getElem?_eq_some_iff.1 h4).1
      refine ⟨cs, t, by rw [keep n hn]; exact h4, h5, h6, fun i x j c hi hj => ?_⟩
      obtain ⟨u, k1, k2, k3⟩ := h7 i x j c hi hj
      exact ⟨u, k1, k2, k3.mono q5.size (fun n hn hF => ⟨hF, keep n hn⟩) fun b => .inl rfl⟩
    inj := hr.inj
    notX := hr.notX
    xlt := fun n hx => Nat.lt_of_lt_of_le (hr.xlt n hx) q5.size }
  ·refine q4.pure (fun n hF hF' => hF (.inl ?_)) hp
   rcases hF' with h1 | h1
   ·exact .inl h1
   ·exact .inr h1
  ·exact {
    size := q5.size
    keep := fun n hn _ => keep n hn
    own := fun n _ ho => ho
    gle := fun b => .inl rfl
    os := q5.os
    tape := q5.tape
    output := q5.output }
/-- A closed run that ends with a datum: a call that only computes. -/
theorem PCall.closed {T : Tab} (hT : T.OK P) (hm : P.follows .mixedOrders = true) {f : FuncId} (n : Nat) {args : List AV} {r : AV} (h : (match callF T (runC T n) f args 0 0 .leaf with | some (r', _) => decide (r' = r) | none => false) = true) (ha : pureAVs args = true) (hp : pureAV r = true) : PCall P f args r := by
 split at h
 ·rename_i r' hcall
  simp only [decide_eq_true_eq] at h
  subst h
  have hc := (callF_sound hT (runC_sound hT hm n) f args 0 0 .leaf _ _ _ _ hcall).2
  rw [hpF_h00] at hc
  exact .frame ha hp (hc.mono fun r' h' ⟨e, _⟩ => e)
 ·cases h
def AllB (P : Program) : List (Nat × Nat × ACode × List Res) → Prop
 | [] => True
 | (f, N, c, rs) :: l => Body P f N c rs ∧ AllB P l
def look : List (Nat × Nat × ACode × List Res) → Nat → Option (Nat × ACode × List Res)
 | [], _ => none
 | (f, x) :: l, g => bif Nat.beq f g then some x else look l g
theorem look_ok : ∀ {l : List (Nat × Nat × ACode × List Res)}, AllB P l → ∀ f N c rs, look l f = some (N, c, rs) → Body P f N c rs
 | [], _, f, N, c, rs, h => by cases h
 | (g, x) :: l, ha, f, N, c, rs, h => by
  obtain ⟨h1, h2⟩ := ha
  simp only [look] at h
  cases hb : Nat.beq g f with
  | true =>
   rw [hb] at h
   simp only [cond_true, Option.some.injEq] at h
   have : g = f := Nat.eq_of_beq_eq_true hb
   subst this h
   exact h1
  | false =>
   rw [hb] at h
   exact look_ok h2 f N c rs h
end
end Go.Abs
