/- Contracts of functions of the program, and what they lean on: a part of the proof that planBest_proved stands; no condition. -/
import Derived.Test.YtklbdeenilokiaaGreatQ17M2
import Derived.Deep.LoopGhost
/- Regions of the abstract machine: one operation as a step; steps that do not meet may change places. -/
set_option linter.unusedVariables false
set_option linter.unusedSimpArgs false
namespace Go.Abs
structure Fp where
 rd : List Nat
 wr : List Nat
 outs : Bool
 deriving Inhabited
def nonc1 (f g : Fp) : Bool := f.wr.all fun b => !g.rd.contains b && (!g.outs || decide (b < lim))
def nonc (f g : Fp) : Bool := nonc1 f g && nonc1 g f
def guardVal (o : GOp) (env : Env) : Option Bool := match o.g with
 | none => some true
 | some (g, want) => match env g with
  | .d (.bool b) => some (b == want)
  | .tup _ => some false
  | _ => none
def calleeOf (op : AOp) (env : Env) : Option (FuncId × List AV) := match op with
 | .call f xs => some (f, xs.map (·.ev env))
 | .callv fv xs => match fv.ev env with
  | .fn f caps => some (f, xs.map (·.ev env) ++ caps)
  | _ => none
 | _ => none
def OutEq (h' h : Heap) : Prop := ∀ b, lim ≤ b → h' b = h b
/-- A call that leaves all blocks as they are; pure: whatever the blocks are. -/
def DCall (P : Program) (f : FuncId) (args : List AV) (h : Heap) (pure : Bool) (r : AV) : Prop :=
 ∀ h1, (pure = false → OutEq h1 h) → ACall P f args h1 fun r' h' => r' = r ∧ OutEq h' h1
def looks (o : GOp) : List Nat := aTmps o.op ++ (match o.g with | some (g, _) => [g] | none => [])
def appw (w : Option (Nat × HB)) (h : Heap) : Heap := match w with
 | some (b, x) => upd h b x
 | none => h
def blkOut (x : HB) : Bool := match x.live with
 | some blk => blk.elems.all outOnlys
 | none => true
def outW (w : Option (Nat × HB)) : Bool := match w with
 | some (b, x) => decide (b < lim) || blkOut x
 | none => true
def appws : List (Nat × HB) → Heap → Heap
 | [], h => h
 | (b, x) :: l, h => appws l (upd h b x)
def outWs (ws : List (Nat × HB)) : Bool := ws.all fun p => decide (p.1 < lim) || blkOut p.2
/-- A new block's value, under another name. -/
def renV (b v B u : Nat) : AV → Option AV
 | .ptr c w i o => if c = b ∧ w = v then some (.ptr B u i o) else none
 | .sl c w i n m => if c = b ∧ w = v then some (.sl B u i n m) else none
 | _ => none
/-- How a new block is seen: under its own name; under a name that is handed on; as data. -/
inductive Alt where
 | plain
 | named (B u : Nat)
 | frozen (xs : List (List D))
def altOf (a : Alt) (dst : Option Nat) (h : Heap) (e : Eff) : Option (AV × List (Nat × HB) × List Nat) := match a with
 | .plain => some (e.v, e.w.toList, e.rd)
 | .named B u => match dst, e.w with
  | some d, some (b, ⟨v, some blk⟩) => if d = b ∧ b < lim ∧ lim ≤ B ∧ (h B).live.isNone = true ∧ (h B).ver < u then (renV b v B u e.v).map fun x => (x, [(b, ⟨v, none⟩), (B, ⟨u, some blk⟩)], B :: e.rd) else none
  | _, _ => none
 | .frozen xs => match dst, e.w, e.v with
  | some d, some (b, ⟨v, some blk⟩), .sl b' v' 0 n _ => if True ∧ b < lim ∧ b' = b ∧ v' = v ∧ n = xs.length ∧ blk.elems = dl xs then some (.d (.slice xs), [(b, ⟨v, none⟩)], e.rd) else none
  | _, _, _ => none
/-- A call in a drawn order: what it hands back and writes, whatever else there is. -/
def NC (P : Program) (f : FuncId) (args : List AV) (h : Heap) (pure : Bool) (r : AV) (ws : List (Nat × HB)) : Prop :=
 (∀ p ∈ ws, lim ≤ p.1) ∧ ∀ h1, (pure = false → OutEq h1 h) → (∀ p ∈ ws, h1 p.1 = h p.1) → ACall P f args h1 fun r' h' => r' = r ∧ OutEq h' (appws ws h1)
/-- One operation. -/
def Step (P : Program) (o : GOp) (s s' : St) (fp : Fp) : Prop :=
 (guardVal o s.env = some false ∧ s' = ⟨updo s.env o.dst (.tup []), s.h⟩ ∧ fp = ⟨[], [], false⟩) ∨
 (guardVal o s.env = some true ∧ ((∃ e alt v ws rd, exec o.op (o.dst.getD 0) s.env s.h = some e ∧ altOf alt o.dst s.h e = some (v, ws, rd) ∧ outWs ws = true ∧ s' = ⟨updo s.env o.dst v, appws ws s.h⟩ ∧ fp = ⟨rd, ws.map (·.1), false⟩) ∨
  ∃ f args pu r ws, calleeOf o.op s.env = some (f, args) ∧ NC P f args s.h pu r ws ∧ s' = ⟨updo s.env o.dst r, appws ws s.h⟩ ∧ fp = ⟨ws.map (·.1), ws.map (·.1), !pu⟩))
theorem guard_congr {o : GOp} {env env' : Env} (h : ∀ t ∈ looks o, env' t = env t) : guardVal o env' = guardVal o env := by
 unfold guardVal
 cases hg : o.g with
 | none => rfl
 | some p =>
  obtain ⟨g, want⟩ := p
  simp only [h g (by simp [looks, hg])]
theorem callee_congr {op : AOp} {env env' : Env} (h : ∀ t ∈ aTmps op, env' t = env t) : calleeOf op env' = calleeOf op env := by
 cases op with
 | call f xs => simp only [calleeOf, evs_congr (xs := xs) h]
 | callv f xs =>
  simp only [aTmps, List.mem_append] at h
  simp only [calleeOf, ev_congr (x := f) fun t ht => h t (.inl ht), evs_congr (xs := xs) fun t ht => h t (.inr ht)]
 | _ => rfl
section
variable {P : Program}
theorem exec_wr {op : AOp} {dst : Nat} {env : Env} {h : Heap} {e : Eff} (hx : exec op dst env h = some e) {b : Nat} {x : HB} (hw : e.w = some (b, x)) : b ∈ e.rd ∧ (b < lim → ∀ c, (x.ver : Nat) = c → True) := by
  refine ⟨?_, fun _ _ _ => trivial⟩
  cases op with
  | alloc zs => simp only [exec, Option.some.injEq] at hx; subst hx; simp at hw; simp [hw.1]
  | box k x =>
    simp only [exec] at hx
    split at hx
    · simp only [Option.some.injEq] at hx; subst hx; simp at hw; simp [hw.1]
    · cases hx
  | lit k len zs ps =>
    simp only [exec] at hx
    split at hx
    · simp only [Option.some.injEq] at hx; subst hx; simp at hw; simp [hw.1]
    · cases hx
  | make k b zs l c =>
    simp only [exec] at hx
    split at hx
    · split at hx
      · simp only [Option.some.injEq] at hx; subst hx; simp at hw; simp [hw.1]
      · cases hx
    · cases hx
  | store k a x =>
    simp only [exec] at hx
    split at hx
    · simp only [Option.bind_eq_some_iff] at hx
      obtain ⟨blk, _, y, _, hx⟩ := hx
      split at hx
      · simp only [Option.some.injEq] at hx; subst hx; simp at hw; simp [hw.1]
      · cases hx
    · cases hx
  | app k bytes s x =>
    simp only [exec, Option.bind_eq_some_iff] at hx
    obtain ⟨src, _, hx⟩ := hx
    split at hx
    · cases hx
    · split at hx
      · split at hx
        · simp only [Option.some.injEq] at hx; subst hx; simp at hw; simp [hw.1]
        · cases hx
      · split at hx
        · simp only [Option.some.injEq] at hx; subst hx; simp at hw; simp [hw.1]
        · cases hx
      · simp only [Option.bind_eq_some_iff] at hx
        obtain ⟨blk, _, hx⟩ := hx
        split at hx
        · split at hx
          · simp only [Option.some.injEq] at hx; subst hx; simp at hw; simp [hw.1]
          · simp only [Option.some.injEq] at hx; subst hx; simp at hw; simp [hw.1]
        · cases hx
      · cases hx
  | copy k d s =>
    simp only [exec, Option.bind_eq_some_iff] at hx
    obtain ⟨src, _, hx⟩ := hx
    split at hx
    · simp only [Option.bind_eq_some_iff] at hx
      obtain ⟨blk, _, hx⟩ := hx
      split at hx
      · simp only [Option.some.injEq] at hx; subst hx; simp at hw; simp [hw.1]
      · cases hx
    · cases hx
  | clear k zs s =>
    simp only [exec] at hx
    split at hx
    · simp only [Option.bind_eq_some_iff] at hx
      obtain ⟨blk, _, hx⟩ := hx
      split at hx
      · simp only [Option.some.injEq] at hx; subst hx; simp at hw; simp [hw.1]
      · cases hx
    · cases hx
  | capn x => simp only [exec] at hx; split at hx <;> first | (simp only [Option.some.injEq] at hx; subst hx; cases hw; done) | cases hx
  | appz k b zs s n =>
    simp only [exec] at hx
    split at hx
    · split at hx
      · simp only [Option.some.injEq] at hx; subst hx; simp at hw; simp [hw.1]
      · cases hx
    · cases hx
  | mov x => simp only [exec, Option.some.injEq] at hx; subst hx; cases hw
  | func f cs => simp only [exec, Option.some.injEq] at hx; subst hx; cases hw
  | pick c a b => simp only [exec] at hx; split at hx <;> first | (simp only [Option.some.injEq] at hx; subst hx; cases hw; done) | cases hx
  | build zs ps => simp only [exec, Option.bind_eq_some_iff] at hx; obtain ⟨_, _, hx⟩ := hx; simp only [Option.some.injEq] at hx; subst hx; cases hw
  | load ag a =>
    simp only [exec] at hx
    split at hx
    · simp only [Option.bind_eq_some_iff] at hx
      obtain ⟨blk, _, y, _, hx⟩ := hx
      cases ag with
      | none => simp only [Option.bind_eq_some_iff] at hx; obtain ⟨v, _, hx⟩ := hx; simp at hx; subst hx; cases hw
      | some n => simp only at hx; split at hx <;> first | (simp at hx; subst hx; cases hw; done) | cases hx
    · cases ag with
      | none => simp only [Option.bind_eq_some_iff] at hx; obtain ⟨v, _, hx⟩ := hx; simp at hx; subst hx; cases hw
      | some n => simp only at hx; split at hx <;> first | (simp at hx; subst hx; cases hw; done) | cases hx
    · cases hx
  | chk x => simp only [exec] at hx; repeat' split at hx
             all_goals first | (cases hx; done) | (simp at hx; subst hx; cases hw)
  | bin op x y => simp only [exec, Option.bind_eq_some_iff] at hx; obtain ⟨_, _, hx⟩ := hx; simp only [Option.some.injEq] at hx; subst hx; cases hw
  | eqb n x y => simp only [exec] at hx; split at hx <;> first | (simp only [Option.some.injEq] at hx; subst hx; cases hw; done) | cases hx
  | eqn n x y =>
    simp only [exec] at hx
    split at hx
    · split at hx
      · simp only [Option.bind_eq_some_iff] at hx
        obtain ⟨_, _, hx⟩ := hx
        split at hx
        · simp at hx; subst hx; cases hw
        · cases hx
      · simp only [Option.bind_eq_some_iff] at hx; obtain ⟨_, _, hx⟩ := hx; simp at hx; subst hx; cases hw
    · cases hx
  | eqs n ks x y =>
    simp only [exec] at hx
    split at hx
    · simp only [Option.bind_eq_some_iff] at hx; obtain ⟨_, _, hx⟩ := hx; simp at hx; subst hx; cases hw
    · cases hx
  | not x => simp only [exec] at hx; split at hx <;> first | (simp only [Option.some.injEq] at hx; subst hx; cases hw; done) | cases hx
  | conv k x => simp only [exec] at hx; split at hx <;> first | (simp only [Option.some.injEq] at hx; subst hx; cases hw; done) | cases hx
  | slice k x lo hi mx =>
    cases k with
    | zero =>
      simp only [exec] at hx
      split at hx
      · split at hx
        · cases hx
        · simp only [Option.bind_eq_some_iff] at hx; obtain ⟨_, _, _, _, hx⟩ := hx; simp at hx; subst hx; cases hw
      · cases hx
    | succ k =>
      simp only [exec] at hx
      split at hx
      · simp only [Option.bind_eq_some_iff] at hx
        obtain ⟨_, _, _, _, hx⟩ := hx
        split at hx <;> first | (simp at hx; subst hx; cases hw; done) | cases hx
      · simp only [Option.bind_eq_some_iff] at hx; obtain ⟨_, _, _, _, _, _, hx⟩ := hx; simp at hx; subst hx; cases hw
      · simp only [Option.bind_eq_some_iff] at hx; obtain ⟨_, _, _, _, hx⟩ := hx; simp at hx; subst hx; cases hw
      · simp only [Option.bind_eq_some_iff] at hx; obtain ⟨_, _, _, _, _, _, hx⟩ := hx; simp at hx; subst hx; cases hw
      · simp only [Option.bind_eq_some_iff] at hx
        obtain ⟨blk, _, hx⟩ := hx
        split at hx
        · simp only [Option.bind_eq_some_iff] at hx; obtain ⟨_, _, _, _, hx⟩ := hx; simp at hx; subst hx; cases hw
        · cases hx
      · simp only [Option.bind_eq_some_iff] at hx
        obtain ⟨blk, _, hx⟩ := hx
        split at hx
        · simp only [Option.bind_eq_some_iff] at hx; obtain ⟨_, _, _, _, _, _, hx⟩ := hx; simp at hx; subst hx; cases hw
        · cases hx
      · cases hx
  | addr o x => simp only [exec] at hx; repeat' split at hx
                all_goals first | (cases hx; done) | (simp at hx; subst hx; cases hw)
  | idx k x i =>
    simp only [exec] at hx
    split at hx
    · split at hx
      · simp only [Option.bind_eq_some_iff] at hx
        obtain ⟨_, _, hx⟩ := hx
        split at hx <;> first | (simp at hx; subst hx; cases hw; done) | cases hx
      · cases hx
    · simp only [Option.bind_eq_some_iff] at hx
      obtain ⟨_, _, hx⟩ := hx
      split at hx <;> first | (simp at hx; subst hx; cases hw; done) | cases hx
    · cases hx
  | sidx x i =>
    simp only [exec] at hx
    split at hx
    · split at hx
      · simp only [Option.bind_eq_some_iff] at hx; obtain ⟨_, _, hx⟩ := hx; simp at hx; subst hx; cases hw
      · cases hx
    · cases hx
  | ext x i =>
    simp only [exec] at hx
    split at hx
    · simp only [Option.bind_eq_some_iff] at hx; obtain ⟨_, _, hx⟩ := hx; simp at hx; subst hx; cases hw
    · cases hx
  | len st x => simp only [exec] at hx; repeat' split at hx
                all_goals first | (cases hx; done) | (simp at hx; subst hx; cases hw)
  | mm mx xs => simp only [exec, Option.bind_eq_some_iff] at hx; obtain ⟨_, _, hx⟩ := hx; simp only [Option.some.injEq] at hx; subst hx; cases hw
  | call f xs => simp [exec] at hx
  | callv f xs => simp [exec] at hx
  | bad => simp [exec] at hx
theorem appws_ne : ∀ (ws : List (Nat × HB)) (h : Heap) (b : Nat), b ∉ ws.map (·.1) → appws ws h b = h b
 | [], h, b, _ => rfl
 | (c, x) :: l, h, b, hb => by
  simp only [List.map_cons, List.mem_cons, not_or] at hb
  simp only [appws]
  rw [appws_ne l _ b hb.2, upd_ne _ _ _ _ hb.1]
theorem appws_in : ∀ (ws : List (Nat × HB)) (h h' : Heap) (b : Nat), b ∈ ws.map (·.1) → appws ws h b = appws ws h' b
 | [], h, h', b, hb => by simp at hb
 | (c, x) :: l, h, h', b, hb => by
  simp only [appws]
  by_cases hl : b ∈ l.map (·.1)
  ·exact appws_in l _ _ b hl
  ·rw [appws_ne l _ b hl, appws_ne l _ b hl]
   simp only [List.map_cons, List.mem_cons] at hb
   have hc : b = c := hb.resolve_right hl
   subst hc
   rw [upd_same, upd_same]
theorem appws_comm (u v : List (Nat × HB)) (h : Heap) (hne : ∀ b, b ∈ u.map (·.1) → b ∉ v.map (·.1)) : appws u (appws v h) = appws v (appws u h) := by
 funext b
 by_cases h1 : b ∈ u.map (·.1)
 ·rw [appws_ne v _ b (hne b h1)]
  exact appws_in u _ _ b h1
 ·rw [appws_ne u _ b h1]
  by_cases h2 : b ∈ v.map (·.1)
  ·exact appws_in v _ _ b h2
  ·rw [appws_ne v _ b h2, appws_ne v _ b h2, appws_ne u _ b h1]
theorem altOf_rd {alt : Alt} {dst : Option Nat} {h : Heap} {e : Eff} {v : AV} {ws : List (Nat × HB)} {rd : List Nat} (h1 : altOf alt dst h e = some (v, ws, rd)) (hw : ∀ b x, e.w = some (b, x) → b ∈ e.rd) :
  (∀ b ∈ ws.map (·.1), b ∈ rd) ∧ (∀ b ∈ e.rd, b ∈ rd) ∧ ∀ h' : Heap, (∀ b ∈ rd, h' b = h b) → altOf alt dst h' e = some (v, ws, rd) := by
 cases alt with
 | plain =>
  simp only [altOf, Option.some.injEq, Prod.mk.injEq] at h1
  obtain ⟨rfl, rfl, rfl⟩ := h1
  refine ⟨fun b hb => ?_, fun b hb => hb, fun h' _ => rfl⟩
  cases hx : e.w with
  | none => simp [hx] at hb
  | some p =>
   obtain ⟨c, x⟩ := p
   simp [hx] at hb
   subst hb
   exact hw _ _ hx
 | named B u =>
  unfold altOf at h1
  simp only at h1
  split at h1
  ·rename_i d b v' blk hdst hx
   split at h1
   ·rename_i hc
    simp only [Option.map_eq_some_iff] at h1
    obtain ⟨x, hr, h1⟩ := h1
    simp only [Prod.mk.injEq] at h1
    obtain ⟨rfl, rfl, rfl⟩ := h1
    refine ⟨fun c hc' => ?_, fun c hc' => List.mem_cons_of_mem _ hc', fun h' hh => ?_⟩
    ·simp only [List.map_cons, List.map_nil, List.mem_cons, List.not_mem_nil, or_false] at hc'
     rcases hc' with rfl | rfl
     ·exact List.mem_cons_of_mem _ (hw _ _ hx)
     ·exact List.mem_cons_self ..
    ·unfold altOf
     simp only [hx]
     have := hh B (List.mem_cons_self ..)
     rw [this, if_pos hc, hr]
     rfl
   ·cases h1
  ·cases h1
 | frozen xs =>
  unfold altOf at h1
  simp only at h1
  split at h1
  ·rename_i d b v' blk b' v'' n cap hdst hx hv
   split at h1
   ·rename_i hc
    simp only [Option.some.injEq, Prod.mk.injEq] at h1
    obtain ⟨rfl, rfl, rfl⟩ := h1
    refine ⟨fun c hc' => ?_, fun c hc' => hc', fun h' hh => ?_⟩
    ·simp only [List.map_cons, List.map_nil, List.mem_cons, List.not_mem_nil, or_false] at hc'
     subst hc'
     exact hw _ _ hx
    ·unfold altOf
     simp only [hx, hv]
     rw [if_pos hc]
   ·cases h1
  ·cases h1
theorem step_local {o : GOp} {s s1 : St} {f : Fp} (hs : Step P o s s1 f) :
  ∃ v ws, s1 = ⟨updo s.env o.dst v, appws ws s.h⟩ ∧ f.wr = ws.map (·.1) ∧ (∀ b ∈ f.wr, b ∈ f.rd) ∧
   ∀ s' : St, (∀ t ∈ looks o, s'.env t = s.env t) → (∀ b ∈ f.rd, s'.h b = s.h b) → (f.outs = true → ∀ b, lim ≤ b → s'.h b = s.h b) →
    Step P o s' ⟨updo s'.env o.dst v, appws ws s'.h⟩ f := by
 rcases hs with ⟨h1, rfl, rfl⟩ | ⟨h1, ⟨e, alt, v, ws, rd, h2, halt, hout, rfl, rfl⟩ | ⟨g, args, pu, r, ws, h2, h3, rfl, rfl⟩⟩
 ·refine ⟨.tup [], [], rfl, rfl, by simp, fun s' he _ _ => .inl ⟨by rw [guard_congr he]; exact h1, rfl, rfl⟩⟩
 ·obtain ⟨a1, a2, a3⟩ := altOf_rd halt (fun b x hx => (exec_wr h2 hx).1)
  refine ⟨v, ws, rfl, rfl, a1, fun s' he hh _ => .inr ⟨by rw [guard_congr he]; exact h1, .inl ⟨e, alt, v, ws, rd, ?_, a3 _ hh, hout, rfl, rfl⟩⟩⟩
  rw [exec_env (fun t ht => he t (List.mem_append_left _ ht))]
  exact exec_heap h2 fun b hb => hh b (a2 b hb)
 ·refine ⟨r, ws, rfl, rfl, fun b hb => hb, fun s' he hh ho => .inr ⟨by rw [guard_congr he]; exact h1, .inr ⟨g, args, pu, r, ws, ?_, ⟨h3.1, ?_⟩, rfl, rfl⟩⟩⟩
  ·rw [callee_congr (fun t ht => he t (List.mem_append_left _ ht))]; exact h2
  ·intro h1 hh1 hh2
   refine h3.2 h1 (fun hp => fun b hb => by rw [hh1 hp b hb, ho (by simp [hp]) b hb]) fun p hp => ?_
   rw [hh2 p hp]
   exact hh p.1 (List.mem_map.2 ⟨p, hp, rfl⟩)
/-- Temporaries of two operations are apart. -/
def gapart (x y : GOp) : Bool :=
 (match x.dst with | some d => !(looks y).contains d && y.dst != some d | none => true) && (match y.dst with | some d => !(looks x).contains d | none => true)
theorem updo_comm {α : Type} (f : Nat → α) (a b : Option Nat) (u v : α) (h : ∀ d, a = some d → b ≠ some d) : updo (updo f a u) b v = updo (updo f b v) a u := by
 cases a with
 | none => rfl
 | some d =>
  cases b with
  | none => rfl
  | some e =>
   have hne : d ≠ e := fun he => h d rfl (by rw [he])
   funext t
   simp only [updo, upd]
   by_cases h1 : t = e <;> by_cases h2 : t = d <;> simp [h1, h2]
   ·omega
   ·omega
   ·intro h3; omega
theorem updo_ne {α : Type} (f : Nat → α) (a : Option Nat) (v : α) (t : Nat) (h : ∀ d, a = some d → d ≠ t) : updo f a v t = f t := by
 cases a with
 | none => rfl
 | some d => exact upd_ne f d t v (fun e => h d rfl e.symm)
theorem step_swap {x y : GOp} {s s1 s2 : St} {f g : Fp} (hx : Step P x s s1 f) (hy : Step P y s1 s2 g) (ha : gapart x y = true) (hn : nonc f g = true) :
  ∃ s1', Step P y s s1' g ∧ Step P x s1' s2 f := by
 obtain ⟨v, w, rfl, hw, hwr, hrx⟩ := step_local hx
 obtain ⟨v', w', rfl, hw', hwr', hry⟩ := step_local hy
 simp only [gapart, Bool.and_eq_true] at ha
 obtain ⟨a1, a2⟩ := ha
 have d1 : ∀ d, x.dst = some d → d ∉ looks y ∧ y.dst ≠ some d := by
  intro d hd
  simp only [hd, Bool.and_eq_true, Bool.not_eq_true', bne_iff_ne, ne_eq] at a1
  exact ⟨by simpa using a1.1, a1.2⟩
 have d2 : ∀ d, y.dst = some d → d ∉ looks x := by
  intro d hd
  simp only [hd, Bool.not_eq_true'] at a2
  simpa using a2
 simp only [nonc, nonc1, Bool.and_eq_true, List.all_eq_true, Bool.not_eq_true', Bool.or_eq_true, decide_eq_true_eq] at hn
 obtain ⟨n1, n2⟩ := hn
 have e1 : ∀ b ∈ f.wr, b ∉ g.rd ∧ (g.outs = true → b < lim) := by
  intro b hb
  have := n1 b hb
  exact ⟨by simpa using this.1, fun ho => this.2.resolve_left (by simp [ho])⟩
 have e2 : ∀ b ∈ g.wr, b ∉ f.rd ∧ (f.outs = true → b < lim) := by
  intro b hb
  have := n2 b hb
  exact ⟨by simpa using this.1, fun ho => this.2.resolve_left (by simp [ho])⟩
 have hy' := hry s (fun t ht => (updo_ne _ _ _ _ fun d hd e => (d1 d hd).1 (e ▸ ht)).symm) (fun b hb => (appws_ne _ _ _ fun hc => (e1 b (by rw [hw]; exact hc)).1 hb).symm)
  (fun ho b hb => (appws_ne _ _ _ fun hc => by have := (e1 b (by rw [hw]; exact hc)).2 ho; omega).symm)
 refine ⟨_, hy', ?_⟩
 have hx' := hrx ⟨updo s.env y.dst v', appws w' s.h⟩ (fun t ht => updo_ne _ _ _ _ fun d hd e => d2 d hd (e ▸ ht)) (fun b hb => appws_ne _ _ _ fun hc => (e2 b (by rw [hw']; exact hc)).1 hb)
  (fun ho b hb => appws_ne _ _ _ fun hc => by have := (e2 b (by rw [hw']; exact hc)).2 ho; omega)
 rw [updo_comm s.env x.dst y.dst v v' fun d hd => (d1 d hd).2, appws_comm w' w s.h fun b hb hb' => (e2 b (by rw [hw']; exact hb)).1 (hwr b (by rw [hw]; exact hb'))]
 exact hx'
/-- A run of operations, with their traces. -/
inductive Ops (P : Program) : List GOp → St → St → List Fp → Prop
 | nil (s) : Ops P [] s s []
 | cons {o ops s s1 s2 f fs} (h : Step P o s s1 f) (hr : Ops P ops s1 s2 fs) : Ops P (o :: ops) s s2 (f :: fs)
/-- The operation behind some others that it doesn't meet may come ahead of them. -/
theorem ops_front {y : GOp} : ∀ (p : List GOp) {q : List GOp} {s s2 : St} {fs : List Fp} {g : Fp} {gs : List Fp}, fs.length = p.length → Ops P (p ++ y :: q) s s2 (fs ++ g :: gs) →
  (∀ (i : Nat) x f, p[i]? = some x → fs[i]? = some f → gapart x y = true ∧ nonc f g = true) → ∃ s1, Step P y s s1 g ∧ Ops P (p ++ q) s1 s2 (fs ++ gs) := by
 intro p
 induction p with
 | nil =>
  intro q s s2 fs g gs hl ho _
  have : fs = [] := List.eq_nil_of_length_eq_zero (by simpa using hl)
  subst this
  cases ho with | cons h hr => exact ⟨_, h, hr⟩
 | cons x p ih =>
  intro q s s2 fs g gs hl ho hh
  cases fs with
  | nil => simp at hl
  | cons f fs =>
   cases ho with
   | cons h hr =>
    obtain ⟨s1, h1, h2⟩ := ih (by simpa using hl) hr (fun i x f hx hf => hh (i + 1) x f (by simpa using hx) (by simpa using hf))
    obtain ⟨a1, a2⟩ := hh 0 x f rfl rfl
    obtain ⟨s1', k1, k2⟩ := step_swap h h1 a1 a2
    exact ⟨s1', k1, .cons k2 h2⟩
end
/-- 0: no memory; 1: reads; 2: writes, or calls. -/
def kindA : AOp → Nat
 | .alloc _ | .box .. | .lit .. | .store .. | .make .. | .app .. | .appz .. | .copy .. | .clear .. | .call .. | .callv .. => 2
 | .load .. | .chk _ | .addr .. | .idx .. | .len .. | .slice .. | .eqn .. => 1
 | _ => 0
/-- Which pairs of operations, not ordered by the program, have to be looked at when they run. -/
def unordered (ops : Array Oper) (gs : List GOp) : Option (List (Nat × Nat)) :=
 let l := ops.toList
 let B := Region.before ops
 let free := (pairs l.length).filter fun p => !(B.getD p.2 0).testBit p.1
 if befOK l B && free.all (fun p => match gs[p.1]?, gs[p.2]? with | some x, some y => gapart x y | _, _ => true) then
  some (free.filter fun p => match gs[p.1]?, gs[p.2]? with
   | some x, some y => 0 < kindA x.op && 0 < kindA y.op && 2 < kindA x.op + kindA y.op
   | _, _ => false)
 else none
def comp (P : Program) (N : Nat) : Code → ACode
 | .skip => .skip
 | .region _ ops false => .reg (ops.toList.map (compG P N ops))
 | .region _ ops true => match unordered ops (ops.toList.map (compG P N ops)) with
  | some un => .dreg (ops.toList.map (compG P N ops)) un
  | none => .bad
 | .seq a b => .seq (comp P N a) (comp P N b)
 | .cond c a b => .cond (arg c) (comp P N a) (comp P N b)
 | .block id c => .block id (comp P N c)
 | .loop c => .loop (comp P N c)
 | .exit id => .exit id
 | .ret => .ret
 | _ => .bad
theorem exec_kind0 {op : AOp} {dst : Nat} {env : Env} {h : Heap} {e : Eff} (hx : exec op dst env h = some e) (hk : kindA op = 0) : e.rd = [] ∧ e.w = none := by
 cases op <;> (try (simp [kindA] at hk; done)) <;> clear hk
 case mov x => simp only [exec, Option.some.injEq] at hx; subst hx; exact ⟨rfl, rfl⟩
 case func f cs => simp only [exec, Option.some.injEq] at hx; subst hx; exact ⟨rfl, rfl⟩
 case pick c a b => simp only [exec] at hx; split at hx <;> first | (simp only [Option.some.injEq] at hx; subst hx; exact ⟨rfl, rfl⟩) | cases hx
 case build zs ps => simp only [exec, Option.bind_eq_some_iff] at hx; obtain ⟨_, _, hx⟩ := hx; simp only [Option.some.injEq] at hx; subst hx; exact ⟨rfl, rfl⟩
 case bin op x y => simp only [exec, Option.bind_eq_some_iff] at hx; obtain ⟨_, _, hx⟩ := hx; simp only [Option.some.injEq] at hx; subst hx; exact ⟨rfl, rfl⟩
 case eqb n x y => simp only [exec] at hx; split at hx <;> first | (simp only [Option.some.injEq] at hx; subst hx; exact ⟨rfl, rfl⟩) | cases hx
 case eqs n ks x y =>
  simp only [exec] at hx
  split at hx
  ·simp only [Option.bind_eq_some_iff] at hx; obtain ⟨_, _, hx⟩ := hx; simp only [Option.some.injEq] at hx; subst hx; exact ⟨rfl, rfl⟩
  ·cases hx
 case not x => simp only [exec] at hx; split at hx <;> first | (simp only [Option.some.injEq] at hx; subst hx; exact ⟨rfl, rfl⟩) | cases hx
 case conv k x => simp only [exec] at hx; split at hx <;> first | (simp only [Option.some.injEq] at hx; subst hx; exact ⟨rfl, rfl⟩) | cases hx
 case sidx x i =>
  simp only [exec] at hx
  split at hx
  ·split at hx
   ·simp only [Option.bind_eq_some_iff] at hx; obtain ⟨_, _, hx⟩ := hx; simp only [Option.some.injEq] at hx; subst hx; exact ⟨rfl, rfl⟩
   ·cases hx
  ·cases hx
 case ext x i =>
  simp only [exec] at hx
  split at hx
  ·simp only [Option.bind_eq_some_iff] at hx; obtain ⟨_, _, hx⟩ := hx; simp only [Option.some.injEq] at hx; subst hx; exact ⟨rfl, rfl⟩
  ·cases hx
 case mm mx xs => simp only [exec, Option.bind_eq_some_iff] at hx; obtain ⟨_, _, hx⟩ := hx; simp only [Option.some.injEq] at hx; subst hx; exact ⟨rfl, rfl⟩
 case capn x => simp only [exec] at hx; split at hx <;> first | (simp only [Option.some.injEq] at hx; subst hx; exact ⟨rfl, rfl⟩) | cases hx
 case bad => simp [exec] at hx
theorem exec_kind1 {op : AOp} {dst : Nat} {env : Env} {h : Heap} {e : Eff} (hx : exec op dst env h = some e) (hk : kindA op = 1) : e.w = none := by
 cases op <;> (try (simp [kindA] at hk; done)) <;> clear hk
 case load ag a =>
  simp only [exec] at hx
  split at hx
  ·simp only [Option.bind_eq_some_iff] at hx
   obtain ⟨blk, _, y, _, hx⟩ := hx
   cases ag with
   | none => simp only [Option.bind_eq_some_iff] at hx; obtain ⟨v, _, hx⟩ := hx; simp at hx; subst hx; rfl
   | some n => simp only at hx; split at hx <;> first | (simp at hx; subst hx; rfl) | cases hx
  ·cases ag with
   | none => simp only [Option.bind_eq_some_iff] at hx; obtain ⟨v, _, hx⟩ := hx; simp at hx; subst hx; rfl
   | some n => simp only at hx; split at hx <;> first | (simp at hx; subst hx; rfl) | cases hx
  ·cases hx
 case eqn n x y =>
  simp only [exec] at hx
  split at hx
  ·split at hx
   ·simp only [Option.bind_eq_some_iff] at hx
    obtain ⟨_, _, hx⟩ := hx
    split at hx
    ·simp at hx; subst hx; rfl
    ·cases hx
   ·simp only [Option.bind_eq_some_iff] at hx; obtain ⟨_, _, hx⟩ := hx; simp at hx; subst hx; rfl
  ·cases hx
 case chk x =>
  simp only [exec] at hx
  repeat' split at hx
  all_goals first | (cases hx; done) | (simp at hx; subst hx; rfl)
 case slice k x lo hi mx =>
  cases k with
  | zero =>
   simp only [exec] at hx
   split at hx
   ·split at hx
    ·cases hx
    ·simp only [Option.bind_eq_some_iff] at hx; obtain ⟨_, _, _, _, hx⟩ := hx; simp at hx; subst hx; rfl
   ·cases hx
  | succ k =>
   simp only [exec] at hx
   split at hx
   ·simp only [Option.bind_eq_some_iff] at hx
    obtain ⟨_, _, _, _, hx⟩ := hx
    split at hx <;> first | (simp at hx; subst hx; rfl) | cases hx
   ·simp only [Option.bind_eq_some_iff] at hx; obtain ⟨_, _, _, _, _, _, hx⟩ := hx; simp at hx; subst hx; rfl
   ·simp only [Option.bind_eq_some_iff] at hx; obtain ⟨_, _, _, _, hx⟩ := hx; simp at hx; subst hx; rfl
   ·simp only [Option.bind_eq_some_iff] at hx; obtain ⟨_, _, _, _, _, _, hx⟩ := hx; simp at hx; subst hx; rfl
   ·simp only [Option.bind_eq_some_iff] at hx
    obtain ⟨blk, _, hx⟩ := hx
    split at hx
    ·simp only [Option.bind_eq_some_iff] at hx; obtain ⟨_, _, _, _, hx⟩ := hx; simp at hx; subst hx; rfl
    ·cases hx
   ·simp only [Option.bind_eq_some_iff] at hx
    obtain ⟨blk, _, hx⟩ := hx
    split at hx
    ·simp only [Option.bind_eq_some_iff] at hx; obtain ⟨_, _, _, _, _, _, hx⟩ := hx; simp at hx; subst hx; rfl
    ·cases hx
   ·cases hx
 case addr o x =>
  simp only [exec] at hx
  repeat' split at hx
  all_goals first | (cases hx; done) | (simp at hx; subst hx; rfl)
 case idx k x i =>
  simp only [exec] at hx
  split at hx
  ·split at hx
   ·simp only [Option.bind_eq_some_iff] at hx
    obtain ⟨_, _, hx⟩ := hx
    split at hx <;> first | (simp at hx; subst hx; rfl) | cases hx
   ·cases hx
  ·simp only [Option.bind_eq_some_iff] at hx
   obtain ⟨_, _, hx⟩ := hx
   split at hx <;> first | (simp at hx; subst hx; rfl) | cases hx
  ·cases hx
 case len st x =>
  simp only [exec] at hx
  repeat' split at hx
  all_goals first | (cases hx; done) | (simp at hx; subst hx; rfl)
end Go.Abs
/- Steps of the abstract machine are steps of the program: one operation in its frame. -/
set_option linter.unusedVariables false
set_option linter.unusedSimpArgs false
namespace Go.Abs
structure SRel (N : Nat) (w : World) (X : Nat → Prop) (ι : Nat → Bd) (s : St) (a : Act) : Prop where
 heap : HRel w X ι s.h
 env : EnvOK w (Forb X (place s.h ι)) (place s.h ι) s.env a
 size : a.tmps.size = N
 defers : a.defers = []
 out : OutOK s.h
section
variable {P : Program} {N : Nat} {X : Nat → Prop} {ι : Nat → Bd} {w : World} {s : St} {a : Act}
theorem EnvOK.put {w' : World} {ι' : Nat → Bd} {h' : Heap} {v : AV} {r : Value} {dst : Option Nat} (he : EnvOK w (Forb X (place s.h ι)) (place s.h ι) s.env a) (hev : Evo w (place s.h ι) w' (place h' ι'))
  (hv : VR w' (Forb X (place h' ι')) (place h' ι') v r) (hd : ∀ d, dst = some d → d < a.tmps.size ∨ v = .undef ∨ v = .tup []) : EnvOK w' (Forb X (place h' ι')) (place h' ι') (updo s.env dst v) (a.put dst r) := by
 intro t
 cases dst with
 | none => exact (he t).evo hev
 | some d =>
  simp only [Act.put, updo]
  by_cases ht : t = d
  ·subst ht
   rw [upd_same]
   rcases hd t rfl with hlt | rfl | rfl
   ·simp only [Array.getD_eq_getD_getElem?, Array.getElem?_setIfInBounds_self_of_lt hlt, Option.getD_some]
    exact hv
   ·exact .undef _
   ·rcases Nat.lt_or_ge t a.tmps.size with hlt | hge
    ·simp only [Array.getD_eq_getD_getElem?, Array.getElem?_setIfInBounds_self_of_lt hlt, Option.getD_some]
     exact hv
    ·have : (a.tmps.setIfInBounds t r)[t]? = none := by simp [hge]
     simp only [Array.getD_eq_getD_getElem?, this, Option.getD_none]
     exact .tup [] #[] rfl (fun j c v h => by simp at h)
  ·rw [upd_ne _ _ _ _ ht]
   simp only [Array.getD_eq_getD_getElem?, Array.getElem?_setIfInBounds_ne (fun e => ht e.symm)]
   have := (he t).evo hev
   simpa [Array.getD_eq_getD_getElem?] using this
theorem OutOK.appw {h : Heap} (ho : OutOK h) {ww : Option (Nat × HB)} (hw : outW ww = true) : OutOK (appw ww h) := by
 cases ww with
 | none => exact ho
 | some p =>
  obtain ⟨b, x⟩ := p
  intro c blk hc hl y hy z hz
  simp only [Go.Abs.appw] at hl
  by_cases hcb : c = b
  ·subst hcb
   rw [upd_same] at hl
   simp only [outW, Bool.or_eq_true, decide_eq_true_eq] at hw
   rcases hw with hw | hw
   ·omega
   ·simp only [blkOut, hl] at hw
    exact outOnlys_mem (List.all_eq_true.1 hw y hy) z hz
  ·rw [upd_ne _ _ _ _ hcb] at hl
   exact ho c blk hc hl y hy z hz
theorem put_defers' (a : Act) (dst : Option Nat) (v : Value) : (a.put dst v).defers = a.defers := by cases dst <;> rfl
theorem put_size (a : Act) (dst : Option Nat) (v : Value) : (a.put dst v).tmps.size = a.tmps.size := by cases dst <;> simp [Act.put]
theorem compG_cases (ops : Array Oper) (o : Oper) : (compG P N ops o = { dst := o.dst, g := none, op := .bad }) ∨
  ((∀ j want, o.guard = some (j, want) → ∃ oj d, ops[j]? = some oj ∧ oj.dst = some d) ∧ (∀ d, o.dst = some d → d < N) ∧
   compG P N ops o = { dst := o.dst, g := o.guard.map fun p => ((((ops[p.1]?).bind (·.dst)).getD 0), p.2), op := compOp P o }) := by
 unfold compG
 by_cases hok : gOK N ops o = true
 ·right
  rw [if_pos hok]
  simp only [gOK, Bool.and_eq_true] at hok
  refine ⟨fun j want hg => ?_, fun d hd => ?_, rfl⟩
  ·simp only [hg] at hok
   obtain ⟨d, hd⟩ := Option.isSome_iff_exists.1 hok.1
   simp only [Option.bind_eq_some_iff] at hd
   obtain ⟨oj, h1, h2⟩ := hd
   exact ⟨oj, d, h1, h2⟩
  ·simp only [hd] at hok
   simpa using hok.2
 ·left
  rw [if_neg hok]
theorem wanted_of {ops : Array Oper} {o : Oper} {b : Bool} (he : EnvOK w (Forb X (place s.h ι)) (place s.h ι) s.env a) (hg : guardVal (compG P N ops o) s.env = some b) (hb : (compG P N ops o).op ≠ .bad ∨ b = false) :
  Region.wanted o (yielded ops a.tmps) = b := by
 rcases compG_cases (P := P) (N := N) ops o with hc | ⟨h1, _, hc⟩
 ·rw [hc] at hg hb
  simp [guardVal] at hg
  subst hg
  simp at hb
 ·rw [hc] at hg
  unfold Region.wanted
  cases hgd : o.guard with
  | none => simp [guardVal, hgd] at hg; exact hg.symm
  | some p =>
   obtain ⟨j, want⟩ := p
   obtain ⟨oj, d, h2, h3⟩ := h1 j want hgd
   simp only [guardVal, hgd, Option.map_some, h2, Option.bind_some, h3, Option.getD_some] at hg
   have hv := he d
   split at hg
   ·rename_i c hc'
    rw [hc'] at hv
    have hv := hv.bool_inv
    have : a.tmps[d]? = some (.bool c) := by
     cases ht : a.tmps[d]? with
     | none => simp [Array.getD_eq_getD_getElem?, ht, undef] at hv
     | some u => simp [Array.getD_eq_getD_getElem?, ht] at hv; rw [hv]
    simp only [yielded, h2, Option.bind_some, h3, this]
    simp at hg
    rw [← hg]
    cases c <;> cases want <;> rfl
   ·rename_i cs hc'
    rw [hc'] at hv
    simp only [Option.some.injEq] at hg
    subst hg
    cases ht : a.tmps[d]? with
    | none => simp [yielded, h2, h3, ht]
    | some u =>
     simp [Array.getD_eq_getD_getElem?, ht] at hv
     cases hv with
     | tup _ vs _ _ => simp [yielded, h2, h3, ht]
   ·cases hg
theorem callee_inv {o : Oper} {env : Env} {f : FuncId} {args : List AV} (hc : calleeOf (compOp P o) env = some (f, args)) :
  ∃ (x : Operand) (ys : Array Operand) (ts : Array TypeId), o.op = .call { callee := .value x, args := ys, argTypes := ts } ∧
   ((x = .func f ∧ args = ys.toList.map fun y => (arg y).ev env) ∨ ∃ caps, (arg x).ev env = .fn f caps ∧ args = (ys.toList.map fun y => (arg y).ev env) ++ caps) := by
 have bad : calleeOf AOp.bad env = some (f, args) → False := by intro h; simp [calleeOf] at h
 unfold compOp at hc
 split at hc <;> (try (simp [calleeOf] at hc; done))
 case h_4 => split at hc <;> simp [calleeOf] at hc
 case h_5 => split at hc <;> simp [calleeOf] at hc
 case h_6 => split at hc <;> (try split at hc) <;> simp [calleeOf] at hc
 case h_7 => split at hc <;> (try split at hc) <;> (try split at hc) <;> simp [calleeOf] at hc
 case h_8 => split at hc <;> simp [calleeOf] at hc
 case h_9 => split at hc <;> simp [calleeOf] at hc
 case h_11 =>
  unfold compBin at hc
  split at hc <;> (try split at hc) <;> (try split at hc) <;> (try split at hc) <;> simp [calleeOf] at hc
 case h_13 => split at hc <;> simp [calleeOf] at hc
 case h_14 => split at hc <;> simp [calleeOf] at hc
 case h_15 => split at hc <;> (try split at hc) <;> simp [calleeOf] at hc
 case h_16 => split at hc <;> (try split at hc) <;> simp [calleeOf] at hc
 case h_17 => split at hc <;> (try split at hc) <;> (try split at hc) <;> simp [calleeOf] at hc
 case h_18 => split at hc <;> (try split at hc) <;> simp [calleeOf] at hc
 case h_19 => split at hc <;> simp [calleeOf] at hc
 case h_21 c hop =>
  obtain ⟨callee, ys, ts⟩ := c
  unfold compCall at hc
  cases callee with
  | value x =>
   refine ⟨x, ys, ts, hop, ?_⟩
   cases x with
   | func g =>
    simp only at hc
    split at hc
    ·simp only [calleeOf, List.map_map, Option.some.injEq, Prod.mk.injEq] at hc
     obtain ⟨rfl, rfl⟩ := hc
     exact .inl ⟨rfl, rfl⟩
    ·exact (bad hc).elim
   | _ =>
    all_goals
     simp only [calleeOf] at hc
     split at hc
     ·rename_i g caps hv
      simp only [List.map_map, Option.some.injEq, Prod.mk.injEq] at hc
      obtain ⟨rfl, rfl⟩ := hc
      exact .inr ⟨caps, hv, rfl⟩
     ·cases hc
  | invoke r m => exact (bad hc).elim
  | builtin b =>
   exfalso
   simp only at hc
   split at hc <;> (try split at hc) <;> (try split at hc) <;> simp [calleeOf] at hc
theorem run_callFunc {f : FuncId} {vs : Array Value} (hn : noExt P f = true) : (callFunc f vs).run P w = .ok (.enter f vs) w := by
 unfold noExt at hn
 split at hn
 ·rename_i fn hf
  simp only [Bool.and_eq_true, bne_iff_ne, ne_eq] at hn
  have h1 : ¬ (fn.body = none) := by intro hb; simp [hb] at hn
  simp [callFunc, Sem.run_bind, run_program, hf, h1, hn.2]
 ·cases hn
theorem run_call_enter {o : Oper} {x : Operand} {ys : Array Operand} {ts : Array TypeId} {f : FuncId} {caps : Array Value} (hop : o.op = .call { callee := .value x, args := ys, argTypes := ts }) (hx : a.eval x = .func (.func f) #[] caps) (hn : noExt P f = true) :
  (execOp a.eval o).run P w = .ok (.enter f (ys.map a.eval ++ caps)) w := by
 simp only [execOp, hop, resolve, hx, Deferred.ofValue, invoke, Sem.run_bind, Sem.run_pure, Result.andThen_ok]
 rw [run_callFunc hn]
 simp
theorem OutOK.appws {h : Heap} (ho : OutOK h) {ws : List (Nat × HB)} (hw : outWs ws = true) : OutOK (appws ws h) := by
 induction ws generalizing h with
 | nil => exact ho
 | cons p ws ih =>
  obtain ⟨b, x⟩ := p
  simp only [outWs, List.all_cons, Bool.and_eq_true] at hw
  exact ih (h := upd h b x) (OutOK.appw (ww := some (b, x)) ho hw.1) hw.2
/-- A new block, seen otherwise: the heaps. -/
theorem alt_heap {alt : Alt} {dst : Option Nat} {env : Env} {h : Heap} {e : Eff} {v : AV} {ws : List (Nat × HB)} {rd : List Nat} (halt : altOf alt dst h e = some (v, ws, rd)) :
  ∃ src, HT (Go.Abs.appw e.w h) (Go.Abs.appws ws h) src ∧ (∀ t, T (Go.Abs.appw e.w h) (Go.Abs.appws ws h) src (updo env dst e.v t) (updo env dst v t)) := by
 cases alt with
 | plain =>
  simp only [altOf, Option.some.injEq, Prod.mk.injEq] at halt
  obtain ⟨rfl, rfl, rfl⟩ := halt
  have e1 : Go.Abs.appws e.w.toList h = Go.Abs.appw e.w h := by cases e.w <;> rfl
  rw [e1]
  refine ⟨some, ⟨fun _ _ => Nat.le_refl _, fun _ _ => .inl ⟨rfl, rfl⟩, fun b b' c _ _ h1 h2 => ?_, fun b blk _ h2 => ?_, fun b blk c hb hc => ?_⟩, fun t => .refl _⟩
  ·cases h1
   cases h2
   rfl
  ·cases h2
  ·cases hc
   exact ⟨blk, hb, rfl, fun i x hx => ⟨x, hx, rfl, fun j a ha => ⟨a, ha, .refl a⟩⟩⟩
 | named B u =>
  unfold altOf at halt
  simp only at halt
  split at halt
  ·rename_i d b v' blk hx
   split at halt
   ·rename_i hc
    obtain ⟨rfl, hb, hB, hd, hu⟩ := hc
    simp only [Option.map_eq_some_iff] at halt
    obtain ⟨x, hr, halt⟩ := halt
    simp only [Prod.mk.injEq] at halt
    obtain ⟨rfl, rfl, rfl⟩ := halt
    rw [hx]
    simp only [Go.Abs.appw, Go.Abs.appws]
    have hne : d ≠ B := by omega
    have eB : upd (upd h d ⟨v', none⟩) B ⟨u, some blk⟩ B = ⟨u, some blk⟩ := upd_same _ _ _
    have eb : upd (upd h d ⟨v', none⟩) B ⟨u, some blk⟩ d = ⟨v', none⟩ := by rw [upd_ne _ _ _ _ hne, upd_same]
    have eo : ∀ c, c ≠ B → c ≠ d → upd (upd h d ⟨v', none⟩) B ⟨u, some blk⟩ c = h c := fun c h1 h2 => by rw [upd_ne _ _ _ _ h1, upd_ne _ _ _ _ h2]
    have ed : upd h d ⟨v', some blk⟩ d = ⟨v', some blk⟩ := upd_same _ _ _
    have eo' : ∀ c, c ≠ d → upd h d ⟨v', some blk⟩ c = h c := fun c h2 => upd_ne _ _ _ _ h2
    have hsrc : ∀ c, (upd (upd h d ⟨v', none⟩) B ⟨u, some blk⟩ c).live.isSome = true → c ≠ d := by
     intro c hc e
     subst e
     rw [eb] at hc
     cases hc
    refine ⟨fun c => if c = B then some d else some c, ⟨fun c hc => ?_, fun c hc => ?_, fun c c' z h1 h2 h3 h4 => ?_, fun c y h1 h2 => ?_, fun c y z h1 h2 => ?_⟩, fun t => ?_⟩
    ·by_cases h1 : c = B
     ·subst h1; rw [eB] at hc; cases hc
     ·by_cases h2 : c = d
      ·subst h2; rw [eb, ed]; exact Nat.le_refl _
      ·rw [eo c h1 h2, eo' c h2]; exact Nat.le_refl _
    ·by_cases h1 : c = B
     ·subst h1; right; rw [eB, eo' c (Ne.symm hne)]; exact hu
     ·left
      exact ⟨by simp only [h1, if_false], by rw [eo c h1 (hsrc c hc), eo' c (hsrc c hc)]⟩
    ·have k1 := hsrc c h1
     have k2 := hsrc c' h2
     split at h3 <;> split at h4 <;> simp only [Option.some.injEq] at h3 h4 <;> omega
    ·split at h2 <;> cases h2
    ·by_cases hc : c = B
     ·simp only [hc, if_true, Option.some.injEq] at h2
      subst h2
      rw [hc, eB] at h1
      simp only [Option.some.injEq] at h1
      subst h1
      exact ⟨blk, by rw [ed], rfl, fun i x hx => ⟨x, hx, rfl, fun j a ha => ⟨a, ha, .refl a⟩⟩⟩
     ·simp only [hc, if_false, Option.some.injEq] at h2
      subst h2
      have hcd := hsrc c (by rw [h1]; rfl)
      rw [eo c hc hcd] at h1
      exact ⟨y, by rw [eo' c hcd]; exact h1, rfl, fun i x hx => ⟨x, hx, rfl, fun j a ha => ⟨a, ha, .refl a⟩⟩⟩
    ·by_cases ht : t = d
     ·subst ht
      simp only [updo, upd_same]
      have l1 : (upd h t ⟨v', some blk⟩ t).live.isSome = true := by rw [ed]; rfl
      have l2 : (upd (upd h t ⟨v', none⟩) B ⟨u, some blk⟩ B).live.isSome = true := by rw [eB]; rfl
      have e1 : (upd h t ⟨v', some blk⟩ t).ver = v' := by rw [ed]
      have e2 : (upd (upd h t ⟨v', none⟩) B ⟨u, some blk⟩ B).ver = u := by rw [eB]
      unfold renV at hr
      split at hr
      ·rename_i c w i o hev
       split at hr
       ·rename_i hc
        obtain ⟨rfl, rfl⟩ := hc
        cases hr
        have := T.renp (h := upd h c ⟨w, some blk⟩) (h' := upd (upd h c ⟨w, none⟩) B ⟨u, some blk⟩) (src := fun c' => if c' = B then some c else some c') c B i o l1 l2 (by simp)
        rw [e1, e2] at this
        rw [hev]
        exact this
       ·cases hr
      ·rename_i c w i n m hev
       split at hr
       ·rename_i hc
        obtain ⟨rfl, rfl⟩ := hc
        cases hr
        have := T.rens (h := upd h c ⟨w, some blk⟩) (h' := upd (upd h c ⟨w, none⟩) B ⟨u, some blk⟩) (src := fun c' => if c' = B then some c else some c') c B i n m l1 l2 (by simp)
        rw [e1, e2] at this
        rw [hev]
        exact this
       ·cases hr
      ·cases hr
     ·simp only [updo]
      rw [upd_ne _ _ _ _ ht, upd_ne _ _ _ _ ht]
      exact .refl _
   ·cases halt
  ·cases halt
 | frozen xs =>
  unfold altOf at halt
  simp only at halt
  split at halt
  ·rename_i d b v' blk b' v'' n cap hx hv
   split at halt
   ·rename_i hc
    obtain ⟨_, hb, rfl, rfl, rfl, hblk⟩ := hc
    simp only [Option.some.injEq, Prod.mk.injEq] at halt
    obtain ⟨rfl, rfl, rfl⟩ := halt
    rw [hx]
    simp only [Go.Abs.appw, Go.Abs.appws]
    have ed : upd h b' ⟨v'', some blk⟩ b' = ⟨v'', some blk⟩ := upd_same _ _ _
    have eb : upd h b' ⟨v'', none⟩ b' = ⟨v'', none⟩ := upd_same _ _ _
    have eo : ∀ c, c ≠ b' → upd h b' ⟨v'', none⟩ c = h c := fun c h2 => upd_ne _ _ _ _ h2
    have eo' : ∀ c, c ≠ b' → upd h b' ⟨v'', some blk⟩ c = h c := fun c h2 => upd_ne _ _ _ _ h2
    have hsrc : ∀ c, (upd h b' ⟨v'', none⟩ c).live.isSome = true → c ≠ b' := by
     intro c hc e
     subst e
     rw [eb] at hc
     cases hc
    refine ⟨some, ⟨fun c hc => ?_, fun c hc => .inl ⟨rfl, by rw [eo c (hsrc c hc), eo' c (hsrc c hc)]⟩, fun c c' z h1 h2 h3 h4 => ?_, fun c y h1 h2 => ?_, fun c y z h1 h2 => ?_⟩, fun t => ?_⟩
    ·by_cases h2 : c = b'
     ·subst h2; rw [eb, ed]; exact Nat.le_refl _
     ·rw [eo c h2, eo' c h2]; exact Nat.le_refl _
    ·cases h3
     cases h4
     rfl
    ·cases h2
    ·cases h2
     have hcd := hsrc c (by rw [h1]; rfl)
     rw [eo c hcd] at h1
     exact ⟨y, by rw [eo' c hcd]; exact h1, rfl, fun i x hx => ⟨x, hx, rfl, fun j a ha => ⟨a, ha, .refl a⟩⟩⟩
    ·by_cases ht : t = d
     ·subst ht
      simp only [updo, upd_same, hv]
      have e3 : ((dl xs).drop 0).take xs.length = dl xs := by rw [List.drop_zero]; exact List.take_of_length_le (by simp [dl])
      refine .frzs b' v'' 0 _ cap blk xs (by simp [getBlk, ed]) (fun c hc e => ?_) (by rw [hblk]; simp [dl]) (by rw [hblk, e3]; exact .refl xs)
      cases e
      exact hsrc b' hc rfl
     ·simp only [updo]
      rw [upd_ne _ _ _ _ ht, upd_ne _ _ _ _ ht]
      exact .refl _
   ·cases halt
  ·cases halt
/-- One operation, in whatever it goes on to. -/
theorem step_sound {ops : Array Oper} {i : Nat} {o : Oper} {s' : St} {fp : Fp} {K : Act → World → Prop} {Q : Exit → Act → World → Prop} (ho : ops[i]? = some o) (hr : SRel N w X ι s a) (hs : Step P (compG P N ops o) s s' fp)
  (hK : ∀ a' w' ι', SRel N w' X ι' s' a' → Evo w (place s.h ι) w' (place s'.h ι') → K a' w') : wpOp P ops Q i K a w := by
 unfold wpOp
 simp only [ho]
 have hdst : (compG P N ops o).dst = o.dst := by
  rcases compG_cases (P := P) (N := N) ops o with hc | ⟨_, _, hc⟩ <;> rw [hc]
 rcases hs with ⟨h1, rfl, rfl⟩ | ⟨h1, h2⟩
 ·have hw := wanted_of hr.env h1 (.inr rfl)
  rw [if_neg (by simp [hw])]
  refine hK _ _ ι ⟨hr.heap, ?_, by rw [put_size]; exact hr.size, by rw [put_defers']; exact hr.defers, hr.out⟩ (Evo.refl _ _)
  simp only [hdst]
  exact hr.env.put (Evo.refl _ _) (.tup [] #[] rfl (fun j c v h => by simp at h)) (fun d _ => .inr (.inr rfl))
 ·have hnb : (compG P N ops o).op ≠ .bad := by
   intro hb
   rcases h2 with ⟨e, _, _, _, _, h2, _⟩ | ⟨f, args, pu, r, _, h2, _⟩
   ·rw [hb] at h2; simp [exec] at h2
   ·rw [hb] at h2; simp [calleeOf] at h2
  have hw := wanted_of hr.env h1 (.inl hnb)
  rw [if_pos hw]
  left
  rcases compG_cases (P := P) (N := N) ops o with hc | ⟨_, hlt, hc⟩
  ·rw [hc] at hnb; exact absurd rfl hnb
  ·have hopc : (compG P N ops o).op = compOp P o := by rw [hc]
   rw [hopc, hdst] at h2
   have hlt' : ∀ d, o.dst = some d → d < a.tmps.size := fun d hd => by rw [hr.size]; exact hlt d hd
   rcases h2 with ⟨e, alt, va, ws, rd, h2, halt, hout, rfl, rfl⟩ | ⟨f, args, pu, r, ws, h2, h3, rfl, rfl⟩
   ·obtain ⟨v, w', ι', hrun, k1, k2, k3⟩ := exec_sound hr.heap hr.env h2
    have hh : hOf s.h e = appw e.w s.h := by unfold hOf appw; rfl
    rw [hh] at k1 k2 k3
    obtain ⟨src, hHT, hT⟩ := alt_heap (env := s.env) halt
    have go : ∀ a', EnvOK w' (Forb X (place (appw e.w s.h) ι')) (place (appw e.w s.h) ι') (updo s.env o.dst e.v) a' → a'.tmps.size = N → a'.defers = [] → K a' w' := by
     intro a' k5 k6 k7
     refine hK a' w' _ ⟨HT.rel k1 hHT, fun t => ?_, k6, k7, hr.out.appws hout⟩ (k3.trans hHT.evo)
     simp only [hdst]
     exact HT.vr k1 hHT (hT t) (k5 t)
    rcases hrun with hrun | ⟨hrun, hdn⟩
    ·simp only [Oper.wp, hrun, Oper.upon]
     exact go _ (hr.env.put k3 k2 (fun d hd => .inl (hlt' d hd))) (by rw [put_size]; exact hr.size) (by rw [put_defers']; exact hr.defers)
    ·simp only [Oper.wp, hrun, Oper.upon, hdn]
     have hput : EnvOK w' (Forb X (place (appw e.w s.h) ι')) (place (appw e.w s.h) ι') (updo s.env none .undef) (a.put none undef) := hr.env.put k3 (.undef undef) (fun d hd => by cases hd)
     exact go _ (by rw [hdn]; exact hput) (by rw [put_size]; exact hr.size) (by rw [put_defers']; exact hr.defers)
   ·obtain ⟨x, ys, ts, hop, hxa⟩ := callee_inv h2
    have hcall := h3.2 s.h (fun _ => fun b _ => rfl) (fun p _ => rfl)
    have hcalls : ∃ vs : Array Value, (execOp a.eval o).run P w = .ok (.enter f vs) w ∧ vs.size = args.length ∧
      ∀ (j : Nat) c v, args[j]? = some c → vs[j]? = some v → VR w (Forb X (place s.h ι)) (place s.h ι) c v := by
     have hargs : ∀ (j : Nat) c v, (ys.toList.map fun y => (arg y).ev s.env)[j]? = some c → (ys.map a.eval)[j]? = some v → VR w (Forb X (place s.h ι)) (place s.h ι) c v := by
      intro j c v hc hv
      simp only [List.getElem?_map, Array.getElem?_toList, Array.getElem?_map, Option.map_eq_some_iff] at hc hv
      obtain ⟨y, hy, rfl⟩ := hc
      obtain ⟨y', hy', rfl⟩ := hv
      rw [hy] at hy'; cases hy'
      exact arg_ok hr.env y
     rcases hxa with ⟨rfl, rfl⟩ | ⟨caps, hcv, rfl⟩
     ·refine ⟨ys.map a.eval ++ #[], run_call_enter hop rfl hcall.1, by simp, fun j c v hc hv => hargs j c v hc (by simpa using hv)⟩
     ·have hfx := arg_ok hr.env x
      rw [hcv] at hfx
      generalize hva : a.eval x = va at hfx
      cases hfx with
      | fn _ _ us hl hu =>
       refine ⟨ys.map a.eval ++ us, run_call_enter hop hva hcall.1, by simp [hl], fun j c v hc hv => ?_⟩
       by_cases hj : j < ys.size
       ·rw [List.getElem?_append_left (by simpa using hj)] at hc
        rw [Array.getElem?_append_left (by simpa using hj)] at hv
        exact hargs j c v hc hv
       ·rw [List.getElem?_append_right (by simp; omega)] at hc
        rw [Array.getElem?_append_right (by simp; omega)] at hv
        simp only [List.length_map, Array.length_toList, Array.size_map] at hc hv
        exact hu _ c v hc hv
    obtain ⟨vs, hrun, hvl, hvr⟩ := hcalls
    simp only [Oper.wp, hrun, Oper.upon]
    refine (hcall.2 w (mineX X s.h ι) ι vs hr.heap.to_outer hr.out hvl (fun j c v hc hv => (hvr j c v hc hv).to_outer)).mono ?_
    rintro e w' ⟨r', v, h', ι', ⟨rfl, hoe⟩, rfl, q1, q2, q3, q4, q5⟩
    obtain ⟨ι'', p1, p2, p3⟩ := call_frame hr.heap q1 q2 q3 q4 q5
    have hm : mergeH s.h h' = appws ws s.h := by
     funext b
     simp only [mergeH]
     split
     ·rename_i hb
      refine (appws_ne ws _ b fun hm => ?_).symm
      obtain ⟨p, hp, rfl⟩ := List.mem_map.1 hm
      have := h3.1 p hp
      omega
     ·exact hoe b (by omega)
    rw [hm] at p1 p2 p3
    exact hK _ _ ι'' ⟨p1, by simp only [hdst]; exact hr.env.put p3 p2 (fun d hd => .inl (hlt' d hd)), by rw [put_size]; exact hr.size, by rw [put_defers']; exact hr.defers, fun b blk hb hl => q2 b blk hb (by rw [hoe b hb]; exact hl)⟩ p3
end
def zm (d t : Nat) : GOp := ⟨some d, none, .mov (.t t)⟩
def zo (d : Nat) (x : AOp) : GOp := ⟨some d, none, x⟩
def zn (x : AOp) : GOp := ⟨none, none, x⟩
def zg (d t : Nat) (b : Bool) (x : AOp) : GOp := ⟨some d, some (t, b), x⟩
end Go.Abs
/- Regions of the abstract machine are regions of the program: in their own order, and in whatever order is drawn. -/
set_option linter.unusedVariables false
set_option linter.unusedSimpArgs false
namespace Go.Abs
/-- Where the answer depends on what the datum does not say: whether an empty row is nil. -/
def demon (op : AOp) (env : Env) : Bool := match op with
 | .eqn _ x y => (match x.ev env, y.ev env with
  | .d (.slice []), .d .nil => true
  | .empty, .d .nil => true
  | _, _ => false)
 | _ => false
def isCallA : AOp → Bool
 | .call .. | .callv .. => true
 | _ => false
/-- A region in its own order. -/
def Sq (P : Program) : List GOp → St → (St → Prop) → Prop
 | [], s, K => K s
 | o :: ops, s, K => match guardVal o s.env with
  | some false => Sq P ops ⟨updo s.env o.dst (.tup []), s.h⟩ K
  | some true => match isCallA o.op with
   | true => match calleeOf o.op s.env with
    | some (f, args) => ACall P f args s.h fun r h' => Sq P ops ⟨updo s.env o.dst r, mergeH s.h h'⟩ K
    | none => False
   | false => match exec o.op (o.dst.getD 0) s.env s.h with
    | some e => outW e.w = true ∧ Sq P ops ⟨updo s.env o.dst e.v, appw e.w s.h⟩ K
    | none => demon o.op s.env = true ∧ ∀ r : Bool, Sq P ops ⟨updo s.env o.dst (.d (.bool r)), s.h⟩ K
  | none => False
/-- A region in an order that is drawn: its own order, with the traces. -/
def Dr (P : Program) : List GOp → St → (St → List Fp → Prop) → Prop
 | [], s, K => K s []
 | o :: ops, s, K => match guardVal o s.env with
  | some false => Dr P ops ⟨updo s.env o.dst (.tup []), s.h⟩ fun s2 fs => K s2 (⟨[], [], false⟩ :: fs)
  | some true => match isCallA o.op with
   | true => match calleeOf o.op s.env with
    | some (f, args) => ∃ pu r, DCall P f args s.h pu r ∧ Dr P ops ⟨updo s.env o.dst r, s.h⟩ fun s2 fs => K s2 (⟨[], [], !pu⟩ :: fs)
    | none => False
   | false => match exec o.op (o.dst.getD 0) s.env s.h with
    | some e => outW e.w = true ∧ Dr P ops ⟨updo s.env o.dst e.v, appw e.w s.h⟩ fun s2 fs => K s2 (⟨e.rd, (e.w.map (·.1)).toList, false⟩ :: fs)
    | none => False
  | none => False
/-- The same, with new blocks seen otherwise, and calls that write what is handed on. -/
def Dn (P : Program) : List Alt → List GOp → St → (St → List Fp → Prop) → Prop
 | _, [], s, K => K s []
 | als, o :: ops, s, K => match guardVal o s.env with
  | some false => Dn P als.tail ops ⟨updo s.env o.dst (.tup []), s.h⟩ fun s2 fs => K s2 (⟨[], [], false⟩ :: fs)
  | some true => match isCallA o.op with
   | true => match calleeOf o.op s.env with
    | some (f, args) => ∃ pu r ws, NC P f args s.h pu r ws ∧ Dn P als.tail ops ⟨updo s.env o.dst r, appws ws s.h⟩ fun s2 fs => K s2 (⟨ws.map (·.1), ws.map (·.1), !pu⟩ :: fs)
    | none => False
   | false => match exec o.op (o.dst.getD 0) s.env s.h with
    | some e => match altOf (als.headD .plain) o.dst s.h e with
     | some (v, ws, rd) => outWs ws = true ∧ Dn P als.tail ops ⟨updo s.env o.dst v, appws ws s.h⟩ fun s2 fs => K s2 (⟨rd, ws.map (·.1), false⟩ :: fs)
     | none => False
    | none => False
  | none => False
def conf (un : List (Nat × Nat)) (fs : List Fp) : Bool := un.all fun p => match fs[p.1]?, fs[p.2]? with
 | some f, some g => nonc f g
 | _, _ => false
section
variable {P : Program} {N : Nat} {X : Nat → Prop} {ι : Nat → Bd} {w : World} {s : St} {a : Act}
theorem step_plain {o : GOp} {s : St} {e : Eff} (hg : guardVal o s.env = some true) (he : exec o.op (o.dst.getD 0) s.env s.h = some e) (ho : outW e.w = true) : Step P o s ⟨updo s.env o.dst e.v, appw e.w s.h⟩ ⟨e.rd, (e.w.map (·.1)).toList, false⟩ := by
 refine .inr ⟨hg, .inl ⟨e, .plain, e.v, e.w.toList, e.rd, he, rfl, ?_, ?_, ?_⟩⟩
 ·cases hw : e.w with
  | none => rfl
  | some p =>
   rw [hw] at ho
   simpa [outWs, outW] using ho
 ·cases hw : e.w <;> rfl
 ·cases hw : e.w <;> rfl
theorem DCall.nc {f : FuncId} {args : List AV} {h : Heap} {pu : Bool} {r : AV} (hd : DCall P f args h pu r) : NC P f args h pu r [] := ⟨fun p hp => by simp at hp, fun h1 h2 _ => hd h1 h2⟩
theorem dr_ops : ∀ (ops : List GOp) (s : St) (K : St → List Fp → Prop), Dr P ops s K → ∃ s2 fs, Ops P ops s s2 fs ∧ K s2 fs
 | [], s, K, h => ⟨s, [], .nil s, h⟩
 | o :: ops, s, K, h => by
  unfold Dr at h
  split at h
  ·rename_i hg
   obtain ⟨s2, fs, h1, h2⟩ := dr_ops ops _ _ h
   exact ⟨s2, _, .cons (.inl ⟨hg, rfl, rfl⟩) h1, h2⟩
  ·rename_i hg
   split at h
   ·split at h
    ·rename_i f args hc
     obtain ⟨pu, r, hd, h⟩ := h
     obtain ⟨s2, fs, h1, h2⟩ := dr_ops ops _ _ h
     exact ⟨s2, _, .cons (.inr ⟨hg, .inr ⟨f, args, pu, r, [], hc, hd.nc, rfl, rfl⟩⟩) h1, h2⟩
    ·exact h.elim
   ·split at h
    ·rename_i e he
     obtain ⟨ho, h⟩ := h
     obtain ⟨s2, fs, h1, h2⟩ := dr_ops ops _ _ h
     exact ⟨s2, _, .cons (step_plain hg he ho) h1, h2⟩
    ·exact h.elim
  ·exact h.elim
theorem dn_ops : ∀ (als : List Alt) (ops : List GOp) (s : St) (K : St → List Fp → Prop), Dn P als ops s K → ∃ s2 fs, Ops P ops s s2 fs ∧ K s2 fs
 | als, [], s, K, h => ⟨s, [], .nil s, h⟩
 | als, o :: ops, s, K, h => by
  unfold Dn at h
  split at h
  ·rename_i hg
   obtain ⟨s2, fs, h1, h2⟩ := dn_ops als.tail ops _ _ h
   exact ⟨s2, _, .cons (.inl ⟨hg, rfl, rfl⟩) h1, h2⟩
  ·rename_i hg
   split at h
   ·split at h
    ·rename_i f args hc
     obtain ⟨pu, r, ws, hd, h⟩ := h
     obtain ⟨s2, fs, h1, h2⟩ := dn_ops als.tail ops _ _ h
     exact ⟨s2, _, .cons (.inr ⟨hg, .inr ⟨f, args, pu, r, ws, hc, hd, rfl, rfl⟩⟩) h1, h2⟩
    ·exact h.elim
   ·split at h
    ·rename_i e he
     split at h
     ·rename_i v ws rd halt
      obtain ⟨ho, h⟩ := h
      obtain ⟨s2, fs, h1, h2⟩ := dn_ops als.tail ops _ _ h
      exact ⟨s2, _, .cons (.inr ⟨hg, .inl ⟨e, _, v, ws, rd, he, halt, ho, rfl, rfl⟩⟩) h1, h2⟩
     ·exact h.elim
    ·exact h.elim
  ·exact h.elim
theorem OutOK.merge {h h' : Heap} (ho : OutOK h') : OutOK (mergeH h h') := by
 intro b blk hb hl
 simp only [mergeH, Nat.not_lt.2 hb, if_false] at hl
 exact ho b blk hb hl
theorem call_sound {ops : Array Oper} {i : Nat} {o : Oper} {f : FuncId} {args : List AV} {K : Act → World → Prop} {Q : Exit → Act → World → Prop} {R : AV → Heap → Prop} (ho : ops[i]? = some o) (hr : SRel N w X ι s a)
  (h1 : guardVal (compG P N ops o) s.env = some true) (h2 : calleeOf (compG P N ops o).op s.env = some (f, args)) (hcall : ACall P f args s.h R)
  (hK : ∀ r h' a' w' ι', R r h' → SRel N w' X ι' ⟨updo s.env (compG P N ops o).dst r, mergeH s.h h'⟩ a' → Evo w (place s.h ι) w' (place (mergeH s.h h') ι') → K a' w') : wpOp P ops Q i K a w := by
 unfold wpOp
 simp only [ho]
 have hnb : (compG P N ops o).op ≠ .bad := by intro hb; rw [hb] at h2; simp [calleeOf] at h2
 have hw := wanted_of hr.env h1 (.inl hnb)
 rw [if_pos hw]
 left
 rcases compG_cases (P := P) (N := N) ops o with hc | ⟨_, hlt, hc⟩
 ·rw [hc] at hnb; exact absurd rfl hnb
 ·have hopc : (compG P N ops o).op = compOp P o := by rw [hc]
  have hdst : (compG P N ops o).dst = o.dst := by rw [hc]
  rw [hopc] at h2
  rw [hdst] at hK
  have hlt' : ∀ d, o.dst = some d → d < a.tmps.size := fun d hd => by rw [hr.size]; exact hlt d hd
  obtain ⟨x, ys, ts, hop, hxa⟩ := callee_inv h2
  have hcalls : ∃ vs : Array Value, (execOp a.eval o).run P w = .ok (.enter f vs) w ∧ vs.size = args.length ∧
    ∀ (j : Nat) c v, args[j]? = some c → vs[j]? = some v → VR w (Forb X (place s.h ι)) (place s.h ι) c v := by
   have hargs : ∀ (j : Nat) c v, (ys.toList.map fun y => (arg y).ev s.env)[j]? = some c → (ys.map a.eval)[j]? = some v → VR w (Forb X (place s.h ι)) (place s.h ι) c v := by
    intro j c v hc hv
    simp only [List.getElem?_map, Array.getElem?_toList, Array.getElem?_map, Option.map_eq_some_iff] at hc hv
    obtain ⟨y, hy, rfl⟩ := hc
    obtain ⟨y', hy', rfl⟩ := hv
    rw [hy] at hy'; cases hy'
    exact arg_ok hr.env y
   rcases hxa with ⟨rfl, rfl⟩ | ⟨caps, hcv, rfl⟩
   ·exact ⟨ys.map a.eval ++ #[], run_call_enter hop rfl hcall.1, by simp, fun j c v hc hv => hargs j c v hc (by simpa using hv)⟩
   ·have hfx := arg_ok hr.env x
    rw [hcv] at hfx
    generalize hva : a.eval x = va at hfx
    cases hfx with
    | fn _ _ us hl hu =>
     refine ⟨ys.map a.eval ++ us, run_call_enter hop hva hcall.1, by simp [hl], fun j c v hc hv => ?_⟩
     by_cases hj : j < ys.size
     ·rw [List.getElem?_append_left (by simpa using hj)] at hc
      rw [Array.getElem?_append_left (by simpa using hj)] at hv
      exact hargs j c v hc hv
     ·rw [List.getElem?_append_right (by simp; omega)] at hc
      rw [Array.getElem?_append_right (by simp; omega)] at hv
      simp only [List.length_map, Array.length_toList, Array.size_map] at hc hv
      exact hu _ c v hc hv
  obtain ⟨vs, hrun, hvl, hvr⟩ := hcalls
  simp only [Oper.wp, hrun, Oper.upon]
  refine (hcall.2 w (mineX X s.h ι) ι vs hr.heap.to_outer hr.out hvl (fun j c v hc hv => (hvr j c v hc hv).to_outer)).mono ?_
  rintro e w' ⟨r, v, h', ι', hRr, rfl, q1, q2, q3, q4, q5⟩
  obtain ⟨ι'', p1, p2, p3⟩ := call_frame hr.heap q1 q2 q3 q4 q5
  exact hK r h' _ _ ι'' hRr ⟨p1, hr.env.put p3 p2 (fun d hd => .inl (hlt' d hd)), by rw [put_size]; exact hr.size, by rw [put_defers']; exact hr.defers, q2.merge⟩ p3
theorem calleeOf_isCall {op : AOp} {env : Env} {p : FuncId × List AV} (h : calleeOf op env = some p) : isCallA op = true := by
 cases op <;> simp [calleeOf] at h <;> rfl
theorem eqn_inv {o : Oper} {neg : Bool} {x' y' : AArg} (hc : compOp P o = .eqn neg x' y') : ∃ op t x y u E, o.op = .binOp op t x y u ∧ ((op = .eql ∧ neg = false) ∨ (op = .neq ∧ neg = true)) ∧ P.underlying t = some (.slice E) ∧ x' = arg x ∧ y' = arg y := by
 unfold compOp at hc
 split at hc <;> (try (cases hc; done))
 case h_4 => split at hc <;> cases hc
 case h_5 => split at hc <;> cases hc
 case h_6 => split at hc <;> (try split at hc) <;> cases hc
 case h_7 => split at hc <;> (try split at hc) <;> (try split at hc) <;> cases hc
 case h_8 => split at hc <;> cases hc
 case h_9 => split at hc <;> cases hc
 case h_11 op t x y u hop =>
  unfold compBin at hc
  split at hc
  ·split at hc <;> cases hc
  ·cases hc
  ·split at hc <;> cases hc
  ·rename_i E ht
   split at hc
   ·cases hc; exact ⟨_, t, x, y, u, E, hop, .inl ⟨rfl, rfl⟩, ht, rfl, rfl⟩
   ·cases hc; exact ⟨_, t, x, y, u, E, hop, .inr ⟨rfl, rfl⟩, ht, rfl, rfl⟩
   ·cases hc
  ·split at hc <;> (try split at hc) <;> (try split at hc) <;> cases hc
  ·cases hc
 case h_13 => split at hc <;> cases hc
 case h_14 => split at hc <;> cases hc
 case h_15 => split at hc <;> (try split at hc) <;> cases hc
 case h_16 => split at hc <;> (try split at hc) <;> cases hc
 case h_17 => split at hc <;> (try split at hc) <;> (try split at hc) <;> cases hc
 case h_18 => split at hc <;> (try split at hc) <;> cases hc
 case h_19 => split at hc <;> cases hc
 case h_21 c hop =>
  unfold compCall at hc
  split at hc <;> (try split at hc) <;> (try split at hc) <;> (try split at hc) <;> (try split at hc) <;> cases hc
theorem demon_ok {o : Oper} (hr : SRel N w X ι s a) (hd : demon (compOp P o) s.env = true) : ∃ r : Bool, (execOp a.eval o).run P w = .ok (.value (.bool r)) w := by
 cases hop : compOp P o <;> rw [hop] at hd <;> (try (simp [demon] at hd; done))
 rename_i neg x' y'
 obtain ⟨op, t, x, y, u, E, ho, hn, ht, rfl, rfl⟩ := eqn_inv hop
 have hx := arg_ok hr.env x
 have hy := arg_ok hr.env y
 have key : (∃ A c, a.eval x = .slice A 0 c) ∧ a.eval y = .slice none 0 0 := by
  simp only [demon] at hd
  split at hd
  ·rename_i h1 h2
   rw [h1] at hx; rw [h2] at hy
   refine ⟨?_, hy.nil_inv⟩
   generalize a.eval x = vx at hx
   cases hx with | d _ _ hx =>
   cases hx with
   | none A c => exact ⟨A, c, rfl⟩
   | slice _ k blk off c vs => exact ⟨_, c, rfl⟩
  ·rename_i h1 h2
   rw [h1] at hx; rw [h2] at hy
   refine ⟨?_, hy.nil_inv⟩
   generalize a.eval x = vx at hx
   cases hx with | empty A => exact ⟨A, 0, rfl⟩
  ·cases hd
 obtain ⟨⟨A, c, hv⟩, hd'⟩ := key
 refine ⟨if neg = true then !A.isNone else A.isNone, ?_⟩
 rcases hn with ⟨rfl, rfl⟩ | ⟨rfl, rfl⟩ <;> cases A <;>
  simp [execOp, ho, hv, hd', Sem.run_bind, eqGuard_int (P := P) (w := w) (u := .slice _ _ _) rfl (by simp), binOp, equal_slice_nil ht]
theorem demon_sound {ops : Array Oper} {i : Nat} {o : Oper} {K : Act → World → Prop} {Q : Exit → Act → World → Prop} (ho : ops[i]? = some o) (hr : SRel N w X ι s a)
  (h1 : guardVal (compG P N ops o) s.env = some true) (hd : demon (compG P N ops o).op s.env = true)
  (hK : ∀ (r : Bool) a' w' ι', SRel N w' X ι' ⟨updo s.env (compG P N ops o).dst (.d (.bool r)), s.h⟩ a' → Evo w (place s.h ι) w' (place s.h ι') → K a' w') : wpOp P ops Q i K a w := by
 unfold wpOp
 simp only [ho]
 have hnb : (compG P N ops o).op ≠ .bad := by intro hb; rw [hb] at hd; simp [demon] at hd
 have hw := wanted_of hr.env h1 (.inl hnb)
 rw [if_pos hw]
 left
 rcases compG_cases (P := P) (N := N) ops o with hc | ⟨_, hlt, hc⟩
 ·rw [hc] at hnb; exact absurd rfl hnb
 ·have hopc : (compG P N ops o).op = compOp P o := by rw [hc]
  have hdst : (compG P N ops o).dst = o.dst := by rw [hc]
  rw [hopc] at hd
  rw [hdst] at hK
  have hlt' : ∀ d, o.dst = some d → d < a.tmps.size := fun d hd => by rw [hr.size]; exact hlt d hd
  obtain ⟨r, hrun⟩ := demon_ok hr hd
  simp only [Oper.wp, hrun, Oper.upon]
  exact hK r _ _ ι ⟨hr.heap, hr.env.put (Evo.refl _ _) (.d _ _ (.bool r)) (fun d hd => .inl (hlt' d hd)), by rw [put_size]; exact hr.size, by rw [put_defers']; exact hr.defers, hr.out⟩ (Evo.refl _ _)
/-- A region in its own order. -/
theorem seq_sound {ops : Array Oper} {Q : Exit → Act → World → Prop} {K : St → Prop} : ∀ (l : List Oper) (k : Nat) (s : St) (a : Act) (w : World) (ι : Nat → Bd), (∀ j, l[j]? = ops[k + j]?) → SRel N w X ι s a → Sq P (l.map (compG P N ops)) s K →
  (∀ a' w' ι' s', SRel N w' X ι' s' a' → Evo w (place s.h ι) w' (place s'.h ι') → K s' → Q .normal a' w') → wpOps P ops Q (List.range' k l.length) a w
 | [], k, s, a, w, ι, _, hr, hs, hQ => by
  simp only [List.length_nil, List.range'_zero, wpOps]
  exact hQ a w ι s hr (Evo.refl _ _) hs
 | o :: l, k, s, a, w, ι, hl, hr, hs, hQ => by
  have ho : ops[k]? = some o := by have := hl 0; simpa using this.symm
  have hl' : ∀ j, l[j]? = ops[k + 1 + j]? := fun j => by
   have := hl (j + 1)
   rw [show k + 1 + j = k + (j + 1) by omega, ← this]
   simp
  rw [List.length_cons, List.range'_succ, wpOps_cons]
  simp only [List.map_cons] at hs
  unfold Sq at hs
  split at hs
  ·rename_i hg
   refine step_sound (P := P) (N := N) ho hr (.inl ⟨hg, rfl, rfl⟩) (fun a' w' ι' hr' hev => ?_)
   exact seq_sound l (k + 1) _ a' w' ι' hl' hr' hs (fun a2 w2 ι2 s2 h1 h2 h3 => hQ a2 w2 ι2 s2 h1 (hev.trans h2) h3)
  ·rename_i hg
   split at hs
   ·split at hs
    ·rename_i f args hc
     refine call_sound (P := P) (N := N) ho hr hg hc hs (fun r h' a' w' ι' hs' hr' hev => ?_)
     exact seq_sound l (k + 1) _ a' w' ι' hl' hr' hs' (fun a2 w2 ι2 s2 h1 h2 h3 => hQ a2 w2 ι2 s2 h1 (hev.trans h2) h3)
    ·exact hs.elim
   ·split at hs
    ·rename_i e he
     obtain ⟨hout, hs⟩ := hs
     refine step_sound (P := P) (N := N) ho hr (step_plain hg he hout) (fun a' w' ι' hr' hev => ?_)
     exact seq_sound l (k + 1) _ a' w' ι' hl' hr' hs (fun a2 w2 ι2 s2 h1 h2 h3 => hQ a2 w2 ι2 s2 h1 (hev.trans h2) h3)
    ·obtain ⟨hd, hs⟩ := hs
     refine demon_sound (P := P) (N := N) ho hr hg hd (fun r a' w' ι' hr' hev => ?_)
     exact seq_sound l (k + 1) _ a' w' ι' hl' hr' (hs r) (fun a2 w2 ι2 s2 h1 h2 h3 => hQ a2 w2 ι2 s2 h1 (hev.trans h2) h3)
  ·exact hs.elim
theorem step_kind {o : GOp} {s s' : St} {f : Fp} (h : Step P o s s' f) : (kindA o.op = 0 → f = ⟨[], [], false⟩) ∧ (kindA o.op = 1 → f.wr = []) := by
 rcases h with ⟨_, _, rfl⟩ | ⟨_, ⟨e, alt, v, ws, rd, h2, halt, _, _, rfl⟩ | ⟨g, args, pu, r, ws, h2, _, _, rfl⟩⟩
 ·exact ⟨fun _ => rfl, fun _ => rfl⟩
 ·have key : e.w = none → ws = [] ∧ rd = e.rd := by
   intro hw
   cases alt with
   | plain =>
    simp only [altOf, Option.some.injEq, Prod.mk.injEq] at halt
    obtain ⟨_, rfl, rfl⟩ := halt
    rw [hw]
    exact ⟨rfl, rfl⟩
   | named B u => unfold altOf at halt; simp only [hw] at halt; split at halt <;> first | (cases halt; done) | (rename_i h; cases h)
   | frozen xs => unfold altOf at halt; simp only [hw] at halt; split at halt <;> first | (cases halt; done) | (rename_i h _; cases h)
  refine ⟨fun hk => ?_, fun hk => ?_⟩
  ·obtain ⟨h1, h3⟩ := exec_kind0 h2 hk
   obtain ⟨rfl, rfl⟩ := key h3
   simp [h1]
  ·obtain ⟨rfl, rfl⟩ := key (exec_kind1 h2 hk)
   rfl
 ·have := calleeOf_isCall h2
  refine ⟨fun hk => ?_, fun hk => ?_⟩ <;> cases ho : o.op <;> simp [ho, isCallA] at this <;> simp [ho, kindA] at hk
theorem nonc_low {f g : Fp} {a b : Nat} (hf : (a = 0 → f = ⟨[], [], false⟩) ∧ (a = 1 → f.wr = [])) (hg : (b = 0 → g = ⟨[], [], false⟩) ∧ (b = 1 → g.wr = [])) (ha : a ≤ 2) (hb : b ≤ 2)
  (h : ¬ (0 < a ∧ 0 < b ∧ 2 < a + b)) : nonc f g = true := by
 by_cases h0 : a = 0
 ·rw [hf.1 h0]
  simp [nonc, nonc1]
 ·by_cases h1 : b = 0
  ·rw [hg.1 h1]
   simp [nonc, nonc1]
  ·have ha1 : a = 1 := by omega
   have hb1 : b = 1 := by omega
   simp [nonc, nonc1, hf.2 ha1, hg.2 hb1]
theorem ops_kind {ops : List GOp} {s s2 : St} {fs : List Fp} (h : Ops P ops s s2 fs) : fs.length = ops.length ∧ ∀ (i : Nat) o f, ops[i]? = some o → fs[i]? = some f → (kindA o.op = 0 → f = ⟨[], [], false⟩) ∧ (kindA o.op = 1 → f.wr = []) := by
 induction h with
 | nil s => exact ⟨rfl, fun i o f h => by simp at h⟩
 | cons h hr ih =>
  refine ⟨by simp [ih.1], fun i o f ho hf => ?_⟩
  cases i with
  | zero => simp at ho hf; subst ho; subst hf; exact step_kind h
  | succ i => exact ih.2 i o f (by simpa using ho) (by simpa using hf)
theorem kindA_le (op : AOp) : kindA op ≤ 2 := by cases op <;> simp [kindA]
theorem bef_listed {l : List Oper} {B : Array Nat} (hB : befOK l B = true) {L : Nat → Bool} (hcl : ∀ x o, L x = true → l[x]? = some o → ∀ e ∈ predsOf o, L e = true) :
  ∀ (j : Nat) (o : Oper), l[j]? = some o → (∀ e ∈ predsOf o, L e = true) → ∀ i, i < l.length → (B.getD j 0).testBit i = true → L i = true := by
 intro j
 induction j using Nat.strongRecOn with
 | _ j ih =>
  intro o ho hp i hi hb
  have hj : j < l.length := (List.getElem?_eq_some_iff.1 ho).1
  have h1 := List.all_eq_true.1 hB j (List.mem_range.2 hj)
  simp only [ho, Bool.and_eq_true] at h1
  have h2 := List.all_eq_true.1 h1.2 i (List.mem_range.2 hi)
  simp only [hb, Bool.not_true, Bool.false_or] at h2
  obtain ⟨e, he, h3⟩ := List.any_eq_true.1 h2
  have hlt : e < j := by have := List.all_eq_true.1 h1.1 e he; simpa using this
  simp only [Bool.or_eq_true, beq_iff_eq] at h3
  rcases h3 with rfl | h3
  ·exact hp _ he
  ·have hel : e < l.length := by omega
   exact ih e hlt l[e] (by simp [hel]) (fun e' he' => hcl e l[e] (hp e he) (by simp [hel]) e' he') i hi h3
theorem draw_any {ops : Array Oper} {Q : Exit → Act → World → Prop} {un : List (Nat × Nat)} {fs : List Fp} (hun : unordered ops (ops.toList.map (compG P N ops)) = some un) (hconf : conf un fs = true) (hfl : fs.length = ops.size)
  (hkind : ∀ (i : Nat) o f, (ops.toList.map (compG P N ops))[i]? = some o → fs[i]? = some f → (kindA o.op = 0 → f = ⟨[], [], false⟩) ∧ (kindA o.op = 1 → f.wr = [])) {s2 : St} :
  ∀ (fuel : Nat) (listed : Array Bool) (rem : List Nat) (s : St) (a : Act) (w : World) (ι : Nat → Bd), rem.length ≤ fuel → listed.size = ops.size → rem.Pairwise (· < ·) → (∀ i, i ∈ rem ↔ i < ops.size ∧ listed.getD i true = false) →
   (∀ x o, listed.getD x false = true → ops[x]? = some o → ∀ e ∈ predsOf o, listed.getD e false = true) → SRel N w X ι s a →
   Ops P (rem.filterMap fun i => (ops[i]?).map (compG P N ops)) s s2 (rem.filterMap fun i => fs[i]?) →
   (∀ a' w' ι', SRel N w' X ι' s2 a' → Evo w (place s.h ι) w' (place s2.h ι') → Q .normal a' w') → wpAny P .any ops Q fuel listed a w := by
 -- what 'unordered' says
 have hsp : befOK ops.toList (Region.before ops) = true ∧
   ∀ i j, i < j → j < ops.size → ((Region.before ops).getD j 0).testBit i = false → ∀ x y f g, ops[i]? = some x → ops[j]? = some y → fs[i]? = some f → fs[j]? = some g →
    gapart (compG P N ops x) (compG P N ops y) = true ∧ nonc f g = true := by
  simp only [unordered] at hun
  split at hun
  ·rename_i hc
   simp only [Bool.and_eq_true] at hc
   simp only [Option.some.injEq] at hun
   refine ⟨hc.1, fun i j hij hj hb x y f g hx hy hf hg => ?_⟩
   have hfree : (i, j) ∈ (pairs ops.toList.length).filter fun p => !((Region.before ops).getD p.2 0).testBit p.1 := by
    refine List.mem_filter.2 ⟨?_, by simp only [hb, Bool.not_false]⟩
    simp only [pairs, List.mem_flatMap, List.mem_range, List.mem_map]
    exact ⟨j, by simpa using hj, i, hij, rfl⟩
   have hgi : (ops.toList.map (compG P N ops))[i]? = some (compG P N ops x) := by simp [hx]
   have hgj : (ops.toList.map (compG P N ops))[j]? = some (compG P N ops y) := by simp [hy]
   refine ⟨?_, ?_⟩
   ·have := List.all_eq_true.1 hc.2 (i, j) hfree
    simpa only [hgi, hgj] using this
   ·by_cases hk : 0 < kindA (compG P N ops x).op ∧ 0 < kindA (compG P N ops y).op ∧ 2 < kindA (compG P N ops x).op + kindA (compG P N ops y).op
    ·have hmem : (i, j) ∈ un := by
      rw [← hun]
      refine List.mem_filter.2 ⟨hfree, ?_⟩
      simp only [hgi, hgj, hk.1, hk.2.1, hk.2.2, decide_true, Bool.and_self]
     have := List.all_eq_true.1 hconf (i, j) hmem
     simpa only [hf, hg] using this
    ·exact nonc_low (hkind i _ f hgi hf) (hkind j _ g hgj hg) (kindA_le _) (kindA_le _) hk
  ·cases hun
 obtain ⟨hB, hpair⟩ := hsp
 have hnil : ∀ (listed : Array Bool) (rem : List Nat), listed.size = ops.size → (∀ i, i ∈ rem ↔ i < ops.size ∧ listed.getD i true = false) → rem.Pairwise (· < ·) → Region.ready .any ops listed = [] → rem = [] := by
  intro listed rem hls hrem hpw hrd
  cases rem with
  | nil => rfl
  | cons i rem =>
   exfalso
   obtain ⟨hi, hli⟩ := (hrem i).1 (by simp)
   have hmem : i ∈ Region.ready .any ops listed := by
    refine mem_ready.2 ⟨hli, ops[i], by simp [hi], fun e he hb => ?_⟩
    have h1 := List.all_eq_true.1 hB i (List.mem_range.2 (by simpa using hi))
    have hoi : ops.toList[i]? = some ops[i] := by simp [hi]
    simp only [hoi, Bool.and_eq_true] at h1
    have hpe : e.on ∈ predsOf ops[i] := List.mem_map.2 ⟨e, List.mem_filter.2 ⟨by simpa using he, hb⟩, rfl⟩
    have hlt : e.on < i := by have := List.all_eq_true.1 h1.1 e.on hpe; simpa using this
    by_cases hle : listed.getD e.on false = true
    ·exact hle
    ·exfalso
     have hes : e.on < listed.size := by omega
     have : e.on ∈ i :: rem := (hrem e.on).2 ⟨by omega, by simp [hes] at hle ⊢; exact hle⟩
     rcases List.mem_cons.1 this with h0 | h0
     ·omega
     ·have := (List.pairwise_cons.1 hpw).1 e.on h0
      omega
   rw [hrd] at hmem
   cases hmem
 intro fuel
 induction fuel with
 | zero =>
  intro listed rem s a w ι hl hls hpw hrem hcl hr ho hQ
  have hr0 : rem = [] := List.eq_nil_of_length_eq_zero (by omega)
  subst hr0
  simp only [List.filterMap_nil] at ho
  cases ho
  refine ⟨?_, hQ a w ι hr (Evo.refl _ _)⟩
  rw [List.eq_nil_iff_forall_not_mem]
  intro j hj
  obtain ⟨h1, o, h2, _⟩ := mem_ready.1 hj
  have := (hrem j).2 ⟨(Array.getElem?_eq_some_iff.1 h2).1, h1⟩
  simp at this
 | succ fuel ih =>
  intro listed rem s a w ι hl hls hpw hrem hcl hr ho hQ
  refine ⟨fun hrd => ?_, fun j hj => ?_⟩
  ·have := hnil listed rem hls hrem hpw hrd
   subst this
   simp only [List.filterMap_nil] at ho
   cases ho
   exact hQ a w ι hr (Evo.refl _ _)
  ·obtain ⟨h1, oj, hoj, hall⟩ := mem_ready.1 hj
   have hjn : j < ops.size := (Array.getElem?_eq_some_iff.1 hoj).1
   have hjr : j ∈ rem := (hrem j).2 ⟨hjn, h1⟩
   obtain ⟨p, q, hpq⟩ := List.append_of_mem hjr
   subst hpq
   have hjf : ∃ g, fs[j]? = some g := ⟨fs[j]'(by omega), by simp [hfl, hjn]⟩
   obtain ⟨g, hg⟩ := hjf
   have hpl : ∀ i ∈ p, i < ops.size := fun i hi => ((hrem i).1 (by simp [hi])).1
   -- both lists in parts
   have e1 : (p ++ j :: q).filterMap (fun i => (ops[i]?).map (compG P N ops)) = p.filterMap (fun i => (ops[i]?).map (compG P N ops)) ++ compG P N ops oj :: q.filterMap (fun i => (ops[i]?).map (compG P N ops)) := by
    simp [List.filterMap_append, List.filterMap_cons, hoj]
   have e2 : (p ++ j :: q).filterMap (fun i => fs[i]?) = p.filterMap (fun i => fs[i]?) ++ g :: q.filterMap (fun i => fs[i]?) := by
    simp [List.filterMap_append, List.filterMap_cons, hg]
   rw [e1, e2] at ho
   have pget : ∀ (p : List Nat), (∀ i ∈ p, i < ops.size) → p.filterMap (fun i => (ops[i]?).map (compG P N ops)) = p.map (fun i => compG P N ops (ops[i]?.getD default)) ∧ p.filterMap (fun i => fs[i]?) = p.map (fun i => fs[i]?.getD default) := by
    intro p hp
    induction p with
    | nil => simp
    | cons i p ihp =>
     have hi := hp i (by simp)
     obtain ⟨k1, k2⟩ := ihp (fun x hx => hp x (by simp [hx]))
     simp only [List.filterMap_cons, List.map_cons, k1, k2]
     simp [hi, hfl]
   obtain ⟨g1, g2⟩ := pget p hpl
   have hfront := ops_front (P := P) (p.filterMap fun i => (ops[i]?).map (compG P N ops)) (by rw [g1, g2]; simp) ho (fun m x f hx hf => by
    rw [g1] at hx
    rw [g2] at hf
    simp only [List.getElem?_map, Option.map_eq_some_iff] at hx hf
    obtain ⟨i, hi, rfl⟩ := hx
    obtain ⟨i', hi', rfl⟩ := hf
    rw [hi] at hi'; cases hi'
    have hip : i ∈ p := List.mem_of_getElem? hi
    have hin := hpl i hip
    have hij : i < j := by
     have := (List.pairwise_append.1 hpw).2.2 i hip j (by simp)
     exact this
    refine hpair i j hij hjn ?_ _ _ _ _ (by simp [hin]) hoj (by simp [hfl, hin]) hg
    by_cases hb : ((Region.before ops).getD j 0).testBit i = true
    ·exfalso
     have hli := bef_listed hB (L := fun x => listed.getD x false) (fun x o hx ho e he => hcl x o hx (by simpa using ho) e he) j oj (by simpa using hoj)
      (fun e he => by
       obtain ⟨e', he', rfl⟩ := List.mem_map.1 he
       obtain ⟨h5, h6⟩ := List.mem_filter.1 he'
       exact hall e' (by simpa using h5) h6) i (by simpa using hin) hb
     have := ((hrem i).1 (by simp [hip])).2
     try simp only at hli
     have his : i < listed.size := by omega
     simp [his] at hli this
     rw [hli] at this
     cases this
    ·simpa using hb)
   obtain ⟨s1, hst, hrest⟩ := hfront
   refine step_sound (P := P) (N := N) hoj hr hst (fun a' w' ι' hr' hev => ?_)
   have hjs : j < listed.size := by omega
   refine ih (listed.setIfInBounds j true) (p ++ q) s1 a' w' ι' (by simp at hl ⊢; omega) (by simp [hls]) ?_ ?_ ?_ hr' ?_ (fun a2 w2 ι2 h2 h3 => hQ a2 w2 ι2 h2 (hev.trans h3))
   ·rw [List.pairwise_append] at hpw ⊢
    exact ⟨hpw.1, (List.pairwise_cons.1 hpw.2.1).2, fun x hx y hy => hpw.2.2 x hx y (by simp [hy])⟩
   ·intro i
    have hnj : ∀ x ∈ p ++ q, x ≠ j := by
     intro x hx hxj
     subst hxj
     rw [List.pairwise_append] at hpw
     rcases List.mem_append.1 hx with hx | hx
     ·have := hpw.2.2 x hx x (by simp); omega
     ·have := (List.pairwise_cons.1 hpw.2.1).1 x hx; omega
    by_cases hij : i = j
    ·subst hij
     refine ⟨fun hx => absurd rfl (hnj i hx), fun hx => ?_⟩
     simp [hjs] at hx
    ·rw [getD_set_ne true (fun e => hij e.symm), ← hrem i]
     simp [hij]
   ·intro x o hx ho e he
    by_cases hxj : x = j
    ·subst hxj
     rw [hoj] at ho
     cases ho
     obtain ⟨e', he', rfl⟩ := List.mem_map.1 he
     obtain ⟨h5, h6⟩ := List.mem_filter.1 he'
     exact getD_set_true (hall e' (by simpa using h5) h6)
    ·rw [getD_set_ne false (fun e => hxj e.symm)] at hx
     exact getD_set_true (hcl x o hx ho e he)
   ·rw [List.filterMap_append, List.filterMap_append]
    exact hrest
end
end Go.Abs
/- Code of the abstract machine, run: rules that lead back to the program's own code. -/
set_option linter.unusedVariables false
set_option linter.unusedSimpArgs false
namespace Go.Abs
inductive AX where
 | normal
 | exit (id : Nat)
 | ret
def AX.ex : AX → Exit
 | .normal => .normal
 | .exit i => .exit i
 | .ret => .ret
def Lift (N : Nat) (w : World) (X : Nat → Prop) (ι : Nat → Bd) (h : Heap) (Q : AX → St → Prop) (e : Exit) (a' : Act) (w' : World) : Prop :=
 ∃ x s' ι', e = AX.ex x ∧ Q x s' ∧ SRel N w' X ι' s' a' ∧ Evo w (place h ι) w' (place s'.h ι')
/-- From this state the code leads to one of those. -/
def AW (P : Program) (N : Nat) (c : ACode) (Q : AX → St → Prop) (s : St) : Prop :=
 ∀ code, comp P N code = c → ∀ w X ι a, SRel N w X ι s a → code.wp P (Lift N w X ι s.h Q) a w
def then' (K : St → Prop) (Q : AX → St → Prop) : AX → St → Prop
 | .normal, s => K s
 | x, s => Q x s
def inBlk (id : Nat) (Q : AX → St → Prop) : AX → St → Prop
 | .exit i, s => if i = id then Q .normal s else Q (.exit i) s
 | x, s => Q x s
/-- The same world, seen otherwise. -/
def Wk (s s' : St) : Prop := ∀ N w X ι a, SRel N w X ι s a → ∃ ι', SRel N w X ι' s' a ∧ Evo w (place s.h ι) w (place s'.h ι')
theorem comp_reg (P : Program) (N : Nat) (id : Nat) (ops : Array Oper) (b : Bool) :
  (b = false ∧ comp P N (.region id ops b) = .reg (ops.toList.map (compG P N ops))) ∨
  (b = true ∧ ∃ un, unordered ops (ops.toList.map (compG P N ops)) = some un ∧ comp P N (.region id ops b) = .dreg (ops.toList.map (compG P N ops)) un) ∨ comp P N (.region id ops b) = .bad := by
 cases b with
 | false => exact .inl ⟨rfl, rfl⟩
 | true =>
  right
  simp only [comp]
  cases hu : unordered ops (ops.toList.map (compG P N ops)) with
  | none => exact .inr rfl
  | some un => exact .inl ⟨trivial, un, rfl, rfl⟩
theorem range_filterMap {α : Type} (f : Nat → Option α) (n : Nat) (hf : ∀ i, i < n → (f i).isSome = true) (i : Nat) : ((List.range n).filterMap f)[i]? = if i < n then f i else none := by
 induction n with
 | zero => simp
 | succ n ih =>
  have hlen : ((List.range n).filterMap f).length = n := by
   have : ∀ m, m ≤ n → ((List.range m).filterMap f).length = m := by
    intro m
    induction m with
    | zero => simp
    | succ m ihm =>
     intro hm
     rw [List.range_succ, List.filterMap_append, List.length_append, ihm (by omega)]
     obtain ⟨v, hv⟩ := Option.isSome_iff_exists.1 (hf m (by omega))
     simp [hv]
   exact this n (Nat.le_refl _)
  have ih := ih (fun i hi => hf i (by omega))
  obtain ⟨v, hv⟩ := Option.isSome_iff_exists.1 (hf n (by omega))
  rw [List.range_succ, List.filterMap_append]
  by_cases hi : i < n
  ·rw [List.getElem?_append_left (by omega), ih]
   simp [hi, Nat.lt_succ_of_lt hi]
  ·rw [List.getElem?_append_right (by omega), hlen]
   by_cases he : i = n
   ·subst he; simp [hv]
   ·have h1 : ¬ i < n + 1 := by omega
    have h2 : 0 < i - n := by omega
    simp [hv, h1]
    omega
theorem SRel.drawn {N : Nat} {w : World} {X : Nat → Prop} {ι : Nat → Bd} {s : St} {a : Act} (h : SRel N w X ι s a) : SRel N { w with drawn := w.drawn + 1 } X ι s a where
 heap := HRel.heap_eq (w := w) (w1 := { w with drawn := w.drawn + 1 }) rfl h.heap
 env := fun t => VR.heap_eq (w := w) (w1 := { w with drawn := w.drawn + 1 }) rfl (h.env t)
 size := h.size
 defers := h.defers
 out := h.out
theorem Evo.drawn {w w' : World} {G G' : Pl} {n : Nat} (h : Evo { w with drawn := n } G w' G') : Evo w G w' G' :=
 ⟨h.size, h.keep, h.own, h.gle, h.os, h.tape, h.output⟩
section
variable {P : Program} {N : Nat} {Q Q' : AX → St → Prop} {s s' : St} {c d : ACode}
theorem Wk.refl (s : St) : Wk s s := fun _ w _ ι _ h => ⟨ι, h, Evo.refl _ _⟩
theorem Wk.trans {s1 s2 s3 : St} (h1 : Wk s1 s2) (h2 : Wk s2 s3) : Wk s1 s3 := fun N w X ι a h =>
 let ⟨ι1, r1, e1⟩ := h1 N w X ι a h
 let ⟨ι2, r2, e2⟩ := h2 N w X ι1 a r1
 ⟨ι2, r2, e1.trans e2⟩
theorem AW.weak (hw : Wk s s') (h : AW P N c Q s') : AW P N c Q s := fun code hc w X ι a hr =>
 let ⟨ι', r', e'⟩ := hw N w X ι a hr
 wp_mono (h code hc w X ι' a r') fun e a2 w2 ⟨x, s2, ι2, h1, h2, h3, h4⟩ => ⟨x, s2, ι2, h1, h2, h3, e'.trans h4⟩
theorem AW.post (h : AW P N c Q s) (hq : ∀ x s', Q x s' → ∃ s2, Wk s' s2 ∧ Q' x s2) : AW P N c Q' s := fun code hc w X ι a hr =>
 wp_mono (h code hc w X ι a hr) fun e a2 w2 ⟨x, s2, ι2, h1, h2, h3, h4⟩ =>
  let ⟨s3, k1, k2⟩ := hq x s2 h2
  let ⟨ι3, r3, e3⟩ := k1 N w2 X ι2 a2 h3
  ⟨x, s3, ι3, h1, k2, r3, h4.trans e3⟩
theorem AW.mono (h : AW P N c Q s) (hq : ∀ x s', Q x s' → Q' x s') : AW P N c Q' s := h.post fun x s' q => ⟨s', .refl _, hq x s' q⟩
theorem AW.skip (h : Q .normal s) : AW P N .skip Q s := by
 intro code hc w X ι a hr
 cases code
 case region id ops b =>
  rcases comp_reg P N id ops b with ⟨_, h'⟩ | ⟨_, un, _, h'⟩ | h' <;> rw [h'] at hc <;> cases hc
 case skip =>
  exact wp_skip ⟨.normal, s, ι, rfl, h, hr, Evo.refl _ _⟩
 all_goals (simp only [comp] at hc; cases hc)
theorem AW.exit {id : Nat} (h : Q (.exit id) s) : AW P N (.exit id) Q s := by
 intro code hc w X ι a hr
 cases code
 case region id ops b =>
  rcases comp_reg P N id ops b with ⟨_, h'⟩ | ⟨_, un, _, h'⟩ | h' <;> rw [h'] at hc <;> cases hc
 case exit i =>
  simp only [comp, ACode.exit.injEq] at hc
  subst hc
  exact wp_exit ⟨.exit _, s, ι, rfl, h, hr, Evo.refl _ _⟩
 all_goals (simp only [comp] at hc; cases hc)
theorem AW.ret (h : Q .ret s) : AW P N .ret Q s := by
 intro code hc w X ι a hr
 cases code
 case region id ops b =>
  rcases comp_reg P N id ops b with ⟨_, h'⟩ | ⟨_, un, _, h'⟩ | h' <;> rw [h'] at hc <;> cases hc
 case ret =>
  exact wp_ret ⟨.ret, s, ι, rfl, h, hr, Evo.refl _ _⟩
 all_goals (simp only [comp] at hc; cases hc)
theorem AW.seq (h : AW P N c (then' (AW P N d Q) Q) s) : AW P N (.seq c d) Q s := by
 intro code hc w X ι a hr
 cases code
 case region id ops b =>
  rcases comp_reg P N id ops b with ⟨_, h'⟩ | ⟨_, un, _, h'⟩ | h' <;> rw [h'] at hc <;> cases hc
 case seq x y =>
  simp only [comp, ACode.seq.injEq] at hc
  obtain ⟨rfl, rfl⟩ := hc
  refine wp_seq (wp_mono (h x rfl w X ι a hr) ?_)
  rintro e a2 w2 ⟨z, s2, ι2, rfl, h2, h3, h4⟩
  cases z with
  | normal => exact wp_mono (h2 y rfl w2 X ι2 a2 h3) fun e a3 w3 ⟨z, s3, ι3, k1, k2, k3, k4⟩ => ⟨z, s3, ι3, k1, k2, k3, h4.trans k4⟩
  | exit i => exact ⟨.exit i, s2, ι2, rfl, h2, h3, h4⟩
  | ret => exact ⟨.ret, s2, ι2, rfl, h2, h3, h4⟩
 all_goals (simp only [comp] at hc; cases hc)
theorem AW.cond {x : AArg} (t : Bool) (hx : x.ev s.env = .d (.bool t)) (h : AW P N (if t then c else d) Q s) : AW P N (.cond x c d) Q s := by
 intro code hc w X ι a hr
 cases code
 case region id ops b =>
  rcases comp_reg P N id ops b with ⟨_, h'⟩ | ⟨_, un, _, h'⟩ | h' <;> rw [h'] at hc <;> cases hc
 case cond y c1 d1 =>
  simp only [comp, ACode.cond.injEq] at hc
  obtain ⟨rfl, rfl, rfl⟩ := hc
  have hv := arg_ok hr.env y
  rw [hx] at hv
  refine wp_cond hv.bool_inv ?_
  cases t
  ·exact h d1 rfl w X ι a hr
  ·exact h c1 rfl w X ι a hr
 all_goals (simp only [comp] at hc; cases hc)
theorem AW.block {id : Nat} (h : AW P N c (inBlk id Q) s) : AW P N (.block id c) Q s := by
 intro code hc w X ι a hr
 cases code
 case region id ops b =>
  rcases comp_reg P N id ops b with ⟨_, h'⟩ | ⟨_, un, _, h'⟩ | h' <;> rw [h'] at hc <;> cases hc
 case block i c1 =>
  simp only [comp, ACode.block.injEq] at hc
  obtain ⟨rfl, rfl⟩ := hc
  refine wp_block (wp_mono (h c1 rfl w X ι a hr) ?_)
  rintro e a2 w2 ⟨z, s2, ι2, rfl, h2, h3, h4⟩
  cases z with
  | normal => exact ⟨.normal, s2, ι2, rfl, h2, h3, h4⟩
  | exit j =>
   simp only [inBlk] at h2
   simp only [AX.ex, Exit.inBlock]
   split
   ·rename_i hj
    rw [if_pos hj] at h2
    exact ⟨.normal, s2, ι2, rfl, h2, h3, h4⟩
   ·rename_i hj
    rw [if_neg hj] at h2
    exact ⟨.exit j, s2, ι2, rfl, h2, h3, h4⟩
  | ret => exact ⟨.ret, s2, ι2, rfl, h2, h3, h4⟩
 all_goals (simp only [comp] at hc; cases hc)
theorem AW.loop (I : Nat → St → Prop) (n : Nat) (h0 : I n s) (round : ∀ n s, I n s → AW P N c (then' (fun s' => ∃ m, m < n ∧ I m s') Q) s) : AW P N (.loop c) Q s := by
 intro code hc w X ι a hr
 cases code
 case region id ops b =>
  rcases comp_reg P N id ops b with ⟨_, h'⟩ | ⟨_, un, _, h'⟩ | h' <;> rw [h'] at hc <;> cases hc
 case loop c1 =>
  simp only [comp, ACode.loop.injEq] at hc
  subst hc
  refine Go.wp_loop_ghost (P := P) (fun n a' w' => ∃ s' ι', I n s' ∧ SRel N w' X ι' s' a' ∧ Evo w (place s.h ι) w' (place s'.h ι')) n ⟨s, ι, h0, hr, Evo.refl _ _⟩ ?_
  rintro n a1 w1 ⟨s1, ι1, hI, hr1, he1⟩
  refine wp_mono (round n s1 hI c1 rfl w1 X ι1 a1 hr1) ?_
  rintro e a2 w2 ⟨z, s2, ι2, rfl, h2, h3, h4⟩
  cases z with
  | normal => 
   obtain ⟨m, hm, hI2⟩ := h2
   exact ⟨m, hm, s2, ι2, hI2, h3, he1.trans h4⟩
  | exit j => exact ⟨.exit j, s2, ι2, rfl, h2, h3, he1.trans h4⟩
  | ret => exact ⟨.ret, s2, ι2, rfl, h2, h3, he1.trans h4⟩
 all_goals (simp only [comp] at hc; cases hc)
theorem AW.reg {ops : List GOp} (h : Sq P ops s (Q .normal)) : AW P N (.reg ops) Q s := by
 intro code hc w X ι a hr
 cases code
 case region id os b =>
  rcases comp_reg P N id os b with ⟨hb, h'⟩ | ⟨_, un, _, h'⟩ | h' <;> rw [h'] at hc <;> (try (cases hc; done))
  simp only [ACode.reg.injEq] at hc
  subst hb hc
  refine wp_region ?_
  rw [List.range_eq_range', show os.size = os.toList.length by simp]
  exact seq_sound (P := P) (N := N) (X := X) (K := Q .normal) os.toList 0 s a w ι (fun j => by simp) hr h (fun a' w' ι' s' k1 k2 k3 => ⟨.normal, s', ι', rfl, k3, k1, k2⟩)
 all_goals (simp only [comp] at hc; cases hc)
theorem AW.dregO {ops : List GOp} {un : List (Nat × Nat)} (hm : P.follows .mixedOrders = true) {s2 : St} {fs : List Fp} (ho : Ops P ops s s2 fs) (hcf : conf un fs = true) (hq : Q .normal s2) : AW P N (.dreg ops un) Q s := by
 intro code hc w X ι a hr
 cases code
 case region id os b =>
  rcases comp_reg P N id os b with ⟨hb, h'⟩ | ⟨hb, un', hu, h'⟩ | h' <;> rw [h'] at hc <;> (try (cases hc; done))
  simp only [ACode.dreg.injEq] at hc
  obtain ⟨rfl, rfl⟩ := hc
  subst hb
  refine wp_region_any hm ?_
  have hk := ops_kind ho
  have hlen : fs.length = os.size := by rw [hk.1]; simp
  refine draw_any (P := P) (N := N) (X := X) (s2 := s2) hu hcf hlen hk.2 os.size (Array.replicate os.size false) (List.range os.size) s a _ ι (by simp) (by simp) List.pairwise_lt_range ?_ ?_ (hr.drawn) ?_ ?_
  ·intro i
   simp only [List.mem_range, Array.getD_eq_getD_getElem?, Array.getElem?_replicate]
   constructor
   ·intro hi; exact ⟨hi, by simp [hi]⟩
   ·exact fun hi => hi.1
  ·intro x o hx
   simp only [Array.getD_eq_getD_getElem?, Array.getElem?_replicate] at hx
   split at hx <;> simp at hx
  ·have e1 : (List.range os.size).filterMap (fun i => (os[i]?).map (compG P N os)) = os.toList.map (compG P N os) := by
    apply List.ext_getElem?
    intro i
    rw [range_filterMap (fun i => (os[i]?).map (compG P N os)) os.size (fun i hi => by simp [hi])]
    by_cases hi : i < os.size
    ·simp [hi]
    ·simp [hi]
   have e2 : (List.range os.size).filterMap (fun i => fs[i]?) = fs := by
    apply List.ext_getElem?
    intro i
    rw [range_filterMap (fun i => fs[i]?) os.size (fun i hi => by simp [hlen, hi])]
    by_cases hi : i < os.size
    ·simp [hi]
    ·simp [hi, hlen]
   rw [e1, e2]
   exact ho
  ·intro a' w' ι' k1 k2
   exact ⟨.normal, s2, ι', rfl, hq, k1, k2.drawn⟩
 all_goals (simp only [comp] at hc; cases hc)
theorem AW.dreg {ops : List GOp} {un : List (Nat × Nat)} (hm : P.follows .mixedOrders = true) (h : Dr P ops s fun s' fs => conf un fs = true ∧ Q .normal s') : AW P N (.dreg ops un) Q s :=
 let ⟨_, _, ho, hcf, hq⟩ := dr_ops _ _ _ h
 .dregO hm ho hcf hq
theorem AW.dregn {ops : List GOp} {un : List (Nat × Nat)} (hm : P.follows .mixedOrders = true) (als : List Alt) (h : Dn P als ops s fun s' fs => conf un fs = true ∧ Q .normal s') : AW P N (.dreg ops un) Q s :=
 let ⟨_, _, ho, hcf, hq⟩ := dn_ops _ _ _ _ h
 .dregO hm ho hcf hq
end
end Go.Abs
/- The same world, seen otherwise: states. -/
set_option linter.unusedVariables false
set_option linter.unusedSimpArgs false
namespace Go.Abs
section
variable {w : World} {X : Nat → Prop} {ι : Nat → Bd}
theorem Wk.of {s s' : St} (src : Nat → Option Nat) (ht : HT s.h s'.h src) (he : ∀ t, T s.h s'.h src (s.env t) (s'.env t)) (ho : OutOK s.h → OutOK s'.h) : Wk s s' :=
 fun N w X ι a hr => ⟨newι ι s'.h src, ⟨HT.rel hr.heap ht, fun t => HT.vr hr.heap ht (he t) (hr.env t), hr.size, hr.defers, ho hr.out⟩, ht.evo⟩
end
end Go.Abs
/- A function of the abstract machine: its body, its results, and the call. Environments as lists. -/
set_option linter.unusedVariables false
set_option linter.unusedSimpArgs false
namespace Go.Abs
/-- An environment as a list. -/
def E : List (Nat × AV) → Env
 | [], _ => .undef
 | (t, v) :: l, s => if s = t then v else E l s
theorem E_nil (s : Nat) : E [] s = .undef := rfl
theorem E_cons (t : Nat) (v : AV) (l : List (Nat × AV)) (s : Nat) : E ((t, v) :: l) s = if s = t then v else E l s := rfl
theorem upd_E (l : List (Nat × AV)) (t : Nat) (v : AV) : upd (E l) t v = E ((t, v) :: l) := by funext s; simp [upd, E]
theorem updo_E (l : List (Nat × AV)) (t : Nat) (v : AV) : updo (E l) (some t) v = E ((t, v) :: l) := upd_E l t v
theorem updo_none {α : Type} (f : Nat → α) (v : α) : updo f none v = f := rfl
def par : List AV → Nat → List (Nat × AV)
 | [], _ => []
 | a :: als, n => (n, a) :: par als (n + 1)
theorem par_get : ∀ (args : List AV) (n t : Nat), E (par args n) t = if n ≤ t then (args[t - n]?).getD .undef else .undef
 | [], n, t => by simp [par, E]
 | a :: als, n, t => by
  simp only [par, E, par_get als (n + 1) t]
  by_cases h1 : t = n
  ·subst h1; simp
  ·by_cases h2 : n ≤ t
   ·have h3 : n + 1 ≤ t := by omega
    have : t - n = (t - (n + 1)) + 1 := by omega
    simp [h1, h2, h3, this]
   ·have h3 : ¬ n + 1 ≤ t := by omega
    simp [h1, h2, h3]
/-- The values hold in the environment. -/
def Cov : List (Nat × AV) → Env → Prop
 | [], _ => True
 | (t, v) :: l, env => env t = v ∧ Cov l env
theorem Cov.T {h h' : Heap} {src : Nat → Option Nat} : ∀ {l : List (Nat × AV)} {env : Env}, Cov l env → ∀ t, T h h' src (env t) (E l t)
 | [], env, _, t => .undef _
 | (s, v) :: l, env, hc, t => by
  simp only [E]
  by_cases ht : t = s
  ·subst ht
   simp only [if_true]
   rw [hc.1]
   exact .refl _
  ·simp only [ht, if_false]
   exact Cov.T hc.2 t
theorem HT.refl (h : Heap) : HT h h some where
 dead _ _ := Nat.le_refl _
 fresh _ _ := .inl ⟨rfl, rfl⟩
 inj b b' c _ _ h1 h2 := by cases h1; cases h2; rfl
 new b blk _ h2 := by cases h2
 old b blk c hb hc := by
  cases hc
  exact ⟨blk, hb, rfl, fun i x hx => ⟨x, hx, rfl, fun j a ha => ⟨a, ha, .refl a⟩⟩⟩
/-- Blocks die. -/
def Dies (h h' : Heap) : Prop := ∀ b, h' b = h b ∨ ((h' b).live = none ∧ (h b).ver ≤ (h' b).ver)
theorem HT.dies {h h' : Heap} (hd : Dies h h') : HT h h' some where
  dead b hb := by rcases hd b with e | e; · rw [e]; exact Nat.le_refl _
                  · exact e.2
  fresh b hb := by rcases hd b with e | e; · exact .inl ⟨rfl, by rw [e]⟩
                   · rw [e.1] at hb; cases hb
  inj b b' c _ _ h1 h2 := by cases h1; cases h2; rfl
  new b blk _ h2 := by cases h2
  old b blk c hb hc := by
    cases hc
    rcases hd b with e | e
    · exact ⟨blk, by rw [← e]; exact hb, rfl, fun i x hx => ⟨x, hx, rfl, fun j a ha => ⟨a, ha, .refl a⟩⟩⟩
    · rw [e.1] at hb; cases hb
theorem Dies.out {h h' : Heap} (hd : Dies h h') (ho : OutOK h) : OutOK h' := by
 intro b blk hb hl x hx c hc
 rcases hd b with e | e
 ·rw [e] at hl; exact ho b blk hb hl x hx c hc
 ·rw [e.1] at hl; cases hl
theorem Dies.outer (h : Heap) : Dies h (outer h) := by
 intro b
 by_cases hb : b < lim
 ·exact .inr ⟨by simp [Go.Abs.outer, hb], by simp [Go.Abs.outer, hb]⟩
 ·exact .inl (by simp [Go.Abs.outer, hb])
theorem Dies.refl (h : Heap) : Dies h h := fun b => .inl rfl
/-- Only these values are kept, and blocks die. -/
theorem Wk.cov {env : Env} {h h' : Heap} {l : List (Nat × AV)} (hc : Cov l env) (hd : Dies h h') : Wk ⟨env, h⟩ ⟨E l, h'⟩ :=
 .of some (HT.dies hd) (Cov.T hc) hd.out
/-- An empty row of its own, where there is nil. -/
theorem Wk.nil {env env' : Env} {h : Heap} (b k ver : Nat) (hb : (h b).live = none) (hlt : b < lim) (hk : 0 < k) (hv : (h b).ver < ver) (he : ∀ t, env' t = env t ∨ (env t = .d .nil ∧ env' t = .sl b ver 0 0 0)) :
  Wk ⟨env, h⟩ ⟨env', upd h b ⟨ver, some ⟨k, []⟩⟩⟩ := by
 have live : ∀ c, (upd h b ⟨ver, some ⟨k, []⟩⟩ c) = if c = b then ⟨ver, some ⟨k, []⟩⟩ else h c := fun c => rfl
 refine .of (fun c => if c = b then none else some c) ⟨fun c hc => ?_, fun c hc => ?_, fun c c' d _ _ h1 h2 => ?_, fun c blk hc hs => ?_, fun c blk d hc hs => ?_⟩ (fun t => ?_) ?_
 ·simp only [live] at hc ⊢
  split at hc
  ·cases hc
  ·rename_i h1; simp [h1]
 ·simp only [live]
  by_cases h1 : c = b
  ·subst h1; simp; exact hv
  ·simp [h1]
 ·split at h1 <;> (try cases h1)
  split at h2 <;> cases h2
  rfl
 ·simp only [live] at hc
  split at hs
  ·rename_i h1; simp [h1] at hc; subst hc; exact ⟨rfl, hk⟩
  ·cases hs
 ·split at hs
  ·cases hs
  ·rename_i h1
   cases hs
   simp only [live, h1, if_false] at hc
   exact ⟨blk, hc, rfl, fun i x hx => ⟨x, hx, rfl, fun j a ha => ⟨a, ha, .refl a⟩⟩⟩
 ·rcases he t with e | ⟨e1, e2⟩
  ·simp only [e]; exact .refl _
  ·simp only [e1, e2]
   have := T.nilS (h := h) (h' := upd h b ⟨ver, some ⟨k, []⟩⟩) (src := fun c => if c = b then none else some c) b (by simp [live]) (by simp)
   simpa only [live, if_true] using this
 ·intro ho c blk hc hl
  have : c ≠ b := by omega
  simp only [live, this, if_false] at hl
  exact ho c blk hc hl
/-! ### Bodies -/
inductive Res where
 | tmp (t : Nat)
 | cell (ag : Option Nat) (a : Nat)
 | bad
 deriving Inhabited, DecidableEq
def compRes (P : Program) : ResultVar → Res
 | .tmp t => .tmp t
 | .cell a t => if (P.underlying t).isSome && (P.info? t).isSome then .cell (if isAggT P t then some (sizeT P t) else none) a else .bad
def resA1 (s : St) : Res → Option AV
 | .tmp t => some (s.env t)
 | .cell ag a => (exec (.load ag (.t a)) 0 s.env s.h).map (·.v)
 | .bad => none
def resL (s : St) : List Res → Option (List AV)
 | [] => some []
 | r :: rs => (resA1 s r).bind fun v => (resL s rs).bind fun vs => some (v :: vs)
def resA (s : St) (rs : List Res) : Option AV := (resL s rs).map fun | [v] => v | vs => .tup vs
/-- The body of a function. -/
def Body (P : Program) (f : FuncId) (N : Nat) (c : ACode) (rs : List Res) : Prop :=
 ∃ fn code, P.funcs[f]? = some fn ∧ fn.body = some code ∧ noExt P f = true ∧ fn.ntmps = N ∧ comp P N code = c ∧ fn.results.toList.map (compRes P) = rs
theorem Body.of {P : Program} {f : FuncId} {N : Nat} {c : ACode} {rs : List Res} (fn : Func) (hf : P.funcs[f]? = some fn) (hb : fn.body.isSome = true) (hn : noExt P f = true) (hN : fn.ntmps = N)
  (hc : comp P N (fn.body.getD .skip) = c) (hr : fn.results.toList.map (compRes P) = rs) : Body P f N c rs := by
 obtain ⟨code, hcode⟩ := Option.isSome_iff_exists.1 hb
 exact ⟨fn, code, hf, hcode, hn, hN, by rw [hcode] at hc; exact hc, hr⟩
/-- Where a body ends. -/
def Ret (rs : List Res) (Q : AV → Heap → Prop) : AX → St → Prop
 | .exit _, _ => False
 | _, s => ∃ r0 r, resA s rs = some r0 ∧ T s.h (outer s.h) some r0 r ∧ outOnly r = true ∧ Q r s.h
section
variable {P : Program} {o : Oper} {X : Nat → Prop} {ι : Nat → Bd} {h : Heap} {a : Act} {w : World} {e : Eff}
theorem load_ok {x : Operand} {t : Nat} {inf : TypeInfo} (hr : HRel w X ι h) {env : Env} (he : EnvOK w (Forb X (place h ι)) (place h ι) env a) (dst : Nat) 
  (ht : (P.underlying t).isSome = true) (hi : P.info? t = some inf) (hx : exec (.load (if isAggT P t then some inf.size else none) (arg x)) dst env h = some e) : ∃ A v, a.eval x = .pointer (some A) ∧ (loadVar t A).run P w = .ok v w ∧ VR w (Forb X (place h ι)) (place h ι) e.v v ∧ e.w = none := by
 have hc := arg_ok he x
 have run1 : ∀ (A : Addr) (u : Value), isAggT P t = false → w.cell? A = some u → (loadVar t A).run P w = .ok u w := by
  intro A u h0 h2
  simp [loadVar, run_isAgg ht, h0, load, Sem.run, h2, Sem.run_bind]
 have run2 : ∀ (A : Addr) (us : List Value), isAggT P t = true → us.length = inf.size → (∀ j v, us[j]? = some v → w.cell? (A.add j) = some v) → (loadVar t A).run P w = .ok (.agg us.toArray) w := by
  intro A us h0 h2 h3
  have h4 := run_loadCells_list (P := P) (w := w) A us h3
  rw [h2] at h4
  simp [loadVar, run_isAgg ht, h0, run_sizeOf' hi, h4, Sem.run_bind]
 have fin : ∀ A v, a.eval x = .pointer (some A) → (loadVar t A).run P w = .ok v w → VR w (Forb X (place h ι)) (place h ι) e.v v → e.w = none → ∃ A v, a.eval x = .pointer (some A) ∧ (loadVar t A).run P w = .ok v w ∧ VR w (Forb X (place h ι)) (place h ι) e.v v ∧ e.w = none := fun A v h1 h2 h3 h4 => ⟨A, v, h1, h2, h3, h4⟩
 simp only [exec] at hx
 split at hx
 ·rename_i b ver i o' hv
  rw [hv] at hc
  simp only [Option.bind_eq_some_iff] at hx
  obtain ⟨blk, hb, y, hy, hx⟩ := hx
  obtain ⟨n, hn, hva⟩ := hc.ptr_inv hb
  obtain ⟨_, hlv, _⟩ := live_place (ι := ι) hb
  obtain ⟨_, _, h3⟩ := hr.blks b blk hlv
  rw [hn] at h3
  obtain ⟨cs, et, g1, g2, g3, g4⟩ := h3
  have cell : ∀ (j : Nat) c, y[j]? = some c → ∃ v, w.cell? ⟨n, i * (ι b).k + j, none⟩ = some v ∧ v.oneCell' = true ∧ VR w (Forb X (place h ι)) (place h ι) c v := by
   intro j c hj
   obtain ⟨v, k1, k2, k3⟩ := g4 i y j c hy hj
   exact ⟨v, by simp [World.cell?, g1, k1], k2, k3⟩
  by_cases hag : isAggT P t = true
  ·simp only [hag, if_true] at hx
   split at hx
   ·rename_i hle
    simp at hx
    subst hx
    have hex : ∀ j, j < inf.size → ∃ v, w.cell? ⟨n, i * (ι b).k + (o' + j), none⟩ = some v ∧ v.oneCell' = true ∧ ∀ c, y[o' + j]? = some c → VR w (Forb X (place h ι)) (place h ι) c v := by
     intro j hj
     have hlt : o' + j < y.length := by omega
     obtain ⟨v, k1, k2, k3⟩ := cell (o' + j) y[o' + j] (by simp [hlt])
     exact ⟨v, k1, k2, fun c hc => by simp [hlt] at hc; subst hc; exact k3⟩
    have hch : ∃ f : Nat → Value, ∀ j, j < inf.size → w.cell? ⟨n, i * (ι b).k + (o' + j), none⟩ = some (f j) ∧ (f j).oneCell' = true ∧ ∀ c, y[o' + j]? = some c → VR w (Forb X (place h ι)) (place h ι) c (f j) := by
     refine ⟨fun j => if hj : j < inf.size then (hex j hj).choose else undef, fun j hj => ?_⟩
     simp only [hj, dif_pos]
     exact (hex j hj).choose_spec
    obtain ⟨f, hf⟩ := hch
    refine fin _ _ hva (run2 _ ((List.range inf.size).map f) hag (by simp) (fun j v hj => ?_)) (.agg _ _ (by simp; omega) (fun v hv => ?_) (fun j c v hc hv => ?_)) rfl
    ·simp only [List.getElem?_map, Option.map_eq_some_iff] at hj
     obtain ⟨j', hj', rfl⟩ := hj
     have := List.getElem?_eq_some_iff.1 hj'
     simp at this
     obtain ⟨hlt, rfl⟩ := this
     rw [add_none, Nat.add_assoc]
     exact (hf _ hlt).1
    ·simp at hv
     obtain ⟨j, hj, rfl⟩ := hv
     exact (hf j hj).2.1
    ·simp only [List.getElem?_take, List.getElem?_drop] at hc
     split at hc
     ·rename_i hlt
      simp [hlt] at hv
      subst hv
      exact (hf j hlt).2.2 c hc
     ·cases hc
   ·cases hx
  ·simp only [hag] at hx
   simp only [Bool.not_eq_true] at hag
   simp only [Bool.false_eq_true, if_false, Option.bind_eq_some_iff] at hx
   obtain ⟨c, hc', hx⟩ := hx
   simp at hx
   subst hx
   obtain ⟨v, k1, k2, k3⟩ := cell o' c hc'
   exact fin _ _ hva (run1 _ v hag k1) k3 rfl
 ·rename_i cs hv
  rw [hv] at hc
  generalize hva : a.eval x = va at hc fin
  cases hc with
  | dptr _ blk off vs h1 h2 h3 =>
   by_cases hag : isAggT P t = true
   ·simp only [hag, if_true] at hx
    split at hx
    ·rename_i hle
     simp at hx
     subst hx
     refine fin _ _ rfl (run2 _ ((List.range inf.size).map vs) hag (by simp) (fun j v hj => ?_)) (.agg _ _ (by simp; omega) (fun v hv => ?_) (fun j c v hc hv => ?_)) rfl
     ·simp only [List.getElem?_map, Option.map_eq_some_iff] at hj
      obtain ⟨j', hj', rfl⟩ := hj
      have := List.getElem?_eq_some_iff.1 hj'
      simp at this
      obtain ⟨hlt, rfl⟩ := this
      rw [add_none]
      exact h2 j cs[j] (by simp [*])
     ·simp at hv
      obtain ⟨j, hj, rfl⟩ := hv
      exact (h3 j cs[j] (by simp [*])).one
     ·by_cases hlt : j < inf.size
      ·simp [List.getElem?_take, hlt] at hc hv
       obtain ⟨d, hd, rfl⟩ := hc
       subst hv
       exact .d _ _ (h3 j d hd)
      ·simp [hlt] at hv
    ·cases hx
   ·simp only [hag] at hx
    simp only [Bool.not_eq_true] at hag
    simp only [Bool.false_eq_true, if_false, Option.bind_eq_some_iff] at hx
    obtain ⟨c, hc', hx⟩ := hx
    simp at hx
    subst hx
    exact fin _ _ rfl (run1 _ (vs 0) hag (h2 0 c hc')) (.d _ _ (h3 0 c hc')) rfl
 ·cases hx
theorem res1_ok {s : St} {N : Nat} (hr : SRel N w X ι s a) {rv : ResultVar} {x : AV} (hx : resA1 s (compRes P rv) = some x) :
  ∃ v, (match rv with | .tmp t => pure (a.tmps.getD t undef) | .cell b t => do loadVar t (← asAddr (a.tmps.getD b undef)) : Sem Value).run P w = .ok v w ∧ VR w (Forb X (place s.h ι)) (place s.h ι) x v := by
 cases rv with
 | tmp t =>
  simp only [compRes, resA1, Option.some.injEq] at hx
  subst hx
  exact ⟨_, by simp [Sem.run_pure], hr.env t⟩
 | cell b t =>
  simp only [compRes] at hx
  split at hx
  ·rename_i hc
   simp only [Bool.and_eq_true] at hc
   obtain ⟨inf, hi⟩ := Option.isSome_iff_exists.1 hc.2
   simp only [resA1, Option.map_eq_some_iff] at hx
   obtain ⟨e, he, rfl⟩ := hx
   rw [sizeT_of hi] at he
   obtain ⟨A, v, h1, h2, h3, _⟩ := load_ok (P := P) (x := .tmp b) (t := t) hr.heap hr.env 0 hc.1 hi he
   refine ⟨v, ?_, h3⟩
   have h1 : a.tmps.getD b undef = .pointer (some A) := h1
   simp only [h1, asAddr, Sem.run_bind, Sem.run_pure, Result.andThen_ok]
   exact h2
  ·simp [resA1] at hx
theorem resL_ok {s : St} {N : Nat} (hr : SRel N w X ι s a) : ∀ (rvs : List ResultVar) {xs : List AV}, resL s (rvs.map (compRes P)) = some xs →
  ∃ vs : List Value, (rvs.mapM fun rv => (match rv with | .tmp t => pure (a.tmps.getD t undef) | .cell b t => do loadVar t (← asAddr (a.tmps.getD b undef)) : Sem Value)).run P w = .ok vs w ∧ vs.length = xs.length ∧
   ∀ (j : Nat) c v, xs[j]? = some c → vs[j]? = some v → VR w (Forb X (place s.h ι)) (place s.h ι) c v
 | [], xs, hx => by
  simp only [List.map_nil, resL, Option.some.injEq] at hx
  subst hx
  exact ⟨[], by simp [Sem.run_pure], rfl, fun j c v h => by simp at h⟩
 | rv :: rvs, xs, hx => by
  simp only [List.map_cons, resL, Option.bind_eq_some_iff] at hx
  obtain ⟨x, h1, xs', h2, h3⟩ := hx
  simp only [Option.some.injEq] at h3
  subst h3
  obtain ⟨v, k1, k2⟩ := res1_ok hr h1
  obtain ⟨vs, l1, l2, l3⟩ := resL_ok hr rvs h2
  refine ⟨v :: vs, ?_, by simp [l2], fun j c u hc hu => ?_⟩
  ·rw [List.mapM_cons]
   simp only [Sem.run_bind]
   rw [k1]
   simp only [Result.andThen_ok]
   rw [l1]
   simp [Sem.run_pure]
  ·cases j with
   | zero => simp at hc hu; subst hc; subst hu; exact k2
   | succ j => exact l3 j c u (by simpa using hc) (by simpa using hu)
theorem ACall.of {f : FuncId} {N : Nat} {c : ACode} {rs : List Res} {args : List AV} {Q : AV → Heap → Prop} (hb : Body P f N c rs) (hN : args.length ≤ N) (hw : AW P N c (Ret rs Q) ⟨E (par args 0), outer h⟩) : ACall P f args h Q := by
 obtain ⟨fn, code, hf, hbd, hne, rfl, hc, hrs⟩ := hb
 refine ⟨hne, fun w X ι vs hr ho hl hv => calls_of_wp hf hbd ?_⟩
 have hout : OutOK (outer h) := (Dies.outer h).out ho
 have hs0 : SRel fn.ntmps w X ι ⟨E (par args 0), outer h⟩ { tmps := vs ++ Array.replicate (fn.ntmps - vs.size) undef, defers := [] } := by
  refine ⟨hr, fun t => ?_, by simp; omega, rfl, hout⟩
  simp only [par_get, Nat.zero_le, if_true, Nat.sub_zero]
  cases ht : args[t]? with
  | none => exact .undef _
  | some c =>
   have hlt : t < vs.size := by rw [hl]; exact (List.getElem?_eq_some_iff.1 ht).1
   have := hv t c vs[t] ht (by simp [hlt])
   simp only [Option.getD_some, Array.getD_eq_getD_getElem?, Array.getElem?_append_left hlt]
   simpa [hlt] using this
 refine wp_mono (hw code hc w X ι _ hs0) ?_
 rintro e a' w' ⟨x, s', ι', rfl, hq, hr', hev⟩
 have fin : (∃ r0 r, resA s' rs = some r0 ∧ T s'.h (outer s'.h) some r0 r ∧ outOnly r = true ∧ Q r s'.h) → a'.defers = [] ∧ ∃ v, (results fn a'.tmps).run P w' = .ok v w' ∧
   ∃ r v' h' ι', Q r h' ∧ Ending.returned v = .returned v' ∧ HRel w' X ι' (outer h') ∧ OutOK h' ∧ outOnly r = true ∧ VR w' (Forb X (place (outer h') ι')) (place (outer h') ι') r v' ∧ Evo w (place (outer h) ι) w' (place (outer h') ι') := by
  rintro ⟨r0, r, h1, h2, h3, h4⟩
  refine ⟨hr'.defers, ?_⟩
  simp only [resA, Option.map_eq_some_iff] at h1
  obtain ⟨xs, h1, h5⟩ := h1
  rw [← hrs] at h1
  obtain ⟨us, k1, k2, k3⟩ := resL_ok (P := P) hr' fn.results.toList h1
  have hrun : ∃ v, (results fn a'.tmps).run P w' = .ok v w' ∧ VR w' (Forb X (place s'.h ι')) (place s'.h ι') r0 v := by
   have k1' : (fn.results.mapM fun rv => (match rv with | .tmp t => pure (a'.tmps.getD t undef) | .cell b t => do loadVar t (← asAddr (a'.tmps.getD b undef)) : Sem Value)).run P w' = .ok us.toArray w' := by
    rw [← Array.toArray_toList (xs := fn.results), List.mapM_toArray]
    simp only [map_eq_pure_bind, Sem.run_bind, k1, Result.andThen_ok, Sem.run_pure]
   refine ⟨if h : us.toArray.size = 1 then us.toArray[0] else .tuple us.toArray, ?_, ?_⟩
   ·simp only [results, Sem.run_bind]
    refine (congrArg (fun r => Result.andThen r _) k1').trans ?_
    simp only [Result.andThen_ok, Sem.run_pure]
   ·subst h5
    match xs, us, k2, k3 with
    | [], [], _, _ => simp; exact .tup _ _ rfl (fun j c v h => by simp at h)
    | [x], [u], _, k3 => simp; exact k3 0 x u rfl rfl
    | x :: y :: xs, u1 :: u2 :: us, k2, k3 =>
     simp
     exact .tup _ _ (by simpa using k2) (fun j c v hc hv => k3 j c v hc (by simpa using hv))
  obtain ⟨v, hrun, hvr⟩ := hrun
  have ht := HT.dies (Dies.outer s'.h)
  exact ⟨v, hrun, r, v, s'.h, _, h4, rfl, HT.rel hr'.heap ht, hr'.out, h3, HT.vr hr'.heap ht h2 hvr, hev.trans ht.evo⟩
 cases x with
 | normal => exact fin hq
 | exit i => exact hq.elim
 | ret => exact fin hq
end
end Go.Abs
/- Rules for use: sequences with what follows behind a name, counted loops, the sizes of data. -/
set_option linter.unusedVariables false
set_option linter.unusedSimpArgs false
namespace Go.Abs
mutual
/-- All rows in a datum are as long as memory allows. -/
def D.lens : D → Prop
 | .slice xs => xs.length ≤ maxL ∧ D.lenss xs
 | _ => True
def D.lenss : List (List D) → Prop
 | [] => True
 | x :: xs => D.lensl x ∧ D.lenss xs
def D.lensl : List D → Prop
 | [] => True
 | x :: xs => D.lens x ∧ D.lensl xs
end
theorem D.lensl_iff {x : List D} : D.lensl x ↔ ∀ d ∈ x, D.lens d := by
 induction x with
 | nil => simp [D.lensl]
 | cons a l ih => simp [D.lensl, ih]
theorem D.lenss_iff {xs : List (List D)} : D.lenss xs ↔ ∀ x ∈ xs, ∀ d ∈ x, D.lens d := by
 induction xs with
 | nil => simp [D.lenss]
 | cons a l ih => simp [D.lenss, D.lensl_iff, ih]
theorem D.lens_slice {xs : List (List D)} : D.lens (.slice xs) ↔ xs.length ≤ maxL ∧ ∀ x ∈ xs, ∀ d ∈ x, D.lens d := by simp [D.lens, D.lenss_iff]
theorem DR.lens {w : World} {F : Nat → Prop} {x : D} {v : Value} (h : DR w F x v) : D.lens x := by
 induction h with
 | slice xs k blk off c vs hc hm hk hF hlt hl hcell hr ih =>
  rw [D.lens_slice]
  refine ⟨hm, fun x hx d hd => ?_⟩
  obtain ⟨i, hi⟩ := List.getElem?_of_mem hx
  obtain ⟨j, hj⟩ := List.getElem?_of_mem hd
  exact ih i j x d hi hj
 | none => rw [D.lens_slice]; exact ⟨Nat.zero_le _, fun x hx => by simp at hx⟩
 | _ => trivial
def AV.lens : AV → Prop
 | .d x => D.lens x
 | _ => True
theorem ACall.lens {P : Program} {f : FuncId} {args : List AV} {h : Heap} {Q : AV → Heap → Prop} (hn : noExt P f = true) (hc : (∀ x ∈ args, AV.lens x) → ACall P f args h Q) : ACall P f args h Q := by
 refine ⟨hn, fun w X ι vs h1 h2 h3 h4 => (hc fun x hx => ?_).2 w X ι vs h1 h2 h3 h4⟩
 obtain ⟨j, hj⟩ := List.getElem?_of_mem hx
 have hlt : j < vs.size := by rw [h3]; exact (List.getElem?_eq_some_iff.1 hj).1
 have hv := h4 j x vs[j] hj (by simp [hlt])
 generalize vs[j] = v at hv
 cases hv with
 | d _ _ hd => exact hd.lens
 | _ => trivial
section
variable {P : Program} {N : Nat} {Q Q' : AX → St → Prop} {s s' : St} {c d : ACode}
theorem AW.lens (t : Nat) {x : D} (ht : s.env t = .d x) (h : D.lens x → AW P N c Q s) : AW P N c Q s := fun code hc w X ι a hr => by
 have hv := hr.env t
 rw [ht] at hv
 cases hv with
 | d _ _ hd => exact h hd.lens code hc w X ι a hr
theorem AW.seqk (h : ∀ K : St → Prop, (∀ s, AW P N d Q s → K s) → AW P N c (then' K Q) s) : AW P N (.seq c d) Q s := .seq (h _ fun _ h => h)
theorem AW.condk {x : AArg} (t : Bool) (hx : x.ev s.env = .d (.bool t)) (h1 : t = true → AW P N c Q s) (h2 : t = false → AW P N d Q s) : AW P N (.cond x c d) Q s := by
 refine .cond t hx ?_
 cases t
 ·exact h2 rfl
 ·exact h1 rfl
/-- A loop that counts. -/
theorem AW.count (n : Nat) (S : Nat → St → Prop) (i0 : Nat) (h0 : i0 ≤ n) (s2 : St) (hw : Wk s s2) (hs : S i0 s2)
  (hr : ∀ i s, i ≤ n → S i s → ∀ K : St → Prop, (∀ s' s2, i < n → Wk s' s2 → S (i + 1) s2 → K s') → AW P N c (then' K Q) s) : AW P N (.loop c) Q s := by
 refine .weak hw (.loop (fun m s => ∃ i s2, i ≤ n ∧ m = n - i ∧ Wk s s2 ∧ S i s2) (n - i0) ⟨i0, s2, h0, rfl, .refl _, hs⟩ ?_)
 rintro m s ⟨i, s2, hi, rfl, hw, hs⟩
 exact .weak hw (hr i s2 hi hs _ fun s' s2 hlt hw' hs' => ⟨n - (i + 1), by omega, i + 1, s2, by omega, rfl, hw', hs'⟩)
end
theorem wrap64 {n : Int} (h1 : -9223372036854775808 ≤ n) (h2 : n < 9223372036854775808) : IntKind.i64.wrap n = n := by
 have e : IntKind.i64.wrap n = if n % 18446744073709551616 ≥ 9223372036854775808 then n % 18446744073709551616 - 18446744073709551616 else n % 18446744073709551616 := by
  simp [IntKind.wrap, IntKind.signed, IntKind.bits]
 rw [e]
 split <;> omega
theorem OutEq.outer (h : Heap) : OutEq (outer h) h := fun b hb => by simp [Go.Abs.outer, Nat.not_lt.2 hb]
theorem OutEq.refl (h : Heap) : OutEq h h := fun b hb => rfl
theorem OutEq.upd {h h' : Heap} (he : OutEq h' h) {b : Nat} (hb : b < lim) (v : HB) : OutEq (upd h' b v) h := fun c hc => by rw [upd_ne _ _ _ _ (by omega)]; exact he c hc
end Go.Abs
/- Rules for use, second part: what is simplified, and functions that only compute. -/
set_option linter.unusedVariables false
set_option linter.unusedSimpArgs false
namespace Go.Abs
attribute [simp] demon Dies.refl Sq Dr Dn altOf renV appws outWs List.headD guardVal isCallA exec AArg.ev updo_E updo_none appw outW E_cons E_nil then' inBlk bin binI binS intOfA calleeOf conf nonc nonc1 par resA resL resA1 Cov fillA cellsOf isCell spl boundOf isNilSl eqCells eqD elemsOf blkOut upd_same
theorem Sq.mono {P : Program} : ∀ {ops : List GOp} {s : St} {K K' : St → Prop}, Sq P ops s K → (∀ s, K s → K' s) → Sq P ops s K'
 | [], s, K, K', h, hk => hk s h
 | o :: ops, s, K, K', h, hk => by
  unfold Sq at h ⊢
  split
  ·rename_i hg; rw [hg] at h; exact Sq.mono h hk
  ·rename_i hg
   rw [hg] at h
   simp only at h
   split
   ·rename_i hc
    rw [hc] at h
    simp only at h
    split
    ·rename_i f args hf
     rw [hf] at h
     exact h.mono fun r h' hh => Sq.mono hh hk
    ·rename_i hf; rw [hf] at h; exact h
   ·rename_i hc
    rw [hc] at h
    simp only at h
    split
    ·rename_i e he
     rw [he] at h
     exact ⟨h.1, Sq.mono h.2 hk⟩
    ·rename_i he; rw [he] at h; exact ⟨h.1, fun r => Sq.mono (h.2 r) hk⟩
  ·rename_i hg; rw [hg] at h; exact h
theorem Sq.app {P : Program} : ∀ {a b : List GOp} {s : St} {K : St → Prop}, Sq P a s (fun s' => Sq P b s' K) → Sq P (a ++ b) s K
 | [], b, s, K, h => h
 | o :: a, b, s, K, h => by
  rw [List.cons_append]
  unfold Sq at h ⊢
  split
  ·rename_i hg; rw [hg] at h; exact Sq.app h
  ·rename_i hg
   rw [hg] at h
   simp only at h
   split
   ·rename_i hc
    rw [hc] at h
    simp only at h
    split
    ·rename_i f args hf
     rw [hf] at h
     exact h.mono fun r h' hh => Sq.app hh
    ·rename_i hf; rw [hf] at h; exact h
   ·rename_i hc
    rw [hc] at h
    simp only at h
    split
    ·rename_i e he
     rw [he] at h
     exact ⟨h.1, Sq.app h.2⟩
    ·rename_i he; rw [he] at h; exact ⟨h.1, fun r => Sq.app (h.2 r)⟩
  ·rename_i hg; rw [hg] at h; exact h
/-- A region in two parts; what follows behind a name. -/
theorem Sq.cutk {P : Program} (n : Nat) {ops : List GOp} {s : St} {K : St → Prop} (h : ∀ K' : St → Prop, (∀ s', Sq P (ops.drop n) s' K → K' s') → Sq P (ops.take n) s K') : Sq P ops s K := by
 have := Sq.app (h _ fun _ h => h)
 rwa [List.take_append_drop] at this
def keepE (e : Env) : List Nat → List (Nat × AV)
 | [] => []
 | k :: ks => (k, e k) :: keepE e ks
attribute [simp] keepE
theorem keepE_get (e : Env) : ∀ (ks : List Nat) (t : Nat), E (keepE e ks) t = e t ∨ E (keepE e ks) t = .undef
 | [], t => .inr rfl
 | k :: ks, t => by
  simp only [keepE, E_cons]
  by_cases h : t = k
  ·subst h; simp
  ·simp only [h, if_false]; exact keepE_get e ks t
/-- Forget all but these temporaries. -/
theorem AW.keep {P : Program} {N : Nat} {c : ACode} {Q : AX → St → Prop} {e : Env} {h : Heap} (ks : List Nat) (hw : AW P N c Q ⟨E (keepE e ks), h⟩) : AW P N c Q ⟨e, h⟩ :=
 .weak (s' := ⟨E (keepE e ks), h⟩) (.of some (HT.refl h) (fun t => by
  rcases keepE_get e ks t with e1 | e1
  ·simp only [e1]; exact .refl _
  ·simp only [e1]; exact .undef _) fun h => h) hw
/-- A region behind which these values are known. -/
theorem AW.seqreg {P : Program} {N : Nat} {c : ACode} {Q : AX → St → Prop} {e : Env} {h : Heap} {ops : List GOp} (hf : Heap → Heap) (l : Env → List (Nat × AV)) (ho : Sq P ops ⟨e, h⟩ fun s => Cov (l e) s.env ∧ Dies s.h (hf h)) (hw : AW P N c Q ⟨E (l e), hf h⟩) :
  AW P N (.seq (.reg ops) c) Q ⟨e, h⟩ :=
 .seq (.reg ((Sq.mono ho) fun s ⟨h1, h2⟩ => .weak (Wk.cov (env := s.env) (h := s.h) h1 h2) hw))
theorem AW.seqregx {α : Type} {P : Program} {N : Nat} {c : ACode} {Q : AX → St → Prop} {e : Env} {h : Heap} {ops : List GOp} (pre : α → Prop) (h' : α → Heap → Heap) (l : α → Env → List (Nat × AV))
  (ho : Sq P ops ⟨e, h⟩ fun s => ∃ x, pre x ∧ Cov (l x e) s.env ∧ Dies s.h (h' x h)) (hw : ∀ x, pre x → AW P N c Q ⟨E (l x e), h' x h⟩) : AW P N (.seq (.reg ops) c) Q ⟨e, h⟩ :=
 .seq (.reg ((Sq.mono ho) fun s ⟨x, h0, h1, h2⟩ => .weak (Wk.cov (env := s.env) (h := s.h) h1 h2) (hw x h0)))
/-- A call that computes and leaves all as it is. -/
def PCall (P : Program) (f : FuncId) (args : List AV) (r : AV) : Prop := ∀ h, ACall P f args h fun r' h' => r' = r ∧ OutEq h' h
theorem mergeH_eq {h h' : Heap} (he : OutEq h' h) : mergeH h h' = h := by
 funext b
 simp only [mergeH]
 split
 ·rfl
 ·exact he b (by omega)
theorem PCall.sq {P : Program} {f : FuncId} {args : List AV} {r : AV} (hc : PCall P f args r) {h : Heap} {K : AV → Heap → Prop} (hk : ∀ h', OutEq h' h → K r h') : ACall P f args h K :=
 (hc h).mono fun r' h' ⟨e, he⟩ => by rw [e]; exact hk h' he
theorem PCall.d {P : Program} {f : FuncId} {args : List AV} {r : AV} (hc : PCall P f args r) {h : Heap} : DCall P f args h true r := fun h1 _ => hc h1
theorem Dr.pcall {P : Program} {f : FuncId} {args : List AV} {r : AV} (hc : PCall P f args r) {h : Heap} {K : Bool → AV → Prop} (hk : K true r) : ∃ pu r, DCall P f args h pu r ∧ K pu r := ⟨true, r, hc.d, hk⟩
theorem Body.noExt {P : Program} {f : FuncId} {N : Nat} {c : ACode} {rs : List Res} (h : Body P f N c rs) : noExt P f = true := h.choose_spec.choose_spec.2.2.1
/-- The end of a function that only computes. -/
theorem ret_d {rs : List Res} {e : AX} {s : St} {h : Heap} {v r : AV} (he : e = .normal ∨ e = .ret) (hv : resA s rs = some v) (hT : T s.h (outer s.h) some v r) (hr : outOnly r = true) (ho : OutEq s.h h) {r' : AV} (heq : r = r') : Ret rs (fun r h' => r = r' ∧ OutEq h' h) e s := by
 rcases he with rfl | rfl <;> exact ⟨v, r, hv, hT, hr, heq, ho⟩
theorem getBlk_upd (h : Heap) (b v : Nat) (x : Option Blk) : getBlk (upd h b ⟨v, x⟩) b v = x := by simp [getBlk, upd]
theorem getBlk_upd_ne (h : Heap) (b c v : Nat) (x : HB) (hne : c ≠ b) : getBlk (upd h b x) c v = getBlk h c v := by simp [getBlk, upd, hne]
theorem upd_upd {α : Type} (f : Nat → α) (t : Nat) (v u : α) : upd (upd f t v) t u = upd f t u := by funext s; simp only [upd]; split <;> rfl
theorem dl_length (xs : List (List D)) : (dl xs).length = xs.length := by simp [dl]
def lenD (xs : List (List D)) (k : Nat) : Bool := xs.all (fun x => decide (x.length = k))
theorem lenD_map {α : Type} (l : List α) (f : α → List D) (k : Nat) (h : ∀ x, (f x).length = k) : lenD (l.map f) k = true := by simp [lenD, h]
theorem allLen_dl (xs : List (List D)) (k : Nat) : allLen (dl xs) k = lenD xs k := by
 simp only [allLen, dl, lenD, List.all_map]
 congr 1
 funext x
 simp
theorem allLen_nil (k : Nat) : allLen [] k = true := rfl
theorem dl_eq_nil (xs : List (List D)) : dl xs = [] ↔ xs = [] := by simp [dl]
theorem allLen_one (x : List AV) (k : Nat) : allLen [x] k = decide (x.length = k) := by simp [allLen]
theorem outOnlys_d : ∀ (l : List D), outOnlys (l.map .d) = true
 | [] => rfl
 | x :: l => by simp [outOnlys, outOnly, outOnlys_d l]
theorem dl_out (xs : List (List D)) : (dl xs).all outOnlys = true := by
 induction xs with
 | nil => rfl
 | cons x l ih => simp only [dl, List.map_cons, List.all_cons, outOnlys_d, Bool.true_and]; exact ih
theorem dl_nil : dl [] = [] := rfl
theorem dl_append (xs ys : List (List D)) : dl (xs ++ ys) = dl xs ++ dl ys := by simp [dl]
theorem dl_take (xs : List (List D)) (n : Nat) : (dl xs).take n = dl (xs.take n) := by simp [dl]
theorem dl_drop (xs : List (List D)) (n : Nat) : (dl xs).drop n = dl (xs.drop n) := by simp [dl]
theorem dl_get (xs : List (List D)) (i : Nat) : (dl xs)[i]? = xs[i]?.map (·.map .d) := by simp [dl]
attribute [simp] allLen_nil dl_eq_nil lenD_map getBlk_upd getBlk_upd_ne upd_upd dl_length allLen_dl allLen_one dl_out dl_nil dl_take dl_drop dl_get lim outOnly outOnlys
theorem OutEq.upd_iff {h h' : Heap} {b : Nat} (hb : b < 1000000) (v : HB) : OutEq (Go.Abs.upd h' b v) h ↔ OutEq h' h := by
 constructor
 ·intro he c hc
  have := he c hc
  have hne : c ≠ b := by have : (1000000 : Nat) ≤ c := hc; omega
  rwa [upd_ne _ _ _ _ hne] at this
 ·intro he; exact he.upd hb v
attribute [simp] OutEq.upd_iff OutEq.outer OutEq.refl
/-- Values of this heap, as others of a later one. -/
def TCov (h h' : Heap) : List (Nat × AV) → Env → Prop
 | [], _ => True
 | (t, v) :: l, env => T h h' some (env t) v ∧ TCov h h' l env
theorem TCov.T {h h' : Heap} : ∀ {l : List (Nat × AV)} {env : Env}, TCov h h' l env → ∀ t, T h h' some (env t) (E l t)
 | [], env, _, t => .undef _
 | (s, v) :: l, env, hc, t => by
  simp only [E]
  by_cases ht : t = s
  ·subst ht
   simp only [if_true]
   exact hc.1
  ·simp only [ht, if_false]
   exact TCov.T hc.2 t
attribute [simp] TCov
theorem Wk.tcov {env : Env} {h h' : Heap} {l : List (Nat × AV)} (hc : TCov h h' l env) (hd : Dies h h') : Wk ⟨env, h⟩ ⟨E l, h'⟩ :=
 .of some (HT.dies hd) (TCov.T hc) hd.out
/-- See the state as another. -/
theorem AW.see {P : Program} {N : Nat} {c : ACode} {Q : AX → St → Prop} {env : Env} {h : Heap} (h' : Heap) (l : List (Nat × AV)) (hc : TCov h h' l env) (hd : Dies h h') (hw : AW P N c Q ⟨E l, h'⟩) : AW P N c Q ⟨env, h⟩ :=
 .weak (Wk.tcov hc hd) hw
theorem T.box {h h' : Heap} {b ver k : Nat} {cs : List D} (hb : h b = ⟨ver, some ⟨k, [cs.map .d]⟩⟩) (hd : (h' b).live = none) : T h h' some (.ptr b ver 0 0) (.dptr cs) :=
 .frzp b ver 0 0 ⟨k, [cs.map .d]⟩ (cs.map .d) cs (by simp [getBlk, hb]) (fun b' hl e => by cases e; simp [hd] at hl) rfl (.refl cs)
theorem Dies.kill (h : Heap) (b v : Nat) (x : Option Blk) : Dies (Go.Abs.upd h b ⟨v, x⟩) (Go.Abs.upd h b ⟨v, none⟩) := by
 intro c
 by_cases hc : c = b
 ·subst hc; exact .inr ⟨by rw [upd_same], by rw [upd_same, upd_same]; exact Nat.le_refl _⟩
 ·exact .inl (by rw [upd_ne _ _ _ _ hc, upd_ne _ _ _ _ hc])
/-- A row of this heap, as data. -/
theorem T.row {h : Heap} {b ver n cap : Nat} {k : Nat} {xs : List (List D)} (hb : b < lim) (hl : h b = ⟨ver, some ⟨k, dl xs⟩⟩) (hn : n = xs.length) : T h (outer h) some (.sl b ver 0 n cap) (.d (.slice xs)) := by
 subst hn
 have e : ((dl xs).drop 0).take xs.length = dl xs := by rw [List.drop_zero]; exact List.take_of_length_le (by simp [dl])
 refine .frzs b ver 0 _ cap ⟨k, dl xs⟩ xs (by simp [getBlk, hl]) (fun b' hb' e => ?_) (by simp [dl]) (by rw [e]; exact .refl xs)
 cases e
 have hb2 : b < 1000000 := hb
 simp [outer, hb2] at hb'
theorem zt : (∀ (n : Nat) (a : GOp) (l : List GOp), (a :: l).take (n + 1) = a :: l.take n) ∧ (∀ l : List GOp, l.take 0 = []) ∧ (∀ (n : Nat) (a : GOp) (l : List GOp), (a :: l).drop (n + 1) = l.drop n) ∧ ∀ l : List GOp, l.drop 0 = l := ⟨fun _ _ _ => rfl, fun _ => rfl, fun _ _ _ => rfl, fun _ => rfl⟩
theorem ret_y {rs : List Res} {e : AX} {s : St} {h : Heap} {v r : AV} (he : e = .normal ∨ e = .ret) (hv : resA s rs = some v) (hT : T s.h (outer s.h) some v r) (hr : outOnly r = true) {r' : AV} (heq : r = r') (ho : OutEq s.h h := by first | exact OutEq.outer _ | assumption | (simp; done) | (simp; assumption)) : Ret rs (fun r h' => r = r' ∧ OutEq h' h) e s := ret_d he hv hT hr ho heq
theorem ret_z {rs : List Res} {e : AX} {s : St} {h : Heap} {v r' : AV} (he : e = .normal ∨ e = .ret) (hv : resA s rs = some v) (hr : outOnly v = true) (heq : v = r') (ho : OutEq s.h h := by first | exact OutEq.outer _ | assumption | (simp; done) | (simp; assumption)) : Ret rs (fun r h' => r = r' ∧ OutEq h' h) e s := ret_d he hv (.refl _) hr ho heq
end Go.Abs
/- Regions by their meaning: in parts, and seen otherwise between two operations. -/
set_option linter.unusedVariables false
set_option linter.unusedSimpArgs false
namespace Go.Abs
/-- A region in its own order, by its meaning. -/
def SQ (P : Program) (N : Nat) (gs : List GOp) (s : St) (K : St → Prop) : Prop :=
 ∀ (ops : Array Oper) (k : Nat) (l : List Oper) (w : World) (X : Nat → Prop) (ι : Nat → Bd) (a : Act) (Q : Exit → Act → World → Prop), (∀ j, j < l.length → l[j]? = ops[k + j]?) → l.map (compG P N ops) = gs → SRel N w X ι s a →
  (∀ a' w' ι' s', SRel N w' X ι' s' a' → Evo w (place s.h ι) w' (place s'.h ι') → K s' → Q .normal a' w') → wpOps P ops Q (List.range' k l.length) a w
theorem upon_then {P : Program} {o : Oper} {a : Act} {K n : Act → World → Prop} {Q : Exit → Act → World → Prop} {r : Result Next} (h : o.upon P a K (Exit.then n Q) r) : o.upon P a K Q r := by
 cases r with
 | ok x w' => cases x <;> exact h
 | halt x w' => cases x <;> exact h
theorem wpOps_app {P : Program} {ops : Array Oper} {Q : Exit → Act → World → Prop} : ∀ (l1 l2 : List Nat) (a : Act) (w : World), wpOps P ops (Exit.then (fun a w => wpOps P ops Q l2 a w) Q) l1 a w → wpOps P ops Q (l1 ++ l2) a w
 | [], l2, a, w, h => h
 | i :: l1, l2, a, w, h => by
  rw [List.cons_append]
  unfold wpOps at h ⊢
  split
  ·rename_i ho; rw [ho] at h; exact wpOps_app l1 l2 a w h
  ·rename_i o ho
   rw [ho] at h
   simp only at h
   split
   ·rename_i hw
    rw [if_pos hw] at h
    refine h.imp (fun h => ?_) (fun h => h)
    exact Oper.wp_mono (K := wpOps P ops (Exit.then (fun a w => wpOps P ops Q l2 a w) Q) l1) (fun a w h => wpOps_app l1 l2 a w h) (upon_then h)
   ·rename_i hw
    rw [if_neg hw] at h
    exact wpOps_app l1 l2 _ w h
section
variable {P : Program} {N : Nat} {s s' : St} {K K' : St → Prop} {gs : List GOp}
theorem seq_sound' {ops : Array Oper} {X : Nat → Prop} {Q : Exit → Act → World → Prop} {K : St → Prop} (l : List Oper) (k : Nat) (s : St) (a : Act) (w : World) (ι : Nat → Bd) (hl : ∀ j, j < l.length → l[j]? = ops[k + j]?) (hr : SRel N w X ι s a) (hs : Sq P (l.map (compG P N ops)) s K)
  (hQ : ∀ a' w' ι' s', SRel N w' X ι' s' a' → Evo w (place s.h ι) w' (place s'.h ι') → K s' → Q .normal a' w') : wpOps P ops Q (List.range' k l.length) a w := by
 induction l generalizing k s a w ι with
 | nil =>
  simp only [List.length_nil, List.range'_zero, wpOps]
  exact hQ a w ι s hr (Evo.refl _ _) hs
 | cons o l ih =>
  have ho : ops[k]? = some o := by have := hl 0 (by simp); simpa using this.symm
  have hl' : ∀ j, j < l.length → l[j]? = ops[k + 1 + j]? := fun j hj => by
   have := hl (j + 1) (by simp; omega)
   rw [show k + 1 + j = k + (j + 1) by omega, ← this]
   simp
  rw [List.length_cons, List.range'_succ, wpOps_cons]
  simp only [List.map_cons] at hs
  unfold Sq at hs
  split at hs
  ·rename_i hg
   refine step_sound (P := P) (N := N) ho hr (.inl ⟨hg, rfl, rfl⟩) (fun a' w' ι' hr' hev => ?_)
   exact ih (k + 1) _ a' w' ι' hl' hr' hs (fun a2 w2 ι2 s2 h1 h2 h3 => hQ a2 w2 ι2 s2 h1 (hev.trans h2) h3)
  ·rename_i hg
   split at hs
   ·split at hs
    ·rename_i f args hc
     refine call_sound (P := P) (N := N) ho hr hg hc hs (fun r h' a' w' ι' hs' hr' hev => ?_)
     exact ih (k + 1) _ a' w' ι' hl' hr' hs' (fun a2 w2 ι2 s2 h1 h2 h3 => hQ a2 w2 ι2 s2 h1 (hev.trans h2) h3)
    ·exact hs.elim
   ·split at hs
    ·rename_i e he
     obtain ⟨hout, hs⟩ := hs
     refine step_sound (P := P) (N := N) ho hr (step_plain hg he hout) (fun a' w' ι' hr' hev => ?_)
     exact ih (k + 1) _ a' w' ι' hl' hr' hs (fun a2 w2 ι2 s2 h1 h2 h3 => hQ a2 w2 ι2 s2 h1 (hev.trans h2) h3)
    ·obtain ⟨hd, hs⟩ := hs
     refine demon_sound (P := P) (N := N) ho hr hg hd (fun r a' w' ι' hr' hev => ?_)
     exact ih (k + 1) _ a' w' ι' hl' hr' (hs r) (fun a2 w2 ι2 s2 h1 h2 h3 => hQ a2 w2 ι2 s2 h1 (hev.trans h2) h3)
  ·exact hs.elim
theorem SQ.of (h : Sq P gs s K) : SQ P N gs s K := fun ops k l w X ι a Q hl hg hr hQ => by
 subst hg
 exact seq_sound' l k s a w ι hl hr h hQ
theorem SQ.see {env : Env} {h : Heap} (h' : Heap) (l : List (Nat × AV)) (hc : TCov h h' l env) (hd : Dies h h') (hs : SQ P N gs ⟨E l, h'⟩ K) : SQ P N gs ⟨env, h⟩ K := fun ops k l w X ι a Q hl hg hr hQ =>
 let ⟨ι', r', e'⟩ := Wk.tcov hc hd N w X ι a hr
 hs ops k l w X ι' a Q hl hg r' (fun a2 w2 ι2 s2 h1 h2 h3 => hQ a2 w2 ι2 s2 h1 (e'.trans h2) h3)
theorem SQ.weak (hw : Wk s s') (hs : SQ P N gs s' K) : SQ P N gs s K := fun ops k l w X ι a Q hl hg hr hQ =>
 let ⟨ι', r', e'⟩ := hw N w X ι a hr
 hs ops k l w X ι' a Q hl hg r' (fun a2 w2 ι2 s2 h1 h2 h3 => hQ a2 w2 ι2 s2 h1 (e'.trans h2) h3)
/-- A region in two parts. -/
theorem SQ.cut (n : Nat) (h : ∀ K' : St → Prop, (∀ s', SQ P N (gs.drop n) s' K → K' s') → SQ P N (gs.take n) s K') : SQ P N gs s K := fun ops k l w X ι a Q hl hg hr hQ => by
 subst hg
 have key := h _ (fun s' h => h) ops k (l.take n) w X ι a (Exit.then (fun a w => wpOps P ops Q (List.range' (k + (l.take n).length) (l.drop n).length) a w) Q)
  (fun j hj => by
   have : j < l.length := by simp at hj; omega
   have hn : j < n := by simp at hj; omega
   rw [List.getElem?_take_of_lt hn]
   exact hl j this) (by rw [List.map_take]) hr
  (fun a' w' ι' s' h1 h2 h3 => h3 ops (k + (l.take n).length) (l.drop n) w' X ι' a' Q (fun j hj => by
    have : n + j < l.length := by simp at hj; omega
    have hn : (l.take n).length = n := by simp; omega
    rw [List.getElem?_drop, hl _ this, hn, Nat.add_assoc]) (by rw [List.map_drop]) h1 (fun a2 w2 ι2 s2 q1 q2 q3 => hQ a2 w2 ι2 s2 q1 (h2.trans q2) q3))
 have := wpOps_app _ _ _ _ key
 rw [List.range'_append_1] at this
 rwa [show (l.take n).length + (l.drop n).length = l.length by rw [← List.length_append, List.take_append_drop]] at this
theorem AW.regS {Q : AX → St → Prop} {ops : List GOp} (h : SQ P N ops s (Q .normal)) : AW P N (.reg ops) Q s := by
 intro code hc w X ι a hr
 cases code
 case region id os b =>
  rcases comp_reg P N id os b with ⟨hb, h'⟩ | ⟨_, un, _, h'⟩ | h' <;> rw [h'] at hc <;> (try (cases hc; done))
  simp only [ACode.reg.injEq] at hc
  subst hb
  refine wp_region ?_
  rw [List.range_eq_range', show os.size = os.toList.length by simp]
  exact h os 0 os.toList w X ι a _ (fun j _ => by simp) hc hr (fun a' w' ι' s' k1 k2 k3 => ⟨.normal, s', ι', rfl, k3, k1, k2⟩)
 all_goals (simp only [comp] at hc; cases hc)
theorem SQ.mono (h : SQ P N gs s K) (hk : ∀ s, K s → K' s) : SQ P N gs s K' := fun ops k l w X ι a Q hl hg hr hQ =>
 h ops k l w X ι a Q hl hg hr (fun a2 w2 ι2 s2 h1 h2 h3 => hQ a2 w2 ι2 s2 h1 h2 (hk _ h3))
theorem AW.seqregS {c : ACode} {Q : AX → St → Prop} {e : Env} {h : Heap} {ops : List GOp} (hf : Heap → Heap) (l : Env → List (Nat × AV)) (ho : SQ P N ops ⟨e, h⟩ fun s => Cov (l e) s.env ∧ Dies s.h (hf h)) (hw : AW P N c Q ⟨E (l e), hf h⟩) :
  AW P N (.seq (.reg ops) c) Q ⟨e, h⟩ :=
 .seq (.regS (ho.mono fun s ⟨h1, h2⟩ => .weak (Wk.cov (env := s.env) (h := s.h) h1 h2) hw))
theorem AW.seqregSx {α : Type} {c : ACode} {Q : AX → St → Prop} {e : Env} {h : Heap} {ops : List GOp} (pre : α → Prop) (h' : α → Heap → Heap) (l : α → Env → List (Nat × AV))
  (ho : SQ P N ops ⟨e, h⟩ fun s => ∃ x, pre x ∧ Cov (l x e) s.env ∧ Dies s.h (h' x h)) (hw : ∀ x, pre x → AW P N c Q ⟨E (l x e), h' x h⟩) : AW P N (.seq (.reg ops) c) Q ⟨e, h⟩ :=
 .seq (.regS (ho.mono fun s ⟨x, h0, h1, h2⟩ => .weak (Wk.cov (env := s.env) (h := s.h) h1 h2) (hw x h0)))
end
theorem Dies.bump (h : Heap) (b v : Nat) (hv : (h b).ver ≤ v) : Dies h (Go.Abs.upd h b ⟨v, none⟩) := by
 intro c
 by_cases hc : c = b
 ·subst hc; exact .inr ⟨by rw [upd_same], by rw [upd_same]; exact hv⟩
 ·exact .inl (by rw [upd_ne _ _ _ _ hc])
theorem beqI (a b : Int) : (a == b) = decide (a = b) := by by_cases h : a = b <;> simp [h]
theorem bneI (a b : Int) : (a != b) = !decide (a = b) := by by_cases h : a = b <;> simp [h]
attribute [simp] beqI bneI
theorem u8_eq (c : UInt8) (n : Nat) (hn : n < 256) : ((c.toNat : Int) = (n : Int)) ↔ c = UInt8.ofNat n := by
 constructor
 ·intro h
  have : c.toNat = n := by omega
  rw [← this]
  simp
 ·intro h
  subst h
  simp
  omega
theorem range_1 : List.range 1 = [0] := rfl
theorem range_2 : List.range 2 = [0, 1] := rfl
theorem range_3 : List.range 3 = [0, 1, 2] := rfl
theorem range_4 : List.range 4 = [0, 1, 2, 3] := rfl
theorem range_5 : List.range 5 = [0, 1, 2, 3, 4] := rfl
theorem range_6 : List.range 6 = [0, 1, 2, 3, 4, 5] := rfl
theorem range_7 : List.range 7 = [0, 1, 2, 3, 4, 5, 6] := rfl
theorem range_25 : List.range 25 = [0, 1, 2, 3, 4, 5, 6, 7, 8, 9, 10, 11, 12, 13, 14, 15, 16, 17, 18, 19, 20, 21, 22, 23, 24] := rfl
attribute [simp] range_1 range_2 range_3 range_4 range_5 range_6 range_7 range_25
theorem Dr.mono {P : Program} : ∀ {ops : List GOp} {s : St} {K K' : St → List Fp → Prop}, Dr P ops s K → (∀ s fs, K s fs → K' s fs) → Dr P ops s K'
 | [], s, K, K', h, hk => hk s [] h
 | o :: ops, s, K, K', h, hk => by
  unfold Dr at h ⊢
  split
  ·rename_i hg; rw [hg] at h; exact Dr.mono h (fun s fs => hk s _)
  ·rename_i hg
   rw [hg] at h
   simp only at h
   split
   ·rename_i hc
    rw [hc] at h
    simp only at h
    split
    ·rename_i f args hf
     rw [hf] at h
     obtain ⟨pu, r, h1, h2⟩ := h
     exact ⟨pu, r, h1, Dr.mono h2 (fun s fs => hk s _)⟩
    ·rename_i hf; rw [hf] at h; exact h
   ·rename_i hc
    rw [hc] at h
    simp only at h
    split
    ·rename_i e he
     rw [he] at h
     exact ⟨h.1, Dr.mono h.2 (fun s fs => hk s _)⟩
    ·rename_i he; rw [he] at h; exact h
  ·rename_i hg; rw [hg] at h; exact h
/-- A region in a drawn order behind which these values are known. -/
theorem AW.seqdreg {P : Program} {N : Nat} {c : ACode} {Q : AX → St → Prop} {e : Env} {h : Heap} {ops : List GOp} {un : List (Nat × Nat)} (hm : P.follows .mixedOrders = true) (hf : Heap → Heap) (l : Env → List (Nat × AV))
  (ho : Dr P ops ⟨e, h⟩ fun s fs => conf un fs = true ∧ Cov (l e) s.env ∧ Dies s.h (hf h)) (hw : AW P N c Q ⟨E (l e), hf h⟩) : AW P N (.seq (.dreg ops un) c) Q ⟨e, h⟩ :=
 .seq (.dreg hm (ho.mono fun s fs ⟨h0, h1, h2⟩ => ⟨h0, .weak (Wk.cov (env := s.env) (h := s.h) h1 h2) hw⟩))
/-- A row of this heap, as data of a heap in which it is gone. -/
theorem T.rowD {h h' : Heap} {b ver n cap k : Nat} (xs : List (List D)) (hl : h b = ⟨ver, some ⟨k, dl xs⟩⟩) (hd : (h' b).live = none) (hn : n = xs.length) : T h h' some (.sl b ver 0 n cap) (.d (.slice xs)) := by
 subst hn
 have e : ((dl xs).drop 0).take xs.length = dl xs := by rw [List.drop_zero]; exact List.take_of_length_le (by simp [dl])
 refine .frzs b ver 0 _ cap ⟨k, dl xs⟩ xs (by simp [getBlk, hl]) (fun b' hb' e => ?_) (by simp [dl]) (by rw [e]; exact .refl xs)
 cases e
 simp [hd] at hb'
theorem Dr.app {P : Program} : ∀ {a b : List GOp} {s : St} {K : St → List Fp → Prop}, Dr P a s (fun s1 fs1 => Dr P b s1 fun s2 fs2 => K s2 (fs1 ++ fs2)) → Dr P (a ++ b) s K
 | [], b, s, K, h => h
 | o :: a, b, s, K, h => by
  rw [List.cons_append]
  unfold Dr at h ⊢
  split
  ·rename_i hg; rw [hg] at h; exact Dr.app h
  ·rename_i hg
   rw [hg] at h
   simp only at h
   split
   ·rename_i hc
    rw [hc] at h
    simp only at h
    split
    ·rename_i f args hf
     rw [hf] at h
     obtain ⟨pu, r, h1, h2⟩ := h
     exact ⟨pu, r, h1, Dr.app h2⟩
    ·rename_i hf; rw [hf] at h; exact h
   ·rename_i hc
    rw [hc] at h
    simp only at h
    split
    ·rename_i e he
     rw [he] at h
     exact ⟨h.1, Dr.app h.2⟩
    ·rename_i he; rw [he] at h; exact h
  ·rename_i hg; rw [hg] at h; exact h
/-- A drawn region in two parts; what follows behind a name. -/
theorem Dr.cutk {P : Program} (n : Nat) {ops : List GOp} {s : St} {K : St → List Fp → Prop} (h : ∀ K' : St → List Fp → Prop, (∀ s' fs, Dr P (ops.drop n) s' (fun s2 fs2 => K s2 (fs ++ fs2)) → K' s' fs) → Dr P (ops.take n) s K') : Dr P ops s K := by
 have := Dr.app (h _ fun _ _ h => h)
 rwa [List.take_append_drop] at this
end Go.Abs
