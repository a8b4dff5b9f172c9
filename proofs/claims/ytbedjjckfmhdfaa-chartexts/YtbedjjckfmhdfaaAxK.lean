import Derived.Test.YtbedjjckfmhdfaaAxJ
set_option linter.unusedVariables false
set_option linter.unusedSimpArgs false
namespace Go.AX
open Go Go.RowKit

/-- What is asked where a value is said to be another one. -/
def eqP : AV → AV → Prop
  | .bool a, .bool b => a = b
  | .int k a, .int k' b => k = k' ∧ a = b
  | .str a, .str b => a = b
  | x, y => x = y
theorem eqP_eq {x y : AV} (h : eqP x y) : x = y := by
  unfold eqP at h
  split at h
  · rw [h]
  · rw [h.1, h.2]
  · rw [h]
  · exact h
/-- A value and, where one is hinted, the other that it is said to be. -/
def ovr (r : VR) : Option AV → VR
  | none => r
  | some y => match r with
    | some (x, os) => some (y, os ++ [eqP x y])
    | none => none
theorem ovr_spec {r : VR} {ann : Option AV} {v : AV} {os : List Prop} (h : ovr r ann = some (v, os)) (ho : All os) : ∃ os', r = some (v, os') ∧ All os' := by
  cases ann with
  | none => exact ⟨os, h, ho⟩
  | some y =>
    simp only [ovr] at h
    split at h
    · rename_i x os1
      cases h
      rw [All_append] at ho
      have := eqP_eq ho.2
      subst this
      exact ⟨os1, rfl, ho.1⟩
    · cases h

def evs (s : AS) : List Operand → Option (List AV)
  | [] => some []
  | x :: r => match s.ev x, evs s r with
    | some v, some l => some (v :: l)
    | _, _ => none
theorem evs_sound {C : Ctx} {G : Env} {s : AS} {a : Act} {w : World} (h : RelG C G s a w) : ∀ {xs : List Operand} {vs : List AV}, evs s xs = some vs → vs.length = xs.length ∧ ∀ (i : Nat) (c : AV) (v : Value), vs[i]? = some c → (xs.map a.eval)[i]? = some v → Rep w G true c v
  | [], vs, hx => by cases hx; exact ⟨rfl, fun i p q hp => by simp at hp⟩
  | x :: xs, vs, hx => by
    simp only [evs] at hx
    split at hx
    · rename_i v l hv hl
      cases hx
      obtain ⟨h1, h2⟩ := evs_sound h hl
      refine ⟨by simp [h1], fun i p q hp hq => ?_⟩
      match i, hp, hq with
      | 0, hp, hq =>
        simp at hp hq
        subst hp; subst hq
        exact h.ev hv
      | n + 1, hp, hq => exact h2 n p q (by simpa using hp) (by simpa using hq)
    · cases hx

def lenA (Γ : TT) (t : TypeId) (x : AV) : VR :=
  match look Γ t with
  | some ti => match ti.kind, x with
    | .str, .str s => some (.int .i64 s.size, [])
    | .slice _, .sl _ n _ _ => some (.int .i64 n, [])
    | .slice _, .row _ _ n => some (.int .i64 n, [])
    | _, _ => none
  | none => none
theorem lenA_sound {P : Program} {Γ : TT} (hΓ : Γok P Γ) {t ty : TypeId} {x v : AV} {os : List Prop} (h : lenA Γ t x = some (v, os)) {w : World} {G : Env} {vx : Value} (hx : Rep w G true x vx) : ∃ u, (Builtin.len_ #[t] ty #[vx]).run P w = .ok u w ∧ Rep w G true v u := by
  unfold lenA at h
  split at h
  · rename_i ti hti
    obtain ⟨i, d, z, hi, hd, hsz, hby, hz, hzs, hz0, hz1, hag, hk⟩ := (hΓ t ti hti).ex
    split at h
    · rename_i s he
      rw [he] at hk
      obtain rfl := kind_str hk
      cases h; cases hx
      exact ⟨_, by simp [Builtin.len_, run_underlying hd, goInt], .int _ _ _⟩
    · rename_i e nl n cells o he
      rw [he] at hk
      obtain rfl := kind_slice hk
      cases h; cases hx
      exact ⟨_, by simp [Builtin.len_, run_underlying hd, goInt], .int _ _ _⟩
    · rename_i e id off n he
      rw [he] at hk
      obtain rfl := kind_slice hk
      cases h; cases hx
      exact ⟨_, by simp [Builtin.len_, run_underlying hd, goInt], .int _ _ _⟩
    · cases h
  · cases h

def minA (x y : AV) : VR :=
  match x, y with
  | .int k a, .int k' b => if k = k' then some (.int k (if b < a then b else a), []) else none
  | _, _ => none
def maxA (x y : AV) : VR :=
  match x, y with
  | .int k a, .int k' b => if k = k' then some (.int k (if b > a then b else a), []) else none
  | _, _ => none

inductive Ann
  | val (v : AV)
  | call (zs : List Nat) (res : AV)
  | callF (zs : List Nat) (g : List AV → AV)
/-- Of a call: what is frozen ahead of it, and its result, by its arguments. -/
def Ann.call? : Option Ann → Option (List Nat × (List AV → AV))
  | some (.call zs res) => some (zs, fun _ => res)
  | some (.callF zs g) => some (zs, g)
  | _ => none
def Ann.v? : Option Ann → Option AV
  | some (.val v) => some v
  | _ => none

/-- The operations but for stores and calls of functions. -/
def stepV (Γ : TT) (s : AS) (d : Nat) (op : Op) (ann : Option AV) : SR :=
  let pure (r : VR) : SR := match r with
    | some (v, os) => some (s, v, os)
    | none => none
  match op with
  | .move x => match s.ev x with | some v => pure (ovr (some (v, [])) ann) | none => none
  | .assign x => match s.ev x with | some v => pure (ovr (some (v, [])) ann) | none => none
  | .pick c x y => match s.ev c with
    | some (.bool true) => match s.ev x with | some v => pure (ovr (some (v, [])) ann) | none => none
    | some (.bool false) => match s.ev y with | some v => pure (ovr (some (v, [])) ann) | none => none
    | _ => none
  | .alloc t => allocA Γ s d t
  | .box t x => match s.ev x with | some v => boxA Γ s d t v | none => none
  | .build t ps => pure (ovr (buildA Γ s t ps) ann)
  | .buildSlice t len ps => pure (litA Γ s t len ps)
  | .load t x => match s.ev x with | some p => pure (loadA Γ s t p ann) | none => none
  | .nilCheck x => match s.ev x with
    | some (.rop cs off) => some (s, .rop cs off, [])
    | some (.ptr b off) => some (s, .ptr b off, [])
    | some (.fn f cs) => some (s, .fn f cs, [])
    | _ => none
  | .binOp op t x y _ => match s.ev x, s.ev y with
    | some v, some u => match v with
      | .sl _ _ _ _ => pure (binA Γ op t v u ann)
      | _ => pure (ovr (binA Γ op t v u ann) ann)
    | _, _ => none
  | .unOp op _ x => match s.ev x with | some v => pure (ovr (unA op v) ann) | none => none
  | .convert src dst x => match s.ev x with | some v => pure (ovr (convA Γ s src dst v) ann) | none => none
  | .makeFunc (.func f) ⟨[]⟩ cs => match evs s cs.toList with | some vs => some (s, .fn f vs, []) | none => none
  | .makeSlice t l c => match s.ev l, s.ev c with | some v, some u => makeA Γ s d t v u | _, _ => none
  | .slice t x lo hi mx => match s.ev x, (match lo with | some y => (s.ev y).map some | none => some none), (match hi with | some y => (s.ev y).map some | none => some none), (match mx with | some y => (s.ev y).map some | none => some none) with
    | some v, some l, some h, some m => pure (ovr (sliceA Γ t v l h m) ann)
    | _, _, _, _ => none
  | .fieldAddr t x f => match s.ev x with | some v => pure (ovr (fieldAddrA Γ t v f) ann) | none => none
  | .field t x f => match s.ev x with | some v => pure (fieldA Γ t v f ann) | none => none
  | .indexAddr t x i => match s.ev x, s.ev i with | some v, some u => pure (ovr (indexAddrA Γ t v u) ann) | _, _ => none
  | .index t x i => match s.ev x, s.ev i with | some v, some u => pure (ovr (indexA Γ t v u) ann) | _, _ => none
  | .range t x => match s.ev x with | some v => rangeA Γ s d t v | none => none
  | .next x true => match s.ev x with | some v => nextA s v ann | none => none
  | .extract x i => match s.ev x with | some v => pure (ovr (extractA v i) ann) | none => none
  | .call ⟨.builtin .len, ⟨[x]⟩, ⟨[t]⟩⟩ => match s.ev x with | some v => pure (ovr (lenA Γ t v) ann) | none => none
  | .call ⟨.builtin .min, ⟨[x, y]⟩, _⟩ => match s.ev x, s.ev y with | some v, some u => pure (ovr (minA v u) ann) | _, _ => none
  | .call ⟨.builtin .max, ⟨[x, y]⟩, _⟩ => match s.ev x, s.ev y with | some v, some u => pure (ovr (maxA v u) ann) | _, _ => none
  | .call ⟨.builtin .append, ⟨[x, y]⟩, ⟨[t, u]⟩⟩ => match s.ev x, s.ev y with | some v, some z => appA Γ s d t u v z | _, _ => none
  | _ => none

def OpV (P : Program) (C : Ctx) (s' : AS) (a : Act) (w : World) (o : Oper) (v : AV) : Prop :=
  ∃ x w' G', (execOp a.eval o).run P w = .ok (.value x) w' ∧ RelG C G' s' a w' ∧ Rep w' G' true v x

theorem OpV.of {P : Program} {C : Ctx} {s' : AS} {a : Act} {w : World} {o : Oper} {v : AV} {m : Sem Value} (h : VSound P C s' a w m v) (he : execOp a.eval o = (do pure (.value (← m)))) : OpV P C s' a w o v := by
  obtain ⟨x, w', G', h1, h2, h3⟩ := h
  refine ⟨x, w', G', ?_, h2, h3⟩
  rw [he, Sem.run_bind, h1]
  rfl

theorem OpV.of2 {P : Program} {C : Ctx} {s' : AS} {a : Act} {w : World} {o : Oper} {v : AV} {m : Sem Value} (h : VSound P C s' a w m v) (he : (execOp a.eval o).run P w = (m.run P w).andThen fun x w => .ok (.value x) w) : OpV P C s' a w o v := by
  obtain ⟨x, w', G', h1, h2, h3⟩ := h
  refine ⟨x, w', G', ?_, h2, h3⟩
  rw [he, h1]
  rfl

theorem pure_sr {s s' : AS} {r : VR} {v : AV} {os : List Prop} (h : (match r with | some (v, os) => some (s, v, os) | none => none : SR) = some (s', v, os)) : s' = s ∧ r = some (v, os) := by
  split at h
  · cases h; exact ⟨rfl, rfl⟩
  · cases h

theorem stepV_sound {P : Program} {Γ : TT} (hΓ : Γok P Γ) {C : Ctx} {G : Env} {s s' : AS} {a : Act} {w : World} (h : RelG C G s a w) {d : Nat} {o : Oper} {ann : Option AV} {v : AV} {os : List Prop} (hs : stepV Γ s d o.op ann = some (s', v, os)) (ho : All os) : OpV P C s' a w o v := by
  obtain ⟨dst, op, type, pos, after, guard⟩ := o
  simp only at hs
  have mv : ∀ {x : Operand} {y : AV}, s.ev x = some y → (match ovr (some (y, [])) ann with | some (v, os) => some (s, v, os) | none => none : SR) = some (s', v, os) → (execOp a.eval ⟨dst, op, type, pos, after, guard⟩ = pure (.value (a.eval x))) → OpV P C s' a w ⟨dst, op, type, pos, after, guard⟩ v := by
    intro x y hx hr he
    obtain ⟨rfl, hq⟩ := pure_sr hr
    obtain ⟨os', h1, h2⟩ := ovr_spec hq ho
    cases h1
    exact ⟨_, w, G, by rw [he]; rfl, h, h.ev hx⟩
  unfold stepV at hs
  split at hs
  · rename_i x
    split at hs
    · rename_i y hy; exact mv hy hs rfl
    · cases hs
  · rename_i x
    split at hs
    · rename_i y hy; exact mv hy hs rfl
    · cases hs
  · rename_i c x y
    split at hs
    · rename_i hc
      split at hs
      · rename_i u hu
        refine mv hu hs ?_
        have := h.ev hc
        generalize hcv : a.eval c = cv at this
        cases this
        simp [execOp, hcv, asBool]
      · cases hs
    · rename_i hc
      split at hs
      · rename_i u hu
        refine mv hu hs ?_
        have := h.ev hc
        generalize hcv : a.eval c = cv at this
        cases this
        simp [execOp, hcv, asBool]
      · cases hs
    · cases hs
  · exact OpV.of (allocA_sound hΓ h hs) rfl
  · split at hs
    · rename_i y hy; exact OpV.of (boxA_sound hΓ h (h.ev hy) hs) rfl
    · cases hs
  · obtain ⟨rfl, hr⟩ := pure_sr hs
    obtain ⟨os', h1, h2⟩ := ovr_spec hr ho
    exact OpV.of (VSound.pure h (buildA_sound hΓ h h1)) rfl
  · obtain ⟨rfl, hr⟩ := pure_sr hs
    exact OpV.of (litA_sound hΓ h hr) rfl
  · split at hs
    · rename_i y hy
      obtain ⟨rfl, hr⟩ := pure_sr hs
      exact OpV.of (VSound.pure h (loadA_sound hΓ h (h.ev hy) hr ho)) rfl
    · cases hs
  · rename_i x
    split at hs
    · rename_i cs off hy
      cases hs
      have := h.ev hy
      generalize hcv : a.eval x = cv at this
      cases this with
      | rop _ _ _ ad vs h1 h2 => exact ⟨_, w, G, by simp [execOp, hcv], h, .rop _ _ _ ad vs h1 h2⟩
    · rename_i b off hy
      cases hs
      have := h.ev hy
      generalize hcv : a.eval x = cv at this
      cases this with
      | ptr _ _ g hg => exact ⟨_, w, G, by simp [execOp, hcv], h, .ptr _ _ _ hg⟩
    · rename_i f cs hy
      cases hs
      have := h.ev hy
      generalize hcv : a.eval x = cv at this
      cases this with
      | fn _ _ _ vs h1 h2 => exact ⟨_, w, G, by simp [execOp, hcv], h, .fn _ _ _ vs h1 h2⟩
    · cases hs
  · rename_i bop t x y yt
    split at hs
    · rename_i u1 u2 h1 h2
      have key : ∃ os', binA Γ bop t u1 u2 ann = some (v, os') ∧ All os' ∧ s' = s := by
        split at hs
        · obtain ⟨rfl, hr⟩ := pure_sr hs
          exact ⟨os, hr, ho, rfl⟩
        · obtain ⟨rfl, hr⟩ := pure_sr hs
          obtain ⟨os', h3, h4⟩ := ovr_spec hr ho
          exact ⟨os', h3, h4, rfl⟩
      obtain ⟨os', h3, h4, rfl⟩ := key
      exact OpV.of (VSound.pure h (binA_sound (P := P) hΓ h3 h4 (ox := x) (oy := y) (h.ev h1) (h.ev h2))) rfl
    · cases hs
  · split at hs
    · rename_i y hy
      obtain ⟨rfl, hr⟩ := pure_sr hs
      obtain ⟨os', h1, h2⟩ := ovr_spec hr ho
      exact OpV.of (VSound.pure h (unA_sound h1 (h.ev hy))) rfl
    · cases hs
  · split at hs
    · rename_i y hy
      obtain ⟨rfl, hr⟩ := pure_sr hs
      obtain ⟨os', h1, h2⟩ := ovr_spec hr ho
      exact OpV.of (convA_sound hΓ h (h.ev hy) h1 h2) rfl
    · cases hs
  · rename_i f cs
    split at hs
    · rename_i vs hvs
      cases hs
      obtain ⟨h1, h2⟩ := evs_sound h hvs
      refine ⟨.func (.func f) #[] (cs.map a.eval), w, G, by simp [execOp, Instr.makeFunc], h, .fn _ _ _ _ (by simpa using h1.symm) fun i c v hc hv => h2 i c v hc (by simpa using hv)⟩
    · cases hs
  · split at hs
    · rename_i u1 u2 h1 h2
      exact OpV.of (makeA_sound hΓ h (h.ev h1) (h.ev h2) hs ho) rfl
    · cases hs
  · rename_i t x lo hi mx
    split at hs
    · rename_i v1 l1 h1 m1 e1 e2 e3 e4
      obtain ⟨rfl, hr⟩ := pure_sr hs
      obtain ⟨os', h5, h6⟩ := ovr_spec hr ho
      have ro : ∀ {y : Option Operand} {z : Option AV}, (match y with | some y => (s'.ev y).map some | none => some none : Option (Option AV)) = some z → RepO w G z (y.map a.eval) := by
        intro y z hz
        cases y with
        | none => cases hz; exact .none
        | some y =>
          simp only [Option.map_eq_some_iff] at hz
          obtain ⟨u, hu, rfl⟩ := hz
          exact .some (h.ev hu)
      exact OpV.of (VSound.pure h (sliceA_sound hΓ h5 h6 (h.ev e1) (ro e2) (ro e3) (ro e4))) rfl
    · cases hs
  · split at hs
    · rename_i y hy
      obtain ⟨rfl, hr⟩ := pure_sr hs
      obtain ⟨os', h1, h2⟩ := ovr_spec hr ho
      exact OpV.of (VSound.pure h (fieldAddrA_sound hΓ h1 (h.ev hy))) rfl
    · cases hs
  · split at hs
    · rename_i y hy
      obtain ⟨rfl, hr⟩ := pure_sr hs
      exact OpV.of (VSound.pure h (fieldA_sound hΓ hr ho (h.ev hy))) rfl
    · cases hs
  · split at hs
    · rename_i u1 u2 h1 h2
      obtain ⟨rfl, hr⟩ := pure_sr hs
      obtain ⟨os', h3, h4⟩ := ovr_spec hr ho
      exact OpV.of (VSound.pure h (indexAddrA_sound hΓ h3 h4 (h.ev h1) (h.ev h2))) rfl
    · cases hs
  · split at hs
    · rename_i u1 u2 h1 h2
      obtain ⟨rfl, hr⟩ := pure_sr hs
      obtain ⟨os', h3, h4⟩ := ovr_spec hr ho
      exact OpV.of (VSound.pure h (indexA_sound hΓ h3 h4 (h.ev h1) (h.ev h2))) rfl
    · cases hs
  · split at hs
    · rename_i y hy; exact OpV.of (rangeA_sound hΓ h (h.ev hy) hs) rfl
    · cases hs
  · split at hs
    · rename_i y hy; exact OpV.of (nextA_sound h (h.ev hy) hs ho type) rfl
    · cases hs
  · split at hs
    · rename_i y hy
      obtain ⟨rfl, hr⟩ := pure_sr hs
      obtain ⟨os', h1, h2⟩ := ovr_spec hr ho
      exact OpV.of (VSound.pure h (extractA_sound h1 (h.ev hy))) rfl
    · cases hs
  · rename_i x t
    split at hs
    · rename_i y hy
      obtain ⟨rfl, hr⟩ := pure_sr hs
      obtain ⟨os', h1, h2⟩ := ovr_spec hr ho
      exact OpV.of2 (VSound.pure h (lenA_sound (ty := type) hΓ h1 (h.ev hy))) (by simp [execOp, resolve, invoke, builtin])
    · cases hs
  · rename_i x y ts
    split at hs
    · rename_i u1 u2 h1 h2
      obtain ⟨rfl, hr⟩ := pure_sr hs
      obtain ⟨os', h3, h4⟩ := ovr_spec hr ho
      have e1 := h.ev h1
      have e2 := h.ev h2
      generalize hx1 : a.eval x = x1 at e1
      generalize hx2 : a.eval y = x2 at e2
      unfold minA at h3
      split at h3
      · split at h3
        · rename_i k a1 k' b1 hk
          subst hk
          cases h3; cases e1; cases e2
          refine ⟨_, w, G, ?_, h, .int _ _ _⟩
          simp [execOp, resolve, invoke, builtin, Builtin.min_, Builtin.min2, hx1, hx2]
        · cases h3
      · cases h3
    · cases hs
  · rename_i x y ts
    split at hs
    · rename_i u1 u2 h1 h2
      obtain ⟨rfl, hr⟩ := pure_sr hs
      obtain ⟨os', h3, h4⟩ := ovr_spec hr ho
      have e1 := h.ev h1
      have e2 := h.ev h2
      generalize hx1 : a.eval x = x1 at e1
      generalize hx2 : a.eval y = x2 at e2
      unfold maxA at h3
      split at h3
      · split at h3
        · rename_i k a1 k' b1 hk
          subst hk
          cases h3; cases e1; cases e2
          refine ⟨_, w, G, ?_, h, .int _ _ _⟩
          simp [execOp, resolve, invoke, builtin, Builtin.max_, Builtin.max2, hx1, hx2]
        · cases h3
      · cases h3
    · cases hs
  · rename_i x y t u
    split at hs
    · rename_i u1 u2 h1 h2
      exact OpV.of2 (appA_sound (ty := type) hΓ h (h.ev h1) (h.ev h2) hs ho) (by simp [execOp, resolve, invoke, builtin])
    · cases hs
  · cases hs

end Go.AX
