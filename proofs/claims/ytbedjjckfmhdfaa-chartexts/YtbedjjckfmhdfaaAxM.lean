import Derived.Test.YtbedjjckfmhdfaaAxL
set_option linter.unusedVariables false
set_option linter.unusedSimpArgs false
namespace Go.AX
open Go Go.RowKit

/-! ### Contracts -/
/-- A result's parts, where it is a struct or several values. -/
def tops : AV → List AV
  | .agg cs => cs
  | .tup cs => cs
  | x => [x]
def topsV : Value → List Value
  | .agg cs => cs.toList
  | .tuple cs => cs.toList
  | x => [x]
/-- A part that is new, and may be appended to: what the world says of it. -/
def FrOk (base : Nat) (w : World) : AV → Value → Option TagRec → Prop
  | .sl _ n _ (.fresh e sz), v, some r => r.v = v ∧ r.n = n ∧ r.e = e ∧ r.sz = sz ∧ (r.o = false → ∃ A, v = .slice A n n ∧ (A = none → n = 0)) ∧ (r.o = true → w.ownsRow base e sz v n r.xs ∧ ∀ u ∈ r.xs, u.oneCell' = true)
  | .sl _ _ _ (.fresh _ _), _, none => False
  | _, _, none => True
  | _, _, some _ => False
/-- What is read behind the call: as before, and what is new, but for the places that fresh parts may still be appended at. -/
def Fr (F : Nat → Nat → Prop) (w w' : World) (rs : List (Option TagRec)) (b o : Nat) : Prop :=
  F b o ∨ (w.heap.size ≤ b ∧ b < w'.heap.size ∧ ∀ r, some r ∈ rs → r.o = true → r.v.ownBlock = some b → o < r.n * r.sz)

structure Res (F : Nat → Nat → Prop) (w w' : World) (res : AV) (v : Value) (rs : List (Option TagRec)) : Prop where
  below : Below w.heap.size w w'
  len : rs.length = (tops res).length
  lenV : (topsV v).length = (tops res).length
  ok : ∀ (i : Nat) (x : AV) (u : Value) (r : Option TagRec), (tops res)[i]? = some x → (topsV v)[i]? = some u → rs[i]? = some r → FrOk w.heap.size w' x u r
  apart : ∀ (i j : Nat) (r r' : TagRec) (g : Nat), rs[i]? = some (some r) → rs[j]? = some (some r') → r.o = true → r'.o = true → r.v.ownBlock = some g → r'.v.ownBlock = some g → i = j
  rep : Rep w' (envF (Fr F w w' rs)) false res v

def Args (w : World) (F : Nat → Nat → Prop) (xs : List AV) (vs : Array Value) : Prop :=
  vs.size = xs.length ∧ ∀ (i : Nat) (c : AV) (v : Value), xs[i]? = some c → vs[i]? = some v → Rep w (envF F) false c v

/-- THE CONTRACT: called with what these trees stand for, the function returns what that one stands for; what was there stays. -/
def Ctr (P : Program) (f : FuncId) (args : List AV) (res : AV) : Prop :=
  (∀ vs w, (callFunc f vs).run P w = .ok (.enter f vs) w) ∧
  ∀ (w : World) (F : Nat → Nat → Prop) (vs : Array Value), (∀ b o, F b o → b < w.heap.size) → Args w F args vs → Calls P f vs w fun e w' => ∃ v rs, e = .returned v ∧ Res F w w' res v rs

/-- Parts that are new come under tags. -/
def impL (s : AS) (d : Nat) : List AV → Option (AS × List AV)
  | [] => some (s, [])
  | .sl nl n cells (.fresh e sz) :: r => match look s.tags d with
    | none => match impL (s.tag d ⟨n, e, sz⟩) (d + 1000) r with
      | some (s', l) => some (s', .sl nl n cells (.own d) :: l)
      | none => none
    | some _ => none
  | x :: r => match impL s (d + 1000) r with
    | some (s', l) => some (s', x :: l)
    | none => none
def imp (s : AS) (d : Nat) (res : AV) : Option (AS × AV) :=
  match res with
  | .agg cs => match impL s d cs with
    | some (s', l) => some (s', .agg l)
    | none => none
  | .tup cs => match impL s d cs with
    | some (s', l) => some (s', .tup l)
    | none => none
  | .sl nl n cells o => match impL s d [.sl nl n cells o] with
    | some (s', [y]) => some (s', y)
    | _ => none
  | x => some (s, x)

theorem own_lower {w : World} {b b' : Nat} {e : TypeId} {size n : Nat} {v : Value} {xs : List Value} (h : w.ownsRow b e size v n xs) (hb : b' ≤ b) : w.ownsRow b' e size v n xs := by
  refine ⟨h.1, ?_⟩
  rcases h.2 with h2 | ⟨g, cap, cur, e1, hg, h3⟩
  · exact .inl h2
  · exact .inr ⟨g, cap, cur, e1, Nat.le_trans hb hg, h3⟩

theorem impL_sound {C : Ctx} {a : Act} {w w' : World} {rs0 : List (Option TagRec)} (hsz : C.w0.heap.size ≤ w.heap.size) (hapart : ∀ (i j : Nat) (r r' : TagRec) (g : Nat), rs0[i]? = some (some r) → rs0[j]? = some (some r') → r.o = true → r'.o = true → r.v.ownBlock = some g → r'.v.ownBlock = some g → i = j) :
    ∀ (xs : List AV) (us : List Value) (rs : List (Option TagRec)) (k d : Nat) (G : Env) (s s' : AS) (l : List AV), us.length = xs.length → rs.length = xs.length → (∀ i r, rs[i]? = some r → rs0[k + i]? = some r) →
    (∀ (i : Nat) (x : AV) (u : Value) (r : Option TagRec), xs[i]? = some x → us[i]? = some u → rs[i]? = some r → FrOk w.heap.size w' x u r) →
    (∀ (i : Nat) (x : AV) (u : Value), xs[i]? = some x → us[i]? = some u → Rep w' G false x u) → RelG C G s a w' →
    (∀ b o, w.heap.size ≤ b → G.F b o → ∀ r, some r ∈ rs0 → r.o = true → r.v.ownBlock = some b → o < r.n * r.sz) → (∀ i g, G.φ i = some g → g < w.heap.size) →
    (∀ t r g, G.τ t = some r → r.o = true → r.v.ownBlock = some g → g < w.heap.size ∨ ∃ i r1, i < k ∧ rs0[i]? = some (some r1) ∧ r1.o = true ∧ r1.v.ownBlock = some g) →
    impL s d xs = some (s', l) → ∃ G', RelG C G' s' a w' ∧ Env.Le w' G w' G' ∧ l.length = xs.length ∧ ∀ (i : Nat) (x : AV) (u : Value), l[i]? = some x → us[i]? = some u → Rep w' G' true x u
  | [], us, rs, k, d, G, s, s', l, hu, hr, hk, hok, hrep, hR, hF, hφ, hτ, h => by
    cases h
    exact ⟨G, hR, Env.Le.refl _ _, rfl, fun i x u hx => by simp at hx⟩
  | x :: xs, us, rs, k, d, G, s, s', l, hu, hr, hk, hok, hrep, hR, hF, hφ, hτ, h => by
    cases us with
    | nil => simp at hu
    | cons u us =>
    cases rs with
    | nil => simp at hr
    | cons r rs =>
    have ok0 := hok 0 x u r rfl rfl rfl
    have rep0 := hrep 0 x u rfl rfl
    have step : ∀ (G1 : Env) (s1 : AS) (y : AV) (l1 : List AV), RelG C G1 s1 a w' → Env.Le w' G w' G1 → (∀ b o, w.heap.size ≤ b → G1.F b o → ∀ r, some r ∈ rs0 → r.o = true → r.v.ownBlock = some b → o < r.n * r.sz) → (∀ i g, G1.φ i = some g → g < w.heap.size) →
        (∀ t r g, G1.τ t = some r → r.o = true → r.v.ownBlock = some g → g < w.heap.size ∨ ∃ i r1, i < k + 1 ∧ rs0[i]? = some (some r1) ∧ r1.o = true ∧ r1.v.ownBlock = some g) → impL s1 (d + 1000) xs = some (s', l1) → Rep w' G1 true y u →
        ∃ G', RelG C G' s' a w' ∧ Env.Le w' G w' G' ∧ (y :: l1).length = (x :: xs).length ∧ ∀ (i : Nat) (x : AV) (u' : Value), (y :: l1)[i]? = some x → (u :: us)[i]? = some u' → Rep w' G' true x u' := by
      intro G1 s1 y l1 hR1 hle hF1 hφ1 hτ1 hi hy
      obtain ⟨G', h1, h2, h3, h4⟩ := impL_sound hsz hapart xs us rs (k + 1) (d + 1000) G1 s1 s' l1 (by simpa using hu) (by simpa using hr) (fun i r hi => by
        have := hk (i + 1) r (by simpa using hi)
        rwa [show k + (i + 1) = k + 1 + i by omega] at this) (fun i x u r a b c => hok (i + 1) x u r (by simpa using a) (by simpa using b) (by simpa using c)) (fun i x u a b => (hrep (i + 1) x u (by simpa using a) (by simpa using b)).mono hle) hR1 hF1 hφ1 hτ1 hi
      refine ⟨G', h1, hle.trans h2, by simp [h3], fun i x' u' hx hu' => ?_⟩
      match i, hx, hu' with
      | 0, hx, hu' =>
        simp at hx hu'
        subst hx; subst hu'
        exact hy.mono h2
      | n + 1, hx, hu' => exact h4 n x' u' (by simpa using hx) (by simpa using hu')
    unfold impL at h
    split at h
    · rename_i heq
      cases heq
    · rename_i nl n cells e sz xs' heq
      cases heq
      split at h
      · rename_i hl
        split at h
        · rename_i s1 l1 hi
          cases h
          cases r with
          | none => exact ok0.elim
          | some r =>
            obtain ⟨o2, o3, o4, o5, o6, o7⟩ := ok0
            have hr0 : rs0[k]? = some (some r) := hk 0 _ rfl
            have hmem : some r ∈ rs0 := List.mem_of_getElem? hr0
            have hgb : r.o = true → ∀ g, r.v.ownBlock = some g → w.heap.size ≤ g := fun ho g hg => ((o7 ho).1.lt g (by rw [← o2]; exact hg)).1
            obtain ⟨h1, h2⟩ := hR.addTag (t := d) (r := r) hl (fun e => by rw [o2, o3]; exact o6 e) (fun ho => ⟨by rw [o4, o5, o3, o2]; exact own_lower (o7 ho).1 hsz, (o7 ho).2, fun g hg => ⟨fun o hf => hF g o (hgb ho g hg) hf r hmem ho hg, fun i hi => by have := hφ i g hi; have := hgb ho g hg; omega, fun t' r' hr' ho' hb' => by
              rcases hτ t' r' g hr' ho' hb' with h9 | ⟨i, r1, hlt, h9, h10, h11⟩
              · have := hgb ho g hg; omega
              · have := hapart i k r1 r g h9 hr0 h10 ho h11 hg
                omega⟩⟩)
            rw [o3, o4, o5] at h1
            refine step (G.setT d r) _ _ l1 h1 h2 hF hφ (fun t r' g hr' ho' hb' => ?_) hi ?_
            · simp only [Env.setT] at hr'
              split at hr'
              · cases hr'
                exact .inr ⟨k, r, by omega, hr0, ho', hb'⟩
              · rcases hτ t r' g hr' ho' hb' with h9 | ⟨i, r1, hlt, h9, h10⟩
                · exact .inl h9
                · exact .inr ⟨i, r1, by omega, h9, h10⟩
            · cases rep0 with
              | sl _ _ _ _ _ A c vs hnl hpos hc hcell hrep' hclip hown =>
                refine .sl _ _ _ _ _ _ _ vs hnl hpos hc hcell (fun j x hx => (hrep' j x hx).mono h2) (fun e => by cases e) (fun t' ht' => ?_)
                cases ht'
                exact ⟨rfl, r, by simp [Env.setT], by omega, fun _ => o2⟩
        · cases h
      · cases h
    · rename_i x' xs' _ heq
      cases heq
      split at h
      · rename_i s1 l1 hi
        cases h
        exact step G _ _ l1 hR (Env.Le.refl _ _) hF hφ (fun t r g a b c => by
          rcases hτ t r g a b c with h9 | ⟨i, r1, hlt, h9, h10⟩
          · exact .inl h9
          · exact .inr ⟨i, r1, by omega, h9, h10⟩) hi rep0.up
      · cases h

/-- Behind a call: the world is another one, what is handed back stands for the result. -/
theorem RelG.call {C : Ctx} {G : Env} {s s' : AS} {a : Act} {w w' : World} (h : RelG C G s a w) {res y : AV} {v : Value} {rs : List (Option TagRec)} {d : Nat} (hr : Res G.F w w' res v rs) (hi : imp s d res = some (s', y)) : ∃ G', RelG C G' s' a w' ∧ Rep w' G' true y v := by
  obtain ⟨h1, h2⟩ := h.grow (G' := { G with F := Fr G.F w w' rs }) hr.below rfl rfl (fun b o hf => .inl hf) (fun b o hf => by
    rcases hf with hf | ⟨h3, h4, _⟩
    · exact .inl hf
    · exact .inr ⟨h3, h4⟩)
  have hrep : Rep w' { G with F := Fr G.F w w' rs } false res v := hr.rep.tree (fun b o hf => hf)
  have core : ∀ (l : List AV), impL s d (tops res) = some (s', l) → ∃ G', RelG C G' s' a w' ∧ Env.Le w' { G with F := Fr G.F w w' rs } w' G' ∧ l.length = (tops res).length ∧ ∀ (i : Nat) (x : AV) (u : Value), l[i]? = some x → (topsV v)[i]? = some u → Rep w' G' true x u := by
    intro l hl
    refine impL_sound (w := w) (rs0 := rs) h.below.size hr.apart (tops res) (topsV v) rs 0 d _ s s' l hr.lenV hr.len (fun i r h => by rwa [Nat.zero_add]) hr.ok ?_ h1 (fun b o hb hf r hm ho hg => ?_) (fun i g hg => h.blk_lt hg) (fun t r g hr' ho hb => .inl (h.tag_lt hr' ho hb)) hl
    · intro i x u hx hu
      cases res <;> first
        | (cases hrep with | agg _ cs vs hl' hr' h1' => exact hr' i x u hx (by simpa [topsV] using hu))
        | (cases hrep with | tup _ cs vs hl' hr' => exact hr' i x u hx (by simpa [topsV] using hu))
        | skip
      all_goals (
        have e1 : i = 0 := by
          simp only [tops] at hx
          have := (List.getElem?_eq_some_iff.1 hx).1
          simpa using this
        subst e1
        simp only [tops, List.getElem?_cons_zero, Option.some.injEq] at hx
        subst hx
        first
          | exact .undef _ _
          | (have hv : topsV v = [v] := by cases hrep <;> rfl
             rw [hv] at hu
             simp at hu
             subst hu
             exact hrep))
    · rcases hf with hf | ⟨_, _, h3⟩
      · exact absurd (h.fdom b o hf) (by omega)
      · exact h3 r hm ho hg
  unfold imp at hi
  split at hi
  · rename_i cs
    split at hi
    · rename_i s1 l hl
      cases hi
      obtain ⟨G', h3, h4, h5, h6⟩ := core l hl
      cases hrep with
      | agg _ _ vs hl' hr' h1' => exact ⟨G', h3, .agg _ _ _ (by rw [h5]; exact hl') (fun i c v hc hv => h6 i c v hc (by simpa [topsV] using hv)) h1'⟩
    · cases hi
  · rename_i cs
    split at hi
    · rename_i s1 l hl
      cases hi
      obtain ⟨G', h3, h4, h5, h6⟩ := core l hl
      cases hrep with
      | tup _ _ vs hl' hr' => exact ⟨G', h3, .tup _ _ _ (by rw [h5]; exact hl') (fun i c v hc hv => h6 i c v hc (by simpa [topsV] using hv))⟩
    · cases hi
  · rename_i nl n cells o
    split at hi
    · rename_i s1 y' hl
      cases hi
      obtain ⟨G', h3, h4, h5, h6⟩ := core [y] hl
      refine ⟨G', h3, h6 0 y v rfl ?_⟩
      cases hrep
      rfl
    · cases hi
  · cases hi
    exact ⟨_, h1, hrep.up⟩

/-! ### The operation -/
mutual
def scalarA : AV → Bool
  | .int _ _ => true
  | .bool _ => true
  | .str _ => true
  | .tup cs => scalarL cs
  | .agg cs => scalarL cs
  | _ => false
def scalarL : List AV → Bool
  | [] => true
  | x :: xs => scalarA x && scalarL xs
end
theorem scalarL_get : ∀ {xs : List AV}, scalarL xs = true → ∀ (i : Nat) (x : AV), xs[i]? = some x → scalarA x = true
  | [], _, i, x, hx => by simp at hx
  | y :: ys, h, i, x, hx => by
    simp only [scalarL, Bool.and_eq_true] at h
    match i, hx with
    | 0, hx => simp at hx; subst hx; exact h.1
    | n + 1, hx => exact scalarL_get h.2 n x (by simpa using hx)
theorem scalar_rep {w w' : World} {G G' : Env} {l l' : Bool} {x : AV} {v : Value} (h : Rep w G l x v) (hs : scalarA x = true) : Rep w' G' l' x v := by
  induction h with
  | int => exact .int _ _ _
  | bool => exact .bool _ _
  | str => exact .str _ _
  | agg l cs vs hl h h1 ih =>
    simp only [scalarA] at hs
    exact .agg _ _ _ hl (fun i c v a b => ih i c v a b (scalarL_get hs i c a)) h1
  | tup l cs vs hl h ih =>
    simp only [scalarA] at hs
    exact .tup _ _ _ hl (fun i c v a b => ih i c v a b (scalarL_get hs i c a))
  | _ => simp [scalarA] at hs

def callA (P : Program) (s : AS) (d : Nat) (f : AV) (xs : List AV) (ann : Option Ann) : SR :=
  match f, Ann.call? ann with
  | .fn fid caps, some (zs, g) => match freezeAll s zs with
    | some s1 => match treeHL s1 (xs ++ caps) with
      | some ys => match scalarA (g ys) with
        | true => some (s, g ys, [Ctr P fid ys (g ys)])
        | false => match imp s1 d (g ys) with
          | some (s2, v) => some (s2, v, [Ctr P fid ys (g ys)])
          | none => none
      | none => none
    | none => none
  | _, _ => none

theorem callA_sound {P : Program} {C : Ctx} {G : Env} {s s' : AS} {a : Act} {w : World} (h : RelG C G s a w) {d : Nat} {f y : AV} {xs : List AV} {ann : Option Ann} {vf : Value} {us : Array Value} (hf : Rep w G true f vf) (hl : us.size = xs.length) (hx : ∀ (i : Nat) (c : AV) (v : Value), xs[i]? = some c → us[i]? = some v → Rep w G true c v)
    {os : List Prop} (hn : callA P s d f xs ann = some (s', y, os)) (ho : All os) : ∃ fid caps, vf = .func (.func fid) #[] caps ∧ (callFunc fid (us ++ caps)).run P w = .ok (.enter fid (us ++ caps)) w ∧
      Calls P fid (us ++ caps) w fun e w' => ∃ v G', e = .returned v ∧ RelG C G' s' a w' ∧ Rep w' G' true y v := by
  unfold callA at hn
  split at hn
  · rename_i fid caps zs g _
    cases hf with
    | fn _ _ _ cvs hcl hcr =>
    split at hn
    · rename_i s1 hs1
      obtain ⟨G1, hR1, hle1⟩ := freezeAll_sound h hs1
      split at hn
      · rename_i ys hys
        obtain ⟨hy1, hy2⟩ := treeHL_get hys
        have hargs : Args w G1.F ys (us ++ cvs) := by
          refine ⟨by rw [hy1]; simp [hl, hcl], fun i c v hc hv => ?_⟩
          obtain ⟨x, hx', ht⟩ := hy2 i c hc
          have hrx : Rep w G1 true x v := by
            by_cases hi : i < xs.length
            · rw [List.getElem?_append_left hi] at hx'
              rw [Array.getElem?_append_left (by omega)] at hv
              exact (hx i x v hx' hv).mono hle1
            · rw [List.getElem?_append_right (by omega)] at hx'
              rw [Array.getElem?_append_right (by omega), hl] at hv
              exact (hcr _ x v hx' hv).mono hle1
          exact (treeH_sound hR1 hrx ht).tree (fun b o hf => hf)
        split at hn
        · rename_i hsc
          cases hn
          simp only [All] at ho
          refine ⟨_, cvs, rfl, ho.1 _ _, (ho.2 w G1.F _ hR1.fdom hargs).mono fun e w' hh => ?_⟩
          obtain ⟨v, rs, rfl, hres⟩ := hh
          obtain ⟨h1, h2⟩ := h.grow (G' := G) hres.below rfl rfl (fun _ _ h => h) (fun _ _ h => .inl h)
          exact ⟨v, G, rfl, h1, scalar_rep hres.rep hsc⟩
        · split at hn
          · rename_i s2 v hi
            cases hn
            simp only [All] at ho
            refine ⟨_, cvs, rfl, ho.1 _ _, (ho.2 w G1.F _ hR1.fdom hargs).mono fun e w' hh => ?_⟩
            obtain ⟨v, rs, rfl, hres⟩ := hh
            obtain ⟨G', h1, h2⟩ := hR1.call hres hi
            exact ⟨v, G', rfl, h1, h2⟩
          · cases hn
      · cases hn
    · cases hn
  · cases hn

end Go.AX
