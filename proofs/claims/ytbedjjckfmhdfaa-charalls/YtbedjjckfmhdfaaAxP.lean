import Derived.Test.YtbedjjckfmhdfaaAxO
set_option linter.unusedVariables false
set_option linter.unusedSimpArgs false
namespace Go.AX
open Go Go.RowKit

/-! ### A function's begin -/
def number {α : Type} : Nat → List α → List (Nat × α)
  | _, [] => []
  | i, x :: r => (i, x) :: number (i + 1) r
theorem number_get {α : Type} : ∀ (l : List α) (k i : Nat), look (number k l) i = if k ≤ i then l[i - k]? else none
  | [], k, i => by simp [number, look]
  | x :: r, k, i => by
    simp only [number, look_cons, number_get r (k + 1) i]
    by_cases h : k = i
    · subst h; simp
    · rw [if_neg h]
      by_cases h2 : k + 1 ≤ i
      · rw [if_pos h2, if_pos (by omega)]
        have : i - k = (i - (k + 1)) + 1 := by omega
        rw [this, List.getElem?_cons_succ]
      · rw [if_neg h2, if_neg (by omega)]
def st0 (args : List AV) : AS := ⟨number 0 args, [], []⟩

theorem start_rel {w : World} {F : Nat → Nat → Prop} {args : List AV} {vs : Array Value} (hF : ∀ b o, F b o → b < w.heap.size) (ha : Args w F args vs) {nt : Nat} (hnt : args.length ≤ nt) :
    RelG ⟨w, F, nt⟩ (envF F) (st0 args) { tmps := vs ++ Array.replicate (nt - vs.size) undef, defers := [] } w := by
  obtain ⟨h1, h2⟩ := ha
  refine ⟨rfl, by simp; omega, Below.refl _ _, hF, fun b o hf _ => hf, fun b o hf => hf, hF, ?_, fun i b hb => by simp [st0, look] at hb, fun i _ => rfl, fun i j g hi => by simp [envF] at hi, fun t n ht => by simp [st0, look] at ht, fun t _ => rfl⟩
  intro i v hv
  simp only [st0, number_get, Nat.zero_le, if_true, Nat.sub_zero] at hv
  have hlt : i < vs.size := by rw [h1]; exact (List.getElem?_eq_some_iff.1 hv).1
  refine ⟨vs[i], by rw [Array.getElem?_append_left hlt, Array.getElem?_eq_getElem hlt], (h2 i v vs[i] hv (Array.getElem?_eq_getElem hlt)).up⟩

/-! ### A function's end -/
def ret1 (Γ : TT) (s : AS) : ResultVar → Option AV
  | .tmp t => look s.tmps t
  | .cell a t => match look s.tmps a with
    | some (.ptr id off) => match loadA Γ s t (.ptr id off) none with
      | some (v, []) => some v
      | some (v, [_]) => match look Γ t, look s.heap id with
        | some ti, some (.var _ cs) => match Nat.ble (off + ti.size) cs.length with
          | true => some v
          | false => none
        | _, _ => none
      | _ => none
    | _ => none
def retL (Γ : TT) (s : AS) : List ResultVar → Option (List AV)
  | [] => some []
  | r :: rs => match ret1 Γ s r, retL Γ s rs with
    | some v, some l => some (v :: l)
    | _, _ => none
def retA (Γ : TT) (s : AS) (rs : List ResultVar) : Option AV :=
  match retL Γ s rs with
  | some [v] => some v
  | some l => some (.tup l)
  | none => none

/-- A part of what is handed back, as the contract has it. -/
def finT (s : AS) (x y : AV) : Option (List Prop) :=
  match y with
  | .sl nl' n' c' (.fresh e sz) => match x with
    | .sl nl n c (.own t) => match look s.tags t, nlLe nl nl' with
      | some g, true => match Nat.beq g.e e, Nat.beq g.sz sz with
        | true, true => some [n = n', c = c', g.n = n]
        | _, _ => none
      | _, _ => none
    | .sl nl n c .clip => match nlLe nl nl' with
      | true => some [n = n', c = c']
      | false => none
    | _ => none
  | _ => match treeH s x with
    | some z => leP z y
    | none => none
def finL (s : AS) : List AV → List AV → Option (List Prop)
  | [], [] => some []
  | x :: xs, y :: ys => match finT s x y, finL s xs ys with
    | some a, some b => some (a ++ b)
    | _, _ => none
  | _, _ => none
/-- The tags that are given away. -/
def given : List AV → List AV → List Nat
  | .sl _ _ _ (.own t) :: xs, .sl _ _ _ (.fresh _ _) :: ys => t :: given xs ys
  | _ :: xs, _ :: ys => given xs ys
  | _, _ => []
def nodupB : List Nat → Bool
  | [] => true
  | x :: xs => !(xs.any (Nat.beq x)) && nodupB xs
def shape (x y : AV) : Bool :=
  match x, y with
  | .agg _, .agg _ => true
  | .tup _, .tup _ => true
  | .agg _, _ => false
  | .tup _, _ => false
  | _, .agg _ => false
  | _, .tup _ => false
  | _, .undef => false
  | _, _ => true
def retP (Γ : TT) (zs : List Nat) (s : AS) (rs : List ResultVar) (res : AV) : Option (List Prop) :=
  match freezeAll s zs with
  | some s1 => match retA Γ s1 rs with
    | some x => match shape x res, nodupB (given (tops x) (tops res)) with
      | true, true => finL s1 (tops x) (tops res)
      | _, _ => none
    | none => none
  | none => none

theorem ret1_sound {P : Program} {Γ : TT} (hΓ : Γok P Γ) {C : Ctx} {G : Env} {s : AS} {a : Act} {w : World} (h : RelG C G s a w) {r : ResultVar} {v : AV} (hr : ret1 Γ s r = some v) :
    ∃ x, ((match r with | .tmp t => pure (a.tmps.getD t undef) | .cell b t => do loadVar t (← asAddr (a.tmps.getD b undef)) : Sem Value)).run P w = .ok x w ∧ Rep w G true v x := by
  cases r with
  | tmp t =>
    obtain ⟨x, h1, h2⟩ := h.slots t v hr
    exact ⟨x, by simp [h1], h2⟩
  | cell b t =>
    simp only [ret1] at hr
    split at hr
    · rename_i id off hb
      obtain ⟨x, h1, h2⟩ := h.slots b _ hb
      have key : ∃ os, loadA Γ s t (.ptr id off) none = some (v, os) ∧ All os := by
        split at hr
        · rename_i v' hl
          cases hr
          exact ⟨[], hl, trivial⟩
        · rename_i v' p hl
          split at hr
          · rename_i ti wr cs hti hcs
            split at hr
            · rename_i hble
              cases hr
              refine ⟨_, hl, ?_⟩
              simp only [loadA, hti, hcs, cellsAt] at hl
              split at hl
              · cases hl
                exact Nat.le_of_ble_eq_true hble
              · split at hl <;> cases hl
            · cases hr
          · cases hr
        · cases hr
      obtain ⟨os, h3, h4⟩ := key
      obtain ⟨y, h5, h6⟩ := loadA_sound (P := P) hΓ h h2 h3 h4
      refine ⟨y, ?_, h6⟩
      cases h2 with
      | ptr _ _ g hg =>
        simp only [Instr.loadAt, Instr.sureAddr, Sem.run_bind, Sem.run_pure, Result.andThen_ok] at h5
        simp [h1, asAddr, h5]
    · cases hr

theorem retL_sound {P : Program} {Γ : TT} (hΓ : Γok P Γ) {C : Ctx} {G : Env} {s : AS} {a : Act} {w : World} (h : RelG C G s a w) : ∀ {rs : List ResultVar} {l : List AV}, retL Γ s rs = some l → ∃ xs : List Value, (rs.mapM fun r => (match r with | .tmp t => pure (a.tmps.getD t undef) | .cell b t => do loadVar t (← asAddr (a.tmps.getD b undef)) : Sem Value)).run P w = .ok xs w ∧
    xs.length = l.length ∧ ∀ (i : Nat) (c : AV) (v : Value), l[i]? = some c → xs[i]? = some v → Rep w G true c v
  | [], l, hl => by cases hl; exact ⟨[], rfl, rfl, fun i c v hc => by simp at hc⟩
  | r :: rs, l, hl => by
    simp only [retL] at hl
    split at hl
    · rename_i v l' h1 h2
      cases hl
      obtain ⟨x, h3, h4⟩ := ret1_sound (P := P) hΓ h h1
      obtain ⟨xs, h5, h6, h7⟩ := retL_sound hΓ h h2
      refine ⟨x :: xs, ?_, by simp [h6], fun i c u hc hu => ?_⟩
      · rw [List.mapM_cons, Sem.run_bind, h3]
        simp only [Result.andThen_ok, Sem.run_bind, h5, Sem.run_pure]
      · match i, hc, hu with
        | 0, hc, hu =>
          simp at hc hu
          subst hc; subst hu
          exact h4
        | n + 1, hc, hu => exact h7 n c u (by simpa using hc) (by simpa using hu)
    · cases hl

theorem retA_sound {P : Program} {Γ : TT} (hΓ : Γok P Γ) {C : Ctx} {G : Env} {s : AS} {a : Act} {w : World} (h : RelG C G s a w) {fn : Func} {v : AV} (hr : retA Γ s fn.results.toList = some v) : ∃ x, (results fn a.tmps).run P w = .ok x w ∧ Rep w G true v x := by
  have core : ∀ {l : List AV}, retL Γ s fn.results.toList = some l → ∃ xs : List Value, (results fn a.tmps).run P w = .ok (if h : xs.length = 1 then xs[0] else .tuple xs.toArray) w ∧ xs.length = l.length ∧ ∀ (i : Nat) (c : AV) (v : Value), l[i]? = some c → xs[i]? = some v → Rep w G true c v := by
    intro l hl
    obtain ⟨xs, h1, h2, h3⟩ := retL_sound (P := P) hΓ h hl
    refine ⟨xs, ?_, h2, h3⟩
    unfold results
    rw [Sem.run_bind, Array.mapM_eq_mapM_toList, map_eq_pure_bind, Sem.run_bind]
    erw [h1]
    simp only [Result.andThen_ok, Sem.run_pure, List.size_toArray]
    by_cases h9 : xs.length = 1 <;> simp [h9]
  unfold retA at hr
  split at hr
  · rename_i v' hl
    cases hr
    obtain ⟨xs, h1, h2, h3⟩ := core hl
    have hl1 : xs.length = 1 := by simpa using h2
    rw [dif_pos hl1] at h1
    exact ⟨_, h1, h3 0 v xs[0] rfl (List.getElem?_eq_getElem (by omega))⟩
  · rename_i l hne hl
    cases hr
    obtain ⟨xs, h1, h2, h3⟩ := core hl
    have hl1 : ¬ xs.length = 1 := by
      rw [h2]
      intro e
      match l, e, hne with
      | [x], _, hne => exact hne x rfl
    rw [dif_neg hl1] at h1
    exact ⟨_, h1, .tup _ _ _ (by simpa using h2) fun i c v hc hv => h3 i c v hc (by simpa using hv)⟩
  · cases hr

end Go.AX
