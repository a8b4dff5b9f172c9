import Derived.Test.YtbedjjckfmhdfaaAxE
set_option linter.unusedVariables false
set_option linter.unusedSimpArgs false
namespace Go.AX
open Go Go.RowKit

/-! ### A struct that is built -/
def cellsOf : AV → List AV
  | .agg cs => cs
  | v => [v]
def splice (cells : List AV) (off : Nat) (vs : List AV) : List AV := cells.take off ++ (vs ++ cells.drop (off + vs.length))
theorem splice_length {cells : List AV} {off : Nat} {vs : List AV} (h : off + vs.length ≤ cells.length) : (splice cells off vs).length = cells.length := by simp [splice]; omega
theorem splice_get {cells : List AV} {off : Nat} {vs : List AV} (h : off + vs.length ≤ cells.length) (k : Nat) : (splice cells off vs)[k]? = if off ≤ k ∧ k < off + vs.length then vs[k - off]? else cells[k]? := by
  simp only [splice]
  split
  · rename_i hk
    rw [List.getElem?_append_right (by simp; omega), List.getElem?_append_left (by simp; omega)]
    simp
    congr 1
    omega
  · rename_i hk
    by_cases h1 : k < off
    · rw [List.getElem?_append_left (by simp; omega), List.getElem?_take]
      simp [h1]
    · rw [List.getElem?_append_right (by simp; omega), List.getElem?_append_right (by simp; omega), List.getElem?_drop]
      simp
      congr 1
      omega

def Pw (w : World) (G : Env) (l : Bool) (cs : List AV) (vs : Array Value) : Prop :=
  vs.size = cs.length ∧ (∀ (i : Nat) (c : AV) (v : Value), cs[i]? = some c → vs[i]? = some v → Rep w G l c v) ∧ ∀ v ∈ vs, v.oneCell' = true

theorem fold_set (off : Nat) : ∀ (ws : List Value) (k : Nat) (cells : Array Value), off + k + ws.length ≤ cells.size →
    ((ws.zipIdx k).foldl (fun cs (p : Value × Nat) => cs.setIfInBounds (off + p.2) p.1) cells).size = cells.size ∧
    ∀ i, ((ws.zipIdx k).foldl (fun cs (p : Value × Nat) => cs.setIfInBounds (off + p.2) p.1) cells)[i]? = if off + k ≤ i ∧ i < off + k + ws.length then ws[i - off - k]? else cells[i]?
  | [], k, cells, _ => by
    refine ⟨rfl, fun i => ?_⟩
    simp
    intro h1 h2
    omega
  | x :: ws, k, cells, h => by
    simp only [List.length_cons] at h
    obtain ⟨h1, h2⟩ := fold_set off ws (k + 1) (cells.setIfInBounds (off + k) x) (by simp; omega)
    simp only [List.zipIdx_cons, List.foldl_cons]
    refine ⟨by simpa using h1, fun i => ?_⟩
    rw [h2 i]
    simp only [Array.getElem?_setIfInBounds, List.length_cons]
    by_cases e : i = off + k
    · subst e
      have : off + k < cells.size := by omega
      simp [this]
      intro; omega
    · by_cases h3 : off + (k + 1) ≤ i ∧ i < off + (k + 1) + ws.length
      · rw [if_pos h3, if_pos (by omega)]
        have : i - off - k = (i - off - (k + 1)) + 1 := by omega
        rw [this, List.getElem?_cons_succ]
      · have h4 : ¬ (off + k ≤ i ∧ i < off + k + (ws.length + 1)) := by omega
        simp only [h3, h4, if_false]
        rw [if_neg (fun hh => e hh.symm)]

theorem Pw.splice {w : World} {G : Env} {l : Bool} {cs : List AV} {vs : Array Value} (h : Pw w G l cs vs) {off : Nat} {xs : List AV} {us : Array Value} (hu : Pw w G l xs us) (hl : off + xs.length ≤ cs.length) :
    Pw w G l (AX.splice cs off xs) (us.zipIdx.foldl (fun cs (p : Value × Nat) => cs.setIfInBounds (off + p.2) p.1) vs) := by
  obtain ⟨h1, h2, h3⟩ := h
  obtain ⟨u1, u2, u3⟩ := hu
  have hul : us.toList.length = xs.length := by simpa using u1
  obtain ⟨f1, f2⟩ := fold_set off us.toList 0 vs (by rw [h1, Nat.add_zero, hul]; exact hl)
  have e : us.zipIdx.foldl (fun cs (p : Value × Nat) => cs.setIfInBounds (off + p.2) p.1) vs = (us.toList.zipIdx 0).foldl (fun cs (p : Value × Nat) => cs.setIfInBounds (off + p.2) p.1) vs := by
    rw [← Array.foldl_toList]
    congr 1
    simp [Array.toList_zipIdx]
  rw [e]
  refine ⟨by rw [f1, h1, splice_length hl], ?_, ?_⟩
  · intro i c v hc hv
    rw [f2] at hv
    rw [splice_get hl] at hc
    simp only [Nat.add_zero, hul, Nat.sub_zero] at hv
    split at hc
    · rename_i hk
      rw [if_pos hk] at hv
      exact u2 (i - off) c v hc (by simpa using hv)
    · rename_i hk
      rw [if_neg hk] at hv
      exact h2 i c v hc hv
  · intro v hv
    obtain ⟨i, hi, rfl⟩ := Array.mem_iff_getElem.1 hv
    have h5 := f2 i
    rw [Array.getElem?_eq_getElem hi] at h5
    split at h5
    · exact u3 _ (Array.mem_toList_iff.1 (List.mem_of_getElem? h5.symm))
    · exact h3 _ (Array.mem_of_getElem? h5.symm)

def fillA (fs : List (Nat × Nat)) (cells : List AV) : List (Nat × AV) → Option (List AV)
  | [] => some cells
  | (i, v) :: rest => match fs[i]? with
    | none => none
    | some (off, size) => match Nat.beq (cellsOf v).length size, Nat.ble (off + size) cells.length with
      | true, true => fillA fs (splice cells off (cellsOf v)) rest
      | _, _ => none

theorem one_pw {w : World} {G : Env} {l : Bool} {v : AV} {u : Value} (h : Rep w G l v u) (hu : u.cells = #[u]) (h1 : u.oneCell' = true) : Pw w G l [v] u.cells := by
  rw [hu]
  refine ⟨rfl, fun i c x hc hx => ?_, fun x hx => ?_⟩
  · match i, hc, hx with
    | 0, hc, hx =>
      simp at hc hx
      subst hc; subst hx
      exact h
    | n + 1, hc, hx => simp at hc
  · simp at hx
    subst hx
    exact h1
theorem cellsOf_pw {w : World} {G : Env} {l : Bool} {v : AV} {u : Value} (h : Rep w G l v u) (h2 : ∀ vs, v ≠ .tup vs) (h3 : v ≠ .undef) : Pw w G l (cellsOf v) u.cells := by
  have hh := h
  cases h with
  | agg _ cs vs hl hr h1' => exact ⟨hl, hr, h1'⟩
  | undef => exact absurd rfl h3
  | tup => exact absurd rfl (h2 _)
  | _ => exact one_pw hh rfl rfl

/-- What may be stored, built in, or laid. -/
def AV.real : AV → Bool
  | .tup _ => false
  | .undef => false
  | _ => true
theorem real_pw {w : World} {G : Env} {l : Bool} {v : AV} {u : Value} (h : Rep w G l v u) (hr : v.real = true) : Pw w G l (cellsOf v) u.cells :=
  cellsOf_pw h (fun vs e => by subst e; cases hr) (fun e => by subst e; cases hr)

def fillB (fs : List (Nat × Nat)) (cells : List AV) : List (Nat × AV) → Option (List AV)
  | [] => some cells
  | (i, v) :: rest => match fs[i]?, v.real with
    | some (off, size), true => match Nat.beq (cellsOf v).length size, Nat.ble (off + size) cells.length with
      | true, true => fillB fs (splice cells off (cellsOf v)) rest
      | _, _ => none
    | _, _ => none

theorem fill_sound {w : World} {G : Env} {l : Bool} {fs : List (Nat × Nat)} {place : Nat → Option (Nat × Nat)} (hp : ∀ i p, fs[i]? = some p → place i = some p) : ∀ {xs : List (Nat × AV)} {us : List (Nat × Value)} {cs cs' : List AV} {vs : Array Value},
    fillB fs cs xs = some cs' → xs.length = us.length → (∀ (i : Nat) (p : Nat × AV) (q : Nat × Value), xs[i]? = some p → us[i]? = some q → p.1 = q.1 ∧ Rep w G l p.2 q.2) → Pw w G l cs vs → ∃ vs', Instr.fill place vs us = some vs' ∧ Pw w G l cs' vs'
  | [], us, cs, cs', vs, h, hl, hr, hv => by
    obtain rfl := List.eq_nil_of_length_eq_zero hl.symm
    cases h
    exact ⟨vs, rfl, hv⟩
  | (i, x) :: xs, us, cs, cs', vs, h, hl, hr, hv => by
    cases us with
    | nil => simp at hl
    | cons q us =>
      obtain ⟨j, u⟩ := q
      obtain ⟨e, hx⟩ := hr 0 _ _ rfl rfl
      simp only at e hx
      subst e
      simp only [fillB] at h
      split at h
      · rename_i off size hf hreal
        split at h
        · rename_i h1 h2
          have e1 := Nat.eq_of_beq_eq_true h1
          have e2 := Nat.le_of_ble_eq_true h2
          have hpu := real_pw hx hreal
          have hsz : u.cells.size = size := by rw [hpu.1]; exact e1
          obtain ⟨vs', h3, h4⟩ := fill_sound hp h (by simpa using hl) (fun k p q a b => hr (k + 1) p q (by simpa using a) (by simpa using b)) (hv.splice hpu (by omega))
          refine ⟨vs', ?_, h4⟩
          simp only [Instr.fill, hp _ _ hf]
          rw [if_neg (by
            have := hv.1
            simp only [ne_eq, Bool.or_eq_true, decide_eq_true_eq]
            omega)]
          exact h3
        · cases h
      · cases h

def fieldSizes (Γ : TT) : List (Nat × TypeId) → Option (List (Nat × Nat))
  | [] => some []
  | (off, t) :: r => match look Γ t, fieldSizes Γ r with
    | some ti, some l => some ((off, ti.size) :: l)
    | _, _ => none

def evParts (s : AS) : List (Nat × Operand) → Option (List (Nat × AV))
  | [] => some []
  | (i, x) :: r => match s.ev x, evParts s r with
    | some v, some l => some ((i, v) :: l)
    | _, _ => none
theorem evParts_sound {C : Ctx} {G : Env} {s : AS} {a : Act} {w : World} (h : RelG C G s a w) : ∀ {ps : List (Nat × Operand)} {xs : List (Nat × AV)}, evParts s ps = some xs → xs.length = ps.length ∧
    ∀ (i : Nat) (p : Nat × AV) (q : Nat × Value), xs[i]? = some p → (ps.map fun (i, x) => (i, a.eval x))[i]? = some q → p.1 = q.1 ∧ Rep w G true p.2 q.2
  | [], xs, hx => by cases hx; exact ⟨rfl, fun i p q hp => by simp at hp⟩
  | (j, x) :: ps, xs, hx => by
    simp only [evParts] at hx
    split at hx
    · rename_i v l hv hl
      cases hx
      obtain ⟨h1, h2⟩ := evParts_sound h hl
      refine ⟨by simp [h1], fun i p q hp hq => ?_⟩
      match i, hp, hq with
      | 0, hp, hq =>
        simp at hp hq
        subst hp; subst hq
        exact ⟨rfl, h.ev hv⟩
      | n + 1, hp, hq => exact h2 n p q (by simpa using hp) (by simpa using hq)
    · cases hx

def buildA (Γ : TT) (s : AS) (t : TypeId) (ps : Array (Nat × Operand)) : VR :=
  match look Γ t with
  | some ti => match ti.kind with
    | .struct fs => match fieldSizes Γ fs, evParts s ps.toList with
      | some zs, some xs => match fillB zs ti.zero xs with
        | some cs => some (.agg cs, [])
        | none => none
      | _, _ => none
    | _ => none
  | none => none

theorem fieldSizes_sound {P : Program} {Γ : TT} (hΓ : Γok P Γ) (w : World) : ∀ {fs : List Field} {zs : List (Nat × Nat)}, fieldSizes Γ (fs.map fun f => (f.offset, f.type)) = some zs →
    (fs.mapM fun f => (do pure (f.offset, ← sizeOf f.type) : Sem (Nat × Nat))).run P w = .ok zs w
  | [], zs, h => by cases h; rfl
  | f :: fs, zs, h => by
    simp only [List.map_cons, fieldSizes] at h
    split at h
    · rename_i ti l hti hl
      cases h
      obtain ⟨i2, d2, z2, hi2, hd2, hsz2, _⟩ := (hΓ _ ti hti).ex
      have ih := fieldSizes_sound hΓ w hl
      have hs : (sizeOf f.type).run P w = .ok ti.size w := by simp [sizeOf, typeInfo, hi2, hsz2]
      rw [List.mapM_cons]
      simp only [Sem.run_bind, hs, Result.andThen_ok, Sem.run_pure, ih]
    · cases h


theorem pw_zero (w : World) (G : Env) (l : Bool) (z : Value) (h1 : ∀ v ∈ z.cells, v.oneCell' = true) : Pw w G l (z.cells.toList.map zAV) z.cells := by
  refine ⟨by simp, fun i c v hc hv => ?_, h1⟩
  simp only [List.getElem?_map, Option.map_eq_some_iff] at hc
  obtain ⟨u, hu, rfl⟩ := hc
  have : z.cells[i]? = some u := by simpa using hu
  rw [this] at hv
  cases hv
  exact zAV_rep _ _ _ _

theorem buildA_sound {P : Program} {Γ : TT} (hΓ : Γok P Γ) {C : Ctx} {G : Env} {s : AS} {a : Act} {w : World} (h : RelG C G s a w) {t : TypeId} {ps : Array (Nat × Operand)} {v : AV} {os : List Prop} (hb : buildA Γ s t ps = some (v, os)) :
    ∃ u, (Instr.build t (ps.map fun (i, x) => (i, a.eval x))).run P w = .ok u w ∧ Rep w G true v u := by
  unfold buildA at hb
  split at hb
  · rename_i ti hti
    obtain ⟨i, d, z, hi, hd, hsz, hby, hz, hzs, hz0, hz1, hag, hk⟩ := (hΓ t ti hti).ex
    split at hb
    · rename_i fs hfs
      rw [hfs] at hk
      obtain ⟨gs, rfl, rfl⟩ := kind_struct hk
      split at hb
      · rename_i zs xs hzs' hxs
        split at hb
        · rename_i cs hcs
          cases hb
          have hm := fieldSizes_sound hΓ w hzs'
          have hm2 : (gs.mapM fun f => (do pure (f.offset, ← sizeOf f.type) : Sem (Nat × Nat))).run P w = .ok zs.toArray w := by
            rw [Array.mapM_eq_mapM_toList]
            rw [map_eq_pure_bind, Sem.run_bind, hm]
            rfl
          obtain ⟨hl, hr⟩ := evParts_sound h hxs
          rw [hz0] at hcs
          obtain ⟨vs', h2, h3⟩ := fill_sound (w := w) (G := G) (l := true) (place := (zs.toArray[·]?)) (fun i p hp => by simpa using hp) hcs (us := ps.toList.map fun (i, x) => (i, a.eval x)) (by simp [hl]) hr (pw_zero w G true z hz1)
          refine ⟨.agg vs', ?_, .agg _ _ _ h3.1 h3.2.1 h3.2.2⟩
          have hz' : (zeroValue t).run P w = .ok z w := by simp [zeroValue, typeInfo, hi, hz]
          simp only [Instr.build, Sem.run_bind, hz', Result.andThen_ok, Sem.run_pure, run_underlying hd, hm2, Array.toList_map, h2]
        · cases hb
      · cases hb
    · cases hb
  · cases hb

/-! ### Cuts -/
def boundA : Option AV → Nat → Option Int
  | none, d => some d
  | some (.int _ i), _ => some i
  | _, _ => none
def sliceA (Γ : TT) (t : TypeId) (x : AV) (lo hi mx : Option AV) : VR :=
  match x with
  | .str s => match look Γ t with
    | some ti => match ti.kind, mx with
      | .str, none => match boundA lo 0, boundA hi s.size with
        | some l, some h => some (.str (s.extract l.toNat h.toNat), [0 ≤ l ∧ l ≤ h ∧ h ≤ s.size])
        | _, _ => none
      | _, _ => none
    | none => none
  | .sl nl n cells o => match look Γ t with
    | some ti => match ti.kind with
      | .slice e => match look Γ e with
        | some ei => match mx with
          | none => match boundA lo 0, boundA hi n with
            | some l, some h => some (.sl none (h.toNat - l.toNat) ((cells.drop (l.toNat * ei.size)).take ((h.toNat - l.toNat) * ei.size)) .no, [0 ≤ l ∧ l ≤ h ∧ h ≤ n])
            | _, _ => none
          | some (.int _ 0) => match lo, hi with
            | some (.int _ 0), some (.int _ 0) => some (.sl nl 0 [] .clip, [])
            | none, some (.int _ 0) => some (.sl nl 0 [] .clip, [])
            | _, _ => none
          | _ => none
        | none => none
      | _ => none
    | none => none
  | _ => none

theorem bound_run {P : Program} {w : World} {k : IntKind} {i : Int} {y : Nat} {code : BoundsCode} (h0 : 0 ≤ i) (h1 : i ≤ y) : (Instr.sliceBound (.int k i) y code).run P w = .ok i.toNat w := by
  simp [Instr.sliceBound, asIntOf, h0, h1]

inductive RepO (w : World) (G : Env) : Option AV → Option Value → Prop
  | none : RepO w G none none
  | some {v : AV} {u : Value} (h : Rep w G true v u) : RepO w G (some v) (some u)
theorem bounds_run {P : Program} {w : World} {G : Env} {lo hi : Option AV} {vlo vhi : Option Value} (hlo : RepO w G lo vlo) (hhi : RepO w G hi vhi) {l h : Int} {isS : Bool} {len cap : Nat} (el : boundA lo 0 = some l) (eh : boundA hi len = some h) (h0 : 0 ≤ l) (h1 : l ≤ h) (h2 : h ≤ cap) :
    (Instr.sliceBounds isS len cap vlo vhi none).run P w = .ok (l.toNat, h.toNat, cap) w := by
  have hh0 : 0 ≤ h := by omega
  have H : (∃ u, vhi = some u ∧ ∀ c, (Instr.sliceBound u cap c).run P w = .ok h.toNat w) ∨ (vhi = none ∧ h.toNat = len) := by
    cases hhi with
    | none =>
      simp only [boundA, Option.some.injEq] at eh
      subst eh
      exact .inr ⟨rfl, rfl⟩
    | some hv =>
      rename_i v u
      cases v <;> simp only [boundA] at eh <;> cases eh
      cases hv
      exact .inl ⟨_, rfl, fun c => bound_run hh0 h2⟩
  have L : (∃ u, vlo = some u ∧ ∀ c, (Instr.sliceBound u h.toNat c).run P w = .ok l.toNat w) ∨ (vlo = none ∧ l.toNat = 0) := by
    cases hlo with
    | none =>
      simp only [boundA, Option.some.injEq] at el
      subst el
      exact .inr ⟨rfl, rfl⟩
    | some hv =>
      rename_i v u
      cases v <;> simp only [boundA] at el <;> cases el
      cases hv
      exact .inl ⟨_, rfl, fun c => bound_run h0 (by omega)⟩
  rcases H with ⟨u, rfl, hu⟩ | ⟨rfl, hu⟩ <;> rcases L with ⟨v, rfl, hv⟩ | ⟨rfl, hv⟩
  · simp [Instr.sliceBounds, hu, hv]
  · simp [Instr.sliceBounds, hu, hv]
  · rw [hu] at hv ⊢
    simp [Instr.sliceBounds, hv]
  · rw [hu, hv]
    simp [Instr.sliceBounds]

theorem sliceA_sound {P : Program} {Γ : TT} (hΓ : Γok P Γ) {t : TypeId} {x v : AV} {lo hi mx : Option AV} {os : List Prop} (hs : sliceA Γ t x lo hi mx = some (v, os)) (ho : All os) {w : World} {G : Env} {vx : Value} {vlo vhi vmx : Option Value}
    (hx : Rep w G true x vx) (hlo : RepO w G lo vlo) (hhi : RepO w G hi vhi) (hmx : RepO w G mx vmx) : ∃ u, (Instr.sliceAt t vx vlo vhi vmx).run P w = .ok u w ∧ Rep w G true v u := by
  unfold sliceA at hs
  split at hs
  · rename_i s
    cases hx
    split at hs
    · rename_i ti hti
      obtain ⟨i, d, z, hi', hd, hsz, hby, hz, hzs, hz0, hz1, hag, hk⟩ := (hΓ t ti hti).ex
      split at hs
      · rename_i he
        rw [he] at hk
        obtain rfl := kind_str hk
        cases hmx
        split at hs
        · rename_i l h el eh
          cases hs
          simp only [All] at ho
          obtain ⟨h0, h1, h2⟩ := ho
          refine ⟨_, ?_, .str _ _⟩
          simp [Instr.sliceAt, run_underlying hd, Instr.slice, bounds_run (isS := false) hlo hhi el eh h0 h1 h2]
        · cases hs
      · cases hs
    · cases hs
  · rename_i nl n cells o
    cases hx with
    | sl _ _ _ _ _ A c vs hnl hpos hc hcell hrep hclip hown =>
      split at hs
      · rename_i ti hti
        obtain ⟨i, d, z, hi', hd, hsz, hby, hz, hzs, hz0, hz1, hag, hk⟩ := (hΓ t ti hti).ex
        split at hs
        · rename_i e he
          rw [he] at hk
          obtain rfl := kind_slice hk
          split at hs
          · rename_i ei hei
            obtain ⟨i2, d2, z2, hi2, hd2, hsz2, _⟩ := (hΓ _ ei hei).ex
            have hszr : (sizeOf e).run P w = .ok ei.size w := by simp [sizeOf, typeInfo, hi2, hsz2]
            split at hs
            · cases hmx
              split at hs
              · rename_i l h el eh
                cases hs
                simp only [All] at ho
                obtain ⟨h0, h1, h2⟩ := ho
                refine ⟨.slice (if c = l.toNat then A else A.map (·.add (l.toNat * ei.size))) (h.toNat - l.toNat) (c - l.toNat), ?_, ?_⟩
                · simp [Instr.sliceAt, run_underlying hd, Instr.slice, bounds_run (isS := true) (cap := c) hlo hhi el eh h0 h1 (by omega), hszr]
                · refine .sl _ _ _ _ _ _ _ (fun j => vs (l.toNat * ei.size + j)) (fun b hb => by cases hb) ?_ (by omega) ?_ ?_ (fun h => by cases h) (fun t h => by cases h)
                  · intro hp
                    rw [if_neg (by omega)]
                    obtain ⟨ad, rfl, hsp⟩ := hpos (by omega)
                    exact ⟨ad.add (l.toNat * ei.size), rfl, by rw [add_spot _ _ hsp]⟩
                  · intro j x hj
                    rw [List.getElem?_take] at hj
                    split at hj
                    · rename_i hlt
                      rw [List.getElem?_drop] at hj
                      obtain ⟨ad, rfl, hsp, hf, hw, h3⟩ := hcell _ x hj
                      have hne : h.toNat - l.toNat ≠ 0 := by
                        intro e0
                        rw [e0] at hlt
                        omega
                      rw [if_neg (by omega)]
                      refine ⟨ad.add (l.toNat * ei.size), rfl, by rw [add_spot _ _ hsp], ?_, ?_, h3⟩
                      · rw [add_spot _ _ hsp]
                        simpa [Nat.add_assoc] using hf
                      · rw [add_spot _ _ hsp]
                        simpa [Nat.add_assoc] using hw
                    · cases hj
                  · intro j x hj
                    rw [List.getElem?_take] at hj
                    split at hj
                    · rw [List.getElem?_drop] at hj
                      exact hrep _ x hj
                    · cases hj
              · cases hs
            · have hm0 : ∀ k, vmx = some (.int k 0) → (vlo = some (.int .i64 0) ∨ (∃ k', vlo = some (.int k' 0)) ∨ vlo = none) → (∃ k', vhi = some (.int k' 0)) →
                  ∃ u, (Instr.sliceAt t (.slice A n c) vlo vhi vmx).run P w = .ok u w ∧ Rep w G true (.sl nl 0 [] .clip) u := by
                intro k e1 e2 e3
                obtain ⟨k', rfl⟩ := e3
                subst e1
                refine ⟨.slice A 0 0, ?_, .sl _ _ _ _ _ _ _ vs hnl (fun h => by omega) (Nat.le_refl _) (fun j x h => by simp at h) (fun j x h => by simp at h) (fun _ => rfl) (fun t h => by cases h)⟩
                rcases e2 with rfl | ⟨k2, rfl⟩ | rfl <;> simp [Instr.sliceAt, run_underlying hd, Instr.slice, Instr.sliceBounds, Instr.sliceBound, asIntOf, hszr]
              split at hs
              · cases hs
                cases hmx with | some hm =>
                cases hlo with | some hl =>
                cases hhi with | some hh =>
                cases hm; cases hl; cases hh
                exact hm0 _ rfl (.inr (.inl ⟨_, rfl⟩)) ⟨_, rfl⟩
              · cases hs
                cases hmx with | some hm =>
                cases hlo
                cases hhi with | some hh =>
                cases hm; cases hh
                exact hm0 _ rfl (.inr (.inr rfl)) ⟨_, rfl⟩
              · cases hs
            · cases hs
          · cases hs
        · cases hs
      · cases hs
  · cases hs

end Go.AX
