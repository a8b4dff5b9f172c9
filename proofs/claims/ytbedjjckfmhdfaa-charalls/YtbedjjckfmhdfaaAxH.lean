import Derived.Test.YtbedjjckfmhdfaaAxG
set_option linter.unusedVariables false
set_option linter.unusedSimpArgs false
namespace Go.AX
open Go Go.RowKit

/-! ### Trees -/
def Own.tree : Own → Own
  | .own _ => .no
  | o => o
mutual
def tree : AV → Option AV
  | .int k n => some (.int k n)
  | .bool b => some (.bool b)
  | .str s => some (.str s)
  | .nilFn => some .nilFn
  | .nilp => some .nilp
  | .sl nl n cells o => some (.sl nl n cells o.tree)
  | .rop cells off => some (.rop cells off)
  | .agg cs => match treeL cs with
    | some ds => some (.agg ds)
    | none => none
  | .tup cs => match treeL cs with
    | some ds => some (.tup ds)
    | none => none
  | .fn f cs => match treeL cs with
    | some ds => some (.fn f ds)
    | none => none
  | .undef => none
  | .ptr _ _ => none
  | .row _ _ _ => none
def treeL : List AV → Option (List AV)
  | [] => some []
  | x :: xs => match tree x, treeL xs with
    | some y, some ys => some (y :: ys)
    | _, _ => none
end

theorem treeL_get : ∀ {xs ys : List AV}, treeL xs = some ys → ys.length = xs.length ∧ ∀ (i : Nat) (y : AV), ys[i]? = some y → ∃ x : AV, xs[i]? = some x ∧ tree x = some y
  | [], ys, h => by simp only [treeL] at h; cases h; exact ⟨rfl, fun i y h => by simp at h⟩
  | x :: xs, ys, h => by
    simp only [treeL] at h
    split at h
    · rename_i y' ys' h1 h2
      cases h
      obtain ⟨h3, h4⟩ := treeL_get h2
      refine ⟨by simp [h3], fun i y hy => ?_⟩
      match i, hy with
      | 0, hy =>
        simp at hy
        subst hy
        exact ⟨x, rfl, h1⟩
      | n + 1, hy => simpa using h4 n y (by simpa using hy)
    · cases h

theorem tree_real {x y : AV} (h : tree x = some y) (hr : x.real = true) : y.real = true := by
  cases x <;> simp only [tree] at h <;> first | (cases h; rfl) | (split at h <;> cases h <;> first | rfl | cases hr) | cases h
theorem tree_sound {w : World} {G : Env} {l : Bool} {x : AV} {v : Value} (h : Rep w G l x v) : ∀ {y : AV}, tree x = some y → Rep w G false y v := by
  have lists : ∀ (cs : List AV) (vs : Array Value) (ds : List AV), vs.size = cs.length → treeL cs = some ds → (∀ (i : Nat) (c : AV) (v : Value), cs[i]? = some c → vs[i]? = some v → ∀ {y : AV}, tree c = some y → Rep w G false y v) →
      vs.size = ds.length ∧ ∀ (i : Nat) (c : AV) (v : Value), ds[i]? = some c → vs[i]? = some v → Rep w G false c v := by
    intro cs vs ds hl hd ih
    obtain ⟨h1, h2⟩ := treeL_get hd
    refine ⟨by rw [h1]; exact hl, fun i c v hc hv => ?_⟩
    obtain ⟨x, hx, ht⟩ := h2 i c hc
    exact ih i x v hx hv ht
  induction h with
  | undef l v => intro y hy; simp [tree] at hy
  | int l k n => intro y hy; simp only [tree] at hy; cases hy; exact .int _ _ _
  | bool l b => intro y hy; simp only [tree] at hy; cases hy; exact .bool _ _
  | str l s => intro y hy; simp only [tree] at hy; cases hy; exact .str _ _
  | agg l cs vs hl h h1 ih =>
    intro y hy
    simp only [tree] at hy
    split at hy
    · rename_i ds hd
      cases hy
      obtain ⟨h2, h3⟩ := lists cs vs ds hl hd ih
      exact .agg _ _ _ h2 h3 h1
    · cases hy
  | tup l cs vs hl h ih =>
    intro y hy
    simp only [tree] at hy
    split at hy
    · rename_i ds hd
      cases hy
      obtain ⟨h2, h3⟩ := lists cs vs ds hl hd ih
      exact .tup _ _ _ h2 h3
    · cases hy
  | fn l f cs vs hl h ih =>
    intro y hy
    simp only [tree] at hy
    split at hy
    · rename_i ds hd
      cases hy
      obtain ⟨h2, h3⟩ := lists cs vs ds hl hd ih
      exact .fn _ _ _ _ h2 h3
    · cases hy
  | nilFn l => intro y hy; simp only [tree] at hy; cases hy; exact .nilFn _
  | sl l nl n cells o A c vs hnl hpos hc hcell hrep hclip hown ih =>
    intro y hy
    simp only [tree] at hy
    cases hy
    refine .sl _ _ _ _ _ _ _ vs hnl hpos hc hcell hrep (fun e => hclip ?_) (fun t e => ?_)
    · cases o <;> simp_all [Own.tree]
    · cases o <;> simp_all [Own.tree]
  | rop l cells off ad vs hcell hrep ih => intro y hy; simp only [tree] at hy; cases hy; exact .rop _ _ _ _ vs hcell hrep
  | nilp l => intro y hy; simp only [tree] at hy; cases hy; exact .nilp _
  | ptr id off g h => intro y hy; simp [tree] at hy
  | row id off n g c h hc => intro y hy; simp [tree] at hy

/-! ### A slice literal -/
def repL (l : List AV) : Nat → List AV
  | 0 => []
  | n + 1 => l ++ repL l n
theorem repL_length (l : List AV) (n : Nat) : (repL l n).length = n * l.length := by
  induction n with
  | zero => simp [repL]
  | succ n ih => simp [repL, ih, Nat.succ_mul]; omega
theorem repL_get (l : List AV) : ∀ (n k : Nat), k < n * l.length → (repL l n)[k]? = l[k % l.length]?
  | 0, k, h => by simp at h
  | n + 1, k, h => by
    simp only [repL]
    by_cases hk : k < l.length
    · rw [List.getElem?_append_left hk, Nat.mod_eq_of_lt hk]
    · rw [List.getElem?_append_right (by omega), repL_get l n (k - l.length) (by rw [Nat.succ_mul] at h; omega), ← Nat.mod_eq_sub_mod (by omega)]

def treeParts : List (Nat × AV) → Option (List (Nat × AV))
  | [] => some []
  | (i, v) :: r => match tree v, treeParts r with
    | some y, some ys => some ((i, y) :: ys)
    | _, _ => none
def placesN (sz : Nat) : Nat → Nat → List (Nat × Nat)
  | 0, _ => []
  | n + 1, i => (i * sz, sz) :: placesN sz n (i + 1)
theorem placesN_get (sz : Nat) : ∀ (n i k : Nat) (p : Nat × Nat), (placesN sz n i)[k]? = some p → p = ((i + k) * sz, sz)
  | 0, i, k, p, h => by simp [placesN] at h
  | n + 1, i, 0, p, h => by simp [placesN] at h; simp [← h]
  | n + 1, i, k + 1, p, h => by
    simp only [placesN, List.getElem?_cons_succ] at h
    have := placesN_get sz n (i + 1) k p h
    rw [this]
    congr 2
    omega

def litA (Γ : TT) (s : AS) (t : TypeId) (len : Nat) (ps : Array (Nat × Operand)) : VR :=
  match look Γ t with
  | some ti => match ti.kind with
    | .slice e => match look Γ e with
      | some ei => match Nat.ble (len * ei.size) 16777216, Nat.ble len 9223372036854775807, evParts s ps.toList with
        | true, true, some xs => match treeParts xs with
          | some ys => match fillB (placesN ei.size len 0) (repL ei.zero len) ys with
            | some cs => some (.sl (some false) len cs .clip, [])
            | none => none
          | none => none
        | _, _, _ => none
      | none => none
    | _ => none
  | none => none

theorem treeParts_get : ∀ {xs ys : List (Nat × AV)}, treeParts xs = some ys → ys.length = xs.length ∧ ∀ (i : Nat) (p : Nat × AV), ys[i]? = some p → ∃ q, xs[i]? = some q ∧ q.1 = p.1 ∧ tree q.2 = some p.2
  | [], ys, h => by simp only [treeParts] at h; cases h; exact ⟨rfl, fun i y h => by simp at h⟩
  | (j, x) :: xs, ys, h => by
    simp only [treeParts] at h
    split at h
    · rename_i y' ys' h1 h2
      cases h
      obtain ⟨h3, h4⟩ := treeParts_get h2
      refine ⟨by simp [h3], fun i y hy => ?_⟩
      match i, hy with
      | 0, hy =>
        simp at hy
        subst hy
        exact ⟨(j, x), rfl, rfl, h1⟩
      | n + 1, hy => simpa using h4 n y (by simpa using hy)
    · cases h

theorem litA_sound {P : Program} {Γ : TT} (hΓ : Γok P Γ) {C : Ctx} {G : Env} {s : AS} {a : Act} {w : World} (h : RelG C G s a w) {t : TypeId} {len : Nat} {ps : Array (Nat × Operand)} {v : AV} {os : List Prop} (hb : litA Γ s t len ps = some (v, os)) :
    VSound P C s a w (Instr.buildSlice t len (ps.map fun (i, x) => (i, a.eval x))) v := by
  unfold litA at hb
  split at hb
  · rename_i ti hti
    obtain ⟨i, d, z, hi, hd, hsz, hby, hz, hzs, hz0, hz1, hag, hk⟩ := (hΓ t ti hti).ex
    split at hb
    · rename_i e he
      rw [he] at hk
      obtain rfl := kind_slice hk
      split at hb
      · rename_i ei hei
        obtain ⟨i2, d2, z2, hi2, hd2, hsz2, hby2, hz2, hzs2, hz02, hz12, hag2, hk2⟩ := (hΓ _ ei hei).ex
        split at hb
        · rename_i xs hle hle2 hxs
          have hlen := Nat.le_of_ble_eq_true hle
          have hlen2 := Nat.le_of_ble_eq_true hle2
          split at hb
          · rename_i ys hys
            split at hb
            · rename_i cs hcs
              cases hb
              obtain ⟨hl, hr⟩ := evParts_sound h hxs
              obtain ⟨hl2, hr2⟩ := treeParts_get hys
              let zs : Array Value := (Array.range (len * ei.size)).map fun k => z2.cells[k % z2.cells.size]!
              have hzsz : zs.size = len * ei.size := by simp [zs]
              have hzl : ei.zero.length = ei.size := by rw [hz02]; simp [hzs2]
              have hpz : Pw w G false (repL ei.zero len) zs := by
                refine ⟨by rw [hzsz, repL_length, hzl], fun k c v hc hv => ?_, fun v hv => ?_⟩
                · have hk : k < len * ei.size := by
                    rw [← hzsz]
                    exact (Array.getElem?_eq_some_iff.1 hv).1
                  have hpos : 0 < ei.size := Nat.pos_of_ne_zero fun e => by rw [e] at hk; omega
                  rw [repL_get _ _ _ (by rw [hzl]; exact hk), hzl, hz02] at hc
                  have hmod : k % ei.size < z2.cells.size := by rw [hzs2]; exact Nat.mod_lt _ hpos
                  have hrk : (Array.range (len * ei.size))[k]? = some k := by simp [hk]
                  simp only [zs, Array.getElem?_map, hrk, Option.map_some, Option.some.injEq] at hv
                  rw [hzs2, getElem!_pos z2.cells _ hmod] at hv
                  subst hv
                  simp only [List.getElem?_map, Array.getElem?_toList, Array.getElem?_eq_getElem hmod, Option.map_some, Option.some.injEq] at hc
                  subst hc
                  exact zAV_rep _ _ _ _
                · obtain ⟨k, hk, rfl⟩ := Array.mem_map.1 hv
                  have hk' : k < len * ei.size := by simpa using hk
                  have hpos : 0 < ei.size := Nat.pos_of_ne_zero fun e => by rw [e] at hk'; omega
                  have hmod : k % z2.cells.size < z2.cells.size := by rw [hzs2]; exact Nat.mod_lt _ hpos
                  rw [getElem!_pos z2.cells _ hmod]
                  exact hz12 _ (Array.getElem_mem _)
              obtain ⟨vs', h2, h3⟩ := fill_sound (w := w) (G := G) (l := false) (place := fun i => some (i * ei.size, ei.size)) (fun i p hp => by rw [placesN_get _ _ _ _ _ hp]; simp) hcs (us := ps.toList.map fun (i, x) => (i, a.eval x)) (by simp [hl2, hl]) (fun k p q hp hq => by
                obtain ⟨p', h4, h5, h6⟩ := hr2 k p hp
                obtain ⟨h7, h8⟩ := hr k p' q h4 hq
                exact ⟨by rw [← h5]; exact h7, tree_sound h8 h6⟩) hpz
              have hrun : (Instr.buildSlice t len (ps.map fun (i, x) => (i, a.eval x))).run P w = .ok (.slice (some ⟨w.heap.size, 0, none⟩) len len) (w.alloc (.cells vs' e)) := by
                have hlim : ¬ (16777216 < len * ei.size) := by omega
                by_cases h0 : len * ei.size = 0
                · have hz0' : zs = #[] := Array.eq_empty_of_size_eq_zero (by rw [hzsz]; exact h0)
                  rw [hz0'] at h2
                  simp only [Instr.buildSlice, Sem.run_bind, run_underlying hd, Result.andThen_ok, sizeOf, typeInfo, Sem.run_pure]
                  simp [hi2, hsz2, hlim, h0]
                  have hr0 : Array.range 0 = #[] := Array.eq_empty_of_size_eq_zero (by simp)
                  simp [hr0, h2, newRow]
                · simp only [Instr.buildSlice, Sem.run_bind, run_underlying hd, Result.andThen_ok, sizeOf, typeInfo, Sem.run_pure]
                  simp [hi2, hsz2, hlim, h0, zeroValue, typeInfo, hz2]
                  simp only [zs] at h2
                  simp [h2, newRow]
              obtain ⟨h4, h5⟩ := h.grow (G' := { G with F := fun b o => G.F b o ∨ b = w.heap.size }) (w' := w.alloc (.cells vs' e)) ((Below.refl _ _).alloc (Nat.le_refl _) _) rfl rfl (fun _ _ h => .inl h) (fun b o hf => by
                rcases hf with hf | hf
                · exact .inl hf
                · exact .inr ⟨by omega, by simp; omega⟩)
              refine ⟨_, _, _, hrun, h4, ?_⟩
              obtain ⟨p1, p2, p3⟩ := h3.mono h5
              refine .sl _ _ _ _ _ _ _ (fun j => vs'.getD j undef) (fun b hb => by cases hb; rfl) (fun _ => ⟨_, rfl, rfl⟩) (Nat.le_refl _) (fun j x hx => ?_) (fun j x hx => ?_) (fun _ => rfl) (fun t h => by cases h)
              · have hlt : j < vs'.size := by rw [p1]; exact (List.getElem?_eq_some_iff.1 hx).1
                refine ⟨_, rfl, rfl, .inr rfl, ?_, ?_⟩
                · simp [hlt]
                · simp [hlt, p3 _ (Array.getElem_mem hlt)]
              · have hlt : j < vs'.size := by rw [p1]; exact (List.getElem?_eq_some_iff.1 hx).1
                simpa [hlt] using p2 j x vs'[j] hx (Array.getElem?_eq_getElem hlt)
            · cases hb
          · cases hb
        · cases hb
      · cases hb
    · cases hb
  · cases hb

end Go.AX
