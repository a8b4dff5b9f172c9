import Derived.Test.YtpffjbbolaehpaaP1
section
set_option linter.unusedVariables false
set_option linter.unusedSimpArgs false
namespace Go.AX
open Go Go.RowKit

/-! ### A slice literal -/
def repL (l : List AV) : Nat → List AV
  | 0 => []
  | n + 1 => l ++ repL l n
theorem repL_length (l : List AV) (n : Nat) : (repL l n).length = n * l.length := by
  induction n with
  | zero => simp [repL]
  | succ n ih => simp [repL, ih, Nat.succ_mul]; omega
theorem repL_get (l : List AV) : ∀ (n k : Nat), k < n * l.length → (repL l n)[k]? = l[k % l.length]?
  | 0, k, h => by simp at h
  | n + 1, k, h => by
    simp only [repL]
    by_cases hk : k < l.length
    · rw [List.getElem?_append_left hk, Nat.mod_eq_of_lt hk]
    · rw [List.getElem?_append_right (by omega), repL_get l n (k - l.length) (by rw [Nat.succ_mul] at h; omega), ← Nat.mod_eq_sub_mod (by omega)]

def treeParts : List (Nat × AV) → Option (List (Nat × AV))
  | [] => some []
  | (i, v) :: r => match tree v, treeParts r with
    | some y, some ys => some ((i, y) :: ys)
    | _, _ => none
def placesN (sz : Nat) : Nat → Nat → List (Nat × Nat)
  | 0, _ => []
  | n + 1, i => (i * sz, sz) :: placesN sz n (i + 1)
theorem placesN_get (sz : Nat) : ∀ (n i k : Nat) (p : Nat × Nat), (placesN sz n i)[k]? = some p → p = ((i + k) * sz, sz)
  | 0, i, k, p, h => by simp [placesN] at h
  | n + 1, i, 0, p, h => by simp [placesN] at h; simp [← h]
  | n + 1, i, k + 1, p, h => by
    simp only [placesN, List.getElem?_cons_succ] at h
    have := placesN_get sz n (i + 1) k p h
    rw [this]
    congr 2
    omega

def litA (Γ : TT) (s : AS) (t : TypeId) (len : Nat) (ps : Array (Nat × Operand)) : VR :=
  match look Γ t with
  | some ti => match ti.kind with
    | .slice e => match look Γ e with
      | some ei => match Nat.ble (len * ei.size) 16777216, Nat.ble len 9223372036854775807, evParts s ps.toList with
        | true, true, some xs => match treeParts xs with
          | some ys => match fillB (placesN ei.size len 0) (repL (ei.zero.map zn) len) ys with
            | some cs => some (.sl (some false) len cs .clip, [])
            | none => none
          | none => none
        | _, _, _ => none
      | none => none
    | _ => none
  | none => none

theorem treeParts_get : ∀ {xs ys : List (Nat × AV)}, treeParts xs = some ys → ys.length = xs.length ∧ ∀ (i : Nat) (p : Nat × AV), ys[i]? = some p → ∃ q, xs[i]? = some q ∧ q.1 = p.1 ∧ tree q.2 = some p.2
  | [], ys, h => by simp only [treeParts] at h; cases h; exact ⟨rfl, fun i y h => by simp at h⟩
  | (j, x) :: xs, ys, h => by
    simp only [treeParts] at h
    split at h
    · rename_i y' ys' h1 h2
      cases h
      obtain ⟨h3, h4⟩ := treeParts_get h2
      refine ⟨by simp [h3], fun i y hy => ?_⟩
      match i, hy with
      | 0, hy =>
        simp at hy
        subst hy
        exact ⟨(j, x), rfl, rfl, h1⟩
      | n + 1, hy => simpa using h4 n y (by simpa using hy)
    · cases h

theorem litA_sound {P : Program} {Γ : TT} (hΓ : Γok P Γ) {C : Ctx} {G : Env} {s : AS} {a : Act} {w : World} (h : RelG C G s a w) {t : TypeId} {len : Nat} {ps : Array (Nat × Operand)} {v : AV} {os : List Prop} (hb : litA Γ s t len ps = some (v, os)) :
    VSound P C s a w (Instr.buildSlice t len (ps.map fun (i, x) => (i, a.eval x))) v := by
  unfold litA at hb
  split at hb
  · rename_i ti hti
    obtain ⟨i, d, z, hi, hd, hsz, hby, hz, hzs, hz0, hz1, hag, hk⟩ := (hΓ t ti hti).ex
    split at hb
    · rename_i e he
      rw [he] at hk
      obtain rfl := kind_slice hk
      split at hb
      · rename_i ei hei
        obtain ⟨i2, d2, z2, hi2, hd2, hsz2, hby2, hz2, hzs2, hz02, hz12, hag2, hk2⟩ := (hΓ _ ei hei).ex
        split at hb
        · rename_i xs hle hle2 hxs
          have hlen := Nat.le_of_ble_eq_true hle
          have hlen2 := Nat.le_of_ble_eq_true hle2
          split at hb
          · rename_i ys hys
            split at hb
            · rename_i cs hcs
              cases hb
              obtain ⟨hl, hr⟩ := evParts_sound h hxs
              obtain ⟨hl2, hr2⟩ := treeParts_get hys
              let zs : Array Value := (Array.range (len * ei.size)).map fun k => z2.cells[k % z2.cells.size]!
              have hzsz : zs.size = len * ei.size := by simp [zs]
              have hzl : (ei.zero.map zn).length = ei.size := by rw [hz02]; simp [hzs2]
              have hpz : Pw w G false (repL (ei.zero.map zn) len) zs := by
                refine ⟨by rw [hzsz, repL_length, hzl], fun k c v hc hv => ?_, fun v hv => ?_⟩
                · have hk : k < len * ei.size := by
                    rw [← hzsz]
                    exact (Array.getElem?_eq_some_iff.1 hv).1
                  have hpos : 0 < ei.size := Nat.pos_of_ne_zero fun e => by rw [e] at hk; omega
                  rw [repL_get _ _ _ (by rw [hzl]; exact hk), hzl, hz02] at hc
                  have hmod : k % ei.size < z2.cells.size := by rw [hzs2]; exact Nat.mod_lt _ hpos
                  have hrk : (Array.range (len * ei.size))[k]? = some k := by simp [hk]
                  simp only [zs, Array.getElem?_map, hrk, Option.map_some, Option.some.injEq] at hv
                  rw [hzs2, getElem!_pos z2.cells _ hmod] at hv
                  subst hv
                  simp only [List.getElem?_map, Array.getElem?_toList, Array.getElem?_eq_getElem hmod, Option.map_some, Option.some.injEq] at hc
                  subst hc
                  exact zn_rep (zAV_rep _ _ _ _)
                · obtain ⟨k, hk, rfl⟩ := Array.mem_map.1 hv
                  have hk' : k < len * ei.size := by simpa using hk
                  have hpos : 0 < ei.size := Nat.pos_of_ne_zero fun e => by rw [e] at hk'; omega
                  have hmod : k % z2.cells.size < z2.cells.size := by rw [hzs2]; exact Nat.mod_lt _ hpos
                  rw [getElem!_pos z2.cells _ hmod]
                  exact hz12 _ (Array.getElem_mem _)
              obtain ⟨vs', h2, h3⟩ := fill_sound (w := w) (G := G) (l := false) (place := fun i => some (i * ei.size, ei.size)) (fun i p hp => by rw [placesN_get _ _ _ _ _ hp]; simp) hcs (us := ps.toList.map fun (i, x) => (i, a.eval x)) (by simp [hl2, hl]) (fun k p q hp hq => by
                obtain ⟨p', h4, h5, h6⟩ := hr2 k p hp
                obtain ⟨h7, h8⟩ := hr k p' q h4 hq
                exact ⟨by rw [← h5]; exact h7, tree_sound h8 h6⟩) hpz
              have hrun : (Instr.buildSlice t len (ps.map fun (i, x) => (i, a.eval x))).run P w = .ok (.slice (some ⟨w.heap.size, 0, none⟩) len len) (w.alloc (.cells vs' e)) := by
                have hlim : ¬ (16777216 < len * ei.size) := by omega
                by_cases h0 : len * ei.size = 0
                · have hz0' : zs = #[] := Array.eq_empty_of_size_eq_zero (by rw [hzsz]; exact h0)
                  rw [hz0'] at h2
                  simp only [Instr.buildSlice, Sem.run_bind, run_underlying hd, Result.andThen_ok, sizeOf, typeInfo, Sem.run_pure]
                  simp [hi2, hsz2, hlim, h0]
                  have hr0 : Array.range 0 = #[] := Array.eq_empty_of_size_eq_zero (by simp)
                  simp [hr0, h2, newRow]
                · simp only [Instr.buildSlice, Sem.run_bind, run_underlying hd, Result.andThen_ok, sizeOf, typeInfo, Sem.run_pure]
                  simp [hi2, hsz2, hlim, h0, zeroValue, typeInfo, hz2]
                  simp only [zs] at h2
                  simp [h2, newRow]
              obtain ⟨h4, h5⟩ := h.grow (G' := { G with F := fun b o => G.F b o ∨ b = w.heap.size }) (w' := w.alloc (.cells vs' e)) ((Below.refl _ _).alloc (Nat.le_refl _) _) rfl rfl (fun _ _ h => .inl h) (fun b o hf => by
                rcases hf with hf | hf
                · exact .inl hf
                · exact .inr ⟨by omega, by simp; omega⟩)
              refine ⟨_, _, _, hrun, h4, ?_⟩
              obtain ⟨p1, p2, p3⟩ := h3.mono h5
              refine .sl _ _ _ _ _ _ _ (fun j => vs'.getD j undef) (fun b hb => by cases hb; rfl) (fun _ => ⟨_, rfl, rfl⟩) (Nat.le_refl _) (fun j x hx => ?_) (fun j x hx => ?_) (fun _ => rfl) (fun t h => by cases h)
              · have hlt : j < vs'.size := by rw [p1]; exact (List.getElem?_eq_some_iff.1 hx).1
                refine ⟨_, rfl, rfl, .inr rfl, ?_, ?_⟩
                · simp [hlt]
                · simp [hlt, p3 _ (Array.getElem_mem hlt)]
              · have hlt : j < vs'.size := by rw [p1]; exact (List.getElem?_eq_some_iff.1 hx).1
                simpa [hlt] using p2 j x vs'[j] hx (Array.getElem?_eq_getElem hlt)
            · cases hb
          · cases hb
        · cases hb
      · cases hb
    · cases hb
  · cases hb

end Go.AX
end

section
set_option linter.unusedVariables false
set_option linter.unusedSimpArgs false
namespace Go.AX
open Go Go.RowKit

/-! ### append -/
/-- What is appended: how many elements, their cells (trees). -/
def srcA (s : AS) (sz : Nat) : AV → Option (Nat × List AV)
  | .sl _ m cells _ => some (m, cells)
  | .row id off m => match look s.heap id with
    | some (.rows _ cs) => match off with
      | 0 => some (m, cs)
      | _ => none
    | _ => none
  | .vec t n => match look s.tags t with
    | some ⟨_, _, z, some (_, cells)⟩ => match Nat.beq z sz with
      | true => some (n, cells)
      | false => none
    | _ => none
  | _ => none
theorem srcA_tag {s : AS} {d : Nat} {g : Tag} (hd : look s.tags d = none) {sz : Nat} {x : AV} {r : Nat × List AV} (h : srcA s sz x = some r) : srcA (s.tag d g) sz x = some r := by
  unfold srcA at h ⊢
  split at h
  · exact h
  · exact h
  · rename_i t n
    have e : look (s.tag d g).tags t = look s.tags t := by
      rcases Nat.decEq t d with hne | he
      · show look ((d, g) :: s.tags) t = _
        rw [look_cons, if_neg (fun h => hne (by omega))]
      · subst he
        rw [hd] at h
        cases h
    simp only [e]
    exact h
  · cases h
/-- The tag of the slice that is appended to. -/
def dstA (s : AS) (d : Nat) (n e sz : Nat) : Own → Option (AS × Nat × List Prop)
  | .own t => match look s.tags t with
    | some g => match Nat.beq g.e e, Nat.beq g.sz sz, g.cs with
      | true, true, none => some (s, t, [g.n = n])
      | _, _, _ => none
    | none => none
  | .clip => match look s.tags d with
    | none => some (s.tag d ⟨n, e, sz, none⟩, d, [])
    | some _ => none
  | _ => none
def appA (Γ : TT) (s : AS) (d : Nat) (t xT : TypeId) (v x : AV) : SR :=
  match look Γ t, look Γ xT with
  | some ti, some xi => match ti.kind, xi.kind with
    | .slice e, .slice _ => match look Γ e with
      | some ei => match v, srcA s ei.size x with
        | .sl _ n cells o, some (m, news) => match dstA s d n e ei.size o, ei.size, ei.bytes with
          | some (s1, t, os), sz + 1, by_ + 1 => some (s1.tag t ⟨n + m, e, sz + 1, none⟩, .sl none (n + m) (cells ++ news) (.own t), os ++ [cells.length = n * (sz + 1) ∧ news.length = m * (sz + 1) ∧ (n + m) * (by_ + 1) ≤ 140737488355328])
          | _, _, _ => none
        | .vec t n, some (m, news) => match look s.tags t, ei.size, ei.bytes with
          | some ⟨n', e', sz', some (b, cells)⟩, sz + 1, by_ + 1 => match Nat.beq e' e, Nat.beq sz' (sz + 1) with
            | true, true => some (s.tag t ⟨n + m, e, sz + 1, some (b, cells ++ news)⟩, .vec t (n + m), [n' = n ∧ news.length = m * (sz + 1) ∧ (n + m) * (by_ + 1) ≤ 140737488355328])
            | _, _ => none
          | _, _, _ => none
        | _, _ => none
      | none => none
    | _, _ => none
  | _, _ => none

/-- What is appended lies in memory. -/
theorem srcA_sound {P : Program} {C : Ctx} {G : Env} {s : AS} {a : Act} {w : World} (h : RelG C G s a w) {x : AV} {vx : Value} (hx : Rep w G true x vx) {m : Nat} {news : List AV} {sz : Nat} (h0 : 0 < sz) (hs : srcA s sz x = some (m, news)) (hl : news.length = m * sz) :
    ∃ us : List Value, us.length = news.length ∧ Yields P w sz m vx us ∧ (∀ (i : Nat) (c : AV) (v : Value), news[i]? = some c → us[i]? = some v → Rep w G false c v) ∧ ∀ v ∈ us, v.oneCell' = true := by
  unfold srcA at hs
  split at hs
  · cases hs
    cases hx with
    | sl _ nl _ cells o A c vs hnl hpos hc hcell hrep hclip hown =>
      refine ⟨(List.range news.length).map vs, by simp, yields_slice _ _ _ _ _ (by simp [hl]) (fun hA => ?_) (fun j u hj => ?_), fun i x v hx hv => ?_, fun v hv => ?_⟩
      · rcases Nat.eq_zero_or_pos m with h0 | h0
        · exact h0
        · obtain ⟨ad, e, _⟩ := hpos h0
          rw [hA] at e
          cases e
      · simp only [List.getElem?_map, Option.map_eq_some_iff] at hj
        obtain ⟨k, hk, rfl⟩ := hj
        have hlt : j < news.length := by
          rcases Nat.lt_or_ge j news.length with h | h
          · exact h
          · rw [List.getElem?_eq_none (by simpa using h)] at hk; cases hk
        rw [List.getElem?_range hlt] at hk
        cases hk
        obtain ⟨ad, e, hsp, _, hw, _⟩ := hcell j _ (List.getElem?_eq_getElem hlt)
        exact ⟨ad, e, by rw [add_spot _ _ hsp]; exact hw⟩
      · have hlt := (List.getElem?_eq_some_iff.1 hx).1
        simp only [List.getElem?_map, List.getElem?_range hlt, Option.map_some, Option.some.injEq] at hv
        subst hv
        exact hrep i x hx
      · obtain ⟨k, hk, rfl⟩ := List.mem_map.1 hv
        have hlt : k < news.length := by simpa using hk
        obtain ⟨ad, e, hsp, _, hw, h1⟩ := hcell k _ (List.getElem?_eq_getElem hlt)
        exact h1
  · split at hs
    · rename_i wr cs hb
      split at hs
      · cases hs
        cases hx with
        | row _ _ _ g c hg hc =>
          obtain ⟨g', hg', hbase, ⟨vs, e, hh, hvs, hr, h1, _⟩, _⟩ := h.blocks _ _ hb
          rw [hg] at hg'
          cases hg'
          refine ⟨vs.toList, by simpa using hvs, yields_slice _ _ _ _ _ (by simp [hvs, hl]) (fun hA => by cases hA) (fun j u hj => ⟨_, rfl, ?_⟩), fun i x v hx hv => hr i x v hx (by simpa using hv), fun v hv => h1 v (Array.mem_toList_iff.1 hv)⟩
          rw [add_plain]
          simp [World.cell?, hh]
          simpa using hj
      · cases hs
    · cases hs
  · split at hs
    · rename_i t n _ _ _ z b cells htag
      split at hs
      · rename_i hz
        cases hs
        have ez : z = sz := Nat.eq_of_beq_eq_true hz
        obtain ⟨r, hr, hok⟩ := h.tags _ _ htag
        obtain ⟨hro, hclen, hcrep, hcF⟩ := hok.hcs b news rfl
        have hx1 := hok.own hro
        have hx2 := hok.one hro
        have hrs : r.sz = sz := by rw [hok.hsz]; exact ez
        have hrl : r.xs.length = r.n * sz := by rw [hx1.1, hrs]
        have hrn : r.n = m := Nat.eq_of_mul_eq_mul_right h0 (by omega)
        cases hx with
        | vec _ _ A k c r' hr' hle hvv =>
          rw [hr] at hr'
          cases hr'
          have hrv := hvv hrn
          have hk : k = m := by
            rcases hx1.2 with ⟨e1, e2⟩ | ⟨g, cap, cur, e1, _⟩
            · rw [hrv] at e1; cases e1; omega
            · rw [hrv, hrn] at e1; cases e1; rfl
          subst hk
          refine ⟨r.xs, hclen.symm, yields_slice _ _ _ _ _ (by rw [hrl, hrn]) (fun hA => ?_) (fun j u hj => ?_), hcrep, hx2⟩
          · rcases hx1.2 with ⟨e1, e2⟩ | ⟨g, cap, cur, e1, _⟩
            · omega
            · rw [hrv] at e1; cases e1; cases hA
          · rcases hx1.2 with ⟨e1, e2⟩ | ⟨g, cap, cur, e1, _⟩
            · exfalso
              have hlt := (List.getElem?_eq_some_iff.1 hj).1
              rw [hrl, e2] at hlt
              simp at hlt
            · have hgb : r.v.ownBlock = some g := by rw [e1]; rfl
              have hc := hx1.cells hgb j u hj
              rw [hrv] at e1
              cases e1
              exact ⟨_, rfl, hc⟩
      · cases hs
    · cases hs
  · cases hs

/-- An owned slice, as a value. -/
theorem own_rep {C : Ctx} {G : Env} {s : AS} {a : Act} {w : World} (h : RelG C G s a w) {t : Nat} {r : TagRec} (hr : G.τ t = some r) (hown : w.ownsRow 0 r.e r.sz r.v r.n r.xs) (h1 : ∀ u ∈ r.xs, u.oneCell' = true)
    (hF : ∀ g, r.v.ownBlock = some g → ∀ o, o < r.n * r.sz → G.F g o) {cells : List AV} (hl : cells.length = r.xs.length) (hc : ∀ (i : Nat) (c : AV) (v : Value), cells[i]? = some c → r.xs[i]? = some v → Rep w G false c v) (hsz : 0 < r.sz) : Rep w G true (.sl none r.n cells (.own t)) r.v := by
  obtain ⟨A, c, hv⟩ : ∃ A c, r.v = .slice A r.n c := by
    rcases hown.2 with ⟨e, e2⟩ | ⟨g, cap, cur, e, _⟩
    · exact ⟨none, 0, by rw [e, e2]⟩
    · exact ⟨_, _, e⟩
  have hnc : r.n ≤ c := by
    rcases hown.2 with ⟨e, e2⟩ | ⟨g, cap, cur, e, _, _, h2, _⟩
    · omega
    · rw [hv] at e
      cases e
      exact h2
  rw [hv]
  refine .sl _ _ _ _ _ _ _ (fun j => r.xs.getD j undef) (fun b hb => by cases hb) (fun hp => ?_) hnc (fun j x hx => ?_) (fun j x hx => ?_) (fun e => by cases e) (fun t' ht => ?_)
  · rcases hown.2 with ⟨e, e2⟩ | ⟨g, cap, cur, e, _⟩
    · omega
    · rw [hv] at e
      cases e
      exact ⟨_, rfl, rfl⟩
  · have hlt : j < r.xs.length := by rw [← hl]; exact (List.getElem?_eq_some_iff.1 hx).1
    rcases hown.2 with ⟨e, e2⟩ | ⟨g, cap, cur, e, _⟩
    · have := hown.1
      rw [e2] at this
      omega
    · have hb : r.v.ownBlock = some g := by rw [e]; rfl
      have hcell := hown.cells hb j r.xs[j] (List.getElem?_eq_getElem hlt)
      rw [add_plain] at hcell
      rw [hv] at e
      cases e
      refine ⟨_, rfl, rfl, ?_, ?_, ?_⟩
      · simpa using hF g hb j (by rw [← hown.1]; exact hlt)
      · simpa [List.getD_eq_getElem?_getD, List.getElem?_eq_getElem hlt] using hcell
      · simpa [List.getD_eq_getElem?_getD, List.getElem?_eq_getElem hlt] using h1 _ (List.getElem_mem hlt)
  · have hlt : j < r.xs.length := by rw [← hl]; exact (List.getElem?_eq_some_iff.1 hx).1
    simpa [List.getD_eq_getElem?_getD, List.getElem?_eq_getElem hlt] using hc j x _ hx (List.getElem?_eq_getElem hlt)
  · cases ht
    exact ⟨rfl, r, hr, Nat.le_refl _, fun _ => hv⟩

/-- The entry of a tag, laid anew as it stands. -/
theorem RelG.sameTag {C : Ctx} {G : Env} {s : AS} {a : Act} {w : World} (h : RelG C G s a w) {t : Nat} {g : Tag} (ht : look s.tags t = some g) : RelG C G (s.tag t g) a w := by
  have e : ∀ u, look (s.tag t g).tags u = look s.tags u := fun u => by
    simp only [AS.tag, look_cons]
    split
    · rename_i e; subst e; exact ht.symm
    · rfl
  exact ⟨h.defers, h.size, h.slots, ⟨h.mem.keep, h.mem.le, h.mem.fdom, h.mem.fold, h.mem.blocks, h.mem.noblock, h.mem.inj, fun u n hu => h.tags u n (by rw [← e]; exact hu), fun u hu => h.notag u (by rw [← e]; exact hu)⟩⟩

theorem app_core {P : Program} {C : Ctx} {G : Env} {s : AS} {a : Act} {w : World} (h : RelG C G s a w) {t xT e ty : TypeId} {i : TypeInfo} {z : Value} {e' : TypeId} (hd : P.underlying t = some (.slice e)) (hxd : P.underlying xT = some (.slice e')) (hi : P.info? e = some i) (hz : i.zero = some z) (hzs : z.cells.size = i.size)
    (hsz : 0 < i.size) (hby : 0 < i.bytes) {tg n m : Nat} (ht : look s.tags tg = some ⟨n, e, i.size, none⟩) {nl : Option Bool} {cells news : List AV} {v vx : Value} (hv : Rep w G true (.sl nl n cells .no) v) (hvt : ∃ r, G.τ tg = some r ∧ (r.n = n → r.v = v))
    (hcl : cells.length = n * i.size) (hnl : news.length = m * i.size) (hb : (n + m) * i.bytes ≤ 140737488355328) {us : List Value} (hul : us.length = news.length) (hy : Yields P w i.size m vx us) (hur : ∀ (i : Nat) (c : AV) (v : Value), news[i]? = some c → us[i]? = some v → Rep w G false c v) (hu1 : ∀ v ∈ us, v.oneCell' = true) :
    VSound P C (s.tag tg ⟨n + m, e, i.size, none⟩) a w (Builtin.append_ #[t, xT] ty #[v, vx]) (.sl none (n + m) (cells ++ news) (.own tg)) := by
  obtain ⟨r, hr, hok⟩ := h.tags tg _ ht
  have hrn : r.n = n := hok.hn
  have hre : r.e = e := hok.he
  have hrs : r.sz = i.size := hok.hsz
  obtain ⟨r', hr', hvv⟩ := hvt
  rw [hr] at hr'
  cases hr'
  have hrv := hvv hrn
  have hnm : n + m ≤ 140737488355328 := Nat.le_trans (Nat.le_mul_of_pos_right _ hby) hb
  have hmax : n + m ≤ maxLen := by unfold maxLen; omega
  cases hv with
  | sl _ _ _ _ _ A c vs hnl' hpos hc hcell hrep _ _ =>
  -- the elder cells
  let olds : List Value := (List.range cells.length).map vs
  have holdl : olds.length = n * i.size := by simp [olds, hcl]
  have hog : ∀ j u, olds[j]? = some u → ∃ x, cells[j]? = some x ∧ u = vs j := by
    intro j u hj
    simp only [olds, List.getElem?_map, Option.map_eq_some_iff] at hj
    obtain ⟨k, hk, rfl⟩ := hj
    have hlt : j < cells.length := by
      rcases Nat.lt_or_ge j cells.length with h | h
      · exact h
      · rw [List.getElem?_eq_none (by simpa using h)] at hk; cases hk
    rw [List.getElem?_range hlt] at hk
    cases hk
    exact ⟨_, List.getElem?_eq_getElem hlt, rfl⟩
  have hyo : Yields P w i.size n (.slice A n c) olds := by
    refine yields_slice _ _ _ _ _ holdl (fun hA => ?_) (fun j u hj => ?_)
    · rcases Nat.eq_zero_or_pos n with h0 | h0
      · exact h0
      · obtain ⟨ad, e, _⟩ := hpos h0
        rw [hA] at e
        cases e
    · obtain ⟨x, hx, rfl⟩ := hog j u hj
      obtain ⟨ad, e, hsp, _, hw, _⟩ := hcell j x hx
      exact ⟨ad, e, by rw [add_spot _ _ hsp]; exact hw⟩
  have ho1 : ∀ u ∈ olds, u.oneCell' = true := fun u hu => by
    obtain ⟨j, hj⟩ := List.mem_iff_getElem?.1 hu
    obtain ⟨x, hx, rfl⟩ := hog j u hj
    obtain ⟨ad, e, hsp, _, hw, h1⟩ := hcell j x hx
    exact h1
  have holdr : ∀ (i : Nat) (c : AV) (v : Value), cells[i]? = some c → olds[i]? = some v → Rep w G false c v := fun j x u hx hj => by
    obtain ⟨x', hx', rfl⟩ := hog j u hj
    exact hrep j x hx
  have hboth : ∀ (xs : List Value), xs.length = n * i.size → (∀ (j : Nat) (c : AV) (v : Value), cells[j]? = some c → xs[j]? = some v → Rep w G false c v) → ∀ (j : Nat) (c : AV) (v : Value), (cells ++ news)[j]? = some c → (xs ++ us)[j]? = some v → Rep w G false c v := by
    intro xs hxl hxr j x u hx hj
    by_cases hlt : j < cells.length
    · rw [List.getElem?_append_left hlt] at hx
      rw [List.getElem?_append_left (by omega)] at hj
      exact hxr j x u hx hj
    · rw [List.getElem?_append_right (by omega)] at hx
      rw [List.getElem?_append_right (by omega)] at hj
      have : j - cells.length = j - xs.length := by omega
      rw [this] at hx
      exact hur _ x u hx hj
  by_cases hm : m = 0
  · subst hm
    have hun : us = [] := List.eq_nil_of_length_eq_zero (by rw [hul, hnl]; simp)
    have hnn : news = [] := List.eq_nil_of_length_eq_zero (by rw [hnl]; simp)
    subst hun; subst hnn
    refine ⟨_, w, G, app_none (P := P) hd hxd (.inl ⟨_, rfl⟩) hi A n c vx hy hc, h.sameTag ht, ?_⟩
    rw [List.append_nil]
    exact .sl _ _ _ _ _ _ _ vs (fun b hb => by cases hb) hpos hc hcell hrep (fun e => by cases e) (fun t' ht' => by cases ht'; exact ⟨rfl, r, hr, by omega, fun _ => hrv⟩)
  · -- it lies in a new block
    have newCase : c < n + m → VSound P C (s.tag tg ⟨n + m, e, i.size, none⟩) a w (Builtin.append_ #[t, xT] ty #[.slice A n c, vx]) (.sl none (n + m) (cells ++ news) (.own tg)) := by
      intro hgrow
      have hrun := app_grow (P := P) (ty := ty) hd hxd (.inl ⟨_, rfl⟩) hi hz A n c olds hyo vx m us hy hgrow (growslice_fits hgrow hb) (by omega)
      have hge := grownCap_ge w (n + m) c e
      have hcm : grownCap w (n + m) c e ≤ maxLen := grownCap_le_maxLen w (n + m) c e hmax
      let r' : TagRec := ⟨true, .slice (some ⟨w.heap.size, 0, none⟩) (n + m) (grownCap w (n + m) c e), n + m, e, i.size, olds ++ us⟩
      have hlen : (olds ++ us).length = (n + m) * i.size := by rw [List.length_append, holdl, hul, hnl, Nat.add_mul]
      have hown' : (w.drew.alloc (.cells (olds.toArray ++ us.toArray ++ Builtin.zeroCells z.cells (grownCap w (n + m) c e - (n + m))) e)).ownsRow 0 r'.e r'.sz r'.v r'.n r'.xs := by
        refine ⟨hlen, .inr ⟨w.heap.size, _, _, rfl, Nat.zero_le _, heap_alloc_new w.drew _, hge, hcm, ?_, ?_⟩⟩
        · simp only [Array.size_append, List.size_toArray, size_zeroCells, hzs, holdl, hul, hnl, ← Nat.add_mul]
          congr 1
          omega
        · show _ = olds ++ us
          simp only [Array.toList_append, List.append_assoc]
          rw [← List.append_assoc]
          have : (n + m) * i.size = (olds ++ us).length := hlen.symm
          show List.take ((n + m) * i.size) _ = _
          rw [this]
          exact List.take_left
      have hone : ∀ u ∈ olds ++ us, u.oneCell' = true := fun u hu => by
        rcases List.mem_append.1 hu with hu | hu
        · exact ho1 u hu
        · exact hu1 u hu
      obtain ⟨h1, hle⟩ := h.setTagNew (r' := r') (w' := w.drew.alloc (.cells (olds.toArray ++ us.toArray ++ Builtin.zeroCells z.cells (grownCap w (n + m) c e - (n + m))) e)) ht hr rfl (by show r.n < n + m; omega) ⟨rfl, rfl, rfl, by simp, fun k hk => heap_alloc_old w.drew _ hk⟩ (by simp) hown' hone rfl rfl rfl rfl true (m' := ⟨n + m, e, i.size, none⟩) (fun hh => by cases hh) (fun _ b cs hc => by cases hc)
      refine ⟨_, _, _, hrun, h1, ?_⟩
      refine own_rep h1 (t := tg) (r := r') (by simp [Env.upT, Env.setT]) hown' hone (fun g hg o ho => .inr ⟨rfl, by simpa [r', Value.ownBlock] using hg.symm, ho⟩) (by show (cells ++ news).length = (olds ++ us).length; rw [hlen, List.length_append, hcl, hnl, Nat.add_mul]) (fun j x u hx hj => (hboth olds holdl holdr j x u hx hj).mono hle) hsz
    cases hro : r.o with
    | false =>
      obtain ⟨_, A', e1, _⟩ := hok.clip hro
      rw [hrv, hrn] at e1
      cases e1
      exact newCase (by omega)
    | true =>
      have hx1 := hok.own hro
      have hx2 := hok.one hro
      rcases hx1.2 with ⟨e1, e2⟩ | ⟨g, cap, cur, e1, hbg, hgc, h3, h4, h5, h6⟩
      · rw [hrv] at e1
        cases e1
        exact newCase (by omega)
      · rw [hrv, hrn] at e1
        cases e1
        by_cases hroom : n + m ≤ c
        · rw [hrn, hrs] at h6
          rw [hrs] at h5
          have hxl : r.xs.length = n * i.size := by rw [hx1.1, hrn, hrs]
          have hfit : n * i.size + us.length ≤ cur.size := by rw [hul, hnl, h5, ← Nat.add_mul]; exact Nat.mul_le_mul_right _ hroom
          rw [hre] at hgc
          have hrun := app_room (P := P) (ty := ty) hd hxd (.inl ⟨_, rfl⟩) hi g n c cur hgc vx m us hy (by rw [hul, hnl]) hu1 hroom hfit
          let r' : TagRec := ⟨true, .slice (some ⟨g, 0, none⟩) (n + m) c, n + m, e, i.size, r.xs ++ us⟩
          obtain ⟨s1, s2, s3, s4, s5⟩ := setRow_le (w := w) (g := g) (cur.toList.take (n * i.size) ++ us ++ cur.toList.drop (n * i.size + us.length)).toArray
          have hlen : (r.xs ++ us).length = (n + m) * i.size := by rw [List.length_append, hxl, hul, hnl, Nat.add_mul]
          have hown' : (w.setRow g (cur.toList.take (n * i.size) ++ us ++ cur.toList.drop (n * i.size + us.length)).toArray).ownsRow 0 r'.e r'.sz r'.v r'.n r'.xs := by
            refine ⟨hlen, .inr ⟨g, c, _, rfl, Nat.zero_le _, setRow_heap w g cur _ e _ hgc, hroom, h4, ?_, ?_⟩⟩
            · simp only [List.size_toArray, List.length_append, List.length_take, List.length_drop, Array.length_toList]
              show _ = c * i.size
              omega
            · show List.take ((n + m) * i.size) _ = r.xs ++ us
              rw [h6]
              rw [← hlen]
              exact List.take_left
          have hone : ∀ u ∈ r.xs ++ us, u.oneCell' = true := fun u hu => by
            rcases List.mem_append.1 hu with hu | hu
            · exact hx2 u hu
            · exact hu1 u hu
          have hgb : r.v.ownBlock = some g := by rw [hrv]; rfl
          obtain ⟨h1, hle⟩ := h.setTagRoom (r' := r') ht hr hro rfl (by show r.n ≤ n + m; omega) (by intro e; exfalso; have : r.n = n + m := e; omega) hgb s3 s4 s5 s2 s1 hown' hone rfl hrs.symm (fun _ => ⟨us, rfl⟩) rfl rfl rfl true (m' := ⟨n + m, e, i.size, none⟩) (fun hh => by cases hh) (fun _ b cs hc => by cases hc)
          refine ⟨_, _, _, hrun, h1, ?_⟩
          refine own_rep h1 (t := tg) (r := r') (by simp [Env.upT, Env.setT]) hown' hone (fun g' hg' o ho => .inr ⟨rfl, by simpa [r', Value.ownBlock] using hg'.symm, ho⟩) (by show (cells ++ news).length = (r.xs ++ us).length; rw [hlen, List.length_append, hcl, hnl, Nat.add_mul]) (fun j x u hx hj => (hboth r.xs hxl (fun k x' u' hx' hk' => ?_) j x u hx hj).mono hle) hsz
          -- the row's cells are what the slice reads
          have hkl : k < r.xs.length := (List.getElem?_eq_some_iff.1 hk').1
          have c1 := hx1.cells hgb k u' hk'
          obtain ⟨ad, e9, hsp, _, hw, _⟩ := hcell k x' hx'
          cases e9
          rw [add_plain] at c1
          simp only [Nat.zero_add] at hw
          rw [c1] at hw
          cases hw
          exact hrep k x' hx'
        · exact newCase (by omega)


/-- A slice whose elements may be written, or were such, is appended to. -/
theorem appv_core {P : Program} {C : Ctx} {G : Env} {s : AS} {a : Act} {w : World} (h : RelG C G s a w) {t xT e ty : TypeId} {i : TypeInfo} {z : Value} {e' : TypeId} (hd : P.underlying t = some (.slice e)) (hxd : P.underlying xT = some (.slice e')) (hi : P.info? e = some i) (hz : i.zero = some z) (hzs : z.cells.size = i.size)
    (hby : 0 < i.bytes) {tg n m : Nat} {b : Bool} {cells news : List AV} (ht : look s.tags tg = some ⟨n, e, i.size, some (b, cells)⟩) {v vx : Value} (hv : Rep w G true (.vec tg n) v)
    (hnl : news.length = m * i.size) (hb : (n + m) * i.bytes ≤ 140737488355328) {us : List Value} (hul : us.length = news.length) (hy : Yields P w i.size m vx us) (hur : ∀ (i : Nat) (c : AV) (v : Value), news[i]? = some c → us[i]? = some v → Rep w G false c v) (hu1 : ∀ v ∈ us, v.oneCell' = true) :
    VSound P C (s.tag tg ⟨n + m, e, i.size, some (b, cells ++ news)⟩) a w (Builtin.append_ #[t, xT] ty #[v, vx]) (.vec tg (n + m)) := by
  obtain ⟨r, hr, hok⟩ := h.tags tg _ ht
  have hrn : r.n = n := hok.hn
  have hre : r.e = e := hok.he
  have hrs : r.sz = i.size := hok.hsz
  obtain ⟨hro, hclen, hcrep, hcF⟩ := hok.hcs b cells rfl
  have hx1 := hok.own hro
  have hx2 := hok.one hro
  have hnm : n + m ≤ 140737488355328 := Nat.le_trans (Nat.le_mul_of_pos_right _ hby) hb
  have hmax : n + m ≤ maxLen := by unfold maxLen; omega
  have hxl : r.xs.length = n * i.size := by rw [hx1.1, hrn, hrs]
  cases hv with
  | vec _ _ A k c r' hr' hle hvv =>
  rw [hr] at hr'
  cases hr'
  have hrv := hvv hrn
  have hk : k = n := by
    rcases hx1.2 with ⟨e1, e2⟩ | ⟨g, cap, cur, e1, _⟩
    · rw [hrv] at e1; cases e1; omega
    · rw [hrv, hrn] at e1; cases e1; rfl
  subst hk
  have hkc : k ≤ c := by
    rcases hx1.2 with ⟨e1, e2⟩ | ⟨g, cap, cur, e1, _, _, h3, _⟩
    · rw [hrv] at e1; cases e1; exact Nat.le_refl _
    · rw [hrv, hrn] at e1; cases e1; omega
  have hyo : Yields P w i.size k (.slice A k c) r.xs := by
    refine yields_slice _ _ _ _ _ hxl (fun hA => ?_) (fun j u hj => ?_)
    · rcases hx1.2 with ⟨e1, e2⟩ | ⟨g, cap, cur, e1, _⟩
      · omega
      · rw [hrv] at e1; cases e1; cases hA
    · rcases hx1.2 with ⟨e1, e2⟩ | ⟨g, cap, cur, e1, _⟩
      · exfalso
        have hlt := (List.getElem?_eq_some_iff.1 hj).1
        rw [hxl, show k = 0 by omega] at hlt
        simp at hlt
      · have hgb : r.v.ownBlock = some g := by rw [e1]; rfl
        have hc := hx1.cells hgb j u hj
        rw [hrv] at e1
        cases e1
        exact ⟨_, rfl, hc⟩
  have hboth : ∀ (w' : World) (G' : Env), Env.Le w G w' G' → ∀ (j : Nat) (c : AV) (v : Value), (cells ++ news)[j]? = some c → (r.xs ++ us)[j]? = some v → Rep w' G' false c v := by
    intro w' G' hle' j x u hx hj
    by_cases hlt : j < cells.length
    · rw [List.getElem?_append_left hlt] at hx
      rw [List.getElem?_append_left (by omega)] at hj
      exact (hcrep j x u hx hj).mono hle'
    · rw [List.getElem?_append_right (by omega)] at hx
      rw [List.getElem?_append_right (by omega)] at hj
      have : j - cells.length = j - r.xs.length := by omega
      rw [this] at hx
      exact (hur _ x u hx hj).mono hle'
  by_cases hm : m = 0
  · subst hm
    have hun : us = [] := List.eq_nil_of_length_eq_zero (by rw [hul, hnl]; simp)
    have hnn : news = [] := List.eq_nil_of_length_eq_zero (by rw [hnl]; simp)
    subst hun; subst hnn
    refine ⟨_, w, G, app_none (P := P) hd hxd (.inl ⟨_, rfl⟩) hi A k c vx hy hkc, ?_, .vec _ _ _ _ _ r hr (by omega) (fun _ => hrv)⟩
    rw [List.append_nil]
    exact h.sameTag ht
  · have hlen : (r.xs ++ us).length = (k + m) * i.size := by rw [List.length_append, hxl, hul, hnl, Nat.add_mul]
    have hone : ∀ u ∈ r.xs ++ us, u.oneCell' = true := fun u hu => by
      rcases List.mem_append.1 hu with hu | hu
      · exact hx2 u hu
      · exact hu1 u hu
    have hcl2 : (cells ++ news).length = (r.xs ++ us).length := by rw [List.length_append, List.length_append, hclen, hul]
    have newCase : c < k + m → VSound P C (s.tag tg ⟨k + m, e, i.size, some (b, cells ++ news)⟩) a w (Builtin.append_ #[t, xT] ty #[.slice A k c, vx]) (.vec tg (k + m)) := by
      intro hgrow
      have hrun := app_grow (P := P) (ty := ty) hd hxd (.inl ⟨_, rfl⟩) hi hz A k c r.xs hyo vx m us hy hgrow (growslice_fits hgrow hb) (by omega)
      have hge := grownCap_ge w (k + m) c e
      have hcm : grownCap w (k + m) c e ≤ maxLen := grownCap_le_maxLen w (k + m) c e hmax
      let r' : TagRec := ⟨true, .slice (some ⟨w.heap.size, 0, none⟩) (k + m) (grownCap w (k + m) c e), k + m, e, i.size, r.xs ++ us⟩
      have hown' : (w.drew.alloc (.cells (r.xs.toArray ++ us.toArray ++ Builtin.zeroCells z.cells (grownCap w (k + m) c e - (k + m))) e)).ownsRow 0 r'.e r'.sz r'.v r'.n r'.xs := by
        refine ⟨hlen, .inr ⟨w.heap.size, _, _, rfl, Nat.zero_le _, heap_alloc_new w.drew _, hge, hcm, ?_, ?_⟩⟩
        · simp only [Array.size_append, List.size_toArray, size_zeroCells, hzs, hxl, hul, hnl, ← Nat.add_mul]
          congr 1
          omega
        · show _ = r.xs ++ us
          simp only [Array.toList_append, List.append_assoc]
          rw [← List.append_assoc]
          show List.take ((k + m) * i.size) _ = _
          rw [← hlen]
          exact List.take_left
      obtain ⟨h1, hle⟩ := h.setTagNew (r' := r') (w' := w.drew.alloc (.cells (r.xs.toArray ++ us.toArray ++ Builtin.zeroCells z.cells (grownCap w (k + m) c e - (k + m))) e)) ht hr rfl (by show r.n < k + m; omega) ⟨rfl, rfl, rfl, by simp, fun k hk => heap_alloc_old w.drew _ hk⟩ (by simp) hown' hone rfl rfl rfl rfl (!b) (m' := ⟨k + m, e, i.size, some (b, cells ++ news)⟩) (fun hh => by cases b <;> simp_all [Tag.rw]) (fun hle' b' cs' hc => by
        cases hc
        exact ⟨hcl2, hboth _ _ hle', fun hb => by rw [hb]; rfl⟩)
      exact ⟨_, _, _, hrun, h1, .vec _ _ _ _ _ r' (by simp [Env.upT, Env.setT]) (Nat.le_refl _) (fun _ => rfl)⟩
    rcases hx1.2 with ⟨e1, e2⟩ | ⟨g, cap, cur, e1, hbg, hgc, h3, h4, h5, h6⟩
    · rw [hrv] at e1
      cases e1
      exact newCase (by omega)
    · rw [hrv, hrn] at e1
      cases e1
      by_cases hroom : k + m ≤ c
      · rw [hrn, hrs] at h6
        rw [hrs] at h5
        have hfit : k * i.size + us.length ≤ cur.size := by rw [hul, hnl, h5, ← Nat.add_mul]; exact Nat.mul_le_mul_right _ hroom
        rw [hre] at hgc
        have hrun := app_room (P := P) (ty := ty) hd hxd (.inl ⟨_, rfl⟩) hi g k c cur hgc vx m us hy (by rw [hul, hnl]) hu1 hroom hfit
        let r' : TagRec := ⟨true, .slice (some ⟨g, 0, none⟩) (k + m) c, k + m, e, i.size, r.xs ++ us⟩
        obtain ⟨s1, s2, s3, s4, s5⟩ := setRow_le (w := w) (g := g) (cur.toList.take (k * i.size) ++ us ++ cur.toList.drop (k * i.size + us.length)).toArray
        have hown' : (w.setRow g (cur.toList.take (k * i.size) ++ us ++ cur.toList.drop (k * i.size + us.length)).toArray).ownsRow 0 r'.e r'.sz r'.v r'.n r'.xs := by
          refine ⟨hlen, .inr ⟨g, c, _, rfl, Nat.zero_le _, setRow_heap w g cur _ e _ hgc, hroom, h4, ?_, ?_⟩⟩
          · simp only [List.size_toArray, List.length_append, List.length_take, List.length_drop, Array.length_toList]
            show _ = c * i.size
            omega
          · show List.take ((k + m) * i.size) _ = r.xs ++ us
            rw [h6]
            rw [← hlen]
            exact List.take_left
        have hgb : r.v.ownBlock = some g := by rw [hrv]; rfl
        obtain ⟨h1, hle⟩ := h.setTagRoom (r' := r') ht hr hro rfl (by show r.n ≤ k + m; omega) (by intro e; exfalso; have : r.n = k + m := e; omega) hgb s3 s4 s5 s2 s1 hown' hone rfl hrs.symm (fun _ => ⟨us, rfl⟩) rfl rfl rfl (!b) (m' := ⟨k + m, e, i.size, some (b, cells ++ news)⟩) (fun hh => by cases b <;> simp_all [Tag.rw]) (fun hle' b' cs' hc => by
          cases hc
          exact ⟨hcl2, hboth _ _ hle', fun hb => by rw [hb]; rfl⟩)
        exact ⟨_, _, _, hrun, h1, .vec _ _ _ _ _ r' (by simp [Env.upT, Env.setT]) (Nat.le_refl _) (fun _ => rfl)⟩
      · exact newCase (by omega)

theorem appA_sound {P : Program} {Γ : TT} (hΓ : Γok P Γ) {C : Ctx} {G : Env} {s s' : AS} {a : Act} {w : World} (h : RelG C G s a w) {d : Nat} {t xT ty : TypeId} {v x y : AV} {vv vx : Value} (hv : Rep w G true v vv) (hx : Rep w G true x vx) {os : List Prop} (hn : appA Γ s d t xT v x = some (s', y, os)) (ho : All os) :
    VSound P C s' a w (Builtin.append_ #[t, xT] ty #[vv, vx]) y := by
  unfold appA at hn
  split at hn
  · rename_i ti xi hti hxi
    obtain ⟨i, d', z, hi, hd, hsz, hby, hz, hzs, hz0, hz1, hag, hk⟩ := (hΓ t ti hti).ex
    obtain ⟨ix, dx, zx, hix, hdx, _, _, _, _, _, _, _, hkx⟩ := (hΓ xT xi hxi).ex
    split at hn
    · rename_i e e' he he'
      rw [he] at hk
      rw [he'] at hkx
      obtain rfl := kind_slice hk
      obtain rfl := kind_slice hkx
      split at hn
      · rename_i ei hei
        obtain ⟨i2, d2, z2, hi2, hd2, hsz2, hby2, hz2, hzs2, hz02, hz12, hag2, hk2⟩ := (hΓ _ ei hei).ex
        split at hn
        · rename_i nl n cells o m news hsrc
          split at hn
          · rename_i s1 tg os1 sz by_ hdst hsz1 hby1
            cases hn
            rw [All_append] at ho
            obtain ⟨ho1, ho2⟩ := ho
            simp only [All] at ho2
            obtain ⟨hcl, hnl, hb⟩ := ho2
            have hs2 : i2.size = sz + 1 := by omega
            have hb2 : i2.bytes = by_ + 1 := by omega
            -- the destination's tag
            have key : ∃ G1, RelG C G1 s1 a w ∧ Env.Le w G w G1 ∧ look s1.tags tg = some ⟨n, e, i2.size, none⟩ ∧ Rep w G1 true (.sl nl n cells .no) vv ∧ ∃ r, G1.τ tg = some r ∧ (r.n = n → r.v = vv) := by
              cases hv with
              | sl _ _ _ _ _ A c vs hnl' hpos hc hcell hrep hclip hown =>
              unfold dstA at hdst
              split at hdst
              · rename_i t0
                split at hdst
                · rename_i g hg
                  split at hdst
                  · rename_i hge hgs hgcs
                    cases hdst
                    simp only [All] at ho1
                    obtain ⟨_, r, hr, hrn, hrv⟩ := hown tg rfl
                    refine ⟨G, h, Env.Le.refl _ _, ?_, .sl _ _ _ _ _ _ _ vs hnl' hpos hc hcell hrep (fun e => by cases e) (fun t e => by cases e), r, hr, hrv⟩
                    rw [hg]
                    obtain ⟨gn, ge, gs, gc⟩ := g
                    have e1 := Nat.eq_of_beq_eq_true hge
                    have e2 := Nat.eq_of_beq_eq_true hgs
                    simp only at e1 e2 ho1 hgcs
                    rw [e1, e2, ho1, hsz2, hgcs]
                  · cases hdst
                · cases hdst
              · split at hdst
                · rename_i hlk
                  cases hdst
                  have hcn := hclip rfl
                  subst hcn
                  obtain ⟨h1, hle⟩ := h.addTag (t := d) (m := ⟨c, e, ei.size, none⟩) (r := ⟨false, .slice A c c, c, e, ei.size, []⟩) hlk rfl rfl rfl (fun _ => ⟨rfl, A, rfl, fun hA => by
                    rcases Nat.eq_zero_or_pos c with h0 | h0
                    · exact h0
                    · obtain ⟨ad, e, _⟩ := hpos h0
                      rw [hA] at e
                      cases e⟩) (fun ho => by cases ho) (fun b cs hc => by cases hc)
                  refine ⟨_, h1, hle, ?_, (Rep.sl true nl c cells .no A c vs hnl' hpos hc hcell hrep (fun e => by cases e) (fun t e => by cases e)).mono hle, ⟨false, .slice A c c, c, e, ei.size, []⟩, by simp [Env.setT], fun _ => rfl⟩
                  simp [AS.tag, look_cons, hsz2]
                · cases hdst
              · cases hdst
            obtain ⟨G1, h1, hle, htg, hv1, hvt⟩ := key
            have hsrc1 : srcA s1 i2.size x = some (m, news) := by
              rw [hsz2]
              unfold dstA at hdst
              split at hdst
              · split at hdst
                · split at hdst
                  · cases hdst; exact hsrc
                  · cases hdst
                · cases hdst
              · split at hdst
                · rename_i hnone
                  cases hdst
                  exact srcA_tag hnone hsrc
                · cases hdst
              · cases hdst
            obtain ⟨us, hul, hy, hur, hu1⟩ := srcA_sound (P := P) h1 (hx.mono hle) (sz := i2.size) (by omega) hsrc1 (by rw [hnl, hs2])
            have := app_core (P := P) (ty := ty) h1 hd hdx hi2 hz2 (by rw [hzs2, hsz2]) (by omega) (by omega) htg hv1 hvt (by rw [hcl, hs2]) (by rw [hnl, hs2]) (by rw [hb2]; exact hb) hul hy hur hu1
            rw [hs2] at this
            exact this
          · cases hn
        · rename_i tg n m news hsrc
          split at hn
          · rename_i n' e2 sz2 b cells sz by_ ht hsz1 hby1
            split at hn
            · rename_i he2 hsz3
              cases hn
              simp only [All] at ho
              obtain ⟨rfl, hnl, hb⟩ := ho
              have e3 := Nat.eq_of_beq_eq_true he2
              have e4 := Nat.eq_of_beq_eq_true hsz3
              subst e3
              have hs2 : i2.size = sz + 1 := by omega
              have hb2 : i2.bytes = by_ + 1 := by omega
              rw [e4, ← hs2] at ht
              obtain ⟨us, hul, hy, hur, hu1⟩ := srcA_sound (P := P) h hx (sz := i2.size) (by omega) (by rw [hsz2]; exact hsrc) (by rw [hnl, hs2])
              have := appv_core (P := P) (ty := ty) h hd hdx hi2 hz2 (by rw [hzs2, hsz2]) (by omega) ht hv (by rw [hnl, hs2]) (by rw [hb2]; exact hb) hul hy hur hu1
              rw [hs2] at this
              exact this
            · cases hn
          · cases hn
        · cases hn
      · cases hn
    · cases hn
  · cases hn

/-! ### A new slice whose elements may be written: what is appended to none (tags that may be handed back: 1000000 and above) -/
def appN (Γ : TT) (s : AS) (d : Nat) (t xT : TypeId) (v x : AV) : SR :=
  match Nat.ble 1000000 d, v with
  | true, .sl nl 0 [] .clip => match look Γ t, look Γ xT with
    | some ti, some xi => match ti.kind, xi.kind with
      | .slice e, .slice _ => match look Γ e with
        | some ei => match srcA s ei.size x, ei.size, ei.bytes, look s.tags d with
          | some (m, news), sz + 1, by_ + 1, none => some ((s.tag d ⟨0, e, sz + 1, some (true, [])⟩).tag d ⟨m, e, sz + 1, some (true, news)⟩, .vec d m, [0 < m ∧ news.length = m * (sz + 1) ∧ m * (by_ + 1) ≤ 140737488355328])
          | _, _, _, _ => none
        | none => none
      | _, _ => none
    | _, _ => none
  | _, _ => appA Γ s d t xT v x

theorem appn_core {P : Program} {C : Ctx} {G : Env} {s : AS} {a : Act} {w : World} (h : RelG C G s a w) {t xT e ty : TypeId} {i : TypeInfo} {z : Value} {e' : TypeId} (hd : P.underlying t = some (.slice e)) (hxd : P.underlying xT = some (.slice e')) (hi : P.info? e = some i) (hz : i.zero = some z) (hzs : z.cells.size = i.size)
    (hby : 0 < i.bytes) {tg m : Nat} {news : List AV} (ht : look s.tags tg = none) {A : Option Addr} {vx : Value} (hm : 0 < m)
    (hnl : news.length = m * i.size) (hb : m * i.bytes ≤ 140737488355328) {us : List Value} (hul : us.length = news.length) (hy : Yields P w i.size m vx us) (hur : ∀ (i : Nat) (c : AV) (v : Value), news[i]? = some c → us[i]? = some v → Rep w G false c v) (hu1 : ∀ v ∈ us, v.oneCell' = true) :
    VSound P C ((s.tag tg ⟨0, e, i.size, some (true, [])⟩).tag tg ⟨m, e, i.size, some (true, news)⟩) a w (Builtin.append_ #[t, xT] ty #[.slice A 0 0, vx]) (.vec tg m) := by
  obtain ⟨h5, hle5⟩ := h.addTag (t := tg) (m := ⟨0, e, i.size, some (true, [])⟩) (r := ⟨true, .slice none 0 0, 0, e, i.size, []⟩) ht rfl rfl rfl (fun ho => by cases ho) (fun _ => ⟨⟨by simp, .inl ⟨rfl, rfl⟩⟩, fun u hu => by simp at hu, fun g hg => by cases hg⟩) (fun b cells hc => by
    cases hc
    exact ⟨rfl, rfl, fun i c v hi => by simp at hi, fun hb => by cases hb⟩)
  have hmm : m ≤ 140737488355328 := Nat.le_trans (Nat.le_mul_of_pos_right _ hby) hb
  have hmax : m ≤ maxLen := by unfold maxLen; omega
  have e0 : 0 + m = m := Nat.zero_add m
  have hyo : Yields P w i.size 0 (.slice A 0 0) [] := yields_slice _ _ _ _ _ (by simp) (fun hA => rfl) (fun j u hj => by simp at hj)
  have hgrow : 0 < 0 + m := by omega
  have hrun := app_grow (P := P) (ty := ty) hd hxd (.inl ⟨_, rfl⟩) hi hz A 0 0 [] hyo vx m us hy hgrow (growslice_fits hgrow (by rw [e0]; exact hb)) (by omega)
  rw [e0] at hrun
  have hge := grownCap_ge w m 0 e
  have hcm : grownCap w m 0 e ≤ maxLen := grownCap_le_maxLen w m 0 e hmax
  let r' : TagRec := ⟨true, .slice (some ⟨w.heap.size, 0, none⟩) m (grownCap w m 0 e), m, e, i.size, us⟩
  have hlen : us.length = m * i.size := by rw [hul, hnl]
  have hown' : (w.drew.alloc (.cells (([] : List Value).toArray ++ us.toArray ++ Builtin.zeroCells z.cells (grownCap w m 0 e - m)) e)).ownsRow 0 r'.e r'.sz r'.v r'.n r'.xs := by
    refine ⟨hlen, .inr ⟨w.heap.size, _, _, rfl, Nat.zero_le _, heap_alloc_new w.drew _, hge, hcm, ?_, ?_⟩⟩
    · simp only [Array.size_append, List.size_toArray, size_zeroCells, hzs, hlen, List.length_nil, Nat.zero_add, ← Nat.add_mul]
      congr 1
      omega
    · show _ = us
      simp only [Array.toList_append, List.nil_append]
      show List.take (m * i.size) _ = _
      rw [← hlen]
      exact List.take_left
  obtain ⟨h1, hle⟩ := h5.setTagNew (t := tg) (r := ⟨true, .slice none 0 0, 0, e, i.size, []⟩) (r' := r') (w' := w.drew.alloc (.cells (([] : List Value).toArray ++ us.toArray ++ Builtin.zeroCells z.cells (grownCap w m 0 e - m)) e)) (m := ⟨0, e, i.size, some (true, [])⟩) (by simp [AS.tag, look_cons]) (by simp [Env.setT]) rfl (by show 0 < m; exact hm) ⟨rfl, rfl, rfl, by simp, fun k hk => heap_alloc_old w.drew _ hk⟩ (by simp) hown' hu1 rfl rfl rfl rfl false (m' := ⟨m, e, i.size, some (true, news)⟩) (fun hh => rfl) (fun hle' b' cs' hc => by
    cases hc
    exact ⟨by rw [hul], fun j c v hj hv => (hur j c v hj hv).mono (hle5.trans hle'), fun hb => by cases hb⟩)
  exact ⟨_, _, _, hrun, h1, .vec _ _ _ _ _ r' (by simp [Env.upT, Env.setT]) (Nat.le_refl _) (fun _ => rfl)⟩

theorem appN_sound {P : Program} {Γ : TT} (hΓ : Γok P Γ) {C : Ctx} {G : Env} {s s' : AS} {a : Act} {w : World} (h : RelG C G s a w) {d : Nat} {t xT ty : TypeId} {v x y : AV} {vv vx : Value} (hv : Rep w G true v vv) (hx : Rep w G true x vx) {os : List Prop} (hn : appN Γ s d t xT v x = some (s', y, os)) (ho : All os) :
    VSound P C s' a w (Builtin.append_ #[t, xT] ty #[vv, vx]) y := by
  unfold appN at hn
  split at hn
  · rename_i nl _
    split at hn
    · rename_i ti xi hti hxi
      obtain ⟨i, d', z, hi, hd, hsz, hby, hz, hzs, hz0, hz1, hag, hk⟩ := (hΓ t ti hti).ex
      obtain ⟨ix, dx, zx, hix, hdx, _, _, _, _, _, _, _, hkx⟩ := (hΓ xT xi hxi).ex
      split at hn
      · rename_i e e' he he'
        rw [he] at hk
        rw [he'] at hkx
        obtain rfl := kind_slice hk
        obtain rfl := kind_slice hkx
        split at hn
        · rename_i ei hei
          obtain ⟨i2, d2, z2, hi2, hd2, hsz2, hby2, hz2, hzs2, hz02, hz12, hag2, hk2⟩ := (hΓ _ ei hei).ex
          split at hn
          · rename_i m news sz by_ hsrc hsz1 hby1 htg
            cases hn
            simp only [All] at ho
            obtain ⟨hm, hnl, hb⟩ := ho
            have hs2 : i2.size = sz + 1 := by omega
            have hb2 : i2.bytes = by_ + 1 := by omega
            obtain ⟨us, hul, hy, hur, hu1⟩ := srcA_sound (P := P) h hx (sz := i2.size) (by omega) (by rw [hsz2]; exact hsrc) (by rw [hnl, hs2])
            cases hv with
            | sl _ _ _ _ _ A c vs hnl' hpos hc hcell hrep hclip hown =>
            have hcn := hclip rfl
            subst hcn
            have := appn_core (P := P) (ty := ty) (A := A) h hd hdx hi2 hz2 (by rw [hzs2, hsz2]) (by omega) htg hm (by rw [hnl, hs2]) (by rw [hb2]; exact hb) hul hy hur hu1
            rw [hs2] at this
            exact this
          · cases hn
        · cases hn
      · cases hn
    · cases hn
  · exact appA_sound hΓ h hv hx hn ho
end Go.AX
end

section
set_option linter.unusedVariables false
set_option linter.unusedSimpArgs false
namespace Go.AX
open Go Go.RowKit

/-! ### Ranging over a string -/
def rangeA (Γ : TT) (s : AS) (d : Nat) (t : TypeId) (x : AV) : SR :=
  match look Γ t with
  | some ti => match ti.kind, x, look s.heap d with
    | .str, .str b, none => some (s.blk d (.iter b 0), .ptr d 0, [])
    | _, _, _ => none
  | none => none
theorem rangeA_sound {P : Program} {Γ : TT} (hΓ : Γok P Γ) {C : Ctx} {G : Env} {s s' : AS} {a : Act} {w : World} (h : RelG C G s a w) {d : Nat} {t : TypeId} {x v : AV} {u : Value} (hx : Rep w G true x u) {os : List Prop} (hn : rangeA Γ s d t x = some (s', v, os)) :
    VSound P C s' a w (Instr.range t u) v := by
  unfold rangeA at hn
  split at hn
  · rename_i ti hti
    obtain ⟨i, d', z, hi, hd, hsz, hby, hz, hzs, hz0, hz1, hag, hk⟩ := (hΓ t ti hti).ex
    split at hn
    · rename_i b he hl
      rw [he] at hk
      obtain rfl := kind_str hk
      cases hn
      cases hx
      obtain ⟨h1, h2⟩ := h.alloc (i := d) (b := .iter b 0) (o := .stringIter b 0) hl (heap_alloc_new w _)
      exact ⟨_, _, _, run_range_string w t b hd, h1, .ptr _ _ _ (by simp [Env.addB])⟩
    · cases hn
  · cases hn

def nextA (s : AS) (x : AV) (ann : Option AV) : SR :=
  match x with
  | .ptr id 0 => match look s.heap id with
    | some (.iter b pos) => match ann with
      | some (.tup [.bool false]) => some (s, .tup [.bool false], [¬ pos < b.size])
      | some (.tup (.bool true :: _)) => some (s.blk id (.iter b (pos + (Utf8.decode b pos).2)), .tup [.bool true, .int .i64 pos, .int .i32 (Utf8.decode b pos).1], [pos < b.size])
      | _ => none
    | _ => none
  | _ => none
theorem nextA_sound {P : Program} {C : Ctx} {G : Env} {s s' : AS} {a : Act} {w : World} (h : RelG C G s a w) {x v : AV} {ann : Option AV} {u : Value} (hx : Rep w G true x u) {os : List Prop} (hn : nextA s x ann = some (s', v, os)) (ho : All os) (ty : TypeId) :
    VSound P C s' a w (Instr.next u true ty) v := by
  unfold nextA at hn
  split at hn
  · rename_i id
    cases hx with
    | ptr _ _ g hg =>
    split at hn
    · rename_i b pos hb
      obtain ⟨g', hg', hbase, hok, hnF⟩ := h.blocks _ _ hb
      rw [hg] at hg'
      cases hg'
      split at hn
      · cases hn
        simp only [All] at ho
        refine ⟨_, w, G, Lib.run_next_end_at w g b pos ty hok ho, h, .tup _ _ _ rfl fun i c v hc hv => ?_⟩
        match i, hc, hv with
        | 0, hc, hv => simp at hc hv; subst hc; subst hv; exact .bool _ _
        | n + 1, hc, hv => simp at hc
      · cases hn
        simp only [All] at ho
        have h1 := h.setBlk (w' := w.iterAt g b (pos + (Utf8.decode b pos).2)) (b' := .iter b (pos + (Utf8.decode b pos).2)) hb hg rfl rfl rfl rfl (Lib.iterAt_size _ _ _ _) (fun k hk => Lib.iterAt_other w g k b _ hk) (fun _ => Lib.iterAt_heap w g b pos _ hok) rfl
        refine ⟨_, _, G, Lib.run_next_any_at w g b pos ty hok ho, h1.1, .tup _ _ _ rfl fun i c v hc hv => ?_⟩
        match i, hc, hv with
        | 0, hc, hv => simp at hc hv; subst hc; subst hv; exact .bool _ _
        | 1, hc, hv => simp at hc hv; subst hc; subst hv; exact .int _ _ _
        | 2, hc, hv => simp at hc hv; subst hc; subst hv; exact .int _ _ _
        | n + 3, hc, hv => simp at hc
      · cases hn
    · cases hn
  · cases hn

/-! ### Conversions -/
/-- A string's runes. -/
def runesL (s : ByteArray) : Nat → Nat → List Int
  | 0, _ => []
  | k + 1, i => if i < s.size then ((Utf8.decode s i).1 : Int) :: runesL s k (i + (Utf8.decode s i).2) else []
def runes (s : ByteArray) : List Int := runesL s s.size 0
theorem runesFrom_eq (s : ByteArray) : ∀ (k i : Nat) (acc : Array Value), Conv.runesFrom s k i acc = acc ++ ((runesL s k i).map (Value.int .i32)).toArray
  | 0, i, acc => by simp [Conv.runesFrom, runesL]
  | k + 1, i, acc => by
    simp only [Conv.runesFrom, runesL]
    split
    · rw [runesFrom_eq s k]
      simp
    · simp

def intsOf : List AV → List Int
  | [] => []
  | .int _ n :: r => n :: intsOf r
  | _ :: r => intsOf r
def convA (Γ : TT) (s : AS) (src dst : TypeId) (x : AV) : VR :=
  match look Γ src, look Γ dst with
  | some a, some b => match a.kind, b.kind, x with
    | .int _, .int k, .int _ n => some (.int k (k.wrap n), [])
    | .int _, .str, .int _ n => some (.str (Utf8.encode n), [])
    | .str, .str, .str b => some (.str b, [])
    | .slice e, .str, .sl _ n cells _ => match look Γ e with
      | some ei => match ei.kind with
        | .int .i32 => some (.str (runesBytes (intsOf cells)), [cells = (intsOf cells).map (.int .i32) ∧ cells.length = n])
        | .int .u8 => some (.str (strOfNums (intsOf cells)), [cells = (intsOf cells).map (.int .u8) ∧ cells.length = n])
        | _ => none
      | none => none
    | .str, .slice e, .str b => match look Γ e with
      | some ei => match ei.kind with
        | .int .i32 => some (.sl (some false) (runes b).length ((runes b).map (.int .i32)) .no, [b.size ≤ 9223372036854775807])
        | .int .u8 => some (.sl (some false) b.size ((b.data.toList.map fun c => (c.toNat : Int)).map (.int .u8)) .no, [b.size ≤ 9223372036854775807])
        | _ => none
      | none => none
    | _, _, _ => none
  | _, _ => none

theorem runesL_len (s : ByteArray) : ∀ (k i : Nat), (runesL s k i).length ≤ k
  | 0, i => by simp [runesL]
  | k + 1, i => by
    simp only [runesL]
    split
    · have := runesL_len s k (i + (Utf8.decode s i).2)
      simp only [List.length_cons]
      omega
    · simp

/-- A new row of plain values, that is only read. -/
theorem newTree {C : Ctx} {G : Env} {s : AS} {a : Act} {w w' : World} (h : RelG C G s a w) (hb : Below w.heap.size w w') (hlt : w.heap.size < w'.heap.size) {cs : Array Value} {e : TypeId} {fr : Nat × Nat} (hc : w'.heap[w.heap.size]? = some (.cells cs e fr)) {cells : List AV} {n c : Nat} (hn : n ≤ c)
    (hl : cells.length ≤ cs.size) (hr : ∀ (j : Nat) (x : AV) (v : Value), cells[j]? = some x → cs[j]? = some v → (∀ G, Rep w' G false x v) ∧ v.oneCell' = true) : ∃ G', RelG C G' s a w' ∧ Rep w' G' true (.sl (some false) n cells .no) (.slice (some ⟨w.heap.size, 0, none⟩) n c) := by
  obtain ⟨h1, h2⟩ := h.grow (G' := { G with F := fun b o => G.F b o ∨ b = w.heap.size }) hb rfl rfl (fun _ _ h => .inl h) (fun b o hf => by
    rcases hf with hf | hf
    · exact .inl hf
    · exact .inr ⟨by omega, by omega⟩)
  refine ⟨_, h1, .sl _ _ _ _ _ _ _ (fun j => cs.getD j undef) (fun b hb => by cases hb; rfl) (fun _ => ⟨_, rfl, rfl⟩) hn (fun j x hx => ?_) (fun j x hx => ?_) (fun h => by cases h) (fun t h => by cases h)⟩
  · have hj : j < cs.size := Nat.lt_of_lt_of_le (List.getElem?_eq_some_iff.1 hx).1 hl
    refine ⟨_, rfl, rfl, .inr rfl, ?_, ?_⟩
    · simp [World.cell?, hc, hj]
    · simpa [hj] using (hr j x cs[j] hx (Array.getElem?_eq_getElem hj)).2
  · have hj : j < cs.size := Nat.lt_of_lt_of_le (List.getElem?_eq_some_iff.1 hx).1 hl
    simpa [hj] using (hr j x cs[j] hx (Array.getElem?_eq_getElem hj)).1 _

theorem sl_ints {w : World} {G : Env} {l : Bool} {k : IntKind} {nl : Option Bool} {n : Nat} {cells : List AV} {o : Own} {A : Option Addr} {c : Nat} {ns : List Int} (h : Rep w G l (.sl nl n cells o) (.slice A n c)) (hc : cells = ns.map (.int k)) :
    ∀ j m, ns[j]? = some m → ∃ ad, A = some ad ∧ ad.spot = none ∧ w.cell? ⟨ad.block, ad.off + j, none⟩ = some (.int k m) := by
  intro j m hj
  cases h with
  | sl _ _ _ _ _ _ _ vs hnl hpos hc' hcell hrep hclip hown =>
    have hx : cells[j]? = some (.int k m) := by rw [hc]; simp [hj]
    obtain ⟨ad, e, hsp, hf, hw, h1⟩ := hcell j _ hx
    have := hrep j _ hx
    generalize vs j = u at hw this
    cases this
    exact ⟨ad, e, hsp, hw⟩

theorem convA_sound {P : Program} {Γ : TT} (hΓ : Γok P Γ) {C : Ctx} {G : Env} {s : AS} {a : Act} {w : World} (h : RelG C G s a w) {src dst : TypeId} {x v : AV} {u : Value} (hx : Rep w G true x u) {os : List Prop} (hn : convA Γ s src dst x = some (v, os)) (ho : All os) :
    VSound P C s a w (convert src dst u) v := by
  unfold convA at hn
  split at hn
  · rename_i ta tb hta htb
    obtain ⟨ia, da, za, hia, hda, _, _, _, _, _, _, _, hka⟩ := (hΓ src ta hta).ex
    obtain ⟨ib, db, zb, hib, hdb, _, _, _, _, _, _, _, hkb⟩ := (hΓ dst tb htb).ex
    split at hn
    · rename_i k1 k k2 n e1 e2
      cases hn
      rw [e2] at hkb
      obtain rfl := kind_int hkb
      cases hx
      exact VSound.pure h ⟨.int k (k.wrap n), by simp [convert, run_underlying hda, run_underlying hdb, Conv.intToInt], .int _ _ _⟩
    · rename_i k1 k2 n e1 e2
      cases hn
      rw [e2] at hkb
      obtain rfl := kind_str hkb
      rw [e1] at hka
      obtain rfl := kind_int hka
      cases hx
      exact VSound.pure h ⟨.string (Utf8.encode n), by simp [convert, run_underlying hda, run_underlying hdb, Conv.intToString], .str _ _⟩
    · rename_i b e1 e2
      cases hn
      rw [e2] at hkb
      obtain rfl := kind_str hkb
      rw [e1] at hka
      obtain rfl := kind_str hka
      cases hx
      exact VSound.pure h ⟨.string b, by simp [convert, run_underlying hda, run_underlying hdb], .str _ _⟩
    · rename_i e nl n cells o e1 e2
      rw [e2] at hkb
      obtain rfl := kind_str hkb
      rw [e1] at hka
      obtain rfl := kind_slice hka
      split at hn
      · rename_i ei hei
        obtain ⟨i2, d2, z2, hi2, hd2, _, _, _, _, _, _, _, hk2⟩ := (hΓ _ ei hei).ex
        split at hn
        · rename_i hk
          cases hn
          simp only [All] at ho
          obtain ⟨ho1, ho2⟩ := ho
          rw [hk] at hk2
          obtain rfl := kind_int hk2
          have hints := fun A c => sl_ints (ns := intsOf cells) (k := .i32) (w := w) (G := G) (l := true) (nl := nl) (n := n) (o := o) (A := A) (c := c) (cells := cells)
          have hlen : (intsOf cells).length = n := by rw [← ho2]; conv => rhs; rw [ho1]; simp
          have hx' := hx
          cases hx with
          | sl _ _ _ _ _ A c vs hnl hpos hc hcell hrep hclip hown =>
          refine VSound.pure h ⟨.string (runesBytes (intsOf cells)), ?_, .str _ _⟩
          cases A with
          | none =>
            have hn0 : n = 0 := by
              rcases Nat.eq_zero_or_pos n with h0 | h0
              · exact h0
              · obtain ⟨ad, e, _⟩ := hpos h0; cases e
            have : intsOf cells = [] := List.eq_nil_of_length_eq_zero (by omega)
            rw [this]
            exact run_convert_runes_nil w src dst e n c hda hd2 hdb
          | some ad =>
            have := run_convert_runes (P := P) w src dst e ad n c (intsOf cells) (by omega) hda hd2 hdb (fun j hj => by
              obtain ⟨ad', e', hsp, hw⟩ := hints (some ad) c hx' ho1 j _ (List.getElem?_eq_getElem hj)
              cases e'
              rw [add_spot _ _ hsp, hw]
              simp [List.getD_eq_getElem?_getD, List.getElem?_eq_getElem hj])
            rwa [List.take_of_length_le (by omega)] at this
        · rename_i hk
          cases hn
          simp only [All] at ho
          obtain ⟨ho1, ho2⟩ := ho
          rw [hk] at hk2
          obtain rfl := kind_int hk2
          have hints := fun A c => sl_ints (ns := intsOf cells) (k := .u8) (w := w) (G := G) (l := true) (nl := nl) (n := n) (o := o) (A := A) (c := c) (cells := cells)
          have hlen : (intsOf cells).length = n := by rw [← ho2]; conv => rhs; rw [ho1]; simp
          have hx' := hx
          cases hx with
          | sl _ _ _ _ _ A c vs hnl hpos hc hcell hrep hclip hown =>
          refine VSound.pure h ⟨.string (strOfNums (intsOf cells)), ?_, .str _ _⟩
          cases A with
          | none =>
            have hn0 : n = 0 := by
              rcases Nat.eq_zero_or_pos n with h0 | h0
              · exact h0
              · obtain ⟨ad, e, _⟩ := hpos h0; cases e
            have : intsOf cells = [] := List.eq_nil_of_length_eq_zero (by omega)
            rw [this]
            exact run_convert_bytes_nil w src e hda hd2 n c dst hdb
          | some ad =>
            rcases Nat.eq_zero_or_pos n with h0 | h0
            · have hi0 : intsOf cells = [] := List.eq_nil_of_length_eq_zero (by omega)
              rw [hi0]
              subst h0
              have hl0 : ∀ b, (loadCells b 0).run P w = .ok #[] w := fun b => by simp [loadCells, loadCellsFrom]
              simp [convert, run_underlying hda, run_underlying hdb, run_underlying hd2, Conv.bytesToString, hl0, strOfNums]
              rfl
            · obtain ⟨ad', e', hsp⟩ := hpos h0
              cases e'
              have := run_convert_bytes_arg (P := P) w src e hda hd2 ad.block ad.off n c (intsOf cells) hlen (fun j hj => by
                obtain ⟨ad', e', hsp, hw⟩ := hints (some ad) c hx' ho1 j _ (List.getElem?_eq_getElem (by omega))
                cases e'
                rw [hw]
                simp [List.getD_eq_getElem?_getD, List.getElem?_eq_getElem (show j < (intsOf cells).length by omega)]) dst hdb
              obtain ⟨bk, of, sp⟩ := ad
              simp only at hsp
              subst hsp
              exact this
        · cases hn
      · cases hn
    · rename_i e b e1 e2
      rw [e2] at hkb
      obtain rfl := kind_slice hkb
      rw [e1] at hka
      obtain rfl := kind_str hka
      cases hx
      split at hn
      · rename_i ei hei
        obtain ⟨i2, d2, z2, hi2, hd2, _, _, _, _, _, _, _, hk2⟩ := (hΓ _ ei hei).ex
        split at hn
        · rename_i hk
          cases hn
          simp only [All] at ho
          rw [hk] at hk2
          obtain rfl := kind_int hk2
          let cap := grownCap w (runes b).length 0 e
          have hcap : (runes b).length ≤ cap := grownCap_ge _ _ _ _
          have hrun : (convert src dst (.string b)).run P w = .ok (.slice (some ⟨w.heap.size, 0, none⟩) (runes b).length cap) (w.drew.alloc (.cells (((runes b).map (Value.int .i32)).toArray ++ Array.replicate (cap - (runes b).length) (.int .i32 0)) e)) := by
            have hre : Conv.runesFrom b b.size 0 #[] = ((runes b).map (Value.int .i32)).toArray := by rw [runesFrom_eq]; simp [runes]
            simp [convert, run_underlying hda, run_underlying hdb, run_underlying hd2, Conv.stringToRunes, hre, Question.forced, newRow, grownCap, cap]
          obtain ⟨G', h1, h2⟩ := newTree (cells := (runes b).map (.int .i32)) (n := (runes b).length) (c := cap) h (w' := w.drew.alloc (.cells (((runes b).map (Value.int .i32)).toArray ++ Array.replicate (cap - (runes b).length) (.int .i32 0)) e)) ⟨rfl, rfl, rfl, by simp, fun k hk => heap_alloc_old w.drew _ hk⟩ (by simp) (heap_alloc_new w.drew _) hcap (by simp) (fun j x v hx hv => by
            have hlt : j < (runes b).length := by simpa using (List.getElem?_eq_some_iff.1 hx).1
            rw [Array.getElem?_append_left (by simpa using hlt)] at hv
            simp only [List.getElem?_map, List.getElem?_toArray, List.getElem?_eq_getElem hlt, Option.map_some, Option.some.injEq] at hx hv
            subst hx; subst hv
            exact ⟨fun G => .int _ _ _, rfl⟩)
          exact ⟨_, _, G', hrun, h1, h2⟩
        · rename_i hk
          cases hn
          simp only [All] at ho
          rw [hk] at hk2
          obtain rfl := kind_int hk2
          have hrun := Lib.run_convert_string_bytes (P := P) w src dst e b hda hdb hd2
          obtain ⟨G', h1, h2⟩ := newTree (cells := (b.data.toList.map fun c => (c.toNat : Int)).map (.int .u8)) (n := b.size) (c := grownCap w b.size 0 e) h (w' := Lib.bytesWorld w e b) ⟨rfl, rfl, rfl, by rw [Lib.bytesWorld_size]; omega, fun k hk => Lib.bytesWorld_at_old w e b k hk⟩ (by rw [Lib.bytesWorld_size]; omega) (Lib.bytesWorld_at_new w e b) (grownCap_ge _ _ _ _) (by
              simp [Lib.bytesCells]) (fun j x v hx hv => by
            have hlt : j < b.data.size := by simpa using (List.getElem?_eq_some_iff.1 hx).1
            unfold Lib.bytesCells at hv
            rw [Array.getElem?_append_left (by simpa using hlt)] at hv
            simp at hx hv
            obtain ⟨c1, e1, rfl⟩ := hx
            obtain ⟨c2, e2, rfl⟩ := hv
            rw [e1] at e2
            cases e2
            exact ⟨fun G => .int _ _ _, rfl⟩)
          exact ⟨_, _, G', hrun, h1, h2⟩
        · cases hn
      · cases hn
    · cases hn
  · cases hn

end Go.AX
end

section
set_option linter.unusedVariables false
set_option linter.unusedSimpArgs false
namespace Go.AX
open Go Go.RowKit

/-- What is asked where a value is said to be another one. -/
def eqP : AV → AV → Prop
  | .bool a, .bool b => a = b
  | .int k a, .int k' b => k = k' ∧ a = b
  | .str a, .str b => a = b
  | x, y => x = y
theorem eqP_eq {x y : AV} (h : eqP x y) : x = y := by
  unfold eqP at h
  split at h
  · rw [h]
  · rw [h.1, h.2]
  · rw [h]
  · exact h
/-- A value and, where one is hinted, the other that it is said to be. -/
def ovr (r : VR) : Option AV → VR
  | none => r
  | some y => match r with
    | some (x, os) => some (y, os ++ [eqP x y])
    | none => none
theorem ovr_spec {r : VR} {ann : Option AV} {v : AV} {os : List Prop} (h : ovr r ann = some (v, os)) (ho : All os) : ∃ os', r = some (v, os') ∧ All os' := by
  cases ann with
  | none => exact ⟨os, h, ho⟩
  | some y =>
    simp only [ovr] at h
    split at h
    · rename_i x os1
      cases h
      rw [All_append] at ho
      have := eqP_eq ho.2
      subst this
      exact ⟨os1, rfl, ho.1⟩
    · cases h

def evs (s : AS) : List Operand → Option (List AV)
  | [] => some []
  | x :: r => match s.ev x, evs s r with
    | some v, some l => some (v :: l)
    | _, _ => none
theorem evs_sound {C : Ctx} {G : Env} {s : AS} {a : Act} {w : World} (h : RelG C G s a w) : ∀ {xs : List Operand} {vs : List AV}, evs s xs = some vs → vs.length = xs.length ∧ ∀ (i : Nat) (c : AV) (v : Value), vs[i]? = some c → (xs.map a.eval)[i]? = some v → Rep w G true c v
  | [], vs, hx => by cases hx; exact ⟨rfl, fun i p q hp => by simp at hp⟩
  | x :: xs, vs, hx => by
    simp only [evs] at hx
    split at hx
    · rename_i v l hv hl
      cases hx
      obtain ⟨h1, h2⟩ := evs_sound h hl
      refine ⟨by simp [h1], fun i p q hp hq => ?_⟩
      match i, hp, hq with
      | 0, hp, hq =>
        simp at hp hq
        subst hp; subst hq
        exact h.ev hv
      | n + 1, hp, hq => exact h2 n p q (by simpa using hp) (by simpa using hq)
    · cases hx

def lenA (Γ : TT) (s : AS) (t : TypeId) (x : AV) : VR :=
  match look Γ t with
  | some ti => match ti.kind, x with
    | .str, .str s => some (.int .i64 s.size, [])
    | .slice _, .sl _ n _ _ => some (.int .i64 n, [])
    | .slice _, .row _ _ n => some (.int .i64 n, [])
    | .slice _, .vec t n => match look s.tags t with
      | some ⟨m, _, _, some _⟩ => some (.int .i64 n, [n = m])
      | _ => none
    | _, _ => none
  | none => none
theorem lenA_sound {P : Program} {Γ : TT} (hΓ : Γok P Γ) {C : Ctx} {G : Env} {s : AS} {a : Act} {w : World} (hR : RelG C G s a w) {t ty : TypeId} {x v : AV} {os : List Prop} (h : lenA Γ s t x = some (v, os)) (ho : All os) {vx : Value} (hx : Rep w G true x vx) : ∃ u, (Builtin.len_ #[t] ty #[vx]).run P w = .ok u w ∧ Rep w G true v u := by
  unfold lenA at h
  split at h
  · rename_i ti hti
    obtain ⟨i, d, z, hi, hd, hsz, hby, hz, hzs, hz0, hz1, hag, hk⟩ := (hΓ t ti hti).ex
    split at h
    · rename_i s he
      rw [he] at hk
      obtain rfl := kind_str hk
      cases h; cases hx
      exact ⟨_, by simp [Builtin.len_, run_underlying hd, goInt], .int _ _ _⟩
    · rename_i e nl n cells o he
      rw [he] at hk
      obtain rfl := kind_slice hk
      cases h; cases hx
      exact ⟨_, by simp [Builtin.len_, run_underlying hd, goInt], .int _ _ _⟩
    · rename_i e id off n he
      rw [he] at hk
      obtain rfl := kind_slice hk
      cases h; cases hx
      exact ⟨_, by simp [Builtin.len_, run_underlying hd, goInt], .int _ _ _⟩
    · rename_i e tg n he
      split at h
      · rename_i m e2 sz2 b ht
        cases h
        simp only [All] at ho
        rw [he] at hk
        obtain rfl := kind_slice hk
        obtain ⟨r, hr, hok⟩ := hR.tags _ _ ht
        cases hx with
        | vec _ _ A k c r' hr' hle hv =>
          rw [hr] at hr'
          cases hr'
          have e1 : r.n = n := by rw [hok.hn, ho]
          have hv' := hv e1
          have hkn : k = n := by
            rcases (hok.own (hok.hcs b.1 b.2 rfl).1).2 with ⟨e3, e4⟩ | ⟨g, cap, cur, e3, _⟩
            · rw [hv'] at e3; cases e3; omega
            · rw [hv', e1] at e3; cases e3; rfl
          subst hkn
          exact ⟨_, by simp [Builtin.len_, run_underlying hd, goInt], .int _ _ _⟩
      · cases h
    · cases h
  · cases h

def minA (x y : AV) : VR :=
  match x, y with
  | .int k a, .int k' b => if k = k' then some (.int k (if b < a then b else a), []) else none
  | _, _ => none
def maxA (x y : AV) : VR :=
  match x, y with
  | .int k a, .int k' b => if k = k' then some (.int k (if b > a then b else a), []) else none
  | _, _ => none

inductive Ann
  | val (v : AV)
  | call (zs : List Nat) (res : AV)
  | callF (zs : List Nat) (g : List AV → AV)
  | id (i : Nat)
  | callM (cv : List (Bool × Nat × Nat × Nat × TypeId × Nat)) (zs hs gs : List Nat) (h' : List (Nat × Blk)) (t' : List (Nat × Tag)) (res : AV)
/-- Of a call: what is frozen ahead of it, and its result, by its arguments. -/
def Ann.call? : Option Ann → Option (List Nat × (List AV → AV))
  | some (.call zs res) => some (zs, fun _ => res)
  | some (.callF zs g) => some (zs, g)
  | _ => none
def Ann.v? : Option Ann → Option AV
  | some (.val v) => some v
  | _ => none

/-- The operations but for stores and calls of functions. -/
def stepV (Γ : TT) (s : AS) (d : Nat) (op : Op) (ann : Option AV) : SR :=
  let pure (r : VR) : SR := match r with
    | some (v, os) => some (s, v, os)
    | none => none
  match op with
  | .move x => match s.ev x with | some v => pure (ovr (some (v, [])) ann) | none => none
  | .assign x => match s.ev x with | some v => pure (ovr (some (v, [])) ann) | none => none
  | .pick c x y => match s.ev c with
    | some (.bool true) => match s.ev x with | some v => pure (ovr (some (v, [])) ann) | none => none
    | some (.bool false) => match s.ev y with | some v => pure (ovr (some (v, [])) ann) | none => none
    | _ => none
  | .alloc t => allocA Γ s d t
  | .box t x => match s.ev x with | some v => boxA Γ s d t v | none => none
  | .build t ps => pure (ovr (buildA Γ s t ps) ann)
  | .buildSlice t len ps => pure (litA Γ s t len ps)
  | .load t x => match s.ev x with | some p => pure (loadA Γ s t p ann) | none => none
  | .nilCheck x => match s.ev x with
    | some (.rop cs off) => some (s, .rop cs off, [])
    | some (.ptr b off) => some (s, .ptr b off, [])
    | some (.fn f cs) => some (s, .fn f cs, [])
    | _ => none
  | .binOp op t x y _ => match s.ev x, s.ev y with
    | some v, some u => match v with
      | .sl _ _ _ _ => pure (binA Γ op t v u ann)
      | _ => pure (ovr (binA Γ op t v u ann) ann)
    | _, _ => none
  | .unOp op _ x => match s.ev x with | some v => pure (ovr (unA op v) ann) | none => none
  | .convert src dst x => match s.ev x with | some v => pure (ovr (convA Γ s src dst v) ann) | none => none
  | .makeFunc (.func f) ⟨[]⟩ cs => match evs s cs.toList with | some vs => some (s, .fn f vs, []) | none => none
  | .makeSlice t l c => match s.ev l, s.ev c with | some v, some u => makeA Γ s d t v u | _, _ => none
  | .slice t x lo hi mx => match s.ev x, (match lo with | some y => (s.ev y).map some | none => some none), (match hi with | some y => (s.ev y).map some | none => some none), (match mx with | some y => (s.ev y).map some | none => some none) with
    | some v, some l, some h, some m => pure (ovr (sliceA Γ t v l h m) ann)
    | _, _, _, _ => none
  | .fieldAddr t x f => match s.ev x with | some v => pure (ovr (fieldAddrA Γ t v f) ann) | none => none
  | .field t x f => match s.ev x with | some v => pure (fieldA Γ t v f ann) | none => none
  | .indexAddr t x i => match s.ev x, s.ev i with | some v, some u => pure (ovr (indexAddrA Γ s t v u) ann) | _, _ => none
  | .index t x i => match s.ev x, s.ev i with | some v, some u => pure (ovr (indexA Γ t v u) ann) | _, _ => none
  | .range t x => match s.ev x with | some v => rangeA Γ s d t v | none => none
  | .next x true => match s.ev x with | some v => nextA s v ann | none => none
  | .extract x i => match s.ev x with | some v => pure (ovr (extractA v i) ann) | none => none
  | .call ⟨.builtin .len, ⟨[x]⟩, ⟨[t]⟩⟩ => match s.ev x with | some v => pure (ovr (lenA Γ s t v) ann) | none => none
  | .call ⟨.builtin .min, ⟨[x, y]⟩, _⟩ => match s.ev x, s.ev y with | some v, some u => pure (ovr (minA v u) ann) | _, _ => none
  | .call ⟨.builtin .max, ⟨[x, y]⟩, _⟩ => match s.ev x, s.ev y with | some v, some u => pure (ovr (maxA v u) ann) | _, _ => none
  | .call ⟨.builtin .append, ⟨[x, y]⟩, ⟨[t, u]⟩⟩ => match s.ev x, s.ev y with | some v, some z => appN Γ s d t u v z | _, _ => none
  | _ => none

def OpV (P : Program) (C : Ctx) (s' : AS) (a : Act) (w : World) (o : Oper) (v : AV) : Prop :=
  ∃ x w' G', (execOp a.eval o).run P w = .ok (.value x) w' ∧ RelG C G' s' a w' ∧ Rep w' G' true v x

theorem OpV.of {P : Program} {C : Ctx} {s' : AS} {a : Act} {w : World} {o : Oper} {v : AV} {m : Sem Value} (h : VSound P C s' a w m v) (he : execOp a.eval o = (do pure (.value (← m)))) : OpV P C s' a w o v := by
  obtain ⟨x, w', G', h1, h2, h3⟩ := h
  refine ⟨x, w', G', ?_, h2, h3⟩
  rw [he, Sem.run_bind, h1]
  rfl

theorem OpV.of2 {P : Program} {C : Ctx} {s' : AS} {a : Act} {w : World} {o : Oper} {v : AV} {m : Sem Value} (h : VSound P C s' a w m v) (he : (execOp a.eval o).run P w = (m.run P w).andThen fun x w => .ok (.value x) w) : OpV P C s' a w o v := by
  obtain ⟨x, w', G', h1, h2, h3⟩ := h
  refine ⟨x, w', G', ?_, h2, h3⟩
  rw [he, h1]
  rfl

theorem pure_sr {s s' : AS} {r : VR} {v : AV} {os : List Prop} (h : (match r with | some (v, os) => some (s, v, os) | none => none : SR) = some (s', v, os)) : s' = s ∧ r = some (v, os) := by
  split at h
  · cases h; exact ⟨rfl, rfl⟩
  · cases h

theorem stepV_sound {P : Program} {Γ : TT} (hΓ : Γok P Γ) {C : Ctx} {G : Env} {s s' : AS} {a : Act} {w : World} (h : RelG C G s a w) {d : Nat} {o : Oper} {ann : Option AV} {v : AV} {os : List Prop} (hs : stepV Γ s d o.op ann = some (s', v, os)) (ho : All os) : OpV P C s' a w o v := by
  obtain ⟨dst, op, type, pos, after, guard⟩ := o
  simp only at hs
  have mv : ∀ {x : Operand} {y : AV}, s.ev x = some y → (match ovr (some (y, [])) ann with | some (v, os) => some (s, v, os) | none => none : SR) = some (s', v, os) → (execOp a.eval ⟨dst, op, type, pos, after, guard⟩ = pure (.value (a.eval x))) → OpV P C s' a w ⟨dst, op, type, pos, after, guard⟩ v := by
    intro x y hx hr he
    obtain ⟨rfl, hq⟩ := pure_sr hr
    obtain ⟨os', h1, h2⟩ := ovr_spec hq ho
    cases h1
    exact ⟨_, w, G, by rw [he]; rfl, h, h.ev hx⟩
  unfold stepV at hs
  split at hs
  · rename_i x
    split at hs
    · rename_i y hy; exact mv hy hs rfl
    · cases hs
  · rename_i x
    split at hs
    · rename_i y hy; exact mv hy hs rfl
    · cases hs
  · rename_i c x y
    split at hs
    · rename_i hc
      split at hs
      · rename_i u hu
        refine mv hu hs ?_
        have := h.ev hc
        generalize hcv : a.eval c = cv at this
        cases this
        simp [execOp, hcv, asBool]
      · cases hs
    · rename_i hc
      split at hs
      · rename_i u hu
        refine mv hu hs ?_
        have := h.ev hc
        generalize hcv : a.eval c = cv at this
        cases this
        simp [execOp, hcv, asBool]
      · cases hs
    · cases hs
  · exact OpV.of (allocA_sound hΓ h hs) rfl
  · split at hs
    · rename_i y hy; exact OpV.of (boxA_sound hΓ h (h.ev hy) hs) rfl
    · cases hs
  · obtain ⟨rfl, hr⟩ := pure_sr hs
    obtain ⟨os', h1, h2⟩ := ovr_spec hr ho
    exact OpV.of (VSound.pure h (buildA_sound hΓ h h1)) rfl
  · obtain ⟨rfl, hr⟩ := pure_sr hs
    exact OpV.of (litA_sound hΓ h hr) rfl
  · split at hs
    · rename_i y hy
      obtain ⟨rfl, hr⟩ := pure_sr hs
      exact OpV.of (VSound.pure h (loadA_sound hΓ h (h.ev hy) hr ho)) rfl
    · cases hs
  · rename_i x
    split at hs
    · rename_i cs off hy
      cases hs
      have := h.ev hy
      generalize hcv : a.eval x = cv at this
      cases this with
      | rop _ _ _ ad vs h1 h2 => exact ⟨_, w, G, by simp [execOp, hcv], h, .rop _ _ _ ad vs h1 h2⟩
    · rename_i b off hy
      cases hs
      have := h.ev hy
      generalize hcv : a.eval x = cv at this
      cases this with
      | ptr _ _ g hg => exact ⟨_, w, G, by simp [execOp, hcv], h, .ptr _ _ _ hg⟩
    · rename_i f cs hy
      cases hs
      have := h.ev hy
      generalize hcv : a.eval x = cv at this
      cases this with
      | fn _ _ _ vs h1 h2 => exact ⟨_, w, G, by simp [execOp, hcv], h, .fn _ _ _ vs h1 h2⟩
    · cases hs
  · rename_i bop t x y yt
    split at hs
    · rename_i u1 u2 h1 h2
      have key : ∃ os', binA Γ bop t u1 u2 ann = some (v, os') ∧ All os' ∧ s' = s := by
        split at hs
        · obtain ⟨rfl, hr⟩ := pure_sr hs
          exact ⟨os, hr, ho, rfl⟩
        · obtain ⟨rfl, hr⟩ := pure_sr hs
          obtain ⟨os', h3, h4⟩ := ovr_spec hr ho
          exact ⟨os', h3, h4, rfl⟩
      obtain ⟨os', h3, h4, rfl⟩ := key
      exact OpV.of (VSound.pure h (binA_sound (P := P) hΓ h3 h4 (ox := x) (oy := y) (h.ev h1) (h.ev h2))) rfl
    · cases hs
  · split at hs
    · rename_i y hy
      obtain ⟨rfl, hr⟩ := pure_sr hs
      obtain ⟨os', h1, h2⟩ := ovr_spec hr ho
      exact OpV.of (VSound.pure h (unA_sound h1 (h.ev hy))) rfl
    · cases hs
  · split at hs
    · rename_i y hy
      obtain ⟨rfl, hr⟩ := pure_sr hs
      obtain ⟨os', h1, h2⟩ := ovr_spec hr ho
      exact OpV.of (convA_sound hΓ h (h.ev hy) h1 h2) rfl
    · cases hs
  · rename_i f cs
    split at hs
    · rename_i vs hvs
      cases hs
      obtain ⟨h1, h2⟩ := evs_sound h hvs
      refine ⟨.func (.func f) #[] (cs.map a.eval), w, G, by simp [execOp, Instr.makeFunc], h, .fn _ _ _ _ (by simpa using h1.symm) fun i c v hc hv => h2 i c v hc (by simpa using hv)⟩
    · cases hs
  · split at hs
    · rename_i u1 u2 h1 h2
      exact OpV.of (makeA_sound hΓ h (h.ev h1) (h.ev h2) hs ho) rfl
    · cases hs
  · rename_i t x lo hi mx
    split at hs
    · rename_i v1 l1 h1 m1 e1 e2 e3 e4
      obtain ⟨rfl, hr⟩ := pure_sr hs
      obtain ⟨os', h5, h6⟩ := ovr_spec hr ho
      have ro : ∀ {y : Option Operand} {z : Option AV}, (match y with | some y => (s'.ev y).map some | none => some none : Option (Option AV)) = some z → RepO w G z (y.map a.eval) := by
        intro y z hz
        cases y with
        | none => cases hz; exact .none
        | some y =>
          simp only [Option.map_eq_some_iff] at hz
          obtain ⟨u, hu, rfl⟩ := hz
          exact .some (h.ev hu)
      exact OpV.of (VSound.pure h (sliceA_sound hΓ h5 h6 (h.ev e1) (ro e2) (ro e3) (ro e4))) rfl
    · cases hs
  · split at hs
    · rename_i y hy
      obtain ⟨rfl, hr⟩ := pure_sr hs
      obtain ⟨os', h1, h2⟩ := ovr_spec hr ho
      exact OpV.of (VSound.pure h (fieldAddrA_sound hΓ h1 (h.ev hy))) rfl
    · cases hs
  · split at hs
    · rename_i y hy
      obtain ⟨rfl, hr⟩ := pure_sr hs
      exact OpV.of (VSound.pure h (fieldA_sound hΓ hr ho (h.ev hy))) rfl
    · cases hs
  · split at hs
    · rename_i u1 u2 h1 h2
      obtain ⟨rfl, hr⟩ := pure_sr hs
      obtain ⟨os', h3, h4⟩ := ovr_spec hr ho
      exact OpV.of (VSound.pure h (indexAddrA_sound hΓ h h3 h4 (h.ev h1) (h.ev h2))) rfl
    · cases hs
  · split at hs
    · rename_i u1 u2 h1 h2
      obtain ⟨rfl, hr⟩ := pure_sr hs
      obtain ⟨os', h3, h4⟩ := ovr_spec hr ho
      exact OpV.of (VSound.pure h (indexA_sound hΓ h3 h4 (h.ev h1) (h.ev h2))) rfl
    · cases hs
  · split at hs
    · rename_i y hy; exact OpV.of (rangeA_sound hΓ h (h.ev hy) hs) rfl
    · cases hs
  · split at hs
    · rename_i y hy; exact OpV.of (nextA_sound h (h.ev hy) hs ho type) rfl
    · cases hs
  · split at hs
    · rename_i y hy
      obtain ⟨rfl, hr⟩ := pure_sr hs
      obtain ⟨os', h1, h2⟩ := ovr_spec hr ho
      exact OpV.of (VSound.pure h (extractA_sound h1 (h.ev hy))) rfl
    · cases hs
  · rename_i x t
    split at hs
    · rename_i y hy
      obtain ⟨rfl, hr⟩ := pure_sr hs
      obtain ⟨os', h1, h2⟩ := ovr_spec hr ho
      exact OpV.of2 (VSound.pure h (lenA_sound (ty := type) hΓ h h1 h2 (h.ev hy))) (by simp [execOp, resolve, invoke, builtin])
    · cases hs
  · rename_i x y ts
    split at hs
    · rename_i u1 u2 h1 h2
      obtain ⟨rfl, hr⟩ := pure_sr hs
      obtain ⟨os', h3, h4⟩ := ovr_spec hr ho
      have e1 := h.ev h1
      have e2 := h.ev h2
      generalize hx1 : a.eval x = x1 at e1
      generalize hx2 : a.eval y = x2 at e2
      unfold minA at h3
      split at h3
      · split at h3
        · rename_i k a1 k' b1 hk
          subst hk
          cases h3; cases e1; cases e2
          refine ⟨_, w, G, ?_, h, .int _ _ _⟩
          simp [execOp, resolve, invoke, builtin, Builtin.min_, Builtin.min2, hx1, hx2]
        · cases h3
      · cases h3
    · cases hs
  · rename_i x y ts
    split at hs
    · rename_i u1 u2 h1 h2
      obtain ⟨rfl, hr⟩ := pure_sr hs
      obtain ⟨os', h3, h4⟩ := ovr_spec hr ho
      have e1 := h.ev h1
      have e2 := h.ev h2
      generalize hx1 : a.eval x = x1 at e1
      generalize hx2 : a.eval y = x2 at e2
      unfold maxA at h3
      split at h3
      · split at h3
        · rename_i k a1 k' b1 hk
          subst hk
          cases h3; cases e1; cases e2
          refine ⟨_, w, G, ?_, h, .int _ _ _⟩
          simp [execOp, resolve, invoke, builtin, Builtin.max_, Builtin.max2, hx1, hx2]
        · cases h3
      · cases h3
    · cases hs
  · rename_i x y t u
    split at hs
    · rename_i u1 u2 h1 h2
      exact OpV.of2 (appN_sound (ty := type) hΓ h (h.ev h1) (h.ev h2) hs ho) (by simp [execOp, resolve, invoke, builtin])
    · cases hs
  · cases hs

end Go.AX
end

section
set_option linter.unusedVariables false
set_option linter.unusedSimpArgs false
namespace Go.AX
open Go Go.RowKit

/-! ### What is handed to a call: trees; blocks of one's own that stand still meanwhile -/
mutual
def treeH (s : AS) : AV → Option (AV × List Prop)
  | .int k n => some (.int k n, [])
  | .bool b => some (.bool b, [])
  | .str t => some (.str t, [])
  | .nilFn => some (.nilFn, [])
  | .nilp => some (.nilp, [])
  | .sl nl n cells o => some (.sl nl n cells o.tree, [])
  | .rop cells off => some (.rop cells off, [])
  | .agg cs => match treeHL s cs with
    | some (ds, os) => some (.agg ds, os)
    | none => none
  | .tup cs => match treeHL s cs with
    | some (ds, os) => some (.tup ds, os)
    | none => none
  | .fn f cs => match treeHL s cs with
    | some (ds, os) => some (.fn f ds, os)
    | none => none
  | .undef => none
  | .ptr id off => match look s.heap id with
    | some (.var false cs) => some (.rop cs off, [])
    | some (.rows false cs) => some (.rop cs off, [])
    | _ => none
  | .row id off n => match look s.heap id with
    | some (.rows false cs) => some (.sl (some false) n (cs.drop off) .no, [])
    | _ => none
  | .vec t n => match look s.tags t with
    | some ⟨m, _, _, some (false, cells)⟩ => some (.sl none n cells .no, [n = m])
    | _ => none
  | .vptr _ _ _ => none
def treeHL (s : AS) : List AV → Option (List AV × List Prop)
  | [] => some ([], [])
  | x :: xs => match treeH s x, treeHL s xs with
    | some (y, a), some (ys, b) => some (y :: ys, a ++ b)
    | _, _ => none
end

theorem treeHL_get {s : AS} : ∀ {xs ys : List AV} {os : List Prop}, treeHL s xs = some (ys, os) → All os → ys.length = xs.length ∧ ∀ (i : Nat) (y : AV), ys[i]? = some y → ∃ (x : AV) (os' : List Prop), xs[i]? = some x ∧ treeH s x = some (y, os') ∧ All os'
  | [], ys, os, h, ho => by simp only [treeHL] at h; cases h; exact ⟨rfl, fun i y h => by simp at h⟩
  | x :: xs, ys, os, h, ho => by
    simp only [treeHL] at h
    split at h
    · rename_i y' a ys' b h1 h2
      cases h
      obtain ⟨ho1, ho2⟩ := All_append.1 ho
      obtain ⟨h3, h4⟩ := treeHL_get h2 ho2
      refine ⟨by simp [h3], fun i y hy => ?_⟩
      match i, hy with
      | 0, hy =>
        simp at hy
        subst hy
        exact ⟨x, a, rfl, h1, ho1⟩
      | n + 1, hy => simpa using h4 n y (by simpa using hy)
    · cases h

theorem treeH_sound {C : Ctx} {G : Env} {s : AS} {a : Act} {w : World} (hR : RelG C G s a w) {l : Bool} {x : AV} {v : Value} (h : Rep w G l x v) : ∀ {y : AV} {os : List Prop}, treeH s x = some (y, os) → All os → Rep w G false y v := by
  have lists : ∀ (cs : List AV) (vs : Array Value) (ds : List AV) (os : List Prop), vs.size = cs.length → treeHL s cs = some (ds, os) → All os → (∀ (i : Nat) (c : AV) (v : Value), cs[i]? = some c → vs[i]? = some v → ∀ {y : AV} {os : List Prop}, treeH s c = some (y, os) → All os → Rep w G false y v) →
      vs.size = ds.length ∧ ∀ (i : Nat) (c : AV) (v : Value), ds[i]? = some c → vs[i]? = some v → Rep w G false c v := by
    intro cs vs ds os hl hd ho ih
    obtain ⟨h1, h2⟩ := treeHL_get hd ho
    refine ⟨by rw [h1]; exact hl, fun i c v hc hv => ?_⟩
    obtain ⟨x, os', hx, ht, ho'⟩ := h2 i c hc
    exact ih i x v hx hv ht ho'
  induction h with
  | undef l v => intro y os hy ho; simp [treeH] at hy
  | int l k n => intro y os hy ho; simp only [treeH] at hy; cases hy; exact .int _ _ _
  | bool l b => intro y os hy ho; simp only [treeH] at hy; cases hy; exact .bool _ _
  | str l s => intro y os hy ho; simp only [treeH] at hy; cases hy; exact .str _ _
  | agg l cs vs hl h h1 ih =>
    intro y os hy ho
    simp only [treeH] at hy
    split at hy
    · rename_i ds os' hd
      cases hy
      obtain ⟨h2, h3⟩ := lists cs vs ds _ hl hd ho ih
      exact .agg _ _ _ h2 h3 h1
    · cases hy
  | tup l cs vs hl h ih =>
    intro y os hy ho
    simp only [treeH] at hy
    split at hy
    · rename_i ds os' hd
      cases hy
      obtain ⟨h2, h3⟩ := lists cs vs ds _ hl hd ho ih
      exact .tup _ _ _ h2 h3
    · cases hy
  | fn l f cs vs hl h ih =>
    intro y os hy ho
    simp only [treeH] at hy
    split at hy
    · rename_i ds os' hd
      cases hy
      obtain ⟨h2, h3⟩ := lists cs vs ds _ hl hd ho ih
      exact .fn _ _ _ _ h2 h3
    · cases hy
  | nilFn l => intro y os hy ho; simp only [treeH] at hy; cases hy; exact .nilFn _
  | sl l nl n cells o A c vs hnl hpos hc hcell hrep hclip hown ih =>
    intro y os hy ho
    simp only [treeH] at hy
    cases hy
    refine .sl _ _ _ _ _ _ _ vs hnl hpos hc hcell hrep (fun e => hclip ?_) (fun t e => ?_)
    · cases o <;> simp_all [Own.tree]
    · cases o <;> simp_all [Own.tree]
  | rop l cells off ad vs hcell hrep ih => intro y os hy ho; simp only [treeH] at hy; cases hy; exact .rop _ _ _ _ vs hcell hrep
  | nilp l => intro y os hy ho; simp only [treeH] at hy; cases hy; exact .nilp _
  | ptr id off g h =>
    intro y os hy ho
    simp only [treeH] at hy
    have main : ∀ (cs : List AV) (vs : Array Value) (e : TypeId), w.heap[g]? = some (.cells vs e (0, 0)) → vs.size = cs.length → (∀ (i : Nat) (c : AV) (v : Value), cs[i]? = some c → vs[i]? = some v → Rep w G false c v) → (∀ v ∈ vs, v.oneCell' = true) →
        (∀ o, o < cs.length → G.F g o) → Rep w G false (.rop cs off) (.pointer (some ⟨g, off, none⟩)) := by
      intro cs vs e h1 h2 h3 h4 h5
      have := Rep.rop (w := w) (G := G) false cs off ⟨g, 0, none⟩ (fun j => vs.getD j undef) (fun j x hx => by
        have hj := (List.getElem?_eq_some_iff.1 hx).1
        have hj2 : j < vs.size := by omega
        exact ⟨by simpa using h5 j hj, by simp [World.cell?, h1, hj2], by simp [hj2, h4 _ (Array.getElem_mem hj2)]⟩) (fun j x hx => by
        have hj := (List.getElem?_eq_some_iff.1 hx).1
        have hj2 : j < vs.size := by omega
        simpa [hj2] using h3 j x vs[j] hx (Array.getElem?_eq_getElem hj2))
      simpa using this
    split at hy
    · rename_i cs hb
      cases hy
      obtain ⟨g', hg', hbase, ⟨vs, e, h1, h2, h3, h4, h5⟩, _⟩ := hR.blocks _ _ hb
      rw [h] at hg'
      cases hg'
      exact main cs vs e h1 h2 h3 h4 (fun o ho => h5 o ho rfl)
    · rename_i cs hb
      cases hy
      obtain ⟨g', hg', hbase, ⟨vs, e, h1, h2, h3, h4, h5⟩, _⟩ := hR.blocks _ _ hb
      rw [h] at hg'
      cases hg'
      exact main cs vs e h1 h2 h3 h4 (fun o ho => h5 o ho rfl)
    · cases hy
  | row id off n g c h hc =>
    intro y os hy ho
    simp only [treeH] at hy
    split at hy
    · rename_i cs hb
      cases hy
      obtain ⟨g', hg', hbase, ⟨vs, e, h1, h2, h3, h4, h5⟩, _⟩ := hR.blocks _ _ hb
      rw [h] at hg'
      cases hg'
      refine .sl _ _ _ _ _ _ _ (fun j => vs.getD (off + j) undef) (fun b hb => by cases hb; rfl) (fun _ => ⟨_, rfl, rfl⟩) hc (fun j x hx => ?_) (fun j x hx => ?_) (fun e => by cases e) (fun t e => by cases e)
      · rw [List.getElem?_drop] at hx
        have hj := (List.getElem?_eq_some_iff.1 hx).1
        have hj2 : off + j < vs.size := by omega
        refine ⟨_, rfl, rfl, h5 _ hj rfl, ?_, ?_⟩
        · simp [World.cell?, h1, hj2]
        · simp [hj2, h4 _ (Array.getElem_mem hj2)]
      · rw [List.getElem?_drop] at hx
        have hj := (List.getElem?_eq_some_iff.1 hx).1
        have hj2 : off + j < vs.size := by omega
        simpa [hj2] using h3 (off + j) x vs[off + j] hx (Array.getElem?_eq_getElem hj2)
    · cases hy
  | vec t n A k c r h hle hv =>
    intro y os hy ho
    simp only [treeH] at hy
    split at hy
    · rename_i m e sz cells ht
      cases hy
      simp only [All] at ho
      obtain ⟨r', hr', hok⟩ := hR.tags t _ ht
      rw [h] at hr'
      cases hr'
      obtain ⟨hro, hlen, hrep, hF⟩ := hok.hcs false cells rfl
      have e1 : r.n = n := by rw [hok.hn, ho]
      have hv' := hv e1
      have hx := hok.own hro
      rcases hx.2 with ⟨e2, e3⟩ | ⟨g, cap, cur, e2, _, _, h3, _⟩
      · rw [hv'] at e2
        cases e2
        have hn0 : n = 0 := by omega
        have hc0 : cells = [] := List.eq_nil_of_length_eq_zero (by rw [hlen, hx.1, e1, hn0]; simp)
        subst hn0; subst hc0
        exact .sl _ _ _ _ _ _ _ (fun _ => undef) (fun b hb => by cases hb) (fun h => by omega) (Nat.le_refl _) (fun j x h => by simp at h) (fun j x h => by simp at h) (fun e => by cases e) (fun t e => by cases e)
      · have hgb : r.v.ownBlock = some g := by rw [e2]; rfl
        rw [hv', e1] at e2
        cases e2
        refine .sl _ _ _ _ _ _ _ (fun j => r.xs.getD j undef) (fun b hb => by cases hb) (fun _ => ⟨_, rfl, rfl⟩) (by omega) (fun j x hj => ?_) (fun j x hj => ?_) (fun e => by cases e) (fun t e => by cases e)
        · have hlt : j < r.xs.length := by rw [← hlen]; exact (List.getElem?_eq_some_iff.1 hj).1
          have hcell := hx.cells hgb j r.xs[j] (List.getElem?_eq_getElem hlt)
          rw [add_plain] at hcell
          refine ⟨_, rfl, rfl, ?_, ?_, ?_⟩
          · simpa using hF rfl g hgb j (by rw [← hx.1]; exact hlt)
          · simpa [List.getD_eq_getElem?_getD, List.getElem?_eq_getElem hlt] using hcell
          · simpa [List.getD_eq_getElem?_getD, List.getElem?_eq_getElem hlt] using hok.one hro _ (List.getElem_mem hlt)
        · have hlt : j < r.xs.length := by rw [← hlen]; exact (List.getElem?_eq_some_iff.1 hj).1
          simpa [List.getD_eq_getElem?_getD, List.getElem?_eq_getElem hlt] using hrep j x _ hj (List.getElem?_eq_getElem hlt)
    · cases hy
  | vptr t n off p r h hle hv => intro y os hy ho; simp [treeH] at hy

def freeze1 (s : AS) (id : Nat) : Option (AS × List Prop) :=
  match Nat.ble 5000000 id with
  | true => match look s.tags (id - 5000000) with
    | some ⟨n, e, sz, some (_, cells)⟩ => some (s.tag (id - 5000000) ⟨n, e, sz, some (false, cells)⟩, [])
    | _ => none
  | false => match look s.heap id with
    | some (.var true cs) => match treeHL s cs with
      | some (ds, os) => some (s.blk id (.var false ds), os)
      | none => none
    | some (.rows true cs) => some (s.blk id (.rows false cs), [])
    | some (.var false _) => some (s, [])
    | some (.rows false _) => some (s, [])
    | _ => none
def freezeAll (s : AS) : List Nat → Option (AS × List Prop)
  | [] => some (s, [])
  | i :: r => match freeze1 s i with
    | some (s1, a) => match freezeAll s1 r with
      | some (s2, b) => some (s2, a ++ b)
      | none => none
    | none => none

theorem RelG.still {C : Ctx} {G : Env} {s : AS} {a : Act} {w : World} (h : RelG C G s a w) {i g : Nat} {b b' : Blk} (hi : look s.heap i = some b) (hg : G.φ i = some g) (hrw : b.rw = true) (hrw' : b'.rw = false) {n : Nat}
    (hb : BlkOk w { G with F := fun b o => G.F b o ∨ (b = g ∧ o < n) } g b') : RelG C { G with F := fun b o => G.F b o ∨ (b = g ∧ o < n) } (s.blk i b') a w ∧ Env.Le w G w { G with F := fun b o => G.F b o ∨ (b = g ∧ o < n) } := by
  obtain ⟨g0, h0, hbase, hok, hnF⟩ := h.blocks i b hi
  rw [hg] at h0
  cases h0
  have hle : Env.Le w G w { G with F := fun b o => G.F b o ∨ (b = g ∧ o < n) } := ⟨fun _ _ h => .inl h, fun _ _ _ => rfl, fun _ _ h => h, fun t r hr => ⟨r, hr, Nat.le_refl _, fun _ => rfl⟩⟩
  refine ⟨h.mv (hp := (i, b') :: s.heap) (tg := s.tags) ⟨h.mem.keep, h.mem.le.trans hle, ?_, ?_, ?_, ?_, h.inj, ?_, h.notag⟩ hle, hle⟩
  · intro b o hf
    rcases hf with hf | ⟨rfl, _⟩
    · exact h.fdom b o hf
    · exact hok.lt
  · intro b o hf hlt
    rcases hf with hf | ⟨rfl, _⟩
    · exact h.mem.fold b o hf hlt
    · rcases hbase with h1 | h1
      · omega
      · exact .inr h1
  · intro j c hj
    simp only [look_cons] at hj
    split at hj
    · rename_i e
      cases hj
      subst e
      exact ⟨g, hg, hbase, hb, fun hw => by rw [hrw'] at hw; cases hw⟩
    · rename_i e
      obtain ⟨g', h1, h2, h3, h4⟩ := h.blocks j c hj
      have hne : g' ≠ g := fun hh => e (h.inj i j g hg (hh ▸ h1))
      refine ⟨g', h1, h2, h3.le rfl hle, fun hw o hf => ?_⟩
      rcases hf with hf | ⟨hf, _⟩
      · exact h4 hw o hf
      · exact hne hf
  · intro j hj
    simp only [look_cons] at hj
    split at hj
    · cases hj
    · exact h.noblock j hj
  · intro t n' ht
    obtain ⟨r, hr, hok⟩ := h.tags t n' ht
    refine ⟨r, hr, hok.mv hle (fun _ _ _ => rfl) (fun ho g' hg' o hf => ?_) hok.hφ hok.hτ⟩
    rcases hf with hf | ⟨hf, _⟩
    · exact .inl hf
    · exact absurd (hf ▸ hg) (hok.hφ ho g' hg' i)

/-- A slice whose elements may be written is from now on only read, and appended to. -/
theorem RelG.stillT {C : Ctx} {G : Env} {s : AS} {a : Act} {w : World} (h : RelG C G s a w) {t n : Nat} {e : TypeId} {sz : Nat} {b : Bool} {cells : List AV} (ht : look s.tags t = some ⟨n, e, sz, some (b, cells)⟩) :
    ∃ G', RelG C G' (s.tag t ⟨n, e, sz, some (false, cells)⟩) a w ∧ Env.Le w G w G' := by
  obtain ⟨r, hr, hok⟩ := h.tags t _ ht
  obtain ⟨hro, hlen, hrep, hcF⟩ := hok.hcs b cells rfl
  let G' : Env := { G with F := fun b o => G.F b o ∨ (r.v.ownBlock = some b ∧ o < r.n * r.sz) }
  have hle : Env.Le w G w G' := ⟨fun _ _ h => .inl h, fun _ _ _ => rfl, fun _ _ h => h, fun t r hr => ⟨r, hr, Nat.le_refl _, fun _ => rfl⟩⟩
  refine ⟨G', h.mv (hp := s.heap) (tg := (t, ⟨n, e, sz, some (false, cells)⟩) :: s.tags) ⟨h.mem.keep, h.mem.le.trans hle, ?_, ?_, ?_, h.noblock, h.inj, ?_, ?_⟩ hle, hle⟩
  · intro b o hf
    rcases hf with hf | ⟨hf, _⟩
    · exact h.fdom b o hf
    · exact ((hok.own hro).lt b hf).2
  · intro b o hf hlt
    rcases hf with hf | ⟨hf, _⟩
    · exact h.mem.fold b o hf hlt
    · rcases hok.base hro b hf with h1 | h1
      · omega
      · exact .inr h1
  · intro j c hj
    obtain ⟨g', h1, h2, h3, h4⟩ := h.blocks j c hj
    refine ⟨g', h1, h2, h3.le rfl hle, fun hw o hf => ?_⟩
    rcases hf with hf | ⟨hf, _⟩
    · exact h4 hw o hf
    · exact hok.hφ hro g' hf j h1
  · intro u k hu
    simp only [look_cons] at hu
    split at hu
    · rename_i e'
      cases hu
      subst e'
      refine ⟨r, hr, ⟨hok.hn, hok.he, hok.hsz, fun ho => (by rw [hro] at ho; cases ho), hok.own, hok.one, hok.base, fun _ g hg o hf => ⟨?_, rfl⟩, hok.hφ, hok.hτ, fun b' cells' hc => ?_⟩⟩
      · rcases hf with hf | ⟨_, hf⟩
        · exact (hok.hF hro g hg o hf).1
        · exact hf
      · cases hc
        exact ⟨hro, hlen, fun i c v hi hv => (hrep i c v hi hv).mono hle, fun _ g hg o ho => .inr ⟨hg, ho⟩⟩
    · rename_i e'
      obtain ⟨ru, h2, hok2⟩ := h.tags u k hu
      refine ⟨ru, h2, hok2.mv hle (fun _ _ _ => rfl) (fun hou g hg o hf => ?_) hok2.hφ hok2.hτ⟩
      rcases hf with hf | ⟨hf, _⟩
      · exact .inl hf
      · exact absurd (hok2.hτ hou g hg t r hr hro hf) e'
  · intro u hu
    simp only [look_cons] at hu
    split at hu
    · cases hu
    · exact h.notag u hu

theorem freeze1_sound {C : Ctx} {G : Env} {s s' : AS} {a : Act} {w : World} (h : RelG C G s a w) {id : Nat} {os : List Prop} (hf : freeze1 s id = some (s', os)) (ho : All os) : ∃ G', RelG C G' s' a w ∧ Env.Le w G w G' := by
  unfold freeze1 at hf
  split at hf
  · split at hf
    · rename_i n e sz b cells ht
      cases hf
      exact h.stillT ht
    · cases hf
  · split at hf
    · rename_i cs hb
      split at hf
      · rename_i ds os' hd
        cases hf
        obtain ⟨g, hg, hbase, ⟨vs, e, h1, h2, h3, h4, h5⟩, hnF⟩ := h.blocks _ _ hb
        obtain ⟨h6, h7⟩ := treeHL_get hd ho
        obtain ⟨r1, r2⟩ := h.still (b' := .var false ds) hb hg rfl rfl (n := ds.length) ⟨vs, e, h1, by rw [h6]; exact h2, fun i c v hc hv => by
          obtain ⟨x, os2, hx, ht, ho2⟩ := h7 i c hc
          exact (treeH_sound h (h3 i x v hx hv) ht ho2).tree (fun b o hf => .inl hf), h4, fun o ho _ => .inr ⟨rfl, ho⟩⟩
        exact ⟨_, r1, r2⟩
      · cases hf
    · rename_i cs hb
      cases hf
      obtain ⟨g, hg, hbase, ⟨vs, e, h1, h2, h3, h4, h5⟩, hnF⟩ := h.blocks _ _ hb
      obtain ⟨r1, r2⟩ := h.still (b' := .rows false cs) hb hg rfl rfl (n := cs.length) ⟨vs, e, h1, h2, fun i c v hc hv => (h3 i c v hc hv).tree (fun b o hf => .inl hf), h4, fun o ho _ => .inr ⟨rfl, ho⟩⟩
      exact ⟨_, r1, r2⟩
    · cases hf
      exact ⟨G, h, Env.Le.refl _ _⟩
    · cases hf
      exact ⟨G, h, Env.Le.refl _ _⟩
    · cases hf

theorem freezeAll_sound {C : Ctx} {a : Act} {w : World} : ∀ {ids : List Nat} {G : Env} {s s' : AS} {os : List Prop}, RelG C G s a w → freezeAll s ids = some (s', os) → All os → ∃ G', RelG C G' s' a w ∧ Env.Le w G w G'
  | [], G, s, s', os, h, hf, ho => by cases hf; exact ⟨G, h, Env.Le.refl _ _⟩
  | i :: r, G, s, s', os, h, hf, ho => by
    simp only [freezeAll] at hf
    split at hf
    · rename_i s1 a1 h1
      split at hf
      · rename_i s2 b1 h2
        cases hf
        obtain ⟨ho1, ho2⟩ := All_append.1 ho
        obtain ⟨G1, r1, r2⟩ := freeze1_sound h h1 ho1
        obtain ⟨G2, r3, r4⟩ := freezeAll_sound r1 h2 ho2
        exact ⟨G2, r3, r2.trans r4⟩
      · cases hf
    · cases hf

end Go.AX
end

section
set_option linter.unusedVariables false
set_option linter.unusedSimpArgs false
namespace Go.AX
open Go Go.RowKit

/-! ### Contracts -/
/-- A result's parts, where it is a struct or several values. -/
def tops : AV → List AV
  | .agg cs => cs
  | .tup cs => cs
  | x => [x]
def topsV : Value → List Value
  | .agg cs => cs.toList
  | .tuple cs => cs.toList
  | x => [x]
/-- A part that is new, and may be appended to: what the world says of it. -/
def FrOk (base : Nat) (w : World) : AV → Value → Option TagRec → Prop
  | .sl _ n _ (.fresh e sz), v, some r => r.v = v ∧ r.n = n ∧ r.e = e ∧ r.sz = sz ∧ (r.o = false → ∃ A, v = .slice A n n ∧ (A = none → n = 0)) ∧ (r.o = true → w.ownsRow base e sz v n r.xs ∧ ∀ u ∈ r.xs, u.oneCell' = true)
  | .sl _ _ _ (.fresh _ _), _, none => False
  | _, _, none => True
  | _, _, some _ => False
/-- What is read behind the call: as before, and what is new, but for the places that fresh parts may still be appended at. -/
def Fr (F : Nat → Nat → Prop) (w w' : World) (rs : List (Option TagRec)) (b o : Nat) : Prop :=
  F b o ∨ (w.heap.size ≤ b ∧ b < w'.heap.size ∧ ∀ r, some r ∈ rs → r.o = true → r.v.ownBlock = some b → o < r.n * r.sz)

structure Res (F : Nat → Nat → Prop) (w w' : World) (res : AV) (v : Value) (rs : List (Option TagRec)) : Prop where
  below : Below w.heap.size w w'
  len : rs.length = (tops res).length
  lenV : (topsV v).length = (tops res).length
  ok : ∀ (i : Nat) (x : AV) (u : Value) (r : Option TagRec), (tops res)[i]? = some x → (topsV v)[i]? = some u → rs[i]? = some r → FrOk w.heap.size w' x u r
  apart : ∀ (i j : Nat) (r r' : TagRec) (g : Nat), rs[i]? = some (some r) → rs[j]? = some (some r') → r.o = true → r'.o = true → r.v.ownBlock = some g → r'.v.ownBlock = some g → i = j
  rep : Rep w' (envF (Fr F w w' rs)) false res v

def Args (w : World) (F : Nat → Nat → Prop) (xs : List AV) (vs : Array Value) : Prop :=
  vs.size = xs.length ∧ ∀ (i : Nat) (c : AV) (v : Value), xs[i]? = some c → vs[i]? = some v → Rep w (envF F) false c v

/-- THE CONTRACT: called with what these trees stand for, the function returns what that one stands for; what was there stays. -/
def Ctr (P : Program) (f : FuncId) (args : List AV) (res : AV) : Prop :=
  (∀ vs w, (callFunc f vs).run P w = .ok (.enter f vs) w) ∧
  ∀ (w : World) (F : Nat → Nat → Prop) (vs : Array Value), (∀ b o, F b o → b < w.heap.size) → Args w F args vs → Calls P f vs w fun e w' => ∃ v rs, e = .returned v ∧ Res F w w' res v rs

/-- Parts that are new come under tags. -/
def impL (s : AS) (d : Nat) : List AV → Option (AS × List AV)
  | [] => some (s, [])
  | .sl nl n cells (.fresh e sz) :: r => match look s.tags d with
    | none => match impL (s.tag d ⟨n, e, sz, none⟩) (d + 1000) r with
      | some (s', l) => some (s', .sl nl n cells (.own d) :: l)
      | none => none
    | some _ => none
  | x :: r => match impL s (d + 1000) r with
    | some (s', l) => some (s', x :: l)
    | none => none
def imp (s : AS) (d : Nat) (res : AV) : Option (AS × AV) :=
  match res with
  | .agg cs => match impL s d cs with
    | some (s', l) => some (s', .agg l)
    | none => none
  | .tup cs => match impL s d cs with
    | some (s', l) => some (s', .tup l)
    | none => none
  | .sl nl n cells o => match impL s d [.sl nl n cells o] with
    | some (s', [y]) => some (s', y)
    | _ => none
  | x => some (s, x)

theorem own_lower {w : World} {b b' : Nat} {e : TypeId} {size n : Nat} {v : Value} {xs : List Value} (h : w.ownsRow b e size v n xs) (hb : b' ≤ b) : w.ownsRow b' e size v n xs := by
  refine ⟨h.1, ?_⟩
  rcases h.2 with h2 | ⟨g, cap, cur, e1, hg, h3⟩
  · exact .inl h2
  · exact .inr ⟨g, cap, cur, e1, Nat.le_trans hb hg, h3⟩

theorem impL_sound {C : Ctx} {a : Act} {w w' : World} {rs0 : List (Option TagRec)} (hsz : C.w0.heap.size ≤ w.heap.size) (hapart : ∀ (i j : Nat) (r r' : TagRec) (g : Nat), rs0[i]? = some (some r) → rs0[j]? = some (some r') → r.o = true → r'.o = true → r.v.ownBlock = some g → r'.v.ownBlock = some g → i = j) :
    ∀ (xs : List AV) (us : List Value) (rs : List (Option TagRec)) (k d : Nat) (G : Env) (s s' : AS) (l : List AV), us.length = xs.length → rs.length = xs.length → (∀ i r, rs[i]? = some r → rs0[k + i]? = some r) →
    (∀ (i : Nat) (x : AV) (u : Value) (r : Option TagRec), xs[i]? = some x → us[i]? = some u → rs[i]? = some r → FrOk w.heap.size w' x u r) →
    (∀ (i : Nat) (x : AV) (u : Value), xs[i]? = some x → us[i]? = some u → Rep w' G false x u) → RelG C G s a w' →
    (∀ b o, w.heap.size ≤ b → G.F b o → ∀ r, some r ∈ rs0 → r.o = true → r.v.ownBlock = some b → o < r.n * r.sz) → (∀ i g, G.φ i = some g → g < w.heap.size) →
    (∀ t r g, G.τ t = some r → r.o = true → r.v.ownBlock = some g → g < w.heap.size ∨ ∃ i r1, i < k ∧ rs0[i]? = some (some r1) ∧ r1.o = true ∧ r1.v.ownBlock = some g) →
    impL s d xs = some (s', l) → ∃ G', RelG C G' s' a w' ∧ Env.Le w' G w' G' ∧ l.length = xs.length ∧ ∀ (i : Nat) (x : AV) (u : Value), l[i]? = some x → us[i]? = some u → Rep w' G' true x u
  | [], us, rs, k, d, G, s, s', l, hu, hr, hk, hok, hrep, hR, hF, hφ, hτ, h => by
    cases h
    exact ⟨G, hR, Env.Le.refl _ _, rfl, fun i x u hx => by simp at hx⟩
  | x :: xs, us, rs, k, d, G, s, s', l, hu, hr, hk, hok, hrep, hR, hF, hφ, hτ, h => by
    cases us with
    | nil => simp at hu
    | cons u us =>
    cases rs with
    | nil => simp at hr
    | cons r rs =>
    have ok0 := hok 0 x u r rfl rfl rfl
    have rep0 := hrep 0 x u rfl rfl
    have step : ∀ (G1 : Env) (s1 : AS) (y : AV) (l1 : List AV), RelG C G1 s1 a w' → Env.Le w' G w' G1 → (∀ b o, w.heap.size ≤ b → G1.F b o → ∀ r, some r ∈ rs0 → r.o = true → r.v.ownBlock = some b → o < r.n * r.sz) → (∀ i g, G1.φ i = some g → g < w.heap.size) →
        (∀ t r g, G1.τ t = some r → r.o = true → r.v.ownBlock = some g → g < w.heap.size ∨ ∃ i r1, i < k + 1 ∧ rs0[i]? = some (some r1) ∧ r1.o = true ∧ r1.v.ownBlock = some g) → impL s1 (d + 1000) xs = some (s', l1) → Rep w' G1 true y u →
        ∃ G', RelG C G' s' a w' ∧ Env.Le w' G w' G' ∧ (y :: l1).length = (x :: xs).length ∧ ∀ (i : Nat) (x : AV) (u' : Value), (y :: l1)[i]? = some x → (u :: us)[i]? = some u' → Rep w' G' true x u' := by
      intro G1 s1 y l1 hR1 hle hF1 hφ1 hτ1 hi hy
      obtain ⟨G', h1, h2, h3, h4⟩ := impL_sound hsz hapart xs us rs (k + 1) (d + 1000) G1 s1 s' l1 (by simpa using hu) (by simpa using hr) (fun i r hi => by
        have := hk (i + 1) r (by simpa using hi)
        rwa [show k + (i + 1) = k + 1 + i by omega] at this) (fun i x u r a b c => hok (i + 1) x u r (by simpa using a) (by simpa using b) (by simpa using c)) (fun i x u a b => (hrep (i + 1) x u (by simpa using a) (by simpa using b)).mono hle) hR1 hF1 hφ1 hτ1 hi
      refine ⟨G', h1, hle.trans h2, by simp [h3], fun i x' u' hx hu' => ?_⟩
      match i, hx, hu' with
      | 0, hx, hu' =>
        simp at hx hu'
        subst hx; subst hu'
        exact hy.mono h2
      | n + 1, hx, hu' => exact h4 n x' u' (by simpa using hx) (by simpa using hu')
    unfold impL at h
    split at h
    · rename_i heq
      cases heq
    · rename_i nl n cells e sz xs' heq
      cases heq
      split at h
      · rename_i hl
        split at h
        · rename_i s1 l1 hi
          cases h
          cases r with
          | none => exact ok0.elim
          | some r =>
            obtain ⟨o2, o3, o4, o5, o6, o7⟩ := ok0
            have hr0 : rs0[k]? = some (some r) := hk 0 _ rfl
            have hmem : some r ∈ rs0 := List.mem_of_getElem? hr0
            have hgb : r.o = true → ∀ g, r.v.ownBlock = some g → w.heap.size ≤ g := fun ho g hg => ((o7 ho).1.lt g (by rw [← o2]; exact hg)).1
            obtain ⟨h1, h2⟩ := hR.addTag (t := d) (m := ⟨n, e, sz, none⟩) (r := r) hl o3 o4 o5 (fun e => ⟨rfl, by rw [o2, o3]; exact o6 e⟩) (fun ho => ⟨by rw [o4, o5, o3, o2]; exact own_lower (o7 ho).1 (Nat.zero_le _), (o7 ho).2, fun g hg => ⟨.inl (Nat.le_trans hsz (hgb ho g hg)), fun o hf => ⟨hF g o (hgb ho g hg) hf r hmem ho hg, rfl⟩, fun i hi => by have := hφ i g hi; have := hgb ho g hg; omega, fun t' r' hr' ho' hb' => by
              rcases hτ t' r' g hr' ho' hb' with h9 | ⟨i, r1, hlt, h9, h10, h11⟩
              · have := hgb ho g hg; omega
              · have := hapart i k r1 r g h9 hr0 h10 ho h11 hg
                omega⟩⟩) (fun b cs hc => by cases hc)
            refine step (G.setT d r) _ _ l1 h1 h2 hF hφ (fun t r' g hr' ho' hb' => ?_) hi ?_
            · simp only [Env.setT] at hr'
              split at hr'
              · cases hr'
                exact .inr ⟨k, r, by omega, hr0, ho', hb'⟩
              · rcases hτ t r' g hr' ho' hb' with h9 | ⟨i, r1, hlt, h9, h10⟩
                · exact .inl h9
                · exact .inr ⟨i, r1, by omega, h9, h10⟩
            · cases rep0 with
              | sl _ _ _ _ _ A c vs hnl hpos hc hcell hrep' hclip hown =>
                refine .sl _ _ _ _ _ _ _ vs hnl hpos hc hcell (fun j x hx => (hrep' j x hx).mono h2) (fun e => by cases e) (fun t' ht' => ?_)
                cases ht'
                exact ⟨rfl, r, by simp [Env.setT], by omega, fun _ => o2⟩
        · cases h
      · cases h
    · rename_i x' xs' _ heq
      cases heq
      split at h
      · rename_i s1 l1 hi
        cases h
        exact step G _ _ l1 hR (Env.Le.refl _ _) hF hφ (fun t r g a b c => by
          rcases hτ t r g a b c with h9 | ⟨i, r1, hlt, h9, h10⟩
          · exact .inl h9
          · exact .inr ⟨i, r1, by omega, h9, h10⟩) hi rep0.up
      · cases h

/-- Behind a call: the world is another one, what is handed back stands for the result. -/
theorem RelG.call {C : Ctx} {G : Env} {s s' : AS} {a : Act} {w w' : World} (h : RelG C G s a w) {res y : AV} {v : Value} {rs : List (Option TagRec)} {d : Nat} (hr : Res G.F w w' res v rs) (hi : imp s d res = some (s', y)) : ∃ G', RelG C G' s' a w' ∧ Rep w' G' true y v := by
  obtain ⟨h1, h2⟩ := h.grow (G' := { G with F := Fr G.F w w' rs }) hr.below rfl rfl (fun b o hf => .inl hf) (fun b o hf => by
    rcases hf with hf | ⟨h3, h4, _⟩
    · exact .inl hf
    · exact .inr ⟨h3, h4⟩)
  have hrep : Rep w' { G with F := Fr G.F w w' rs } false res v := hr.rep.tree (fun b o hf => hf)
  have core : ∀ (l : List AV), impL s d (tops res) = some (s', l) → ∃ G', RelG C G' s' a w' ∧ Env.Le w' { G with F := Fr G.F w w' rs } w' G' ∧ l.length = (tops res).length ∧ ∀ (i : Nat) (x : AV) (u : Value), l[i]? = some x → (topsV v)[i]? = some u → Rep w' G' true x u := by
    intro l hl
    refine impL_sound (w := w) (rs0 := rs) h.mem.size hr.apart (tops res) (topsV v) rs 0 d _ s s' l hr.lenV hr.len (fun i r h => by rwa [Nat.zero_add]) hr.ok ?_ h1 (fun b o hb hf r hm ho hg => ?_) (fun i g hg => h.blk_lt hg) (fun t r g hr' ho hb => .inl (h.tag_lt hr' ho hb)) hl
    · intro i x u hx hu
      cases res <;> first
        | (cases hrep with | agg _ cs vs hl' hr' h1' => exact hr' i x u hx (by simpa [topsV] using hu))
        | (cases hrep with | tup _ cs vs hl' hr' => exact hr' i x u hx (by simpa [topsV] using hu))
        | skip
      all_goals (
        have e1 : i = 0 := by
          simp only [tops] at hx
          have := (List.getElem?_eq_some_iff.1 hx).1
          simpa using this
        subst e1
        simp only [tops, List.getElem?_cons_zero, Option.some.injEq] at hx
        subst hx
        first
          | exact .undef _ _
          | (have hv : topsV v = [v] := by cases hrep <;> rfl
             rw [hv] at hu
             simp at hu
             subst hu
             exact hrep))
    · rcases hf with hf | ⟨_, _, h3⟩
      · exact absurd (h.fdom b o hf) (by omega)
      · exact h3 r hm ho hg
  unfold imp at hi
  split at hi
  · rename_i cs
    split at hi
    · rename_i s1 l hl
      cases hi
      obtain ⟨G', h3, h4, h5, h6⟩ := core l hl
      cases hrep with
      | agg _ _ vs hl' hr' h1' => exact ⟨G', h3, .agg _ _ _ (by rw [h5]; exact hl') (fun i c v hc hv => h6 i c v hc (by simpa [topsV] using hv)) h1'⟩
    · cases hi
  · rename_i cs
    split at hi
    · rename_i s1 l hl
      cases hi
      obtain ⟨G', h3, h4, h5, h6⟩ := core l hl
      cases hrep with
      | tup _ _ vs hl' hr' => exact ⟨G', h3, .tup _ _ _ (by rw [h5]; exact hl') (fun i c v hc hv => h6 i c v hc (by simpa [topsV] using hv))⟩
    · cases hi
  · rename_i nl n cells o
    split at hi
    · rename_i s1 y' hl
      cases hi
      obtain ⟨G', h3, h4, h5, h6⟩ := core [y] hl
      refine ⟨G', h3, h6 0 y v rfl ?_⟩
      cases hrep
      rfl
    · cases hi
  · cases hi
    exact ⟨_, h1, hrep.up⟩

/-! ### The operation -/
mutual
def scalarA : AV → Bool
  | .int _ _ => true
  | .bool _ => true
  | .str _ => true
  | .tup cs => scalarL cs
  | .agg cs => scalarL cs
  | _ => false
def scalarL : List AV → Bool
  | [] => true
  | x :: xs => scalarA x && scalarL xs
end
theorem scalarL_get : ∀ {xs : List AV}, scalarL xs = true → ∀ (i : Nat) (x : AV), xs[i]? = some x → scalarA x = true
  | [], _, i, x, hx => by simp at hx
  | y :: ys, h, i, x, hx => by
    simp only [scalarL, Bool.and_eq_true] at h
    match i, hx with
    | 0, hx => simp at hx; subst hx; exact h.1
    | n + 1, hx => exact scalarL_get h.2 n x (by simpa using hx)
theorem scalar_rep {w w' : World} {G G' : Env} {l l' : Bool} {x : AV} {v : Value} (h : Rep w G l x v) (hs : scalarA x = true) : Rep w' G' l' x v := by
  induction h with
  | int => exact .int _ _ _
  | bool => exact .bool _ _
  | str => exact .str _ _
  | agg l cs vs hl h h1 ih =>
    simp only [scalarA] at hs
    exact .agg _ _ _ hl (fun i c v a b => ih i c v a b (scalarL_get hs i c a)) h1
  | tup l cs vs hl h ih =>
    simp only [scalarA] at hs
    exact .tup _ _ _ hl (fun i c v a b => ih i c v a b (scalarL_get hs i c a))
  | _ => simp [scalarA] at hs

def callA (P : Program) (s : AS) (d : Nat) (f : AV) (xs : List AV) (ann : Option Ann) : SR :=
  match f, Ann.call? ann with
  | .fn fid caps, some (zs, g) => match freezeAll s zs with
    | some (s1, a) => match treeHL s1 (xs ++ caps) with
      | some (ys, b) => match scalarA (g ys) with
        | true => some (s, g ys, a ++ (b ++ [Ctr P fid ys (g ys)]))
        | false => match imp s1 d (g ys) with
          | some (s2, v) => some (s2, v, a ++ (b ++ [Ctr P fid ys (g ys)]))
          | none => none
      | none => none
    | none => none
  | _, _ => none

theorem callA_sound {P : Program} {C : Ctx} {G : Env} {s s' : AS} {a : Act} {w : World} (h : RelG C G s a w) {d : Nat} {f y : AV} {xs : List AV} {ann : Option Ann} {vf : Value} {us : Array Value} (hf : Rep w G true f vf) (hl : us.size = xs.length) (hx : ∀ (i : Nat) (c : AV) (v : Value), xs[i]? = some c → us[i]? = some v → Rep w G true c v)
    {os : List Prop} (hn : callA P s d f xs ann = some (s', y, os)) (ho : All os) : ∃ fid caps, vf = .func (.func fid) #[] caps ∧ (callFunc fid (us ++ caps)).run P w = .ok (.enter fid (us ++ caps)) w ∧
      Calls P fid (us ++ caps) w fun e w' => ∃ v G', e = .returned v ∧ RelG C G' s' a w' ∧ Rep w' G' true y v := by
  unfold callA at hn
  split at hn
  · rename_i fid caps zs g _
    cases hf with
    | fn _ _ _ cvs hcl hcr =>
    split at hn
    · rename_i s1 a1 hs1
      split at hn
      · rename_i ys b1 hys
        have main : All (a1 ++ (b1 ++ [Ctr P fid ys (g ys)])) → ∃ G1, RelG C G1 s1 a w ∧ Args w G1.F ys (us ++ cvs) ∧ Ctr P fid ys (g ys) := by
          intro ho
          obtain ⟨ho1, ho2⟩ := All_append.1 ho
          obtain ⟨ho2, ho3⟩ := All_append.1 ho2
          obtain ⟨G1, hR1, hle1⟩ := freezeAll_sound h hs1 ho1
          obtain ⟨hy1, hy2⟩ := treeHL_get hys ho2
          refine ⟨G1, hR1, ⟨by rw [hy1]; simp [hl, hcl], fun i c v hc hv => ?_⟩, ho3⟩
          obtain ⟨x, os', hx', ht, ho'⟩ := hy2 i c hc
          have hrx : Rep w G1 true x v := by
            by_cases hi : i < xs.length
            · rw [List.getElem?_append_left hi] at hx'
              rw [Array.getElem?_append_left (by omega)] at hv
              exact (hx i x v hx' hv).mono hle1
            · rw [List.getElem?_append_right (by omega)] at hx'
              rw [Array.getElem?_append_right (by omega), hl] at hv
              exact (hcr _ x v hx' hv).mono hle1
          exact (treeH_sound hR1 hrx ht ho').tree (fun b o hf => hf)
        split at hn
        · rename_i hsc
          cases hn
          obtain ⟨G1, hR1, hargs, hctr⟩ := main ho
          refine ⟨_, cvs, rfl, hctr.1 _ _, (hctr.2 w G1.F _ hR1.fdom hargs).mono fun e w' hh => ?_⟩
          obtain ⟨v, rs, rfl, hres⟩ := hh
          obtain ⟨h1, h2⟩ := h.grow (G' := G) hres.below rfl rfl (fun _ _ h => h) (fun _ _ h => .inl h)
          exact ⟨v, G, rfl, h1, scalar_rep hres.rep hsc⟩
        · split at hn
          · rename_i s2 v hi
            cases hn
            obtain ⟨G1, hR1, hargs, hctr⟩ := main ho
            refine ⟨_, cvs, rfl, hctr.1 _ _, (hctr.2 w G1.F _ hR1.fdom hargs).mono fun e w' hh => ?_⟩
            obtain ⟨v, rs, rfl, hres⟩ := hh
            obtain ⟨G', h1, h2⟩ := hR1.call hres hi
            exact ⟨v, G', rfl, h1, h2⟩
          · cases hn
      · cases hn
    · cases hn
  · cases hn

end Go.AX
end

section
set_option linter.unusedVariables false
set_option linter.unusedSimpArgs false
namespace Go.AX
open Go Go.RowKit

/-- A value that names no block and no tag but those of a state. -/
def isS {α : Type} : Option α → Bool
  | some _ => true
  | none => false
mutual
def idsOk (s : AS) : AV → Bool
  | .ptr b _ => isS (look s.heap b)
  | .row b _ _ => isS (look s.heap b)
  | .sl _ _ _ (.own t) => isS (look s.tags t)
  | .vec t _ => isS (look s.tags t)
  | .vptr t _ _ => isS (look s.tags t)
  | .agg xs => idsOkL s xs
  | .tup xs => idsOkL s xs
  | .fn _ xs => idsOkL s xs
  | _ => true
def idsOkL (s : AS) : List AV → Bool
  | [] => true
  | x :: xs => idsOk s x && idsOkL s xs
end
theorem idsOkL_get {s : AS} : ∀ {xs : List AV}, idsOkL s xs = true → ∀ (i : Nat) (x : AV), xs[i]? = some x → idsOk s x = true
  | [], _, i, x, hx => by simp at hx
  | y :: ys, h, i, x, hx => by
    simp only [idsOkL, Bool.and_eq_true] at h
    match i, hx with
    | 0, hx => simp at hx; subst hx; exact h.1
    | n + 1, hx => exact idsOkL_get h.2 n x (by simpa using hx)

def Env.cut (G : Env) (s : AS) : Env := { G with φ := fun i => if isS (look s.heap i) then G.φ i else none, τ := fun t => if isS (look s.tags t) then G.τ t else none }
theorem idsOk_rep {w : World} {G : Env} {s : AS} {l : Bool} {x : AV} {v : Value} (h : Rep w G l x v) : idsOk s x = true → Rep w (G.cut s) l x v := by
  have trees : ∀ {y : AV} {u : Value}, Rep w G false y u → Rep w (G.cut s) false y u := fun hy => hy.tree (fun b o hf => hf)
  induction h with
  | undef l v => intro _; exact .undef _ _
  | int l k n => intro _; exact .int _ _ _
  | bool l b => intro _; exact .bool _ _
  | str l s => intro _; exact .str _ _
  | agg l cs vs hl h h1 ih => intro hs; simp only [idsOk] at hs; exact .agg _ _ _ hl (fun i c v a b => ih i c v a b (idsOkL_get hs i c a)) h1
  | tup l cs vs hl h ih => intro hs; simp only [idsOk] at hs; exact .tup _ _ _ hl (fun i c v a b => ih i c v a b (idsOkL_get hs i c a))
  | fn l f cs vs hl h ih => intro hs; simp only [idsOk] at hs; exact .fn _ _ _ _ hl (fun i c v a b => ih i c v a b (idsOkL_get hs i c a))
  | nilFn l => intro _; exact .nilFn _
  | sl l nl n cells o A c vs hnl hpos hc hcell hrep hclip hown ih =>
    intro hs
    refine .sl _ _ _ _ _ _ _ vs hnl hpos hc hcell (fun j x hx => trees (hrep j x hx)) hclip (fun t e => ?_)
    subst e
    simp only [idsOk] at hs
    obtain ⟨h1, r, hr, h2⟩ := hown t rfl
    exact ⟨h1, r, by simp [Env.cut, hs, hr], h2⟩
  | rop l cells off ad vs hcell hrep ih => intro _; exact .rop _ _ _ _ vs hcell (fun j x hx => trees (hrep j x hx))
  | nilp l => intro _; exact .nilp _
  | ptr id off g h => intro hs; simp only [idsOk] at hs; exact .ptr _ _ _ (by simp [Env.cut, hs, h])
  | row id off n g c h hc => intro hs; simp only [idsOk] at hs; exact .row _ _ _ _ _ (by simp [Env.cut, hs, h]) hc
  | vec t n A m c r h hle hv => intro hs; simp only [idsOk] at hs; exact .vec _ _ _ _ _ r (by simp [Env.cut, hs, h]) hle hv
  | vptr t n off p r h hle hv => intro hs; simp only [idsOk] at hs; exact .vptr _ _ _ _ r (by simp [Env.cut, hs, h]) hle hv
def idsB (s : AS) : Blk → Bool
  | .var true xs => idsOkL s xs
  | _ => true
def idsH (s : AS) : List (Nat × Blk) → Bool
  | [] => true
  | (_, v) :: r => idsB s v && idsH s r
theorem idsH_look {s : AS} : ∀ {l : List (Nat × Blk)} {i : Nat} {v : Blk}, idsH s l = true → look l i = some v → idsB s v = true
  | [], i, v, h, hl => by simp [look] at hl
  | (j, u) :: r, i, v, h, hl => by
    simp only [idsH, Bool.and_eq_true] at h
    rw [look_cons] at hl
    split at hl
    · cases hl; exact h.1
    · exact idsH_look h.2 hl
theorem BlkOk.cut {w : World} {G : Env} {g : Nat} {s : AS} {b : Blk} (h : BlkOk w G g b) (hid : idsB s b = true) : BlkOk w (G.cut s) g b := by
  cases b with
  | var wr xs =>
    obtain ⟨vs, e, k1, k2, k3, k4, k5⟩ := h
    refine ⟨vs, e, k1, k2, fun j c v hc hv => ?_, k4, k5⟩
    cases wr with
    | true => exact idsOk_rep (k3 j c v hc hv) (idsOkL_get hid j c hc)
    | false => exact (k3 j c v hc hv).tree (fun b o hf => hf)
  | rows wr xs =>
    obtain ⟨vs, e, k1, k2, k3, k4, k5⟩ := h
    exact ⟨vs, e, k1, k2, fun j c v hc hv => (k3 j c v hc hv).tree (fun b o hf => hf), k4, k5⟩
  | iter st p => exact h
/-- Only these slots, blocks and tags are kept. -/
def pickK {α : Type} : List Nat → List (Nat × α) → List (Nat × α)
  | [], _ => []
  | i :: r, l => match look l i with
    | some v => (i, v) :: pickK r l
    | none => pickK r l
theorem pickK_look {α : Type} {l : List (Nat × α)} : ∀ {ks : List Nat} {i : Nat} {v : α}, look (pickK ks l) i = some v → look l i = some v
  | [], i, v, h => by simp [pickK, look] at h
  | k :: ks, i, v, h => by
    simp only [pickK] at h
    split at h
    · rename_i u hu
      rw [look_cons] at h
      split at h
      · rename_i e
        cases h
        subst e
        exact hu
      · exact pickK_look h
    · exact pickK_look h
theorem look_append {α : Type} (l m : List (Nat × α)) (i : Nat) : look (l ++ m) i = (look l i).or (look m i) := by
  induction l with
  | nil => simp [look]
  | cons x l ih =>
    obtain ⟨j, v⟩ := x
    simp only [List.cons_append, look_cons]
    split
    · rfl
    · exact ih

/-! ### What is lent to a call -/
structure MemS where
  heap : List (Nat × Blk)
  tags : List (Nat × Tag)
def MemS.as (M : MemS) : AS := ⟨[], M.heap, M.tags⟩

/-- THE CONTRACT over memory that is lent: called with what these values stand for, where that memory lies, the function returns what that one stands for, and leaves that memory. -/
def CtrM (P : Program) (f : FuncId) (M : MemS) (args : List AV) (M' : MemS) (res : AV) : Prop :=
  (∀ vs w, (callFunc f vs).run P w = .ok (.enter f vs) w) ∧
  ∀ (C : Ctx) (vs : Array Value), RelM C C.G0 M.heap M.tags C.w0 → vs.size = args.length → (∀ (i : Nat) (c : AV) (v : Value), args[i]? = some c → vs[i]? = some v → Rep C.w0 C.G0 true c v) →
    Calls P f vs C.w0 fun e w' => ∃ v G', e = .returned v ∧ RelM C G' M'.heap M'.tags w' ∧ Rep w' G' true res v

def keysGe {α : Type} : List (Nat × α) → Bool
  | [] => true
  | (i, _) :: r => Nat.ble 1000000 i && keysGe r
theorem keysGe_look {α : Type} : ∀ {l : List (Nat × α)} {i : Nat}, keysGe l = true → i < 1000000 → look l i = none
  | [], i, h, hi => rfl
  | (j, v) :: r, i, h, hi => by
    simp only [keysGe, Bool.and_eq_true] at h
    have := Nat.le_of_ble_eq_true h.1
    rw [look_cons, if_neg (by omega)]
    exact keysGe_look h.2 hi
/-- All keys of one list are keys of the other. -/
def keysIn {α β : Type} (m : List (Nat × β)) : List (Nat × α) → Bool
  | [] => true
  | (i, _) :: r => isS (look m i) && keysIn m r
theorem keysIn_look {α β : Type} {m : List (Nat × β)} : ∀ {l : List (Nat × α)} {i : Nat}, keysIn m l = true → isS (look l i) = true → isS (look m i) = true
  | [], i, h, hi => by simp [look, isS] at hi
  | (j, v) :: r, i, h, hi => by
    simp only [keysIn, Bool.and_eq_true] at h
    rw [look_cons] at hi
    split at hi
    · rename_i e; subst e; exact h.1
    · exact keysIn_look h.2 hi
/-- Keys that are new there are not in the state. -/
def keysNew {α β γ : Type} (m : List (Nat × β)) (s : List (Nat × γ)) : List (Nat × α) → Bool
  | [] => true
  | (i, _) :: r => (isS (look m i) || !isS (look s i)) && keysNew m s r
theorem keysNew_look {α β γ : Type} {m : List (Nat × β)} {s : List (Nat × γ)} : ∀ {l : List (Nat × α)} {i : Nat}, keysNew m s l = true → isS (look l i) = true → isS (look m i) = true ∨ look s i = none
  | [], i, h, hi => by simp [look, isS] at hi
  | (j, v) :: r, i, h, hi => by
    simp only [keysNew, Bool.and_eq_true, Bool.or_eq_true, Bool.not_eq_true'] at h
    rw [look_cons] at hi
    split at hi
    · rename_i e
      subst e
      rcases h.1 with h1 | h1
      · exact .inl h1
      · cases hs : look s j with
        | none => exact .inr rfl
        | some x => rw [hs] at h1; cases h1
    · exact keysNew_look h.2 hi
theorem isS_some {α : Type} {o : Option α} (h : isS o = true) : ∃ x, o = some x := by
  cases o with
  | none => cases h
  | some x => exact ⟨x, rfl⟩
theorem isS_none {α : Type} {o : Option α} (h : ¬ isS o = true) : o = none := by
  cases o with
  | none => rfl
  | some x => exact absurd rfl h

def lendC (w : World) (G : Env) (M : MemS) (hk : keysGe M.heap = true) (ht : keysGe M.tags = true) : Ctx where
  w0 := w
  G0 := G.cut M.as
  nt := 0
  L := fun b => (∃ i, isS (look M.heap i) = true ∧ G.φ i = some b) ∨ ∃ t r, isS (look M.tags t) = true ∧ G.τ t = some r ∧ r.o = true ∧ r.v.ownBlock = some b
  dom0 := fun i hi => by simp [Env.cut, MemS.as, keysGe_look hk hi, isS]
  domτ := fun i hi => by simp [Env.cut, MemS.as, keysGe_look ht hi, isS]

theorem cut_φ {G : Env} {s : AS} {i g : Nat} (h : (G.cut s).φ i = some g) : G.φ i = some g ∧ isS (look s.heap i) = true := by
  simp only [Env.cut] at h
  split at h
  · rename_i hs; exact ⟨h, hs⟩
  · cases h
theorem cut_τ {G : Env} {s : AS} {t : Nat} {r : TagRec} (h : (G.cut s).τ t = some r) : G.τ t = some r ∧ isS (look s.tags t) = true := by
  simp only [Env.cut] at h
  split at h
  · rename_i hs; exact ⟨h, hs⟩
  · cases h

theorem lend_start {C : Ctx} {G : Env} {s : AS} {w : World} (h : RelM C G s.heap s.tags w) {M : MemS} (hk : keysGe M.heap = true) (ht : keysGe M.tags = true) (hH : ∀ i b, look M.heap i = some b → look s.heap i = some b) (hT : ∀ t n, look M.tags t = some n → look s.tags t = some n) (hid : idsH M.as M.heap = true) :
    RelM (lendC w G M hk ht) (G.cut M.as) M.heap M.tags w := by
  refine ⟨Keep.refl _ _, Env.Le.refl _ _, h.fdom, fun b o hf _ => .inl hf, fun i b hb => ?_, fun i hi => ?_, fun i j g hi hj => h.inj i j g (cut_φ hi).1 (cut_φ hj).1, fun t n hn => ?_, fun t hn => ?_⟩
  · obtain ⟨g, hg, hbase, hok, hnF⟩ := h.blocks i b (hH i b hb)
    have hs : isS (look M.heap i) = true := by rw [hb]; rfl
    exact ⟨g, by simp [Env.cut, MemS.as, hs, hg], .inr (.inl ⟨i, hs, hg⟩), hok.cut (idsH_look hid hb), hnF⟩
  · simp [Env.cut, MemS.as, hi, isS]
  · obtain ⟨r, hr, hok⟩ := h.tags t n (hT t n hn)
    have hs : isS (look M.tags t) = true := by rw [hn]; rfl
    refine ⟨r, by simp [Env.cut, MemS.as, hs, hr], ⟨hok.hn, hok.he, hok.hsz, hok.clip, hok.own, hok.one, fun ho g hg => .inr (.inr ⟨t, r, hs, hr, ho, hg⟩), hok.hF, fun ho g hg i hi => hok.hφ ho g hg i (cut_φ hi).1, fun ho g hg t' r' hr' => hok.hτ ho g hg t' r' (cut_τ hr').1, fun b cells hc => ?_⟩⟩
    obtain ⟨k1, k2, k3, k4⟩ := hok.hcs b cells hc
    exact ⟨k1, k2, fun i c v hi hv => (k3 i c v hi hv).tree (fun b o hf => hf), k4⟩
  · simp [Env.cut, MemS.as, hn, isS]

theorem lend_end {C : Ctx} {G G1 : Env} {s : AS} {w w' : World} (h : RelM C G s.heap s.tags w) {M M' : MemS} (hk : keysGe M.heap = true) (ht : keysGe M.tags = true) (hH : ∀ i b, look M.heap i = some b → look s.heap i = some b) (hT : ∀ t n, look M.tags t = some n → look s.tags t = some n)
    (k : RelM (lendC w G M hk ht) G1 M'.heap M'.tags w') (iH : ∀ i, isS (look M.heap i) = true → isS (look M'.heap i) = true) (iT : ∀ i, isS (look M.tags i) = true → isS (look M'.tags i) = true)
    (nH : ∀ i, isS (look M'.heap i) = true → isS (look M.heap i) = true ∨ look s.heap i = none) (nT : ∀ i, isS (look M'.tags i) = true → isS (look M.tags i) = true ∨ look s.tags i = none) :
    ∃ G2, RelM C G2 (M'.heap ++ s.heap) (M'.tags ++ s.tags) w' ∧ Env.Le w G w' G2 ∧ Env.Le w' G1 w' G2 := by
  let L' := (lendC w G M hk ht).L
  have hL : ∀ g, L' g → C.w0.heap.size ≤ g ∨ C.L g := by
    intro g hg
    rcases hg with ⟨i, hi, hφ⟩ | ⟨t, r, hi, hr, ho, hb⟩
    · obtain ⟨b, hb⟩ := isS_some hi
      obtain ⟨g', hg', hbase, _⟩ := h.blocks i b (hH i b hb)
      rw [hφ] at hg'
      cases hg'
      exact hbase
    · obtain ⟨n, _, hok⟩ := h.tag_ok hr
      exact hok.base ho g hb
  -- blocks that were not lent
  have hA : ∀ i g, G.φ i = some g → ¬ isS (look M'.heap i) = true → g < w.heap.size ∧ ¬ L' g := by
    intro i g hφ hn
    refine ⟨h.blk_lt hφ, fun hg => ?_⟩
    rcases hg with ⟨j, hj, hφ'⟩ | ⟨t, r, hi, hr, ho, hb⟩
    · have := h.inj i j g hφ hφ'
      subst this
      exact hn (iH i hj)
    · obtain ⟨n, _, hok⟩ := h.tag_ok hr
      exact hok.hφ ho g hb i hφ
  have hB : ∀ t r g, G.τ t = some r → ¬ isS (look M'.tags t) = true → r.o = true → r.v.ownBlock = some g → g < w.heap.size ∧ ¬ L' g := by
    intro t r g hr hn ho hb
    obtain ⟨n, _, hok⟩ := h.tag_ok hr
    refine ⟨h.tag_lt hr ho hb, fun hg => ?_⟩
    rcases hg with ⟨j, hj, hφ'⟩ | ⟨t2, r2, hi, hr2, ho2, hb2⟩
    · exact hok.hφ ho g hb j hφ'
    · have := hok.hτ ho g hb t2 r2 hr2 ho2 hb2
      subst this
      exact hn (iT _ hi)
  have hC1 : ∀ i g, G1.φ i = some g → isS (look M'.heap i) = true ∧ (w.heap.size ≤ g ∨ L' g) := by
    intro i g hg
    cases hi : look M'.heap i with
    | none => rw [k.noblock i hi] at hg; cases hg
    | some b =>
      obtain ⟨g', hg', hbase, _⟩ := k.blocks i b hi
      rw [hg] at hg'
      cases hg'
      exact ⟨rfl, hbase⟩
  have hC2 : ∀ t r g, G1.τ t = some r → isS (look M'.tags t) = true ∧ (r.o = true → r.v.ownBlock = some g → w.heap.size ≤ g ∨ L' g) := by
    intro t r g hr
    obtain ⟨n, hn, hok⟩ := k.tag_ok hr
    exact ⟨by rw [hn]; rfl, fun ho hb => hok.base ho g hb⟩
  have hF : ∀ g o, G1.F g o → g < w.heap.size → ¬ L' g → G.F g o := by
    intro g o hf hlt hn
    rcases k.fold g o hf hlt with h1 | h1
    · exact h1
    · exact absurd h1 hn
  let G2 : Env := ⟨G1.F, fun i => if isS (look M'.heap i) then G1.φ i else G.φ i, fun t => if isS (look M'.tags t) then G1.τ t else G.τ t⟩
  have hle : Env.Le w G w' G2 := by
    refine ⟨fun b o hf => k.le.F b o hf, fun b o hf => k.le.cell b o hf, fun i g hg => ?_, fun t r hr => ?_⟩
    · show (if isS (look M'.heap i) then G1.φ i else G.φ i) = some g
      split
      · rename_i hi
        rcases nH i hi with h1 | h1
        · exact k.le.φ i g (by simp [lendC, Env.cut, MemS.as, h1, hg])
        · rw [h.noblock i h1] at hg; cases hg
      · exact hg
    · show ∃ r', (if isS (look M'.tags t) then G1.τ t else G.τ t) = some r' ∧ _
      split
      · rename_i hi
        rcases nT t hi with h1 | h1
        · exact k.le.τ t r (by simp [lendC, Env.cut, MemS.as, h1, hr])
        · rw [h.notag t h1] at hr; cases hr
      · exact ⟨r, hr, Nat.le_refl _, fun _ => rfl⟩
  have hle1 : Env.Le w' G1 w' G2 := by
    refine ⟨fun b o hf => hf, fun _ _ _ => rfl, fun i g hg => ?_, fun t r hr => ⟨r, ?_, Nat.le_refl _, fun _ => rfl⟩⟩
    · show (if isS (look M'.heap i) then G1.φ i else G.φ i) = some g
      rw [if_pos (hC1 i g hg).1]; exact hg
    · show (if isS (look M'.tags t) then G1.τ t else G.τ t) = some r
      rw [if_pos (hC2 t r 0 hr).1]; exact hr
  have hφ2 : ∀ i g, G2.φ i = some g → (isS (look M'.heap i) = true ∧ G1.φ i = some g) ∨ (¬ isS (look M'.heap i) = true ∧ G.φ i = some g) := by
    intro i g hg
    have hg : (if isS (look M'.heap i) then G1.φ i else G.φ i) = some g := hg
    split at hg
    · rename_i hi; exact .inl ⟨hi, hg⟩
    · rename_i hi; exact .inr ⟨hi, hg⟩
  have hτ2 : ∀ t r, G2.τ t = some r → (isS (look M'.tags t) = true ∧ G1.τ t = some r) ∨ (¬ isS (look M'.tags t) = true ∧ G.τ t = some r) := by
    intro t r hg
    have hg : (if isS (look M'.tags t) then G1.τ t else G.τ t) = some r := hg
    split at hg
    · rename_i hi; exact .inl ⟨hi, hg⟩
    · rename_i hi; exact .inr ⟨hi, hg⟩
  refine ⟨G2, ⟨h.keep.trans k.keep (fun g hlt hg => ?_), h.le.trans hle, k.fdom, fun b o hf hlt => ?_, fun i b hb => ?_, fun i hi => ?_, fun i j g hi hj => ?_, fun t n hn => ?_, fun t hn => ?_⟩, hle, hle1⟩
  · rcases hL g hg with h1 | h1
    · omega
    · exact h1
  · rcases k.fold b o hf (Nat.lt_of_lt_of_le hlt h.size) with h1 | h1
    · exact h.fold b o h1 hlt
    · rcases hL b h1 with h2 | h2
      · omega
      · exact .inr h2
  · rw [look_append] at hb
    cases hm : look M'.heap i with
    | some b' =>
      rw [hm] at hb
      simp only [Option.some_or, Option.some.injEq] at hb
      subst hb
      obtain ⟨g, hg, hbase, hok, hnF⟩ := k.blocks i b' hm
      refine ⟨g, hle1.φ i g hg, ?_, hok.le rfl hle1, hnF⟩
      rcases hbase with h1 | h1
      · exact .inl (Nat.le_trans h.size h1)
      · exact hL g h1
    | none =>
      rw [hm] at hb
      simp only [Option.none_or] at hb
      obtain ⟨g, hg, hbase, hok, hnF⟩ := h.blocks i b hb
      obtain ⟨h1, h2⟩ := hA i g hg (by rw [hm]; simp [isS])
      exact ⟨g, hle.φ i g hg, hbase, hok.le (k.keep.block g h1 h2) hle, fun hw o hf => hnF hw o (hF g o hf h1 h2)⟩
  · rw [look_append] at hi
    simp only [Option.or_eq_none_iff] at hi
    show (if isS (look M'.heap i) then G1.φ i else G.φ i) = none
    rw [hi.1]
    exact h.noblock i hi.2
  · rcases hφ2 i g hi with ⟨i1, i2⟩ | ⟨i1, i2⟩ <;> rcases hφ2 j g hj with ⟨j1, j2⟩ | ⟨j1, j2⟩
    · exact k.inj i j g i2 j2
    · obtain ⟨h1, h2⟩ := hA j g j2 j1
      rcases (hC1 i g i2).2 with h3 | h3
      · omega
      · exact absurd h3 h2
    · obtain ⟨h1, h2⟩ := hA i g i2 i1
      rcases (hC1 j g j2).2 with h3 | h3
      · omega
      · exact absurd h3 h2
    · exact h.inj i j g i2 j2
  · rw [look_append] at hn
    cases hm : look M'.tags t with
    | some n' =>
      rw [hm] at hn
      simp only [Option.some_or, Option.some.injEq] at hn
      subst hn
      obtain ⟨r, hr, hok⟩ := k.tags t n' hm
      refine ⟨r, by show (if isS (look M'.tags t) then G1.τ t else G.τ t) = some r; rw [hm]; exact hr, ⟨hok.hn, hok.he, hok.hsz, hok.clip, hok.own, hok.one, fun ho g hg => ?_, hok.hF, fun ho g hg i hi => ?_, fun ho g hg t' r' hr' ho' hb' => ?_, fun b cells hc => ?_⟩⟩
      · rcases hok.base ho g hg with h1 | h1
        · exact .inl (Nat.le_trans h.size h1)
        · exact hL g h1
      · rcases hφ2 i g hi with ⟨i1, i2⟩ | ⟨i1, i2⟩
        · exact hok.hφ ho g hg i i2
        · obtain ⟨h1, h2⟩ := hA i g i2 i1
          rcases hok.base ho g hg with h3 | h3
          · exact absurd h1 (Nat.not_lt.2 h3)
          · exact absurd h3 h2
      · rcases hτ2 t' r' hr' with ⟨i1, i2⟩ | ⟨i1, i2⟩
        · exact hok.hτ ho g hg t' r' i2 ho' hb'
        · obtain ⟨h1, h2⟩ := hB t' r' g i2 i1 ho' hb'
          rcases hok.base ho g hg with h3 | h3
          · exact absurd h1 (Nat.not_lt.2 h3)
          · exact absurd h3 h2
      · obtain ⟨k1, k2, k3, k4⟩ := hok.hcs b cells hc
        exact ⟨k1, k2, fun i c v hi hv => (k3 i c v hi hv).mono hle1, k4⟩
    | none =>
      rw [hm] at hn
      simp only [Option.none_or] at hn
      obtain ⟨r, hr, hok⟩ := h.tags t n hn
      have hn' : ¬ isS (look M'.tags t) = true := by rw [hm]; simp [isS]
      refine ⟨r, by show (if isS (look M'.tags t) then G1.τ t else G.τ t) = some r; rw [if_neg hn']; exact hr, hok.mv hle (fun ho g hg => ?_) (fun ho g hg o hf => ?_) (fun ho g hg i hi => ?_) (fun ho g hg t' r' hr' ho' hb' => ?_)⟩
      · obtain ⟨h1, h2⟩ := hB t r g hr hn' ho hg
        exact k.keep.block g h1 h2
      · obtain ⟨h1, h2⟩ := hB t r g hr hn' ho hg
        exact .inl (hF g o hf h1 h2)
      · obtain ⟨h1, h2⟩ := hB t r g hr hn' ho hg
        rcases hφ2 i g hi with ⟨i1, i2⟩ | ⟨i1, i2⟩
        · rcases (hC1 i g i2).2 with h3 | h3
          · omega
          · exact h2 h3
        · exact hok.hφ ho g hg i i2
      · obtain ⟨h1, h2⟩ := hB t r g hr hn' ho hg
        rcases hτ2 t' r' hr' with ⟨i1, i2⟩ | ⟨i1, i2⟩
        · rcases (hC2 t' r' g i2).2 ho' hb' with h3 | h3
          · omega
          · exact absurd h3 h2
        · exact hok.hτ ho g hg t' r' i2 ho' hb'
  · rw [look_append] at hn
    simp only [Option.or_eq_none_iff] at hn
    show (if isS (look M'.tags t) then G1.τ t else G.τ t) = none
    rw [hn.1]
    exact h.notag t hn.2

end Go.AX
end
