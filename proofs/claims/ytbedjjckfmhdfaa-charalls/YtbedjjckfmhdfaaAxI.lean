import Derived.Test.YtbedjjckfmhdfaaAxH
set_option linter.unusedVariables false
set_option linter.unusedSimpArgs false
namespace Go.AX
open Go Go.RowKit

/-! ### append -/
/-- What is appended: how many elements, their cells (trees). -/
def srcA (s : AS) : AV → Option (Nat × List AV)
  | .sl _ m cells _ => some (m, cells)
  | .row id off m => match look s.heap id with
    | some (.rows _ cs) => match off with
      | 0 => some (m, cs)
      | _ => none
    | _ => none
  | _ => none
/-- The tag of the slice that is appended to. -/
def dstA (s : AS) (d : Nat) (n e sz : Nat) : Own → Option (AS × Nat × List Prop)
  | .own t => match look s.tags t with
    | some g => match Nat.beq g.e e, Nat.beq g.sz sz with
      | true, true => some (s, t, [g.n = n])
      | _, _ => none
    | none => none
  | .clip => match look s.tags d with
    | none => some (s.tag d ⟨n, e, sz⟩, d, [])
    | some _ => none
  | _ => none
def appA (Γ : TT) (s : AS) (d : Nat) (t xT : TypeId) (v x : AV) : SR :=
  match look Γ t, look Γ xT with
  | some ti, some xi => match ti.kind, xi.kind with
    | .slice e, .slice _ => match look Γ e with
      | some ei => match v, srcA s x with
        | .sl _ n cells o, some (m, news) => match dstA s d n e ei.size o, ei.size, ei.bytes with
          | some (s1, t, os), sz + 1, by_ + 1 => some (s1.tag t ⟨n + m, e, sz + 1⟩, .sl none (n + m) (cells ++ news) (.own t), os ++ [cells.length = n * (sz + 1) ∧ news.length = m * (sz + 1) ∧ (n + m) * (by_ + 1) ≤ 140737488355328])
          | _, _, _ => none
        | _, _ => none
      | none => none
    | _, _ => none
  | _, _ => none

/-- What is appended lies in memory. -/
theorem srcA_sound {P : Program} {C : Ctx} {G : Env} {s : AS} {a : Act} {w : World} (h : RelG C G s a w) {x : AV} {vx : Value} (hx : Rep w G true x vx) {m : Nat} {news : List AV} (hs : srcA s x = some (m, news)) {sz : Nat} (hl : news.length = m * sz) :
    ∃ us : List Value, us.length = news.length ∧ Yields P w sz m vx us ∧ (∀ (i : Nat) (c : AV) (v : Value), news[i]? = some c → us[i]? = some v → Rep w G false c v) ∧ ∀ v ∈ us, v.oneCell' = true := by
  unfold srcA at hs
  split at hs
  · cases hs
    cases hx with
    | sl _ nl _ cells o A c vs hnl hpos hc hcell hrep hclip hown =>
      refine ⟨(List.range news.length).map vs, by simp, yields_slice _ _ _ _ _ (by simp [hl]) (fun hA => ?_) (fun j u hj => ?_), fun i x v hx hv => ?_, fun v hv => ?_⟩
      · rcases Nat.eq_zero_or_pos m with h0 | h0
        · exact h0
        · obtain ⟨ad, e, _⟩ := hpos h0
          rw [hA] at e
          cases e
      · simp only [List.getElem?_map, Option.map_eq_some_iff] at hj
        obtain ⟨k, hk, rfl⟩ := hj
        have hlt : j < news.length := by
          rcases Nat.lt_or_ge j news.length with h | h
          · exact h
          · rw [List.getElem?_eq_none (by simpa using h)] at hk; cases hk
        rw [List.getElem?_range hlt] at hk
        cases hk
        obtain ⟨ad, e, hsp, _, hw, _⟩ := hcell j _ (List.getElem?_eq_getElem hlt)
        exact ⟨ad, e, by rw [add_spot _ _ hsp]; exact hw⟩
      · have hlt := (List.getElem?_eq_some_iff.1 hx).1
        simp only [List.getElem?_map, List.getElem?_range hlt, Option.map_some, Option.some.injEq] at hv
        subst hv
        exact hrep i x hx
      · obtain ⟨k, hk, rfl⟩ := List.mem_map.1 hv
        have hlt : k < news.length := by simpa using hk
        obtain ⟨ad, e, hsp, _, hw, h1⟩ := hcell k _ (List.getElem?_eq_getElem hlt)
        exact h1
  · split at hs
    · rename_i wr cs hb
      split at hs
      · cases hs
        cases hx with
        | row _ _ _ g c hg hc =>
          obtain ⟨g', hg', hbase, ⟨vs, e, hh, hvs, hr, h1, _⟩, _⟩ := h.blocks _ _ hb
          rw [hg] at hg'
          cases hg'
          refine ⟨vs.toList, by simpa using hvs, yields_slice _ _ _ _ _ (by simp [hvs, hl]) (fun hA => by cases hA) (fun j u hj => ⟨_, rfl, ?_⟩), fun i x v hx hv => hr i x v hx (by simpa using hv), fun v hv => h1 v (Array.mem_toList_iff.1 hv)⟩
          rw [add_plain]
          simp [World.cell?, hh]
          simpa using hj
      · cases hs
    · cases hs
  · cases hs

/-- An owned slice, as a value. -/
theorem own_rep {C : Ctx} {G : Env} {s : AS} {a : Act} {w : World} (h : RelG C G s a w) {t : Nat} {r : TagRec} (hr : G.τ t = some r) (hown : w.ownsRow C.w0.heap.size r.e r.sz r.v r.n r.xs) (h1 : ∀ u ∈ r.xs, u.oneCell' = true)
    (hF : ∀ g, r.v.ownBlock = some g → ∀ o, o < r.n * r.sz → G.F g o) {cells : List AV} (hl : cells.length = r.xs.length) (hc : ∀ (i : Nat) (c : AV) (v : Value), cells[i]? = some c → r.xs[i]? = some v → Rep w G false c v) (hsz : 0 < r.sz) : Rep w G true (.sl none r.n cells (.own t)) r.v := by
  obtain ⟨A, c, hv⟩ : ∃ A c, r.v = .slice A r.n c := by
    rcases hown.2 with ⟨e, e2⟩ | ⟨g, cap, cur, e, _⟩
    · exact ⟨none, 0, by rw [e, e2]⟩
    · exact ⟨_, _, e⟩
  have hnc : r.n ≤ c := by
    rcases hown.2 with ⟨e, e2⟩ | ⟨g, cap, cur, e, _, _, h2, _⟩
    · omega
    · rw [hv] at e
      cases e
      exact h2
  rw [hv]
  refine .sl _ _ _ _ _ _ _ (fun j => r.xs.getD j undef) (fun b hb => by cases hb) (fun hp => ?_) hnc (fun j x hx => ?_) (fun j x hx => ?_) (fun e => by cases e) (fun t' ht => ?_)
  · rcases hown.2 with ⟨e, e2⟩ | ⟨g, cap, cur, e, _⟩
    · omega
    · rw [hv] at e
      cases e
      exact ⟨_, rfl, rfl⟩
  · have hlt : j < r.xs.length := by rw [← hl]; exact (List.getElem?_eq_some_iff.1 hx).1
    rcases hown.2 with ⟨e, e2⟩ | ⟨g, cap, cur, e, _⟩
    · have := hown.1
      rw [e2] at this
      omega
    · have hb : r.v.ownBlock = some g := by rw [e]; rfl
      have hcell := hown.cells hb j r.xs[j] (List.getElem?_eq_getElem hlt)
      rw [add_plain] at hcell
      rw [hv] at e
      cases e
      refine ⟨_, rfl, rfl, ?_, ?_, ?_⟩
      · simpa using hF g hb j (by rw [← hown.1]; exact hlt)
      · simpa [List.getD_eq_getElem?_getD, List.getElem?_eq_getElem hlt] using hcell
      · simpa [List.getD_eq_getElem?_getD, List.getElem?_eq_getElem hlt] using h1 _ (List.getElem_mem hlt)
  · have hlt : j < r.xs.length := by rw [← hl]; exact (List.getElem?_eq_some_iff.1 hx).1
    simpa [List.getD_eq_getElem?_getD, List.getElem?_eq_getElem hlt] using hc j x _ hx (List.getElem?_eq_getElem hlt)
  · cases ht
    exact ⟨rfl, r, hr, Nat.le_refl _, fun _ => hv⟩

/-- The entry of a tag, laid anew as it stands. -/
theorem RelG.sameTag {C : Ctx} {G : Env} {s : AS} {a : Act} {w : World} (h : RelG C G s a w) {t : Nat} {g : Tag} (ht : look s.tags t = some g) : RelG C G (s.tag t g) a w := by
  have e : ∀ u, look (s.tag t g).tags u = look s.tags u := fun u => by
    simp only [AS.tag, look_cons]
    split
    · rename_i e; subst e; exact ht.symm
    · rfl
  exact ⟨h.defers, h.size, h.below, h.fdom, h.fold, h.f0, h.f0dom, h.slots, h.blocks, h.noblock, h.inj, fun u n hu => h.tags u n (by rw [← e]; exact hu), fun u hu => h.notag u (by rw [← e]; exact hu)⟩

theorem app_core {P : Program} {C : Ctx} {G : Env} {s : AS} {a : Act} {w : World} (h : RelG C G s a w) {t xT e ty : TypeId} {i : TypeInfo} {z : Value} {e' : TypeId} (hd : P.underlying t = some (.slice e)) (hxd : P.underlying xT = some (.slice e')) (hi : P.info? e = some i) (hz : i.zero = some z) (hzs : z.cells.size = i.size)
    (hsz : 0 < i.size) (hby : 0 < i.bytes) {tg n m : Nat} (ht : look s.tags tg = some ⟨n, e, i.size⟩) {nl : Option Bool} {cells news : List AV} {v vx : Value} (hv : Rep w G true (.sl nl n cells .no) v) (hvt : ∃ r, G.τ tg = some r ∧ (r.n = n → r.v = v))
    (hcl : cells.length = n * i.size) (hnl : news.length = m * i.size) (hb : (n + m) * i.bytes ≤ 140737488355328) {us : List Value} (hul : us.length = news.length) (hy : Yields P w i.size m vx us) (hur : ∀ (i : Nat) (c : AV) (v : Value), news[i]? = some c → us[i]? = some v → Rep w G false c v) (hu1 : ∀ v ∈ us, v.oneCell' = true) :
    VSound P C (s.tag tg ⟨n + m, e, i.size⟩) a w (Builtin.append_ #[t, xT] ty #[v, vx]) (.sl none (n + m) (cells ++ news) (.own tg)) := by
  obtain ⟨r, hr, hrg, hcl0, hown0⟩ := h.tags tg _ ht
  simp only [Tag.mk.injEq] at hrg
  obtain ⟨hrn, hre, hrs⟩ := hrg
  obtain ⟨r', hr', hvv⟩ := hvt
  rw [hr] at hr'
  cases hr'
  have hrv := hvv hrn
  have hnm : n + m ≤ 140737488355328 := Nat.le_trans (Nat.le_mul_of_pos_right _ hby) hb
  have hmax : n + m ≤ maxLen := by unfold maxLen; omega
  cases hv with
  | sl _ _ _ _ _ A c vs hnl' hpos hc hcell hrep _ _ =>
  -- the elder cells
  let olds : List Value := (List.range cells.length).map vs
  have holdl : olds.length = n * i.size := by simp [olds, hcl]
  have hog : ∀ j u, olds[j]? = some u → ∃ x, cells[j]? = some x ∧ u = vs j := by
    intro j u hj
    simp only [olds, List.getElem?_map, Option.map_eq_some_iff] at hj
    obtain ⟨k, hk, rfl⟩ := hj
    have hlt : j < cells.length := by
      rcases Nat.lt_or_ge j cells.length with h | h
      · exact h
      · rw [List.getElem?_eq_none (by simpa using h)] at hk; cases hk
    rw [List.getElem?_range hlt] at hk
    cases hk
    exact ⟨_, List.getElem?_eq_getElem hlt, rfl⟩
  have hyo : Yields P w i.size n (.slice A n c) olds := by
    refine yields_slice _ _ _ _ _ holdl (fun hA => ?_) (fun j u hj => ?_)
    · rcases Nat.eq_zero_or_pos n with h0 | h0
      · exact h0
      · obtain ⟨ad, e, _⟩ := hpos h0
        rw [hA] at e
        cases e
    · obtain ⟨x, hx, rfl⟩ := hog j u hj
      obtain ⟨ad, e, hsp, _, hw, _⟩ := hcell j x hx
      exact ⟨ad, e, by rw [add_spot _ _ hsp]; exact hw⟩
  have ho1 : ∀ u ∈ olds, u.oneCell' = true := fun u hu => by
    obtain ⟨j, hj⟩ := List.mem_iff_getElem?.1 hu
    obtain ⟨x, hx, rfl⟩ := hog j u hj
    obtain ⟨ad, e, hsp, _, hw, h1⟩ := hcell j x hx
    exact h1
  have holdr : ∀ (i : Nat) (c : AV) (v : Value), cells[i]? = some c → olds[i]? = some v → Rep w G false c v := fun j x u hx hj => by
    obtain ⟨x', hx', rfl⟩ := hog j u hj
    exact hrep j x hx
  have hboth : ∀ (xs : List Value), xs.length = n * i.size → (∀ (j : Nat) (c : AV) (v : Value), cells[j]? = some c → xs[j]? = some v → Rep w G false c v) → ∀ (j : Nat) (c : AV) (v : Value), (cells ++ news)[j]? = some c → (xs ++ us)[j]? = some v → Rep w G false c v := by
    intro xs hxl hxr j x u hx hj
    by_cases hlt : j < cells.length
    · rw [List.getElem?_append_left hlt] at hx
      rw [List.getElem?_append_left (by omega)] at hj
      exact hxr j x u hx hj
    · rw [List.getElem?_append_right (by omega)] at hx
      rw [List.getElem?_append_right (by omega)] at hj
      have : j - cells.length = j - xs.length := by omega
      rw [this] at hx
      exact hur _ x u hx hj
  by_cases hm : m = 0
  · subst hm
    have hun : us = [] := List.eq_nil_of_length_eq_zero (by rw [hul, hnl]; simp)
    have hnn : news = [] := List.eq_nil_of_length_eq_zero (by rw [hnl]; simp)
    subst hun; subst hnn
    refine ⟨_, w, G, app_none (P := P) hd hxd (.inl ⟨_, rfl⟩) hi A n c vx hy hc, h.sameTag ht, ?_⟩
    rw [List.append_nil]
    exact .sl _ _ _ _ _ _ _ vs (fun b hb => by cases hb) hpos hc hcell hrep (fun e => by cases e) (fun t' ht' => by cases ht'; exact ⟨rfl, r, hr, by omega, fun _ => hrv⟩)
  · -- it lies in a new block
    have newCase : c < n + m → VSound P C (s.tag tg ⟨n + m, e, i.size⟩) a w (Builtin.append_ #[t, xT] ty #[.slice A n c, vx]) (.sl none (n + m) (cells ++ news) (.own tg)) := by
      intro hgrow
      have hrun := app_grow (P := P) (ty := ty) hd hxd (.inl ⟨_, rfl⟩) hi hz A n c olds hyo vx m us hy hgrow (growslice_fits hgrow hb) (by omega)
      have hge := grownCap_ge w (n + m) c e
      have hcm : grownCap w (n + m) c e ≤ maxLen := grownCap_le_maxLen w (n + m) c e hmax
      let r' : TagRec := ⟨true, .slice (some ⟨w.heap.size, 0, none⟩) (n + m) (grownCap w (n + m) c e), n + m, e, i.size, olds ++ us⟩
      have hlen : (olds ++ us).length = (n + m) * i.size := by rw [List.length_append, holdl, hul, hnl, Nat.add_mul]
      have hown' : (w.drew.alloc (.cells (olds.toArray ++ us.toArray ++ Builtin.zeroCells z.cells (grownCap w (n + m) c e - (n + m))) e)).ownsRow C.w0.heap.size r'.e r'.sz r'.v r'.n r'.xs := by
        refine ⟨hlen, .inr ⟨w.heap.size, _, _, rfl, h.below.size, heap_alloc_new w.drew _, hge, hcm, ?_, ?_⟩⟩
        · simp only [Array.size_append, List.size_toArray, size_zeroCells, hzs, holdl, hul, hnl, ← Nat.add_mul]
          congr 1
          omega
        · show _ = olds ++ us
          simp only [Array.toList_append, List.append_assoc]
          rw [← List.append_assoc]
          have : (n + m) * i.size = (olds ++ us).length := hlen.symm
          show List.take ((n + m) * i.size) _ = _
          rw [this]
          exact List.take_left
      have hone : ∀ u ∈ olds ++ us, u.oneCell' = true := fun u hu => by
        rcases List.mem_append.1 hu with hu | hu
        · exact ho1 u hu
        · exact hu1 u hu
      obtain ⟨h1, hle⟩ := h.setTagNew (r' := r') (w' := w.drew.alloc (.cells (olds.toArray ++ us.toArray ++ Builtin.zeroCells z.cells (grownCap w (n + m) c e - (n + m))) e)) ht hr rfl (by show r.n < n + m; omega) ⟨rfl, rfl, rfl, by simp, fun k hk => heap_alloc_old w.drew _ hk⟩ (by simp) hown' hone rfl
      refine ⟨_, _, _, hrun, h1, ?_⟩
      refine own_rep h1 (t := tg) (r := r') (by simp [Env.setT]) hown' hone (fun g hg o ho => .inr ⟨by simpa [r', Value.ownBlock] using hg.symm, ho⟩) (by show (cells ++ news).length = (olds ++ us).length; rw [hlen, List.length_append, hcl, hnl, Nat.add_mul]) (fun j x u hx hj => (hboth olds holdl holdr j x u hx hj).mono hle) hsz
    cases hro : r.o with
    | false =>
      obtain ⟨A', e1, _⟩ := hcl0 hro
      rw [hrv, hrn] at e1
      cases e1
      exact newCase (by omega)
    | true =>
      obtain ⟨hx1, hx2, hx3⟩ := hown0 hro
      rcases hx1.2 with ⟨e1, e2⟩ | ⟨g, cap, cur, e1, hbg, hgc, h3, h4, h5, h6⟩
      · rw [hrv] at e1
        cases e1
        exact newCase (by omega)
      · rw [hrv, hrn] at e1
        cases e1
        by_cases hroom : n + m ≤ c
        · rw [hrn, hrs] at h6
          rw [hrs] at h5
          have hxl : r.xs.length = n * i.size := by rw [hx1.1, hrn, hrs]
          have hfit : n * i.size + us.length ≤ cur.size := by rw [hul, hnl, h5, ← Nat.add_mul]; exact Nat.mul_le_mul_right _ hroom
          rw [hre] at hgc
          have hrun := app_room (P := P) (ty := ty) hd hxd (.inl ⟨_, rfl⟩) hi g n c cur hgc vx m us hy (by rw [hul, hnl]) hu1 hroom hfit
          let r' : TagRec := ⟨true, .slice (some ⟨g, 0, none⟩) (n + m) c, n + m, e, i.size, r.xs ++ us⟩
          obtain ⟨s1, s2, s3, s4, s5⟩ := setRow_le (w := w) (g := g) (cur.toList.take (n * i.size) ++ us ++ cur.toList.drop (n * i.size + us.length)).toArray
          have hlen : (r.xs ++ us).length = (n + m) * i.size := by rw [List.length_append, hxl, hul, hnl, Nat.add_mul]
          have hown' : (w.setRow g (cur.toList.take (n * i.size) ++ us ++ cur.toList.drop (n * i.size + us.length)).toArray).ownsRow C.w0.heap.size r'.e r'.sz r'.v r'.n r'.xs := by
            refine ⟨hlen, .inr ⟨g, c, _, rfl, hbg, setRow_heap w g cur _ e _ hgc, hroom, h4, ?_, ?_⟩⟩
            · simp only [List.size_toArray, List.length_append, List.length_take, List.length_drop, Array.length_toList]
              show _ = c * i.size
              omega
            · show List.take ((n + m) * i.size) _ = r.xs ++ us
              rw [h6]
              rw [← hlen]
              exact List.take_left
          have hone : ∀ u ∈ r.xs ++ us, u.oneCell' = true := fun u hu => by
            rcases List.mem_append.1 hu with hu | hu
            · exact hx2 u hu
            · exact hu1 u hu
          have hgb : r.v.ownBlock = some g := by rw [hrv]; rfl
          obtain ⟨h1, hle⟩ := h.setTagRoom (r' := r') ht hr hro rfl (by show r.n ≤ n + m; omega) (by intro e; exfalso; have : r.n = n + m := e; omega) hgb s3 s4 s5 s2 s1 hown' hone rfl hrs.symm ⟨us, rfl⟩
          refine ⟨_, _, _, hrun, h1, ?_⟩
          refine own_rep h1 (t := tg) (r := r') (by simp [Env.setT]) hown' hone (fun g' hg' o ho => .inr ⟨by simpa [r', Value.ownBlock] using hg'.symm, ho⟩) (by show (cells ++ news).length = (r.xs ++ us).length; rw [hlen, List.length_append, hcl, hnl, Nat.add_mul]) (fun j x u hx hj => (hboth r.xs hxl (fun k x' u' hx' hk' => ?_) j x u hx hj).mono hle) hsz
          -- the row's cells are what the slice reads
          have hkl : k < r.xs.length := (List.getElem?_eq_some_iff.1 hk').1
          have c1 := hx1.cells hgb k u' hk'
          obtain ⟨ad, e9, hsp, _, hw, _⟩ := hcell k x' hx'
          cases e9
          rw [add_plain] at c1
          simp only [Nat.zero_add] at hw
          rw [c1] at hw
          cases hw
          exact hrep k x' hx'
        · exact newCase (by omega)

theorem appA_sound {P : Program} {Γ : TT} (hΓ : Γok P Γ) {C : Ctx} {G : Env} {s s' : AS} {a : Act} {w : World} (h : RelG C G s a w) {d : Nat} {t xT ty : TypeId} {v x y : AV} {vv vx : Value} (hv : Rep w G true v vv) (hx : Rep w G true x vx) {os : List Prop} (hn : appA Γ s d t xT v x = some (s', y, os)) (ho : All os) :
    VSound P C s' a w (Builtin.append_ #[t, xT] ty #[vv, vx]) y := by
  unfold appA at hn
  split at hn
  · rename_i ti xi hti hxi
    obtain ⟨i, d', z, hi, hd, hsz, hby, hz, hzs, hz0, hz1, hag, hk⟩ := (hΓ t ti hti).ex
    obtain ⟨ix, dx, zx, hix, hdx, _, _, _, _, _, _, _, hkx⟩ := (hΓ xT xi hxi).ex
    split at hn
    · rename_i e e' he he'
      rw [he] at hk
      rw [he'] at hkx
      obtain rfl := kind_slice hk
      obtain rfl := kind_slice hkx
      split at hn
      · rename_i ei hei
        obtain ⟨i2, d2, z2, hi2, hd2, hsz2, hby2, hz2, hzs2, hz02, hz12, hag2, hk2⟩ := (hΓ _ ei hei).ex
        split at hn
        · rename_i nl n cells o m news hsrc
          split at hn
          · rename_i s1 tg os1 sz by_ hdst hsz1 hby1
            cases hn
            rw [All_append] at ho
            obtain ⟨ho1, ho2⟩ := ho
            simp only [All] at ho2
            obtain ⟨hcl, hnl, hb⟩ := ho2
            have hs2 : i2.size = sz + 1 := by omega
            have hb2 : i2.bytes = by_ + 1 := by omega
            -- the destination's tag
            have key : ∃ G1, RelG C G1 s1 a w ∧ Env.Le w G w G1 ∧ look s1.tags tg = some ⟨n, e, i2.size⟩ ∧ Rep w G1 true (.sl nl n cells .no) vv ∧ ∃ r, G1.τ tg = some r ∧ (r.n = n → r.v = vv) := by
              cases hv with
              | sl _ _ _ _ _ A c vs hnl' hpos hc hcell hrep hclip hown =>
              unfold dstA at hdst
              split at hdst
              · rename_i t0
                split at hdst
                · rename_i g hg
                  split at hdst
                  · rename_i hge hgs
                    cases hdst
                    simp only [All] at ho1
                    obtain ⟨_, r, hr, hrn, hrv⟩ := hown tg rfl
                    refine ⟨G, h, Env.Le.refl _ _, ?_, .sl _ _ _ _ _ _ _ vs hnl' hpos hc hcell hrep (fun e => by cases e) (fun t e => by cases e), r, hr, hrv⟩
                    rw [hg]
                    obtain ⟨gn, ge, gs⟩ := g
                    have e1 := Nat.eq_of_beq_eq_true hge
                    have e2 := Nat.eq_of_beq_eq_true hgs
                    simp only at e1 e2 ho1
                    rw [e1, e2, ho1, hsz2]
                  · cases hdst
                · cases hdst
              · split at hdst
                · rename_i hlk
                  cases hdst
                  have hcn := hclip rfl
                  subst hcn
                  obtain ⟨h1, hle⟩ := h.addTag (t := d) (r := ⟨false, .slice A c c, c, e, ei.size, []⟩) hlk (fun _ => ⟨A, rfl, fun hA => by
                    rcases Nat.eq_zero_or_pos c with h0 | h0
                    · exact h0
                    · obtain ⟨ad, e, _⟩ := hpos h0
                      rw [hA] at e
                      cases e⟩) (fun ho => by cases ho)
                  refine ⟨_, h1, hle, ?_, (Rep.sl true nl c cells .no A c vs hnl' hpos hc hcell hrep (fun e => by cases e) (fun t e => by cases e)).mono hle, ⟨false, .slice A c c, c, e, ei.size, []⟩, by simp [Env.setT], fun _ => rfl⟩
                  simp [AS.tag, look_cons, hsz2]
                · cases hdst
              · cases hdst
            obtain ⟨G1, h1, hle, htg, hv1, hvt⟩ := key
            have hsrc1 : srcA s1 x = some (m, news) := by
              have : s1.heap = s.heap := by
                unfold dstA at hdst
                split at hdst
                · split at hdst
                  · split at hdst
                    · cases hdst; rfl
                    · cases hdst
                  · cases hdst
                · split at hdst
                  · cases hdst; rfl
                  · cases hdst
                · cases hdst
              unfold srcA at hsrc ⊢
              rw [this]
              exact hsrc
            obtain ⟨us, hul, hy, hur, hu1⟩ := srcA_sound (P := P) h1 (hx.mono hle) hsrc1 (sz := i2.size) (by rw [hnl, hs2])
            have := app_core (P := P) (ty := ty) h1 hd hdx hi2 hz2 (by rw [hzs2, hsz2]) (by omega) (by omega) htg hv1 hvt (by rw [hcl, hs2]) (by rw [hnl, hs2]) (by rw [hb2]; exact hb) hul hy hur hu1
            rw [hs2] at this
            exact this
          · cases hn
        · cases hn
      · cases hn
    · cases hn
  · cases hn

end Go.AX
