import Derived.Test.YtpffjbbolaehpaaP2
section
set_option linter.unusedVariables false
set_option linter.unusedSimpArgs false
namespace Go.AX
open Go Go.RowKit

/-! ### What is handed to a call: trees; blocks of one's own that stand still meanwhile -/
mutual
def treeH (s : AS) : AV → Option (AV × List Prop)
  | .int k n => some (.int k n, [])
  | .bool b => some (.bool b, [])
  | .str t => some (.str t, [])
  | .nilFn => some (.nilFn, [])
  | .nilp => some (.nilp, [])
  | .sl nl n cells o => some (.sl nl n cells o.tree, [])
  | .rop cells off => some (.rop cells off, [])
  | .agg cs => match treeHL s cs with
    | some (ds, os) => some (.agg ds, os)
    | none => none
  | .tup cs => match treeHL s cs with
    | some (ds, os) => some (.tup ds, os)
    | none => none
  | .fn f cs => match treeHL s cs with
    | some (ds, os) => some (.fn f ds, os)
    | none => none
  | .undef => none
  | .ptr id off => match look s.heap id with
    | some (.var false cs) => some (.rop cs off, [])
    | some (.rows false cs) => some (.rop cs off, [])
    | _ => none
  | .row id off n => match look s.heap id with
    | some (.rows false cs) => some (.sl (some false) n (cs.drop off) .no, [])
    | _ => none
  | .vec t n => match look s.tags t with
    | some ⟨m, _, _, some (false, cells)⟩ => some (.sl none n cells .no, [n = m])
    | _ => none
  | .vptr _ _ _ => none
def treeHL (s : AS) : List AV → Option (List AV × List Prop)
  | [] => some ([], [])
  | x :: xs => match treeH s x, treeHL s xs with
    | some (y, a), some (ys, b) => some (y :: ys, a ++ b)
    | _, _ => none
end

theorem treeHL_get {s : AS} : ∀ {xs ys : List AV} {os : List Prop}, treeHL s xs = some (ys, os) → All os → ys.length = xs.length ∧ ∀ (i : Nat) (y : AV), ys[i]? = some y → ∃ (x : AV) (os' : List Prop), xs[i]? = some x ∧ treeH s x = some (y, os') ∧ All os'
  | [], ys, os, h, ho => by simp only [treeHL] at h; cases h; exact ⟨rfl, fun i y h => by simp at h⟩
  | x :: xs, ys, os, h, ho => by
    simp only [treeHL] at h
    split at h
    · rename_i y' a ys' b h1 h2
      cases h
      obtain ⟨ho1, ho2⟩ := All_append.1 ho
      obtain ⟨h3, h4⟩ := treeHL_get h2 ho2
      refine ⟨by simp [h3], fun i y hy => ?_⟩
      match i, hy with
      | 0, hy =>
        simp at hy
        subst hy
        exact ⟨x, a, rfl, h1, ho1⟩
      | n + 1, hy => simpa using h4 n y (by simpa using hy)
    · cases h

theorem treeH_sound {C : Ctx} {G : Env} {s : AS} {a : Act} {w : World} (hR : RelG C G s a w) {l : Bool} {x : AV} {v : Value} (h : Rep w G l x v) : ∀ {y : AV} {os : List Prop}, treeH s x = some (y, os) → All os → Rep w G false y v := by
  have lists : ∀ (cs : List AV) (vs : Array Value) (ds : List AV) (os : List Prop), vs.size = cs.length → treeHL s cs = some (ds, os) → All os → (∀ (i : Nat) (c : AV) (v : Value), cs[i]? = some c → vs[i]? = some v → ∀ {y : AV} {os : List Prop}, treeH s c = some (y, os) → All os → Rep w G false y v) →
      vs.size = ds.length ∧ ∀ (i : Nat) (c : AV) (v : Value), ds[i]? = some c → vs[i]? = some v → Rep w G false c v := by
    intro cs vs ds os hl hd ho ih
    obtain ⟨h1, h2⟩ := treeHL_get hd ho
    refine ⟨by rw [h1]; exact hl, fun i c v hc hv => ?_⟩
    obtain ⟨x, os', hx, ht, ho'⟩ := h2 i c hc
    exact ih i x v hx hv ht ho'
  induction h with
  | undef l v => intro y os hy ho; simp [treeH] at hy
  | int l k n => intro y os hy ho; simp only [treeH] at hy; cases hy; exact .int _ _ _
  | bool l b => intro y os hy ho; simp only [treeH] at hy; cases hy; exact .bool _ _
  | str l s => intro y os hy ho; simp only [treeH] at hy; cases hy; exact .str _ _
  | agg l cs vs hl h h1 ih =>
    intro y os hy ho
    simp only [treeH] at hy
    split at hy
    · rename_i ds os' hd
      cases hy
      obtain ⟨h2, h3⟩ := lists cs vs ds _ hl hd ho ih
      exact .agg _ _ _ h2 h3 h1
    · cases hy
  | tup l cs vs hl h ih =>
    intro y os hy ho
    simp only [treeH] at hy
    split at hy
    · rename_i ds os' hd
      cases hy
      obtain ⟨h2, h3⟩ := lists cs vs ds _ hl hd ho ih
      exact .tup _ _ _ h2 h3
    · cases hy
  | fn l f cs vs hl h ih =>
    intro y os hy ho
    simp only [treeH] at hy
    split at hy
    · rename_i ds os' hd
      cases hy
      obtain ⟨h2, h3⟩ := lists cs vs ds _ hl hd ho ih
      exact .fn _ _ _ _ h2 h3
    · cases hy
  | nilFn l => intro y os hy ho; simp only [treeH] at hy; cases hy; exact .nilFn _
  | sl l nl n cells o A c vs hnl hpos hc hcell hrep hclip hown ih =>
    intro y os hy ho
    simp only [treeH] at hy
    cases hy
    refine .sl _ _ _ _ _ _ _ vs hnl hpos hc hcell hrep (fun e => hclip ?_) (fun t e => ?_)
    · cases o <;> simp_all [Own.tree]
    · cases o <;> simp_all [Own.tree]
  | rop l cells off ad vs hcell hrep ih => intro y os hy ho; simp only [treeH] at hy; cases hy; exact .rop _ _ _ _ vs hcell hrep
  | nilp l => intro y os hy ho; simp only [treeH] at hy; cases hy; exact .nilp _
  | ptr id off g h =>
    intro y os hy ho
    simp only [treeH] at hy
    have main : ∀ (cs : List AV) (vs : Array Value) (e : TypeId), w.heap[g]? = some (.cells vs e (0, 0)) → vs.size = cs.length → (∀ (i : Nat) (c : AV) (v : Value), cs[i]? = some c → vs[i]? = some v → Rep w G false c v) → (∀ v ∈ vs, v.oneCell' = true) →
        (∀ o, o < cs.length → G.F g o) → Rep w G false (.rop cs off) (.pointer (some ⟨g, off, none⟩)) := by
      intro cs vs e h1 h2 h3 h4 h5
      have := Rep.rop (w := w) (G := G) false cs off ⟨g, 0, none⟩ (fun j => vs.getD j undef) (fun j x hx => by
        have hj := (List.getElem?_eq_some_iff.1 hx).1
        have hj2 : j < vs.size := by omega
        exact ⟨by simpa using h5 j hj, by simp [World.cell?, h1, hj2], by simp [hj2, h4 _ (Array.getElem_mem hj2)]⟩) (fun j x hx => by
        have hj := (List.getElem?_eq_some_iff.1 hx).1
        have hj2 : j < vs.size := by omega
        simpa [hj2] using h3 j x vs[j] hx (Array.getElem?_eq_getElem hj2))
      simpa using this
    split at hy
    · rename_i cs hb
      cases hy
      obtain ⟨g', hg', hbase, ⟨vs, e, h1, h2, h3, h4, h5⟩, _⟩ := hR.blocks _ _ hb
      rw [h] at hg'
      cases hg'
      exact main cs vs e h1 h2 h3 h4 (fun o ho => h5 o ho rfl)
    · rename_i cs hb
      cases hy
      obtain ⟨g', hg', hbase, ⟨vs, e, h1, h2, h3, h4, h5⟩, _⟩ := hR.blocks _ _ hb
      rw [h] at hg'
      cases hg'
      exact main cs vs e h1 h2 h3 h4 (fun o ho => h5 o ho rfl)
    · cases hy
  | row id off n g c h hc =>
    intro y os hy ho
    simp only [treeH] at hy
    split at hy
    · rename_i cs hb
      cases hy
      obtain ⟨g', hg', hbase, ⟨vs, e, h1, h2, h3, h4, h5⟩, _⟩ := hR.blocks _ _ hb
      rw [h] at hg'
      cases hg'
      refine .sl _ _ _ _ _ _ _ (fun j => vs.getD (off + j) undef) (fun b hb => by cases hb; rfl) (fun _ => ⟨_, rfl, rfl⟩) hc (fun j x hx => ?_) (fun j x hx => ?_) (fun e => by cases e) (fun t e => by cases e)
      · rw [List.getElem?_drop] at hx
        have hj := (List.getElem?_eq_some_iff.1 hx).1
        have hj2 : off + j < vs.size := by omega
        refine ⟨_, rfl, rfl, h5 _ hj rfl, ?_, ?_⟩
        · simp [World.cell?, h1, hj2]
        · simp [hj2, h4 _ (Array.getElem_mem hj2)]
      · rw [List.getElem?_drop] at hx
        have hj := (List.getElem?_eq_some_iff.1 hx).1
        have hj2 : off + j < vs.size := by omega
        simpa [hj2] using h3 (off + j) x vs[off + j] hx (Array.getElem?_eq_getElem hj2)
    · cases hy
  | vec t n A k c r h hle hv =>
    intro y os hy ho
    simp only [treeH] at hy
    split at hy
    · rename_i m e sz cells ht
      cases hy
      simp only [All] at ho
      obtain ⟨r', hr', hok⟩ := hR.tags t _ ht
      rw [h] at hr'
      cases hr'
      obtain ⟨hro, hlen, hrep, hF⟩ := hok.hcs false cells rfl
      have e1 : r.n = n := by rw [hok.hn, ho]
      have hv' := hv e1
      have hx := hok.own hro
      rcases hx.2 with ⟨e2, e3⟩ | ⟨g, cap, cur, e2, _, _, h3, _⟩
      · rw [hv'] at e2
        cases e2
        have hn0 : n = 0 := by omega
        have hc0 : cells = [] := List.eq_nil_of_length_eq_zero (by rw [hlen, hx.1, e1, hn0]; simp)
        subst hn0; subst hc0
        exact .sl _ _ _ _ _ _ _ (fun _ => undef) (fun b hb => by cases hb) (fun h => by omega) (Nat.le_refl _) (fun j x h => by simp at h) (fun j x h => by simp at h) (fun e => by cases e) (fun t e => by cases e)
      · have hgb : r.v.ownBlock = some g := by rw [e2]; rfl
        rw [hv', e1] at e2
        cases e2
        refine .sl _ _ _ _ _ _ _ (fun j => r.xs.getD j undef) (fun b hb => by cases hb) (fun _ => ⟨_, rfl, rfl⟩) (by omega) (fun j x hj => ?_) (fun j x hj => ?_) (fun e => by cases e) (fun t e => by cases e)
        · have hlt : j < r.xs.length := by rw [← hlen]; exact (List.getElem?_eq_some_iff.1 hj).1
          have hcell := hx.cells hgb j r.xs[j] (List.getElem?_eq_getElem hlt)
          rw [add_plain] at hcell
          refine ⟨_, rfl, rfl, ?_, ?_, ?_⟩
          · simpa using hF rfl g hgb j (by rw [← hx.1]; exact hlt)
          · simpa [List.getD_eq_getElem?_getD, List.getElem?_eq_getElem hlt] using hcell
          · simpa [List.getD_eq_getElem?_getD, List.getElem?_eq_getElem hlt] using hok.one hro _ (List.getElem_mem hlt)
        · have hlt : j < r.xs.length := by rw [← hlen]; exact (List.getElem?_eq_some_iff.1 hj).1
          simpa [List.getD_eq_getElem?_getD, List.getElem?_eq_getElem hlt] using hrep j x _ hj (List.getElem?_eq_getElem hlt)
    · cases hy
  | vptr t n off p r h hle hv => intro y os hy ho; simp [treeH] at hy

def freeze1 (s : AS) (id : Nat) : Option (AS × List Prop) :=
  match Nat.ble 5000000 id with
  | true => match look s.tags (id - 5000000) with
    | some ⟨n, e, sz, some (_, cells)⟩ => some (s.tag (id - 5000000) ⟨n, e, sz, some (false, cells)⟩, [])
    | _ => none
  | false => match look s.heap id with
    | some (.var true cs) => match treeHL s cs with
      | some (ds, os) => some (s.blk id (.var false ds), os)
      | none => none
    | some (.rows true cs) => some (s.blk id (.rows false cs), [])
    | some (.var false _) => some (s, [])
    | some (.rows false _) => some (s, [])
    | _ => none
def freezeAll (s : AS) : List Nat → Option (AS × List Prop)
  | [] => some (s, [])
  | i :: r => match freeze1 s i with
    | some (s1, a) => match freezeAll s1 r with
      | some (s2, b) => some (s2, a ++ b)
      | none => none
    | none => none

theorem RelG.still {C : Ctx} {G : Env} {s : AS} {a : Act} {w : World} (h : RelG C G s a w) {i g : Nat} {b b' : Blk} (hi : look s.heap i = some b) (hg : G.φ i = some g) (hrw : b.rw = true) (hrw' : b'.rw = false) {n : Nat}
    (hb : BlkOk w { G with F := fun b o => G.F b o ∨ (b = g ∧ o < n) } g b') : RelG C { G with F := fun b o => G.F b o ∨ (b = g ∧ o < n) } (s.blk i b') a w ∧ Env.Le w G w { G with F := fun b o => G.F b o ∨ (b = g ∧ o < n) } := by
  obtain ⟨g0, h0, hbase, hok, hnF⟩ := h.blocks i b hi
  rw [hg] at h0
  cases h0
  have hle : Env.Le w G w { G with F := fun b o => G.F b o ∨ (b = g ∧ o < n) } := ⟨fun _ _ h => .inl h, fun _ _ _ => rfl, fun _ _ h => h, fun t r hr => ⟨r, hr, Nat.le_refl _, fun _ => rfl⟩⟩
  refine ⟨h.mv (hp := (i, b') :: s.heap) (tg := s.tags) ⟨h.mem.keep, h.mem.le.trans hle, ?_, ?_, ?_, ?_, h.inj, ?_, h.notag, h.deep.mv (fun _ h => h) (fun _ _ _ hr => hr) (fun v _ k => k.mv (fun _ _ => rfl) (fun g' hg' o hf => ?_) k.φ k.τ)⟩ hle, hle⟩
  · intro b o hf
    rcases hf with hf | ⟨rfl, _⟩
    · exact h.fdom b o hf
    · exact hok.lt
  · intro b o hf hlt
    rcases hf with hf | ⟨rfl, _⟩
    · exact h.mem.fold b o hf hlt
    · rcases hbase with h1 | h1
      · omega
      · exact .inr h1
  · intro j c hj
    simp only [look_cons] at hj
    split at hj
    · rename_i e
      cases hj
      subst e
      exact ⟨g, hg, hbase, hb, fun hw => by rw [hrw'] at hw; cases hw⟩
    · rename_i e
      obtain ⟨g', h1, h2, h3, h4⟩ := h.blocks j c hj
      have hne : g' ≠ g := fun hh => e (h.inj i j g hg (hh ▸ h1))
      refine ⟨g', h1, h2, h3.le rfl hle, fun hw o hf => ?_⟩
      rcases hf with hf | ⟨hf, _⟩
      · exact h4 hw o hf
      · exact hne hf
  · intro j hj
    simp only [look_cons] at hj
    split at hj
    · cases hj
    · exact h.noblock j hj
  · intro t n' ht
    obtain ⟨r, hr, hok⟩ := h.tags t n' ht
    refine ⟨r, hr, hok.mv hle (fun _ _ _ => rfl) (fun ho g' hg' o hf => ?_) hok.hφ hok.hτ⟩
    rcases hf with hf | ⟨hf, _⟩
    · exact .inl hf
    · exact absurd (hf ▸ hg) (hok.hφ ho g' hg' i)
  · rcases hf with hf | ⟨hf, _⟩
    · exact hf
    · exact absurd (hf ▸ hg) (k.φ g' hg' i)

/-- A slice whose elements may be written is from now on only read, and appended to. -/
theorem RelG.stillT {C : Ctx} {G : Env} {s : AS} {a : Act} {w : World} (h : RelG C G s a w) {t n : Nat} {e : TypeId} {sz : Nat} {b : Bool} {cells : List AV} (ht : look s.tags t = some ⟨n, e, sz, some (b, cells)⟩) :
    ∃ G', RelG C G' (s.tag t ⟨n, e, sz, some (false, cells)⟩) a w ∧ Env.Le w G w G' := by
  obtain ⟨r, hr, hok⟩ := h.tags t _ ht
  obtain ⟨hro, hlen, hrep, hcF⟩ := hok.hcs b cells rfl
  let G' : Env := { G with F := fun b o => G.F b o ∨ (r.v.ownBlock = some b ∧ o < r.n * r.sz) }
  have hle : Env.Le w G w G' := ⟨fun _ _ h => .inl h, fun _ _ _ => rfl, fun _ _ h => h, fun t r hr => ⟨r, hr, Nat.le_refl _, fun _ => rfl⟩⟩
  refine ⟨G', h.mv (hp := s.heap) (tg := (t, ⟨n, e, sz, some (false, cells)⟩) :: s.tags) ⟨h.mem.keep, h.mem.le.trans hle, ?_, ?_, ?_, h.noblock, h.inj, ?_, ?_, h.deep.mv (fun cells' hc => ?_) (fun _ _ _ hr => hr) (fun v _ k => k.mv (fun _ _ => rfl) (fun g' hg' o hf => ?_) k.φ k.τ)⟩ hle, hle⟩
  · intro b o hf
    rcases hf with hf | ⟨hf, _⟩
    · exact h.fdom b o hf
    · exact ((hok.own hro).lt b hf).2
  · intro b o hf hlt
    rcases hf with hf | ⟨hf, _⟩
    · exact h.mem.fold b o hf hlt
    · rcases hok.base hro b hf with h1 | h1
      · omega
      · exact .inr h1
  · intro j c hj
    obtain ⟨g', h1, h2, h3, h4⟩ := h.blocks j c hj
    refine ⟨g', h1, h2, h3.le rfl hle, fun hw o hf => ?_⟩
    rcases hf with hf | ⟨hf, _⟩
    · exact h4 hw o hf
    · exact hok.hφ hro g' hf j h1
  · intro u k hu
    simp only [look_cons] at hu
    split at hu
    · rename_i e'
      cases hu
      subst e'
      refine ⟨r, hr, ⟨hok.hn, hok.he, hok.hsz, fun ho => (by rw [hro] at ho; cases ho), hok.own, hok.one, hok.base, fun _ g hg o hf => ⟨?_, rfl⟩, hok.hφ, hok.hτ, fun b' cells' hc => ?_⟩⟩
      · rcases hf with hf | ⟨_, hf⟩
        · exact (hok.hF hro g hg o hf).1
        · exact hf
      · cases hc
        exact ⟨hro, hlen, fun i c v hi hv => (hrep i c v hi hv).mono hle, fun _ g hg o ho => .inr ⟨hg, ho⟩⟩
    · rename_i e'
      obtain ⟨ru, h2, hok2⟩ := h.tags u k hu
      refine ⟨ru, h2, hok2.mv hle (fun _ _ _ => rfl) (fun hou g hg o hf => ?_) hok2.hφ hok2.hτ⟩
      rcases hf with hf | ⟨hf, _⟩
      · exact .inl hf
      · exact absurd (hok2.hτ hou g hg t r hr hro hf) e'
  · intro u hu
    simp only [look_cons] at hu
    split at hu
    · cases hu
    · exact h.notag u hu
  · rcases deepC_cons hc with ⟨_, hm⟩ | ⟨_, hc⟩
    · cases hm
    · exact hc
  · rcases hf with hf | ⟨hf, _⟩
    · exact hf
    · exact absurd hf (k.τ g' hg' t r hr hro)

theorem freeze1_sound {C : Ctx} {G : Env} {s s' : AS} {a : Act} {w : World} (h : RelG C G s a w) {id : Nat} {os : List Prop} (hf : freeze1 s id = some (s', os)) (ho : All os) : ∃ G', RelG C G' s' a w ∧ Env.Le w G w G' := by
  unfold freeze1 at hf
  split at hf
  · split at hf
    · rename_i n e sz b cells ht
      cases hf
      exact h.stillT ht
    · cases hf
  · split at hf
    · rename_i cs hb
      split at hf
      · rename_i ds os' hd
        cases hf
        obtain ⟨g, hg, hbase, ⟨vs, e, h1, h2, h3, h4, h5⟩, hnF⟩ := h.blocks _ _ hb
        obtain ⟨h6, h7⟩ := treeHL_get hd ho
        obtain ⟨r1, r2⟩ := h.still (b' := .var false ds) hb hg rfl rfl (n := ds.length) ⟨vs, e, h1, by rw [h6]; exact h2, fun i c v hc hv => by
          obtain ⟨x, os2, hx, ht, ho2⟩ := h7 i c hc
          exact (treeH_sound h (h3 i x v hx hv) ht ho2).tree (fun b o hf => .inl hf), h4, fun o ho _ => .inr ⟨rfl, ho⟩⟩
        exact ⟨_, r1, r2⟩
      · cases hf
    · rename_i cs hb
      cases hf
      obtain ⟨g, hg, hbase, ⟨vs, e, h1, h2, h3, h4, h5⟩, hnF⟩ := h.blocks _ _ hb
      obtain ⟨r1, r2⟩ := h.still (b' := .rows false cs) hb hg rfl rfl (n := cs.length) ⟨vs, e, h1, h2, fun i c v hc hv => (h3 i c v hc hv).tree (fun b o hf => .inl hf), h4, fun o ho _ => .inr ⟨rfl, ho⟩⟩
      exact ⟨_, r1, r2⟩
    · cases hf
      exact ⟨G, h, Env.Le.refl _ _⟩
    · cases hf
      exact ⟨G, h, Env.Le.refl _ _⟩
    · cases hf

theorem freezeAll_sound {C : Ctx} {a : Act} {w : World} : ∀ {ids : List Nat} {G : Env} {s s' : AS} {os : List Prop}, RelG C G s a w → freezeAll s ids = some (s', os) → All os → ∃ G', RelG C G' s' a w ∧ Env.Le w G w G'
  | [], G, s, s', os, h, hf, ho => by cases hf; exact ⟨G, h, Env.Le.refl _ _⟩
  | i :: r, G, s, s', os, h, hf, ho => by
    simp only [freezeAll] at hf
    split at hf
    · rename_i s1 a1 h1
      split at hf
      · rename_i s2 b1 h2
        cases hf
        obtain ⟨ho1, ho2⟩ := All_append.1 ho
        obtain ⟨G1, r1, r2⟩ := freeze1_sound h h1 ho1
        obtain ⟨G2, r3, r4⟩ := freezeAll_sound r1 h2 ho2
        exact ⟨G2, r3, r2.trans r4⟩
      · cases hf
    · cases hf

end Go.AX
end

section
set_option linter.unusedVariables false
set_option linter.unusedSimpArgs false
namespace Go.AX
open Go Go.RowKit

/-! ### Contracts -/
/-- A result's parts, where it is a struct or several values. -/
def tops : AV → List AV
  | .agg cs => cs
  | .tup cs => cs
  | x => [x]
def topsV : Value → List Value
  | .agg cs => cs.toList
  | .tuple cs => cs.toList
  | x => [x]
/-- A part that is new, and may be appended to: what the world says of it. -/
def FrOk (base : Nat) (w : World) : AV → Value → Option TagRec → Prop
  | .sl _ n _ (.fresh e sz), v, some r => r.v = v ∧ r.n = n ∧ r.e = e ∧ r.sz = sz ∧ (r.o = false → ∃ A, v = .slice A n n ∧ (A = none → n = 0)) ∧ (r.o = true → w.ownsRow base e sz v n r.xs ∧ ∀ u ∈ r.xs, u.oneCell' = true)
  | .sl _ _ _ (.fresh _ _), _, none => False
  | _, _, none => True
  | _, _, some _ => False
/-- What is read behind the call: as before, and what is new, but for the places that fresh parts may still be appended at. -/
def Fr (F : Nat → Nat → Prop) (w w' : World) (rs : List (Option TagRec)) (b o : Nat) : Prop :=
  F b o ∨ (w.heap.size ≤ b ∧ b < w'.heap.size ∧ ∀ r, some r ∈ rs → r.o = true → r.v.ownBlock = some b → o < r.n * r.sz)

structure Res (F : Nat → Nat → Prop) (w w' : World) (res : AV) (v : Value) (rs : List (Option TagRec)) : Prop where
  below : Below w.heap.size w w'
  fz : Unf w w'
  len : rs.length = (tops res).length
  lenV : (topsV v).length = (tops res).length
  ok : ∀ (i : Nat) (x : AV) (u : Value) (r : Option TagRec), (tops res)[i]? = some x → (topsV v)[i]? = some u → rs[i]? = some r → FrOk w.heap.size w' x u r
  apart : ∀ (i j : Nat) (r r' : TagRec) (g : Nat), rs[i]? = some (some r) → rs[j]? = some (some r') → r.o = true → r'.o = true → r.v.ownBlock = some g → r'.v.ownBlock = some g → i = j
  rep : Rep w' (envF (Fr F w w' rs)) false res v

def Args (w : World) (F : Nat → Nat → Prop) (xs : List AV) (vs : Array Value) : Prop :=
  vs.size = xs.length ∧ ∀ (i : Nat) (c : AV) (v : Value), xs[i]? = some c → vs[i]? = some v → Rep w (envF F) false c v

/-- THE CONTRACT: called with what these trees stand for, the function returns what that one stands for; what was there stays. -/
def Ctr (P : Program) (f : FuncId) (args : List AV) (res : AV) : Prop :=
  (∀ vs w, (callFunc f vs).run P w = .ok (.enter f vs) w) ∧
  ∀ (w : World) (F : Nat → Nat → Prop) (vs : Array Value), (∀ b o, F b o → b < w.heap.size) → Args w F args vs → Calls P f vs w fun e w' => ∃ v rs, e = .returned v ∧ Res F w w' res v rs

/-- Parts that are new come under tags. -/
def impL (s : AS) (d : Nat) : List AV → Option (AS × List AV)
  | [] => some (s, [])
  | .sl nl n cells (.fresh e sz) :: r => match look s.tags d with
    | none => match impL (s.tag d ⟨n, e, sz, none⟩) (d + 1000) r with
      | some (s', l) => some (s', .sl nl n cells (.own d) :: l)
      | none => none
    | some _ => none
  | x :: r => match impL s (d + 1000) r with
    | some (s', l) => some (s', x :: l)
    | none => none
def imp (s : AS) (d : Nat) (res : AV) : Option (AS × AV) :=
  match res with
  | .agg cs => match impL s d cs with
    | some (s', l) => some (s', .agg l)
    | none => none
  | .tup cs => match impL s d cs with
    | some (s', l) => some (s', .tup l)
    | none => none
  | .sl nl n cells o => match impL s d [.sl nl n cells o] with
    | some (s', [y]) => some (s', y)
    | _ => none
  | x => some (s, x)

theorem own_lower {w : World} {b b' : Nat} {e : TypeId} {size n : Nat} {v : Value} {xs : List Value} (h : w.ownsRow b e size v n xs) (hb : b' ≤ b) : w.ownsRow b' e size v n xs := by
  refine ⟨h.1, ?_⟩
  rcases h.2 with h2 | ⟨g, cap, cur, e1, hg, h3⟩
  · exact .inl h2
  · exact .inr ⟨g, cap, cur, e1, Nat.le_trans hb hg, h3⟩

theorem impL_sound {C : Ctx} {a : Act} {w w' : World} {rs0 : List (Option TagRec)} (hsz : C.w0.heap.size ≤ w.heap.size) (hapart : ∀ (i j : Nat) (r r' : TagRec) (g : Nat), rs0[i]? = some (some r) → rs0[j]? = some (some r') → r.o = true → r'.o = true → r.v.ownBlock = some g → r'.v.ownBlock = some g → i = j) :
    ∀ (xs : List AV) (us : List Value) (rs : List (Option TagRec)) (k d : Nat) (G : Env) (s s' : AS) (l : List AV), us.length = xs.length → rs.length = xs.length → (∀ i r, rs[i]? = some r → rs0[k + i]? = some r) →
    (∀ (i : Nat) (x : AV) (u : Value) (r : Option TagRec), xs[i]? = some x → us[i]? = some u → rs[i]? = some r → FrOk w.heap.size w' x u r) →
    (∀ (i : Nat) (x : AV) (u : Value), xs[i]? = some x → us[i]? = some u → Rep w' G false x u) → RelG C G s a w' →
    (∀ b o, w.heap.size ≤ b → G.F b o → ∀ r, some r ∈ rs0 → r.o = true → r.v.ownBlock = some b → o < r.n * r.sz) → (∀ i g, G.φ i = some g → g < w.heap.size) →
    (∀ t r g, G.τ t = some r → r.o = true → r.v.ownBlock = some g → g < w.heap.size ∨ ∃ i r1, i < k ∧ rs0[i]? = some (some r1) ∧ r1.o = true ∧ r1.v.ownBlock = some g) →
    (∀ v, InnV G s.tags v → ∀ g, v.ownBlock = some g → g < w.heap.size) →
    impL s d xs = some (s', l) → ∃ G', RelG C G' s' a w' ∧ Env.Le w' G w' G' ∧ l.length = xs.length ∧ ∀ (i : Nat) (x : AV) (u : Value), l[i]? = some x → us[i]? = some u → Rep w' G' true x u
  | [], us, rs, k, d, G, s, s', l, hu, hr, hk, hok, hrep, hR, hF, hφ, hτ, hI, h => by
    cases h
    exact ⟨G, hR, Env.Le.refl _ _, rfl, fun i x u hx => by simp at hx⟩
  | x :: xs, us, rs, k, d, G, s, s', l, hu, hr, hk, hok, hrep, hR, hF, hφ, hτ, hI, h => by
    cases us with
    | nil => simp at hu
    | cons u us =>
    cases rs with
    | nil => simp at hr
    | cons r rs =>
    have ok0 := hok 0 x u r rfl rfl rfl
    have rep0 := hrep 0 x u rfl rfl
    have step : ∀ (G1 : Env) (s1 : AS) (y : AV) (l1 : List AV), RelG C G1 s1 a w' → Env.Le w' G w' G1 → (∀ b o, w.heap.size ≤ b → G1.F b o → ∀ r, some r ∈ rs0 → r.o = true → r.v.ownBlock = some b → o < r.n * r.sz) → (∀ i g, G1.φ i = some g → g < w.heap.size) →
        (∀ t r g, G1.τ t = some r → r.o = true → r.v.ownBlock = some g → g < w.heap.size ∨ ∃ i r1, i < k + 1 ∧ rs0[i]? = some (some r1) ∧ r1.o = true ∧ r1.v.ownBlock = some g) → (∀ v, InnV G1 s1.tags v → ∀ g, v.ownBlock = some g → g < w.heap.size) → impL s1 (d + 1000) xs = some (s', l1) → Rep w' G1 true y u →
        ∃ G', RelG C G' s' a w' ∧ Env.Le w' G w' G' ∧ (y :: l1).length = (x :: xs).length ∧ ∀ (i : Nat) (x : AV) (u' : Value), (y :: l1)[i]? = some x → (u :: us)[i]? = some u' → Rep w' G' true x u' := by
      intro G1 s1 y l1 hR1 hle hF1 hφ1 hτ1 hI1 hi hy
      obtain ⟨G', h1, h2, h3, h4⟩ := impL_sound hsz hapart xs us rs (k + 1) (d + 1000) G1 s1 s' l1 (by simpa using hu) (by simpa using hr) (fun i r hi => by
        have := hk (i + 1) r (by simpa using hi)
        rwa [show k + (i + 1) = k + 1 + i by omega] at this) (fun i x u r a b c => hok (i + 1) x u r (by simpa using a) (by simpa using b) (by simpa using c)) (fun i x u a b => (hrep (i + 1) x u (by simpa using a) (by simpa using b)).mono hle) hR1 hF1 hφ1 hτ1 hI1 hi
      refine ⟨G', h1, hle.trans h2, by simp [h3], fun i x' u' hx hu' => ?_⟩
      match i, hx, hu' with
      | 0, hx, hu' =>
        simp at hx hu'
        subst hx; subst hu'
        exact hy.mono h2
      | n + 1, hx, hu' => exact h4 n x' u' (by simpa using hx) (by simpa using hu')
    unfold impL at h
    split at h
    · rename_i heq
      cases heq
    · rename_i nl n cells e sz xs' heq
      cases heq
      split at h
      · rename_i hl
        split at h
        · rename_i s1 l1 hi
          cases h
          cases r with
          | none => exact ok0.elim
          | some r =>
            obtain ⟨o2, o3, o4, o5, o6, o7⟩ := ok0
            have hr0 : rs0[k]? = some (some r) := hk 0 _ rfl
            have hmem : some r ∈ rs0 := List.mem_of_getElem? hr0
            have hgb : r.o = true → ∀ g, r.v.ownBlock = some g → w.heap.size ≤ g := fun ho g hg => ((o7 ho).1.lt g (by rw [← o2]; exact hg)).1
            obtain ⟨h1, h2⟩ := hR.addTag (t := d) (m := ⟨n, e, sz, none⟩) (r := r) hl o3 o4 o5 (fun e => ⟨rfl, by rw [o2, o3]; exact o6 e⟩) (fun ho => ⟨by rw [o4, o5, o3, o2]; exact own_lower (o7 ho).1 (Nat.zero_le _), (o7 ho).2, fun g hg => ⟨.inl (Nat.le_trans hsz (hgb ho g hg)), fun o hf => ⟨hF g o (hgb ho g hg) hf r hmem ho hg, rfl⟩, fun i hi => by have := hφ i g hi; have := hgb ho g hg; omega, fun t' r' hr' ho' hb' => by
              rcases hτ t' r' g hr' ho' hb' with h9 | ⟨i, r1, hlt, h9, h10, h11⟩
              · have := hgb ho g hg; omega
              · have := hapart i k r1 r g h9 hr0 h10 ho h11 hg
                omega, fun v hv hb => by
              have := hI v hv g hb
              have := hgb ho g hg
              omega⟩⟩) (fun cs _ hc => by cases hc) (fun b cs hc => by cases hc)
            refine step (G.setT d r) _ _ l1 h1 h2 hF hφ (fun t r' g hr' ho' hb' => ?_) (fun v hv => ?_) hi ?_
            · simp only [Env.setT] at hr'
              split at hr'
              · cases hr'
                exact .inr ⟨k, r, by omega, hr0, ho', hb'⟩
              · rcases hτ t r' g hr' ho' hb' with h9 | ⟨i, r1, hlt, h9, h10⟩
                · exact .inl h9
                · exact .inr ⟨i, r1, by omega, h9, h10⟩
            · obtain ⟨cells2, r2, j, hc2, q3, q4⟩ := hv
              rcases deepC_cons hc2 with ⟨_, hm⟩ | ⟨e9, hc2⟩
              · cases hm
              · have hne' : DT ≠ d := fun hh => e9 hh.symm
                simp only [Env.setT, if_neg hne'] at q3
                exact hI v ⟨cells2, r2, j, hc2, q3, q4⟩
            · cases rep0 with
              | sl _ _ _ _ _ A c vs hnl hpos hc hcell hrep' hclip hown =>
                refine .sl _ _ _ _ _ _ _ vs hnl hpos hc hcell (fun j x hx => (hrep' j x hx).mono h2) (fun e => by cases e) (fun t' ht' => ?_)
                cases ht'
                exact ⟨rfl, r, by simp [Env.setT], by omega, fun _ => o2⟩
        · cases h
      · cases h
    · rename_i x' xs' _ heq
      cases heq
      split at h
      · rename_i s1 l1 hi
        cases h
        exact step G _ _ l1 hR (Env.Le.refl _ _) hF hφ (fun t r g a b c => by
          rcases hτ t r g a b c with h9 | ⟨i, r1, hlt, h9, h10⟩
          · exact .inl h9
          · exact .inr ⟨i, r1, by omega, h9, h10⟩) hI hi rep0.up
      · cases h

/-- Behind a call: the world is another one, what is handed back stands for the result. -/
theorem RelG.call {C : Ctx} {G : Env} {s s' : AS} {a : Act} {w w' : World} (h : RelG C G s a w) {res y : AV} {v : Value} {rs : List (Option TagRec)} {d : Nat} (hr : Res G.F w w' res v rs) (hi : imp s d res = some (s', y)) : ∃ G', RelG C G' s' a w' ∧ Rep w' G' true y v := by
  obtain ⟨h1, h2⟩ := h.grow (G' := { G with F := Fr G.F w w' rs }) hr.below hr.fz rfl rfl (fun b o hf => .inl hf) (fun b o hf => by
    rcases hf with hf | ⟨h3, h4, _⟩
    · exact .inl hf
    · exact .inr ⟨h3, h4⟩)
  have hrep : Rep w' { G with F := Fr G.F w w' rs } false res v := hr.rep.tree (fun b o hf => hf)
  have core : ∀ (l : List AV), impL s d (tops res) = some (s', l) → ∃ G', RelG C G' s' a w' ∧ Env.Le w' { G with F := Fr G.F w w' rs } w' G' ∧ l.length = (tops res).length ∧ ∀ (i : Nat) (x : AV) (u : Value), l[i]? = some x → (topsV v)[i]? = some u → Rep w' G' true x u := by
    intro l hl
    refine impL_sound (w := w) (rs0 := rs) h.mem.size hr.apart (tops res) (topsV v) rs 0 d _ s s' l hr.lenV hr.len (fun i r h => by rwa [Nat.zero_add]) hr.ok ?_ h1 (fun b o hb hf r hm ho hg => ?_) (fun i g hg => h.blk_lt hg) (fun t r g hr' ho hb => .inl (h.tag_lt hr' ho hb)) (fun v hv g hg => (h.deep.get hv).lt hg) hl
    · intro i x u hx hu
      cases res <;> first
        | (cases hrep with | agg _ cs vs hl' hr' h1' => exact hr' i x u hx (by simpa [topsV] using hu))
        | (cases hrep with | tup _ cs vs hl' hr' => exact hr' i x u hx (by simpa [topsV] using hu))
        | skip
      all_goals (
        have e1 : i = 0 := by
          simp only [tops] at hx
          have := (List.getElem?_eq_some_iff.1 hx).1
          simpa using this
        subst e1
        simp only [tops, List.getElem?_cons_zero, Option.some.injEq] at hx
        subst hx
        first
          | exact .undef _ _
          | (have hv : topsV v = [v] := by cases hrep <;> rfl
             rw [hv] at hu
             simp at hu
             subst hu
             exact hrep))
    · rcases hf with hf | ⟨_, _, h3⟩
      · exact absurd (h.fdom b o hf) (by omega)
      · exact h3 r hm ho hg
  unfold imp at hi
  split at hi
  · rename_i cs
    split at hi
    · rename_i s1 l hl
      cases hi
      obtain ⟨G', h3, h4, h5, h6⟩ := core l hl
      cases hrep with
      | agg _ _ vs hl' hr' h1' => exact ⟨G', h3, .agg _ _ _ (by rw [h5]; exact hl') (fun i c v hc hv => h6 i c v hc (by simpa [topsV] using hv)) h1'⟩
    · cases hi
  · rename_i cs
    split at hi
    · rename_i s1 l hl
      cases hi
      obtain ⟨G', h3, h4, h5, h6⟩ := core l hl
      cases hrep with
      | tup _ _ vs hl' hr' => exact ⟨G', h3, .tup _ _ _ (by rw [h5]; exact hl') (fun i c v hc hv => h6 i c v hc (by simpa [topsV] using hv))⟩
    · cases hi
  · rename_i nl n cells o
    split at hi
    · rename_i s1 y' hl
      cases hi
      obtain ⟨G', h3, h4, h5, h6⟩ := core [y] hl
      refine ⟨G', h3, h6 0 y v rfl ?_⟩
      cases hrep
      rfl
    · cases hi
  · cases hi
    exact ⟨_, h1, hrep.up⟩

/-! ### The operation -/
mutual
def scalarA : AV → Bool
  | .int _ _ => true
  | .bool _ => true
  | .str _ => true
  | .tup cs => scalarL cs
  | .agg cs => scalarL cs
  | _ => false
def scalarL : List AV → Bool
  | [] => true
  | x :: xs => scalarA x && scalarL xs
end
theorem scalarL_get : ∀ {xs : List AV}, scalarL xs = true → ∀ (i : Nat) (x : AV), xs[i]? = some x → scalarA x = true
  | [], _, i, x, hx => by simp at hx
  | y :: ys, h, i, x, hx => by
    simp only [scalarL, Bool.and_eq_true] at h
    match i, hx with
    | 0, hx => simp at hx; subst hx; exact h.1
    | n + 1, hx => exact scalarL_get h.2 n x (by simpa using hx)
theorem scalar_rep {w w' : World} {G G' : Env} {l l' : Bool} {x : AV} {v : Value} (h : Rep w G l x v) (hs : scalarA x = true) : Rep w' G' l' x v := by
  induction h with
  | int => exact .int _ _ _
  | bool => exact .bool _ _
  | str => exact .str _ _
  | agg l cs vs hl h h1 ih =>
    simp only [scalarA] at hs
    exact .agg _ _ _ hl (fun i c v a b => ih i c v a b (scalarL_get hs i c a)) h1
  | tup l cs vs hl h ih =>
    simp only [scalarA] at hs
    exact .tup _ _ _ hl (fun i c v a b => ih i c v a b (scalarL_get hs i c a))
  | _ => simp [scalarA] at hs

def callA (P : Program) (s : AS) (d : Nat) (f : AV) (xs : List AV) (ann : Option Ann) : SR :=
  match f, Ann.call? ann with
  | .fn fid caps, some (zs, g) => match freezeAll s zs with
    | some (s1, a) => match treeHL s1 (xs ++ caps) with
      | some (ys, b) => match scalarA (g ys) with
        | true => some (s, g ys, a ++ (b ++ [Ctr P fid ys (g ys)]))
        | false => match imp s1 d (g ys) with
          | some (s2, v) => some (s2, v, a ++ (b ++ [Ctr P fid ys (g ys)]))
          | none => none
      | none => none
    | none => none
  | _, _ => none

theorem callA_sound {P : Program} {C : Ctx} {G : Env} {s s' : AS} {a : Act} {w : World} (h : RelG C G s a w) {d : Nat} {f y : AV} {xs : List AV} {ann : Option Ann} {vf : Value} {us : Array Value} (hf : Rep w G true f vf) (hl : us.size = xs.length) (hx : ∀ (i : Nat) (c : AV) (v : Value), xs[i]? = some c → us[i]? = some v → Rep w G true c v)
    {os : List Prop} (hn : callA P s d f xs ann = some (s', y, os)) (ho : All os) : ∃ fid caps, vf = .func (.func fid) #[] caps ∧ (callFunc fid (us ++ caps)).run P w = .ok (.enter fid (us ++ caps)) w ∧
      Calls P fid (us ++ caps) w fun e w' => ∃ v G', e = .returned v ∧ RelG C G' s' a w' ∧ Rep w' G' true y v := by
  unfold callA at hn
  split at hn
  · rename_i fid caps zs g _
    cases hf with
    | fn _ _ _ cvs hcl hcr =>
    split at hn
    · rename_i s1 a1 hs1
      split at hn
      · rename_i ys b1 hys
        have main : All (a1 ++ (b1 ++ [Ctr P fid ys (g ys)])) → ∃ G1, RelG C G1 s1 a w ∧ Args w G1.F ys (us ++ cvs) ∧ Ctr P fid ys (g ys) := by
          intro ho
          obtain ⟨ho1, ho2⟩ := All_append.1 ho
          obtain ⟨ho2, ho3⟩ := All_append.1 ho2
          obtain ⟨G1, hR1, hle1⟩ := freezeAll_sound h hs1 ho1
          obtain ⟨hy1, hy2⟩ := treeHL_get hys ho2
          refine ⟨G1, hR1, ⟨by rw [hy1]; simp [hl, hcl], fun i c v hc hv => ?_⟩, ho3⟩
          obtain ⟨x, os', hx', ht, ho'⟩ := hy2 i c hc
          have hrx : Rep w G1 true x v := by
            by_cases hi : i < xs.length
            · rw [List.getElem?_append_left hi] at hx'
              rw [Array.getElem?_append_left (by omega)] at hv
              exact (hx i x v hx' hv).mono hle1
            · rw [List.getElem?_append_right (by omega)] at hx'
              rw [Array.getElem?_append_right (by omega), hl] at hv
              exact (hcr _ x v hx' hv).mono hle1
          exact (treeH_sound hR1 hrx ht ho').tree (fun b o hf => hf)
        split at hn
        · rename_i hsc
          cases hn
          obtain ⟨G1, hR1, hargs, hctr⟩ := main ho
          refine ⟨_, cvs, rfl, hctr.1 _ _, (hctr.2 w G1.F _ hR1.fdom hargs).mono fun e w' hh => ?_⟩
          obtain ⟨v, rs, rfl, hres⟩ := hh
          obtain ⟨h1, h2⟩ := h.grow (G' := G) hres.below hres.fz rfl rfl (fun _ _ h => h) (fun _ _ h => .inl h)
          exact ⟨v, G, rfl, h1, scalar_rep hres.rep hsc⟩
        · split at hn
          · rename_i s2 v hi
            cases hn
            obtain ⟨G1, hR1, hargs, hctr⟩ := main ho
            refine ⟨_, cvs, rfl, hctr.1 _ _, (hctr.2 w G1.F _ hR1.fdom hargs).mono fun e w' hh => ?_⟩
            obtain ⟨v, rs, rfl, hres⟩ := hh
            obtain ⟨G', h1, h2⟩ := hR1.call hres hi
            exact ⟨v, G', rfl, h1, h2⟩
          · cases hn
      · cases hn
    · cases hn
  · cases hn

end Go.AX
end

section
set_option linter.unusedVariables false
set_option linter.unusedSimpArgs false
namespace Go.AX
open Go Go.RowKit

/-- A value that names no block and no tag but those of a state. -/
def isS {α : Type} : Option α → Bool
  | some _ => true
  | none => false
mutual
def idsOk (s : AS) : AV → Bool
  | .ptr b _ => isS (look s.heap b)
  | .row b _ _ => isS (look s.heap b)
  | .sl _ _ _ (.own t) => isS (look s.tags t)
  | .vec t _ => isS (look s.tags t)
  | .vptr t _ _ => isS (look s.tags t)
  | .agg xs => idsOkL s xs
  | .tup xs => idsOkL s xs
  | .fn _ xs => idsOkL s xs
  | _ => true
def idsOkL (s : AS) : List AV → Bool
  | [] => true
  | x :: xs => idsOk s x && idsOkL s xs
end
theorem idsOkL_get {s : AS} : ∀ {xs : List AV}, idsOkL s xs = true → ∀ (i : Nat) (x : AV), xs[i]? = some x → idsOk s x = true
  | [], _, i, x, hx => by simp at hx
  | y :: ys, h, i, x, hx => by
    simp only [idsOkL, Bool.and_eq_true] at h
    match i, hx with
    | 0, hx => simp at hx; subst hx; exact h.1
    | n + 1, hx => exact idsOkL_get h.2 n x (by simpa using hx)

def Env.cut (G : Env) (s : AS) : Env := { G with φ := fun i => if isS (look s.heap i) then G.φ i else none, τ := fun t => if isS (look s.tags t) then G.τ t else none }
theorem idsOk_rep {w : World} {G : Env} {s : AS} {l : Bool} {x : AV} {v : Value} (h : Rep w G l x v) : idsOk s x = true → Rep w (G.cut s) l x v := by
  have trees : ∀ {y : AV} {u : Value}, Rep w G false y u → Rep w (G.cut s) false y u := fun hy => hy.tree (fun b o hf => hf)
  induction h with
  | undef l v => intro _; exact .undef _ _
  | int l k n => intro _; exact .int _ _ _
  | bool l b => intro _; exact .bool _ _
  | str l s => intro _; exact .str _ _
  | agg l cs vs hl h h1 ih => intro hs; simp only [idsOk] at hs; exact .agg _ _ _ hl (fun i c v a b => ih i c v a b (idsOkL_get hs i c a)) h1
  | tup l cs vs hl h ih => intro hs; simp only [idsOk] at hs; exact .tup _ _ _ hl (fun i c v a b => ih i c v a b (idsOkL_get hs i c a))
  | fn l f cs vs hl h ih => intro hs; simp only [idsOk] at hs; exact .fn _ _ _ _ hl (fun i c v a b => ih i c v a b (idsOkL_get hs i c a))
  | nilFn l => intro _; exact .nilFn _
  | sl l nl n cells o A c vs hnl hpos hc hcell hrep hclip hown ih =>
    intro hs
    refine .sl _ _ _ _ _ _ _ vs hnl hpos hc hcell (fun j x hx => trees (hrep j x hx)) hclip (fun t e => ?_)
    subst e
    simp only [idsOk] at hs
    obtain ⟨h1, r, hr, h2⟩ := hown t rfl
    exact ⟨h1, r, by simp [Env.cut, hs, hr], h2⟩
  | rop l cells off ad vs hcell hrep ih => intro _; exact .rop _ _ _ _ vs hcell (fun j x hx => trees (hrep j x hx))
  | nilp l => intro _; exact .nilp _
  | ptr id off g h => intro hs; simp only [idsOk] at hs; exact .ptr _ _ _ (by simp [Env.cut, hs, h])
  | row id off n g c h hc => intro hs; simp only [idsOk] at hs; exact .row _ _ _ _ _ (by simp [Env.cut, hs, h]) hc
  | vec t n A m c r h hle hv => intro hs; simp only [idsOk] at hs; exact .vec _ _ _ _ _ r (by simp [Env.cut, hs, h]) hle hv
  | vptr t n off p r h hle hv => intro hs; simp only [idsOk] at hs; exact .vptr _ _ _ _ r (by simp [Env.cut, hs, h]) hle hv
def idsB (s : AS) : Blk → Bool
  | .var true xs => idsOkL s xs
  | _ => true
def idsH (s : AS) : List (Nat × Blk) → Bool
  | [] => true
  | (_, v) :: r => idsB s v && idsH s r
theorem idsH_look {s : AS} : ∀ {l : List (Nat × Blk)} {i : Nat} {v : Blk}, idsH s l = true → look l i = some v → idsB s v = true
  | [], i, v, h, hl => by simp [look] at hl
  | (j, u) :: r, i, v, h, hl => by
    simp only [idsH, Bool.and_eq_true] at h
    rw [look_cons] at hl
    split at hl
    · cases hl; exact h.1
    · exact idsH_look h.2 hl
theorem BlkOk.cut {w : World} {G : Env} {g : Nat} {s : AS} {b : Blk} (h : BlkOk w G g b) (hid : idsB s b = true) : BlkOk w (G.cut s) g b := by
  cases b with
  | var wr xs =>
    obtain ⟨vs, e, k1, k2, k3, k4, k5⟩ := h
    refine ⟨vs, e, k1, k2, fun j c v hc hv => ?_, k4, k5⟩
    cases wr with
    | true => exact idsOk_rep (k3 j c v hc hv) (idsOkL_get hid j c hc)
    | false => exact (k3 j c v hc hv).tree (fun b o hf => hf)
  | rows wr xs =>
    obtain ⟨vs, e, k1, k2, k3, k4, k5⟩ := h
    exact ⟨vs, e, k1, k2, fun j c v hc hv => (k3 j c v hc hv).tree (fun b o hf => hf), k4, k5⟩
  | iter st p => exact h
/-- Only these slots, blocks and tags are kept. -/
def pickK {α : Type} : List Nat → List (Nat × α) → List (Nat × α)
  | [], _ => []
  | i :: r, l => match look l i with
    | some v => (i, v) :: pickK r l
    | none => pickK r l
theorem pickK_look {α : Type} {l : List (Nat × α)} : ∀ {ks : List Nat} {i : Nat} {v : α}, look (pickK ks l) i = some v → look l i = some v
  | [], i, v, h => by simp [pickK, look] at h
  | k :: ks, i, v, h => by
    simp only [pickK] at h
    split at h
    · rename_i u hu
      rw [look_cons] at h
      split at h
      · rename_i e
        cases h
        subst e
        exact hu
      · exact pickK_look h
    · exact pickK_look h
theorem look_append {α : Type} (l m : List (Nat × α)) (i : Nat) : look (l ++ m) i = (look l i).or (look m i) := by
  induction l with
  | nil => simp [look]
  | cons x l ih =>
    obtain ⟨j, v⟩ := x
    simp only [List.cons_append, look_cons]
    split
    · rfl
    · exact ih

/-! ### What is lent to a call -/
structure MemS where
  heap : List (Nat × Blk)
  tags : List (Nat × Tag)
def MemS.as (M : MemS) : AS := ⟨[], M.heap, M.tags⟩

/-- THE CONTRACT over memory that is lent: called with what these values stand for, where that memory lies, the function returns what that one stands for, and leaves that memory. -/
def CtrM (P : Program) (f : FuncId) (M : MemS) (args : List AV) (M' : MemS) (res : AV) : Prop :=
  (∀ vs w, (callFunc f vs).run P w = .ok (.enter f vs) w) ∧
  ∀ (C : Ctx) (vs : Array Value), RelM C C.G0 M.heap M.tags C.w0 → vs.size = args.length → (∀ (i : Nat) (c : AV) (v : Value), args[i]? = some c → vs[i]? = some v → Rep C.w0 C.G0 true c v) →
    Calls P f vs C.w0 fun e w' => ∃ v G', e = .returned v ∧ RelM C G' M'.heap M'.tags w' ∧ Rep w' G' true res v

def keysGe {α : Type} : List (Nat × α) → Bool
  | [] => true
  | (i, _) :: r => Nat.ble 1000000 i && keysGe r
theorem keysGe_look {α : Type} : ∀ {l : List (Nat × α)} {i : Nat}, keysGe l = true → i < 1000000 → look l i = none
  | [], i, h, hi => rfl
  | (j, v) :: r, i, h, hi => by
    simp only [keysGe, Bool.and_eq_true] at h
    have := Nat.le_of_ble_eq_true h.1
    rw [look_cons, if_neg (by omega)]
    exact keysGe_look h.2 hi
/-- All keys of one list are keys of the other. -/
def keysIn {α β : Type} (m : List (Nat × β)) : List (Nat × α) → Bool
  | [] => true
  | (i, _) :: r => isS (look m i) && keysIn m r
theorem keysIn_look {α β : Type} {m : List (Nat × β)} : ∀ {l : List (Nat × α)} {i : Nat}, keysIn m l = true → isS (look l i) = true → isS (look m i) = true
  | [], i, h, hi => by simp [look, isS] at hi
  | (j, v) :: r, i, h, hi => by
    simp only [keysIn, Bool.and_eq_true] at h
    rw [look_cons] at hi
    split at hi
    · rename_i e; subst e; exact h.1
    · exact keysIn_look h.2 hi
/-- Keys that are new there are not in the state. -/
def keysNew {α β γ : Type} (m : List (Nat × β)) (s : List (Nat × γ)) : List (Nat × α) → Bool
  | [] => true
  | (i, _) :: r => (isS (look m i) || !isS (look s i)) && keysNew m s r
theorem keysNew_look {α β γ : Type} {m : List (Nat × β)} {s : List (Nat × γ)} : ∀ {l : List (Nat × α)} {i : Nat}, keysNew m s l = true → isS (look l i) = true → isS (look m i) = true ∨ look s i = none
  | [], i, h, hi => by simp [look, isS] at hi
  | (j, v) :: r, i, h, hi => by
    simp only [keysNew, Bool.and_eq_true, Bool.or_eq_true, Bool.not_eq_true'] at h
    rw [look_cons] at hi
    split at hi
    · rename_i e
      subst e
      rcases h.1 with h1 | h1
      · exact .inl h1
      · cases hs : look s j with
        | none => exact .inr rfl
        | some x => rw [hs] at h1; cases h1
    · exact keysNew_look h.2 hi
theorem isS_some {α : Type} {o : Option α} (h : isS o = true) : ∃ x, o = some x := by
  cases o with
  | none => cases h
  | some x => exact ⟨x, rfl⟩
theorem isS_none {α : Type} {o : Option α} (h : ¬ isS o = true) : o = none := by
  cases o with
  | none => rfl
  | some x => exact absurd rfl h

def lendC (w : World) (G : Env) (M : MemS) (hk : keysGe M.heap = true) (ht : keysGe M.tags = true) : Ctx where
  w0 := w
  G0 := G.cut M.as
  nt := 0
  L := fun b => (∃ i, isS (look M.heap i) = true ∧ G.φ i = some b) ∨ (∃ t r, isS (look M.tags t) = true ∧ G.τ t = some r ∧ r.o = true ∧ r.v.ownBlock = some b) ∨ ∃ v, InnV G M.tags v ∧ v.ownBlock = some b
  dom0 := fun i hi => by simp [Env.cut, MemS.as, keysGe_look hk hi, isS]
  domτ := fun i hi => by simp [Env.cut, MemS.as, keysGe_look ht hi, isS]

theorem cut_φ {G : Env} {s : AS} {i g : Nat} (h : (G.cut s).φ i = some g) : G.φ i = some g ∧ isS (look s.heap i) = true := by
  simp only [Env.cut] at h
  split at h
  · rename_i hs; exact ⟨h, hs⟩
  · cases h
theorem cut_τ {G : Env} {s : AS} {t : Nat} {r : TagRec} (h : (G.cut s).τ t = some r) : G.τ t = some r ∧ isS (look s.tags t) = true := by
  simp only [Env.cut] at h
  split at h
  · rename_i hs; exact ⟨h, hs⟩
  · cases h

theorem lend_start {C : Ctx} {G : Env} {s : AS} {w : World} (h : RelM C G s.heap s.tags w) {M : MemS} (hk : keysGe M.heap = true) (ht : keysGe M.tags = true) (hH : ∀ i b, look M.heap i = some b → look s.heap i = some b) (hT : ∀ t n, look M.tags t = some n → look s.tags t = some n) (hid : idsH M.as M.heap = true) :
    RelM (lendC w G M hk ht) (G.cut M.as) M.heap M.tags w := by
  refine ⟨Keep.refl _ _, Env.Le.refl _ _, h.fdom, fun b o hf _ => .inl hf, fun i b hb => ?_, fun i hi => ?_, fun i j g hi hj => h.inj i j g (cut_φ hi).1 (cut_φ hj).1, fun t n hn => ?_, fun t hn => ?_, fun cells r hc hr => ?_⟩
  · obtain ⟨g, hg, hbase, hok, hnF⟩ := h.blocks i b (hH i b hb)
    have hs : isS (look M.heap i) = true := by rw [hb]; rfl
    exact ⟨g, by simp [Env.cut, MemS.as, hs, hg], .inr (.inl ⟨i, hs, hg⟩), hok.cut (idsH_look hid hb), hnF⟩
  · simp [Env.cut, MemS.as, hi, isS]
  · obtain ⟨r, hr, hok⟩ := h.tags t n (hT t n hn)
    have hs : isS (look M.tags t) = true := by rw [hn]; rfl
    refine ⟨r, by simp [Env.cut, MemS.as, hs, hr], ⟨hok.hn, hok.he, hok.hsz, hok.clip, hok.own, hok.one, fun ho g hg => .inr (.inr (.inl ⟨t, r, hs, hr, ho, hg⟩)), hok.hF, fun ho g hg i hi => hok.hφ ho g hg i (cut_φ hi).1, fun ho g hg t' r' hr' => hok.hτ ho g hg t' r' (cut_τ hr').1, fun b cells hc => ?_⟩⟩
    obtain ⟨k1, k2, k3, k4⟩ := hok.hcs b cells hc
    exact ⟨k1, k2, fun i c v hi hv => (k3 i c v hi hv).tree (fun b o hf => hf), k4⟩
  · simp [Env.cut, MemS.as, hn, isS]
  · have hr' := (cut_τ hr).1
    have hc' : deepC s.tags cells := by obtain ⟨m, q1, q2⟩ := hc; exact ⟨m, hT _ _ q1, q2⟩
    obtain ⟨k1, k2⟩ := h.deep cells r hc' hr'
    refine ⟨fun i v hv => ?_, k2⟩
    obtain ⟨n, xs, q1, q2, q3⟩ := k1 i v hv
    exact ⟨n, xs, q1, q2, fun g hg => ⟨.inr (.inr (.inr ⟨v, ⟨cells, r, i, hc, hr', hv⟩, hg⟩)), (q3 g hg).2.1, fun j hj => (q3 g hg).2.2.1 j (cut_φ hj).1, fun t' r' hr' ho' => (q3 g hg).2.2.2 t' r' (cut_τ hr').1 ho'⟩⟩

theorem lend_end {C : Ctx} {G G1 : Env} {s : AS} {w w' : World} (h : RelM C G s.heap s.tags w) {M M' : MemS} (hk : keysGe M.heap = true) (ht : keysGe M.tags = true) (hH : ∀ i b, look M.heap i = some b → look s.heap i = some b) (hT : ∀ t n, look M.tags t = some n → look s.tags t = some n)
    (k : RelM (lendC w G M hk ht) G1 M'.heap M'.tags w') (iH : ∀ i, isS (look M.heap i) = true → isS (look M'.heap i) = true) (iT : ∀ i, isS (look M.tags i) = true → isS (look M'.tags i) = true)
    (nH : ∀ i, isS (look M'.heap i) = true → isS (look M.heap i) = true ∨ look s.heap i = none) (nT : ∀ i, isS (look M'.tags i) = true → isS (look M.tags i) = true ∨ look s.tags i = none) :
    ∃ G2, RelM C G2 (M'.heap ++ s.heap) (M'.tags ++ s.tags) w' ∧ Env.Le w G w' G2 ∧ Env.Le w' G1 w' G2 := by
  let L' := (lendC w G M hk ht).L
  have hV' : ∀ v, InnV G M.tags v → InnV G s.tags v := by
    rintro v ⟨cells, r, i, ⟨m, q1, q2⟩, q3, q4⟩
    exact ⟨cells, r, i, ⟨m, hT _ _ q1, q2⟩, q3, q4⟩
  have hV : ∀ v, InnV G M.tags v → Inn C G w v := fun v hv => h.deep.get (hV' v hv)
  have hL : ∀ g, L' g → C.w0.heap.size ≤ g ∨ C.L g := by
    intro g hg
    rcases hg with ⟨i, hi, hφ⟩ | ⟨t, r, hi, hr, ho, hb⟩ | ⟨v, hv, hb⟩
    · obtain ⟨b, hb⟩ := isS_some hi
      obtain ⟨g', hg', hbase, _⟩ := h.blocks i b (hH i b hb)
      rw [hφ] at hg'
      cases hg'
      exact hbase
    · obtain ⟨n, _, hok⟩ := h.tag_ok hr
      exact hok.base ho g hb
    · exact (hV v hv).base g hb
  -- blocks that were not lent
  have hA : ∀ i g, G.φ i = some g → ¬ isS (look M'.heap i) = true → g < w.heap.size ∧ ¬ L' g := by
    intro i g hφ hn
    refine ⟨h.blk_lt hφ, fun hg => ?_⟩
    rcases hg with ⟨j, hj, hφ'⟩ | ⟨t, r, hi, hr, ho, hb⟩ | ⟨v, hv, hb⟩
    · have := h.inj i j g hφ hφ'
      subst this
      exact hn (iH i hj)
    · obtain ⟨n, _, hok⟩ := h.tag_ok hr
      exact hok.hφ ho g hb i hφ
    · exact (hV v hv).φ g hb i hφ
  have hB : ∀ t r g, G.τ t = some r → ¬ isS (look M'.tags t) = true → r.o = true → r.v.ownBlock = some g → g < w.heap.size ∧ ¬ L' g := by
    intro t r g hr hn ho hb
    obtain ⟨n, _, hok⟩ := h.tag_ok hr
    refine ⟨h.tag_lt hr ho hb, fun hg => ?_⟩
    rcases hg with ⟨j, hj, hφ'⟩ | ⟨t2, r2, hi, hr2, ho2, hb2⟩ | ⟨v, hv, hb2⟩
    · exact hok.hφ ho g hb j hφ'
    · have := hok.hτ ho g hb t2 r2 hr2 ho2 hb2
      subst this
      exact hn (iT _ hi)
    · exact (hV v hv).τ g hb2 t r hr ho hb
  have hC1 : ∀ i g, G1.φ i = some g → isS (look M'.heap i) = true ∧ (w.heap.size ≤ g ∨ L' g) := by
    intro i g hg
    cases hi : look M'.heap i with
    | none => rw [k.noblock i hi] at hg; cases hg
    | some b =>
      obtain ⟨g', hg', hbase, _⟩ := k.blocks i b hi
      rw [hg] at hg'
      cases hg'
      exact ⟨rfl, hbase⟩
  have hC2 : ∀ t r g, G1.τ t = some r → isS (look M'.tags t) = true ∧ (r.o = true → r.v.ownBlock = some g → w.heap.size ≤ g ∨ L' g) := by
    intro t r g hr
    obtain ⟨n, hn, hok⟩ := k.tag_ok hr
    exact ⟨by rw [hn]; rfl, fun ho hb => hok.base ho g hb⟩
  have hF : ∀ g o, G1.F g o → g < w.heap.size → ¬ L' g → G.F g o := by
    intro g o hf hlt hn
    rcases k.fold g o hf hlt with h1 | h1
    · exact h1
    · exact absurd h1 hn
  let G2 : Env := ⟨G1.F, fun i => if isS (look M'.heap i) then G1.φ i else G.φ i, fun t => if isS (look M'.tags t) then G1.τ t else G.τ t⟩
  have hle : Env.Le w G w' G2 := by
    refine ⟨fun b o hf => k.le.F b o hf, fun b o hf => k.le.cell b o hf, fun i g hg => ?_, fun t r hr => ?_⟩
    · show (if isS (look M'.heap i) then G1.φ i else G.φ i) = some g
      split
      · rename_i hi
        rcases nH i hi with h1 | h1
        · exact k.le.φ i g (by simp [lendC, Env.cut, MemS.as, h1, hg])
        · rw [h.noblock i h1] at hg; cases hg
      · exact hg
    · show ∃ r', (if isS (look M'.tags t) then G1.τ t else G.τ t) = some r' ∧ _
      split
      · rename_i hi
        rcases nT t hi with h1 | h1
        · exact k.le.τ t r (by simp [lendC, Env.cut, MemS.as, h1, hr])
        · rw [h.notag t h1] at hr; cases hr
      · exact ⟨r, hr, Nat.le_refl _, fun _ => rfl⟩
  have hle1 : Env.Le w' G1 w' G2 := by
    refine ⟨fun b o hf => hf, fun _ _ _ => rfl, fun i g hg => ?_, fun t r hr => ⟨r, ?_, Nat.le_refl _, fun _ => rfl⟩⟩
    · show (if isS (look M'.heap i) then G1.φ i else G.φ i) = some g
      rw [if_pos (hC1 i g hg).1]; exact hg
    · show (if isS (look M'.tags t) then G1.τ t else G.τ t) = some r
      rw [if_pos (hC2 t r 0 hr).1]; exact hr
  have hφ2 : ∀ i g, G2.φ i = some g → (isS (look M'.heap i) = true ∧ G1.φ i = some g) ∨ (¬ isS (look M'.heap i) = true ∧ G.φ i = some g) := by
    intro i g hg
    have hg : (if isS (look M'.heap i) then G1.φ i else G.φ i) = some g := hg
    split at hg
    · rename_i hi; exact .inl ⟨hi, hg⟩
    · rename_i hi; exact .inr ⟨hi, hg⟩
  have hτ2 : ∀ t r, G2.τ t = some r → (isS (look M'.tags t) = true ∧ G1.τ t = some r) ∨ (¬ isS (look M'.tags t) = true ∧ G.τ t = some r) := by
    intro t r hg
    have hg : (if isS (look M'.tags t) then G1.τ t else G.τ t) = some r := hg
    split at hg
    · rename_i hi; exact .inl ⟨hi, hg⟩
    · rename_i hi; exact .inr ⟨hi, hg⟩
  refine ⟨G2, ⟨h.keep.trans k.keep (fun g hlt hg => ?_), h.le.trans hle, k.fdom, fun b o hf hlt => ?_, fun i b hb => ?_, fun i hi => ?_, fun i j g hi hj => ?_, fun t n hn => ?_, fun t hn => ?_, fun cells r hc hr => ?_⟩, hle, hle1⟩
  · rcases hL g hg with h1 | h1
    · omega
    · exact h1
  · rcases k.fold b o hf (Nat.lt_of_lt_of_le hlt h.size) with h1 | h1
    · exact h.fold b o h1 hlt
    · rcases hL b h1 with h2 | h2
      · omega
      · exact .inr h2
  · rw [look_append] at hb
    cases hm : look M'.heap i with
    | some b' =>
      rw [hm] at hb
      simp only [Option.some_or, Option.some.injEq] at hb
      subst hb
      obtain ⟨g, hg, hbase, hok, hnF⟩ := k.blocks i b' hm
      refine ⟨g, hle1.φ i g hg, ?_, hok.le rfl hle1, hnF⟩
      rcases hbase with h1 | h1
      · exact .inl (Nat.le_trans h.size h1)
      · exact hL g h1
    | none =>
      rw [hm] at hb
      simp only [Option.none_or] at hb
      obtain ⟨g, hg, hbase, hok, hnF⟩ := h.blocks i b hb
      obtain ⟨h1, h2⟩ := hA i g hg (by rw [hm]; simp [isS])
      exact ⟨g, hle.φ i g hg, hbase, hok.le (k.keep.block g h1 h2) hle, fun hw o hf => hnF hw o (hF g o hf h1 h2)⟩
  · rw [look_append] at hi
    simp only [Option.or_eq_none_iff] at hi
    show (if isS (look M'.heap i) then G1.φ i else G.φ i) = none
    rw [hi.1]
    exact h.noblock i hi.2
  · rcases hφ2 i g hi with ⟨i1, i2⟩ | ⟨i1, i2⟩ <;> rcases hφ2 j g hj with ⟨j1, j2⟩ | ⟨j1, j2⟩
    · exact k.inj i j g i2 j2
    · obtain ⟨h1, h2⟩ := hA j g j2 j1
      rcases (hC1 i g i2).2 with h3 | h3
      · omega
      · exact absurd h3 h2
    · obtain ⟨h1, h2⟩ := hA i g i2 i1
      rcases (hC1 j g j2).2 with h3 | h3
      · omega
      · exact absurd h3 h2
    · exact h.inj i j g i2 j2
  · rw [look_append] at hn
    cases hm : look M'.tags t with
    | some n' =>
      rw [hm] at hn
      simp only [Option.some_or, Option.some.injEq] at hn
      subst hn
      obtain ⟨r, hr, hok⟩ := k.tags t n' hm
      refine ⟨r, by show (if isS (look M'.tags t) then G1.τ t else G.τ t) = some r; rw [hm]; exact hr, ⟨hok.hn, hok.he, hok.hsz, hok.clip, hok.own, hok.one, fun ho g hg => ?_, hok.hF, fun ho g hg i hi => ?_, fun ho g hg t' r' hr' ho' hb' => ?_, fun b cells hc => ?_⟩⟩
      · rcases hok.base ho g hg with h1 | h1
        · exact .inl (Nat.le_trans h.size h1)
        · exact hL g h1
      · rcases hφ2 i g hi with ⟨i1, i2⟩ | ⟨i1, i2⟩
        · exact hok.hφ ho g hg i i2
        · obtain ⟨h1, h2⟩ := hA i g i2 i1
          rcases hok.base ho g hg with h3 | h3
          · exact absurd h1 (Nat.not_lt.2 h3)
          · exact absurd h3 h2
      · rcases hτ2 t' r' hr' with ⟨i1, i2⟩ | ⟨i1, i2⟩
        · exact hok.hτ ho g hg t' r' i2 ho' hb'
        · obtain ⟨h1, h2⟩ := hB t' r' g i2 i1 ho' hb'
          rcases hok.base ho g hg with h3 | h3
          · exact absurd h1 (Nat.not_lt.2 h3)
          · exact absurd h3 h2
      · obtain ⟨k1, k2, k3, k4⟩ := hok.hcs b cells hc
        exact ⟨k1, k2, fun i c v hi hv => (k3 i c v hi hv).mono hle1, k4⟩
    | none =>
      rw [hm] at hn
      simp only [Option.none_or] at hn
      obtain ⟨r, hr, hok⟩ := h.tags t n hn
      have hn' : ¬ isS (look M'.tags t) = true := by rw [hm]; simp [isS]
      refine ⟨r, by show (if isS (look M'.tags t) then G1.τ t else G.τ t) = some r; rw [if_neg hn']; exact hr, hok.mv hle (fun ho g hg => ?_) (fun ho g hg o hf => ?_) (fun ho g hg i hi => ?_) (fun ho g hg t' r' hr' ho' hb' => ?_)⟩
      · obtain ⟨h1, h2⟩ := hB t r g hr hn' ho hg
        exact k.keep.block g h1 h2
      · obtain ⟨h1, h2⟩ := hB t r g hr hn' ho hg
        exact .inl (hF g o hf h1 h2)
      · obtain ⟨h1, h2⟩ := hB t r g hr hn' ho hg
        rcases hφ2 i g hi with ⟨i1, i2⟩ | ⟨i1, i2⟩
        · rcases (hC1 i g i2).2 with h3 | h3
          · omega
          · exact h2 h3
        · exact hok.hφ ho g hg i i2
      · obtain ⟨h1, h2⟩ := hB t r g hr hn' ho hg
        rcases hτ2 t' r' hr' with ⟨i1, i2⟩ | ⟨i1, i2⟩
        · rcases (hC2 t' r' g i2).2 ho' hb' with h3 | h3
          · omega
          · exact absurd h3 h2
        · exact hok.hτ ho g hg t' r' i2 ho' hb'
  · rw [look_append] at hn
    simp only [Option.or_eq_none_iff] at hn
    show (if isS (look M'.tags t) then G1.τ t else G.τ t) = none
    rw [hn.1]
    exact h.notag t hn.2
  · obtain ⟨m, q1, q2⟩ := hc
    rw [look_append] at q1
    cases hm : look M'.tags DT with
    | some m' =>
      rw [hm] at q1
      simp only [Option.some_or, Option.some.injEq] at q1
      subst q1
      have hr1 : G1.τ DT = some r := by
        have hr : (if isS (look M'.tags DT) then G1.τ DT else G.τ DT) = some r := hr
        rw [hm] at hr
        exact hr
      obtain ⟨k1, k2⟩ := k.deep cells r ⟨_, hm, q2⟩ hr1
      refine ⟨fun i v hv => ?_, k2⟩
      have kv := k1 i v hv
      obtain ⟨n, xs, p1, p2, p3⟩ := kv
      refine ⟨n, xs, p1, p2, fun g hg => ⟨?_, (p3 g hg).2.1, fun i hi => ?_, fun t' r' hr' ho' hb' => ?_⟩⟩
      · rcases (p3 g hg).1 with h1 | h1
        · exact .inl (Nat.le_trans h.size h1)
        · exact hL g h1
      · rcases hφ2 i g hi with ⟨i1, i2⟩ | ⟨i1, i2⟩
        · exact (p3 g hg).2.2.1 i i2
        · obtain ⟨h1, h2⟩ := hA i g i2 i1
          rcases (p3 g hg).1 with h3 | h3
          · exact absurd h1 (Nat.not_lt.2 h3)
          · exact absurd h3 h2
      · rcases hτ2 t' r' hr' with ⟨i1, i2⟩ | ⟨i1, i2⟩
        · exact (p3 g hg).2.2.2 t' r' i2 ho' hb'
        · obtain ⟨h1, h2⟩ := hB t' r' g i2 i1 ho' hb'
          rcases (p3 g hg).1 with h3 | h3
          · exact absurd h1 (Nat.not_lt.2 h3)
          · exact absurd h3 h2
    | none =>
      rw [hm] at q1
      simp only [Option.none_or] at q1
      have hr0 : G.τ DT = some r := by
        have hr : (if isS (look M'.tags DT) then G1.τ DT else G.τ DT) = some r := hr
        rw [hm] at hr
        exact hr
      obtain ⟨k1, k2⟩ := h.deep cells r ⟨_, q1, q2⟩ hr0
      refine ⟨fun i v hv => ?_, k2⟩
      have kv := k1 i v hv
      have hVM : ∀ u, ¬ InnV G M.tags u := by
        rintro u ⟨cells2, r2, j, ⟨m2, p1, p2⟩, _⟩
        have := iT DT (by rw [p1]; rfl)
        rw [hm] at this
        cases this
      have hnl : ∀ g, v.ownBlock = some g → ¬ L' g := by
        intro g hg hl
        rcases hl with ⟨j, hj, hφ'⟩ | ⟨t2, r2, hi, hr2, ho2, hb2⟩ | ⟨u, hu, hb2⟩
        · exact kv.φ g hg j hφ'
        · exact kv.τ g hg t2 r2 hr2 ho2 hb2
        · exact hVM u hu
      refine kv.mv (fun g hg => k.keep.block g (kv.lt hg) (hnl g hg)) (fun g hg o hf => hF g o hf (kv.lt hg) (hnl g hg)) (fun g hg i hi => ?_) (fun g hg t' r' hr' ho' hb' => ?_)
      · rcases hφ2 i g hi with ⟨i1, i2⟩ | ⟨i1, i2⟩
        · rcases (hC1 i g i2).2 with h3 | h3
          · have := kv.lt hg; omega
          · exact hnl g hg h3
        · exact kv.φ g hg i i2
      · rcases hτ2 t' r' hr' with ⟨i1, i2⟩ | ⟨i1, i2⟩
        · rcases (hC2 t' r' g i2).2 ho' hb' with h3 | h3
          · have := kv.lt hg; omega
          · exact hnl g hg h3
        · exact kv.τ g hg t' r' i2 ho' hb'

end Go.AX
end

section
set_option linter.unusedVariables false
set_option linter.unusedSimpArgs false
namespace Go.AX
open Go Go.RowKit

/-! ### Slices in a variable come under tags -/
def conv1 (s : AS) (x : Bool × Nat × Nat × Nat × TypeId × Nat) : Option AS :=
  match look s.heap x.2.1 with
  | some (.var true cs) => match cs[x.2.2.1]? with
    | some (.sl nl n cells .clip) => match look s.tags x.2.2.2.1 with
      | none => match x.1 with
        | true => match nl, n, cells with
          | some true, 0, [] => some ((s.tag x.2.2.2.1 ⟨0, x.2.2.2.2.1, x.2.2.2.2.2, some (true, [])⟩).blk x.2.1 (.var true (cs.set x.2.2.1 (.vec x.2.2.2.1 0))))
          | _, _, _ => none
        | false => some ((s.tag x.2.2.2.1 ⟨n, x.2.2.2.2.1, x.2.2.2.2.2, none⟩).blk x.2.1 (.var true (cs.set x.2.2.1 (.sl none n cells (.own x.2.2.2.1)))))
      | some _ => none
    | some (.vec t n) => some s
    | some (.sl nl n cells (.own t)) => some s
    | _ => none
  | _ => none
def convAll (s : AS) : List (Bool × Nat × Nat × Nat × TypeId × Nat) → Option AS
  | [] => some s
  | x :: r => match conv1 s x with
    | some s1 => convAll s1 r
    | none => none

theorem clip_nil {A : Option Addr} {c : Nat} (hpos : 0 < c → ∃ ad : Addr, A = some ad ∧ ad.spot = none) : A = none → c = 0 := fun hA => by
  rcases Nat.eq_zero_or_pos c with h0 | h0
  · exact h0
  · obtain ⟨ad, e, _⟩ := hpos h0
    rw [hA] at e
    cases e

theorem conv1_sound {C : Ctx} {G : Env} {s s' : AS} {a : Act} {w : World} (h : RelG C G s a w) {x : Bool × Nat × Nat × Nat × TypeId × Nat} (hs : conv1 s x = some s') : ∃ G', RelG C G' s' a w ∧ Env.Le w G w G' := by
  obtain ⟨b, id, off, t, e, sz⟩ := x
  simp only [conv1] at hs
  split at hs
  · rename_i cs hb
    obtain ⟨g, hg, hbase, ⟨vs, ty, h1, h2, h3, h4, _⟩, hnF⟩ := h.blocks _ _ hb
    -- the variable's cell says something else
    have fin : ∀ (G1 : Env) (m : Tag) (y : AV) (u : Value), RelG C G1 (s.tag t m) a w → Env.Le w G w G1 → vs[off]? = some u → Rep w G1 true y u → ∃ G', RelG C G' ((s.tag t m).blk id (.var true (cs.set off y))) a w ∧ Env.Le w G w G' := by
      intro G1 m y u h5 hle hu hy
      refine ⟨G1, (h5.setBlk (b := .var true cs) (b' := .var true (cs.set off y)) (w' := w) hb (hle.φ _ _ hg) rfl rfl rfl rfl rfl (fun _ _ => rfl) (fun _ => ⟨vs, ty, h1, by simpa using h2, fun i c v hc hv => ?_, h4, fun o ho hw => by cases hw⟩) rfl).1, hle⟩
      rw [List.getElem?_set] at hc
      split at hc
      · rename_i ei
        subst ei
        split at hc
        · cases hc
          rw [hu] at hv
          cases hv
          exact hy
        · cases hc
      · exact (h3 i c v hc hv).mono hle
    split at hs
    · rename_i nl n cells hc
      have hlt : off < vs.size := by rw [h2]; exact (List.getElem?_eq_some_iff.1 hc).1
      have hu := Array.getElem?_eq_getElem hlt
      have hr := h3 off _ _ hc hu
      generalize vs[off] = u at hu hr
      split at hs
      · rename_i ht
        cases hr with
        | sl _ _ _ _ _ A c us hnl hpos hcc hcell hrep hclip hown =>
        have hcn := hclip rfl
        subst hcn
        split at hs
        · split at hs
          · rename_i e1 _ _ _
            cases hs
            have hA : A = none := by have := hnl true rfl; simpa using this
            subst hA
            obtain ⟨h5, hle⟩ := h.addTag (t := t) (m := ⟨0, e, sz, some (true, [])⟩) (r := ⟨true, .slice none 0 0, 0, e, sz, []⟩) ht rfl rfl rfl (fun ho => by cases ho) (fun _ => ⟨⟨by simp, .inl ⟨rfl, rfl⟩⟩, fun u hu => by simp at hu, fun g hg => by cases hg⟩) (fun cs _ hc => by cases hc; rfl) (fun b cells hc => by
              cases hc
              exact ⟨rfl, rfl, fun i c v hi => by simp at hi, fun hb => by cases hb⟩)
            exact fin _ _ _ _ h5 hle hu (.vec _ _ _ _ _ ⟨true, .slice none 0 0, 0, e, sz, []⟩ (by simp [Env.setT]) (Nat.le_refl _) (fun _ => rfl))
          · cases hs
        · cases hs
          obtain ⟨h5, hle⟩ := h.addTag (t := t) (m := ⟨c, e, sz, none⟩) (r := ⟨false, .slice A c c, c, e, sz, []⟩) ht rfl rfl rfl (fun _ => ⟨rfl, A, rfl, clip_nil hpos⟩) (fun ho => by cases ho) (fun cs _ hc => by cases hc) (fun b cs hc => by cases hc)
          refine fin _ _ _ _ h5 hle hu (.sl _ _ _ _ _ A c us (fun b e => by cases e) hpos hcc (fun j z hz => ?_) (fun j z hz => (hrep j z hz).mono hle) (fun e => by cases e) (fun t' e' => ?_))
          · obtain ⟨ad, h6, h7, h8, h9, h10⟩ := hcell j z hz
            exact ⟨ad, h6, h7, hle.F _ _ h8, h9, h10⟩
          · cases e'
            exact ⟨rfl, ⟨false, .slice A c c, c, e, sz, []⟩, by simp [Env.setT], Nat.le_refl _, fun _ => rfl⟩
      · cases hs
    · cases hs; exact ⟨G, h, Env.Le.refl _ _⟩
    · cases hs; exact ⟨G, h, Env.Le.refl _ _⟩
    · cases hs
  · cases hs
theorem convAll_sound {C : Ctx} {a : Act} {w : World} : ∀ {l : List (Bool × Nat × Nat × Nat × TypeId × Nat)} {G : Env} {s s' : AS}, RelG C G s a w → convAll s l = some s' → ∃ G', RelG C G' s' a w ∧ Env.Le w G w G'
  | [], G, s, s', h, hs => by cases hs; exact ⟨G, h, Env.Le.refl _ _⟩
  | x :: r, G, s, s', h, hs => by
    simp only [convAll] at hs
    split at hs
    · rename_i s1 h1
      obtain ⟨G1, r1, r2⟩ := conv1_sound h h1
      obtain ⟨G2, r3, r4⟩ := convAll_sound r1 hs
      exact ⟨G2, r3, r2.trans r4⟩
    · cases hs

/-! ### A call over memory that is lent -/
def argsM (s M : AS) : List AV → Option (List AV × List Prop)
  | [] => some ([], [])
  | x :: r => match idsOk M x with
    | true => match argsM s M r with
      | some (ys, b) => some (x :: ys, b)
      | none => none
    | false => match treeH s x, argsM s M r with
      | some (y, a), some (ys, b) => some (y :: ys, a ++ b)
      | _, _ => none
theorem argsM_get {s M : AS} : ∀ {xs ys : List AV} {os : List Prop}, argsM s M xs = some (ys, os) → All os → ys.length = xs.length ∧ ∀ (i : Nat) (y : AV), ys[i]? = some y → ∃ x : AV, xs[i]? = some x ∧ ((idsOk M x = true ∧ y = x) ∨ ∃ os', treeH s x = some (y, os') ∧ All os')
  | [], ys, os, h, ho => by cases h; exact ⟨rfl, fun i y h => by simp at h⟩
  | x :: xs, ys, os, h, ho => by
    simp only [argsM] at h
    split at h
    · rename_i hid
      split at h
      · rename_i ys' b h1
        cases h
        obtain ⟨h2, h3⟩ := argsM_get h1 ho
        refine ⟨by simp [h2], fun i y hy => ?_⟩
        match i, hy with
        | 0, hy =>
          simp at hy
          exact ⟨x, rfl, .inl ⟨hid, hy.symm⟩⟩
        | n + 1, hy => simpa using h3 n y (by simpa using hy)
      · cases h
    · split at h
      · rename_i y' a ys' b h1 h2
        cases h
        obtain ⟨ho1, ho2⟩ := All_append.1 ho
        obtain ⟨h3, h4⟩ := argsM_get h2 ho2
        refine ⟨by simp [h3], fun i y hy => ?_⟩
        match i, hy with
        | 0, hy =>
          simp at hy
          subst hy
          exact ⟨x, rfl, .inr ⟨a, h1, ho1⟩⟩
        | n + 1, hy => simpa using h4 n y (by simpa using hy)
      · cases h

/-- Keys that are there. -/
def presK {α : Type} (l : List (Nat × α)) : List Nat → Bool
  | [] => true
  | i :: r => isS (look l i) && presK l r
def lendOk (s : AS) (M : MemS) (h' : List (Nat × Blk)) (t' : List (Nat × Tag)) : Bool :=
  keysGe M.heap && (keysGe M.tags && (idsH M.as M.heap && (keysIn h' M.heap && (keysIn t' M.tags && (keysNew M.heap s.heap h' && keysNew M.tags s.tags t')))))

def callMA (P : Program) (s : AS) (f : AV) (xs : List AV) (ann : Option Ann) : SR :=
  match f, ann with
  | .fn fid caps, some (.callM cv zs hs gs h' t' res) => match convAll s cv with
    | some s0 => match freezeAll s0 zs with
      | some (s1, a) => match argsM s1 (MemS.as ⟨pickK hs s1.heap, pickK gs s1.tags⟩) (xs ++ caps), (presK s1.heap hs && presK s1.tags gs) && lendOk s1 ⟨pickK hs s1.heap, pickK gs s1.tags⟩ h' t' with
        | some (ys, b), true => some (⟨s1.tmps, h' ++ s1.heap, t' ++ s1.tags⟩, res, a ++ (b ++ [CtrM P fid ⟨pickK hs s1.heap, pickK gs s1.tags⟩ ys ⟨h', t'⟩ res]))
        | _, _ => none
      | none => none
    | none => none
  | _, _ => none

theorem callMA_sound {P : Program} {C : Ctx} {G : Env} {s s' : AS} {a : Act} {w : World} (h : RelG C G s a w) {f y : AV} {xs : List AV} {ann : Option Ann} {vf : Value} {us : Array Value} (hf : Rep w G true f vf) (hl : us.size = xs.length) (hx : ∀ (i : Nat) (c : AV) (v : Value), xs[i]? = some c → us[i]? = some v → Rep w G true c v)
    {os : List Prop} (hn : callMA P s f xs ann = some (s', y, os)) (ho : All os) : ∃ fid caps, vf = .func (.func fid) #[] caps ∧ (callFunc fid (us ++ caps)).run P w = .ok (.enter fid (us ++ caps)) w ∧
      Calls P fid (us ++ caps) w fun e w' => ∃ v G', e = .returned v ∧ RelG C G' s' a w' ∧ Rep w' G' true y v := by
  unfold callMA at hn
  split at hn
  · rename_i fid caps cv zs hs gs h' t' res
    cases hf with
    | fn _ _ _ cvs hcl hcr =>
    split at hn
    · rename_i s0 hs0
      obtain ⟨G0, hR0, hle0⟩ := convAll_sound h hs0
      split at hn
      · rename_i s1 a1 hs1
        split at hn
        · rename_i ys b1 hys hok
          cases hn
          obtain ⟨ho1, ho2⟩ := All_append.1 ho
          obtain ⟨ho2, hctr⟩ := All_append.1 ho2
          simp only [All] at hctr
          obtain ⟨G1, hR1, hle1⟩ := freezeAll_sound hR0 hs1 ho1
          obtain ⟨hy1, hy2⟩ := argsM_get hys ho2
          simp only [lendOk, Bool.and_eq_true] at hok
          obtain ⟨_, k1, k2, k3, k4, k5, k6, k7⟩ := hok
          let M : MemS := ⟨pickK hs s1.heap, pickK gs s1.tags⟩
          have hH : ∀ i b, look M.heap i = some b → look s1.heap i = some b := fun i b hb => pickK_look hb
          have hT : ∀ t n, look M.tags t = some n → look s1.tags t = some n := fun t n hn => pickK_look hn
          have hst := lend_start hR1.mem k1 k2 hH hT k3
          have hargs : ∀ (i : Nat) (c : AV) (v : Value), ys[i]? = some c → (us ++ cvs)[i]? = some v → Rep w (G1.cut M.as) true c v := by
            intro i c v hc hv
            obtain ⟨x, hx', hor⟩ := hy2 i c hc
            have hrx : Rep w G1 true x v := by
              by_cases hi : i < xs.length
              · rw [List.getElem?_append_left hi] at hx'
                rw [Array.getElem?_append_left (by omega)] at hv
                exact ((hx i x v hx' hv).mono hle0).mono hle1
              · rw [List.getElem?_append_right (by omega)] at hx'
                rw [Array.getElem?_append_right (by omega), hl] at hv
                exact ((hcr _ x v hx' hv).mono hle0).mono hle1
            rcases hor with ⟨h1, rfl⟩ | ⟨os', h1, h2⟩
            · exact idsOk_rep hrx h1
            · exact (Rep.tree (G' := G1.cut M.as) (treeH_sound hR1 hrx h1 h2) (fun b o hf => hf)).up
          refine ⟨_, cvs, rfl, hctr.1 _ _, (hctr.2 (lendC w G1 M k1 k2) (us ++ cvs) hst (by rw [hy1]; simp [hl, hcl]) hargs).mono fun e w' hh => ?_⟩
          obtain ⟨v, G2, rfl, hm, hr⟩ := hh
          obtain ⟨G3, h3, h4, h5⟩ := lend_end hR1.mem k1 k2 hH hT hm (fun i hi => keysIn_look k4 hi) (fun i hi => keysIn_look k5 hi) (fun i hi => keysNew_look k6 hi) (fun i hi => keysNew_look k7 hi)
          exact ⟨v, G3, rfl, hR1.mv h3 h4, hr.mono h5⟩
        · cases hn
      · cases hn
    · cases hn
  · cases hn

def callB (P : Program) (s : AS) (d : Nat) (f : AV) (xs : List AV) (ann : Option Ann) : SR :=
  match ann with
  | some (.callM cv zs hs gs h' t' res) => callMA P s f xs (some (.callM cv zs hs gs h' t' res))
  | x => callA P s d f xs x
theorem callB_sound {P : Program} {C : Ctx} {G : Env} {s s' : AS} {a : Act} {w : World} (h : RelG C G s a w) {d : Nat} {f y : AV} {xs : List AV} {ann : Option Ann} {vf : Value} {us : Array Value} (hf : Rep w G true f vf) (hl : us.size = xs.length) (hx : ∀ (i : Nat) (c : AV) (v : Value), xs[i]? = some c → us[i]? = some v → Rep w G true c v)
    {os : List Prop} (hn : callB P s d f xs ann = some (s', y, os)) (ho : All os) : ∃ fid caps, vf = .func (.func fid) #[] caps ∧ (callFunc fid (us ++ caps)).run P w = .ok (.enter fid (us ++ caps)) w ∧
      Calls P fid (us ++ caps) w fun e w' => ∃ v G', e = .returned v ∧ RelG C G' s' a w' ∧ Rep w' G' true y v := by
  unfold callB at hn
  split at hn
  · exact callMA_sound h hf hl hx hn ho
  · exact callA_sound h hf hl hx hn ho
end Go.AX
end

section
set_option linter.unusedVariables false
set_option linter.unusedSimpArgs false
namespace Go.AX
open Go Go.RowKit

def lookO {α : Type} (l : List (Nat × α)) : Option Nat → Option α
  | some d => look l d
  | none => none

/-- The hint of a call: at its slot, or at the function's number. -/
def annC (ann : List (Nat × Ann)) (f : AV) (d : Option Nat) : Option Ann :=
  match lookO ann d with
  | some a => some a
  | none => match f with
    | .fn fid _ => look ann (1000000 + fid)
    | _ => none
/-- The number under which what is new is kept. -/
def annI (a : Option Ann) (d : Nat) : Nat :=
  match a with
  | some (.id i) => i
  | _ => d
def finO (nt : Nat) (r : SR) (d : Option Nat) : Option (AS × List Prop) :=
  match r, d with
  | some (s', v, os), some d => match Nat.blt d nt with
    | true => some (s'.put d v, os)
    | false => none
  | _, _ => none
/-- A test that is said to come out so. -/
def litK (ann : List (Nat × Ann)) : Option Nat → Option Ann
  | some d => look ann (2000000 + d)
  | none => none
def litV (a : Option Ann) (r : SR) : SR :=
  match a with
  | some (.val (.bool b)) => match r with
    | some (s, .bool e, os) => some (s, .bool b, os ++ [e = b])
    | x => x
  | _ => r
theorem litV_spec {a : Option Ann} {r : SR} {s : AS} {v : AV} {os : List Prop} (h : litV a r = some (s, v, os)) (ho : All os) : ∃ os', r = some (s, v, os') ∧ All os' := by
  unfold litV at h
  split at h
  · split at h
    · rename_i e os1
      cases h
      obtain ⟨h1, h2⟩ := All_append.1 ho
      simp only [All] at h2
      subst h2
      exact ⟨os1, rfl, h1⟩
    · exact ⟨os, h, ho⟩
  · exact ⟨os, h, ho⟩
/-- One operation. -/
def stepOp (P : Program) (Γ : TT) (nt : Nat) (ann : List (Nat × Ann)) (s : AS) (o : Oper) : Option (AS × List Prop) :=
  match o.op with
  | .store t p x => match s.ev p, s.ev x, o.dst with
    | some u, some v, none => storeA Γ s t u v
    | _, _, _ => none
  | .call ⟨.value f, args, _⟩ => match s.ev f, evs s args.toList with
    | some u, some vs => finO nt (litV (litK ann o.dst) (callB P s (o.dst.getD 0) u vs (annC ann u o.dst))) o.dst
    | _, _ => none
  | op => finO nt (litV (litK ann o.dst) (stepV Γ s (annI (lookO ann o.dst) (o.dst.getD 0)) op (Ann.v? (lookO ann o.dst)))) o.dst

theorem fin_spec {dd : Option Nat} {nt : Nat} {r : SR} {s' : AS} {os : List Prop} (h : finO nt r dd = some (s', os)) : ∃ s1 v d, r = some (s1, v, os) ∧ dd = some d ∧ d < nt ∧ s' = s1.put d v := by
  unfold finO at h
  split at h
  · rename_i s1 v os1 d
    split at h
    · rename_i hb
      cases h
      exact ⟨s1, v, d, rfl, rfl, Nat.le_of_ble_eq_true hb, rfl⟩
    · cases h
  · cases h

theorem stepOp_sound {P : Program} {Γ : TT} (hΓ : Γok P Γ) {C : Ctx} {G : Env} {s s' : AS} {a : Act} {w : World} (h : RelG C G s a w) {ann : List (Nat × Ann)} {o : Oper} {os : List Prop} (hs : stepOp P Γ C.nt ann s o = some (s', os)) (ho : All os) {K : Act → World → Prop} {Q : Exit → Act → World → Prop}
    (hK : ∀ G' a' w', RelG C G' s' a' w' → K a' w') : o.wp P a w K Q := by
  have viaV : ∀ {s1 : AS} {v : AV} {d : Nat}, OpV P C s1 a w o v → o.dst = some d → d < C.nt → s' = s1.put d v → o.wp P a w K Q := by
    intro s1 v d hv hd hlt e
    obtain ⟨x, w', G', h1, h2, h3⟩ := hv
    unfold Oper.wp
    rw [h1, Oper.upon_value, hd]
    subst e
    exact hK _ _ _ (h2.put hlt h3)
  unfold stepOp at hs
  split at hs
  · rename_i t p x hop
    split at hs
    · rename_i u v hu hv hd
      obtain ⟨w', G', h1, h2⟩ := storeA_sound (P := P) hΓ h (h.ev hu) (h.ev hv) hs ho
      unfold Oper.wp
      have : (execOp a.eval o).run P w = .ok .skip w' := by
        simp only [execOp, hop, Sem.run_bind, h1, Result.andThen_ok, Sem.run_pure]
      rw [this, Oper.upon_skip, hd]
      exact hK _ _ _ h2
    · cases hs
  · rename_i f args ts hop
    split at hs
    · rename_i u vs hu hvs
      obtain ⟨s1, v, d, h1, hd, hlt, e⟩ := fin_spec hs
      obtain ⟨os', h1, ho⟩ := litV_spec h1 ho
      obtain ⟨hl, hx⟩ := evs_sound h hvs
      obtain ⟨fid, caps, hf, hcf, hc⟩ := callB_sound h (us := args.map a.eval) (h.ev hu) (by simp [hl]) (fun i c v hc hv => hx i c v hc (by simpa using hv)) h1 ho
      unfold Oper.wp
      have : (execOp a.eval o).run P w = .ok (.enter fid (args.map a.eval ++ caps)) w := by
        simp only [execOp, hop, resolve, Deferred.ofValue, hf, Sem.run_bind, Sem.run_pure, Result.andThen_ok, invoke, Array.empty_append]
        exact hcf
      rw [this, Oper.upon_enter]
      refine hc.mono fun e' w' hh => ?_
      obtain ⟨v', G', rfl, h2, h3⟩ := hh
      simp only [hd]
      subst e
      exact hK _ _ _ (h2.put hlt h3)
    · cases hs
  · obtain ⟨s1, v, d, h1, hd, hlt, e⟩ := fin_spec hs
    obtain ⟨os', h1, ho⟩ := litV_spec h1 ho
    exact viaV (stepV_sound hΓ h h1 ho) hd hlt e

/-! ### Regions in the order of the text -/
def gval (s : AS) (ops : Array Oper) (j : Nat) : Option (Option Bool) :=
  match ops[j]? with
  | some o => match lookO s.tmps o.dst with
    | some (.bool b) => some (some b)
    | some (.tup []) => some none
    | _ => none
  | none => none
def skipO (nt : Nat) (s : AS) : Option Nat → Option AS
  | some d => match Nat.blt d nt with
    | true => some (s.put d (.tup []))
    | false => none
  | none => some s
def oper1 (P : Program) (Γ : TT) (nt : Nat) (ann : List (Nat × Ann)) (ops : Array Oper) (s : AS) (o : Oper) : Option (AS × List Prop) :=
  match o.guard with
  | none => stepOp P Γ nt ann s o
  | some (j, want) => match gval s ops j with
    | some (some true) => match want with
      | true => stepOp P Γ nt ann s o
      | false => (skipO nt s o.dst).map fun s' => (s', [])
    | some (some false) => match want with
      | true => (skipO nt s o.dst).map fun s' => (s', [])
      | false => stepOp P Γ nt ann s o
    | some none => (skipO nt s o.dst).map fun s' => (s', [])
    | none => none
def runIdx (P : Program) (Γ : TT) (nt : Nat) (ann : List (Nat × Ann)) (ops : Array Oper) : List Nat → AS → List Prop → Option (AS × List Prop)
  | [], s, os => some (s, os)
  | i :: rest, s, os => match ops[i]? with
    | none => none
    | some o => match oper1 P Γ nt ann ops s o with
      | some (s', os') => runIdx P Γ nt ann ops rest s' (os ++ os')
      | none => none

theorem gval_sound {C : Ctx} {G : Env} {s : AS} {a : Act} {w : World} (h : RelG C G s a w) {ops : Array Oper} {j : Nat} {b : Option Bool} (hg : gval s ops j = some b) : yielded ops a.tmps j = b := by
  unfold gval at hg
  split at hg
  · rename_i o ho
    split at hg
    · rename_i b' hb
      cases hg
      cases hd : o.dst with
      | none => rw [hd] at hb; cases hb
      | some d =>
        rw [hd] at hb
        obtain ⟨x, hx, hr⟩ := h.slots d _ hb
        cases hr
        simp [yielded, ho, hd, hx]
    · rename_i hb
      cases hg
      cases hd : o.dst with
      | none => rw [hd] at hb; cases hb
      | some d =>
        rw [hd] at hb
        obtain ⟨x, hx, hr⟩ := h.slots d _ hb
        cases hr
        simp [yielded, ho, hd, hx]
    · cases hg
  · cases hg

theorem skipO_sound {C : Ctx} {G : Env} {s s' : AS} {a : Act} {w : World} (h : RelG C G s a w) {d : Option Nat} (hs : skipO C.nt s d = some s') : RelG C G s' (a.put d undef) w := by
  cases d with
  | none => cases hs; exact h
  | some d =>
    simp only [skipO] at hs
    split at hs
    · rename_i hb
      cases hs
      exact h.put (Nat.le_of_ble_eq_true hb) (.tup _ _ _ rfl (fun i c v hc _ => by simp at hc))
    · cases hs

/-- An operation under its guard, as the model's list of operations has it. -/
theorem oper1_sound {P : Program} {Γ : TT} (hΓ : Γok P Γ) {C : Ctx} {G : Env} {s s' : AS} {a : Act} {w : World} (h : RelG C G s a w) {ann : List (Nat × Ann)} {ops : Array Oper} {o : Oper} {os : List Prop} (hs : oper1 P Γ C.nt ann ops s o = some (s', os)) (ho : All os) {K : Act → World → Prop} {Q : Exit → Act → World → Prop}
    (hK : ∀ G' a' w', RelG C G' s' a' w' → K a' w') : if Region.wanted o (yielded ops a.tmps) then o.wp P a w K Q else K (a.put o.dst undef) w := by
  unfold oper1 at hs
  split at hs
  · rename_i hgd
    have : Region.wanted o (yielded ops a.tmps) = true := by simp [Region.wanted, hgd]
    rw [if_pos this]
    exact stepOp_sound hΓ h hs ho hK
  · rename_i j want hgd
    have hw : ∀ b, gval s ops j = some b → Region.wanted o (yielded ops a.tmps) = (b == some want) := fun b hb => by
      simp [Region.wanted, hgd, gval_sound h hb]
    have sk : Region.wanted o (yielded ops a.tmps) = false → (skipO C.nt s o.dst).map (fun s' => (s', ([] : List Prop))) = some (s', os) → if Region.wanted o (yielded ops a.tmps) then o.wp P a w K Q else K (a.put o.dst undef) w := by
      intro hf hm
      rw [if_neg (by rw [hf]; decide)]
      rw [Option.map_eq_some_iff] at hm
      obtain ⟨s1, h1, h2⟩ := hm
      cases h2
      exact hK _ _ _ (skipO_sound h h1)
    split at hs
    · rename_i hg
      split at hs
      · rw [if_pos (by rw [hw _ hg]; rfl)]
        exact stepOp_sound hΓ h hs ho hK
      · exact sk (by rw [hw _ hg]; rfl) hs
    · rename_i hg
      split at hs
      · exact sk (by rw [hw _ hg]; rfl) hs
      · rw [if_pos (by rw [hw _ hg]; rfl)]
        exact stepOp_sound hΓ h hs ho hK
    · rename_i hg
      exact sk (by rw [hw _ hg]; rfl) hs
    · cases hs

/-! ### What is still to be done of a function's text -/
def TW (P : Program) (todo : List Item) (R : Act → World → Prop) (a : Act) (w : World) : Prop :=
  ∀ (b : Frame) (cs : List Frame), ∃ a' w' todo', R a' w' ∧ Steps P (lone (b.at a todo) cs w) (lone { b.at a' todo' with mode := .returning } cs w')

def HT0 (P : Program) (nt : Nat) (todo : List Item) (s : AS) (Q : AS → Prop) : Prop :=
  ∀ (C : Ctx) (G : Env) (a : Act) (w : World), C.nt = nt → RelG C G s a w → TW P todo (fun a' w' => ∃ s' G', Q s' ∧ RelG C G' s' a' w') a w
/-- Out of a state: the text that is left comes to the end, in a state of Q. -/
def HT (P : Program) (nt : Nat) (todo : List Item) (s : AS) (Q : AS → Prop) : Prop :=
  match todo with
  | [] => Q s
  | x :: r => HT0 P nt (x :: r) s Q
theorem HT.tw {P : Program} {nt : Nat} {todo : List Item} {s : AS} {Q : AS → Prop} (h : HT P nt todo s Q) : HT0 P nt todo s Q := by
  cases todo with
  | nil => exact fun C G a w hnt hR b cs => ⟨a, w, [], ⟨s, G, h, hR⟩, .one step_end⟩
  | cons x r => exact h

theorem TW.step {P : Program} {todo todo' : List Item} {R : Act → World → Prop} {a : Act} {w : World} (hs : ∀ (b : Frame) (cs : List Frame), step P (lone (b.at a todo) cs w) = .next (lone (b.at a todo') cs w)) (h : TW P todo' R a w) : TW P todo R a w := by
  intro b cs
  obtain ⟨a', w', t, h1, h2⟩ := h b cs
  exact ⟨a', w', t, h1, .head (hs b cs) h2⟩

theorem TW.ops {P : Program} {ops : Array Oper} {l : List Nat} {k : List Item} {R : Act → World → Prop} {a : Act} {w : World} (h : wpOps P ops (fun e a w => e = .normal ∧ TW P k R a w) l a w) : TW P (.inRegion ops l :: k) R a w := by
  intro b cs
  obtain ⟨e, a', w', ⟨rfl, hq⟩, harr⟩ := wp_ops l a w h b k cs
  obtain ⟨a2, w2, t, h1, h2⟩ := hq b cs
  exact ⟨a2, w2, t, h1, Steps.trans harr h2⟩

def run (P : Program) (Γ : TT) (nt : Nat) (ann : List (Nat × Ann)) : Nat → List Item → AS → List Prop → Option (List Item × AS × List Prop)
  | 0, _, _, _ => none
  | _ + 1, [], s, os => some ([], s, os)
  | k + 1, x :: r, s, os => match x with
    | .code .ret => some ([], s, os)
    | .code .skip => run P Γ nt ann k r s os
    | .code (.label _) => run P Γ nt ann k r s os
    | .inBlock _ => run P Γ nt ann k r s os
    | .code (.seq a b) => run P Γ nt ann k (.code a :: .code b :: r) s os
    | .code (.cond c t e) => match s.ev c with
      | some (.bool true) => run P Γ nt ann k (.code t :: r) s os
      | some (.bool false) => run P Γ nt ann k (.code e :: r) s os
      | _ => none
    | .code (.block id body) => run P Γ nt ann k (.code body :: .inBlock id :: r) s os
    | .code (.loop body) => some (.code body :: .inLoop body :: r, s, os)
    | .inLoop body => some (.code body :: .inLoop body :: r, s, os)
    | .code (.exit id) => match exitTo id r with
      | some r' => run P Γ nt ann k r' s os
      | none => none
    | .code (.region _ ops false) => match runIdx P Γ nt ann ops (List.range ops.size) s os with
      | some (s', os') => run P Γ nt ann k r s' os'
      | none => none
    | _ => none

end Go.AX
end

section
set_option linter.unusedVariables false
set_option linter.unusedSimpArgs false
namespace Go.AX
open Go Go.RowKit

/-! ### A state that says less -/
def nlLe : Option Bool → Option Bool → Bool
  | _, none => true
  | some a, some b => a == b
  | none, some _ => false
def ownLe : Own → Own → Bool
  | _, .no => true
  | .clip, .clip => true
  | .own t, .own u => Nat.beq t u
  | _, _ => false
mutual
def leP : AV → AV → Option (List Prop)
  | _, .undef => some []
  | .int k a, .int k' b => if k = k' then some [a = b] else none
  | .bool a, .bool b => some [a = b]
  | .str a, .str b => some [a = b]
  | .sl nl n c o, .sl nl' n' c' o' => match nlLe nl nl', ownLe o o' with
    | true, true => some [n = n', c = c']
    | _, _ => none
  | .agg xs, .agg ys => leL xs ys
  | .tup xs, .tup ys => leL xs ys
  | .fn f xs, .fn g ys => match Nat.beq f g with
    | true => leL xs ys
    | false => none
  | .rop c o, .rop c' o' => some [c = c', o = o']
  | .ptr b o, .ptr b' o' => match Nat.beq b b' with
    | true => some [o = o']
    | false => none
  | .row b o n, .row b' o' n' => match Nat.beq b b' with
    | true => some [o = o', n = n']
    | false => none
  | .nilp, .nilp => some []
  | .nilFn, .nilFn => some []
  | .vec t n, .vec t' n' => match Nat.beq t t' with
    | true => some [n = n']
    | false => none
  | _, _ => none
def leL : List AV → List AV → Option (List Prop)
  | [], [] => some []
  | x :: xs, y :: ys => match leP x y, leL xs ys with
    | some a, some b => some (a ++ b)
    | _, _ => none
  | _, _ => none
end

theorem leL_get : ∀ {xs ys : List AV} {os : List Prop}, leL xs ys = some os → All os → xs.length = ys.length ∧ ∀ (i : Nat) (x y : AV), xs[i]? = some x → ys[i]? = some y → ∃ os', leP x y = some os' ∧ All os'
  | [], [], os, h, ho => ⟨rfl, fun i x y hx => by simp at hx⟩
  | [], _ :: _, os, h, ho => by simp [leL] at h
  | _ :: _, [], os, h, ho => by simp [leL] at h
  | x :: xs, y :: ys, os, h, ho => by
    simp only [leL] at h
    split at h
    · rename_i a b h1 h2
      cases h
      obtain ⟨ho1, ho2⟩ := All_append.1 ho
      obtain ⟨h3, h4⟩ := leL_get h2 ho2
      refine ⟨by simp [h3], fun i x' y' hx hy => ?_⟩
      match i, hx, hy with
      | 0, hx, hy =>
        simp at hx hy
        subst hx; subst hy
        exact ⟨a, h1, ho1⟩
      | n + 1, hx, hy => exact h4 n x' y' (by simpa using hx) (by simpa using hy)
    · cases h

theorem leP_rep {w : World} {G : Env} {l : Bool} {x : AV} {v : Value} (h : Rep w G l x v) : ∀ {y : AV} {os : List Prop}, leP x y = some os → All os → Rep w G l y v := by
  have lists : ∀ (xs ys : List AV) (vs : Array Value) (os : List Prop), vs.size = xs.length → leL xs ys = some os → All os → (∀ (i : Nat) (c : AV) (v : Value), xs[i]? = some c → vs[i]? = some v → ∀ {y : AV} {os : List Prop}, leP c y = some os → All os → Rep w G l y v) →
      vs.size = ys.length ∧ ∀ (i : Nat) (c : AV) (v : Value), ys[i]? = some c → vs[i]? = some v → Rep w G l c v := by
    intro xs ys vs os hl h1 ho ih
    obtain ⟨h2, h3⟩ := leL_get h1 ho
    refine ⟨by omega, fun i c v hc hv => ?_⟩
    have hlt : i < xs.length := by rw [h2]; exact (List.getElem?_eq_some_iff.1 hc).1
    obtain ⟨os', h4, h5⟩ := h3 i xs[i] c (List.getElem?_eq_getElem hlt) hc
    exact ih i xs[i] v (List.getElem?_eq_getElem hlt) hv h4 h5
  have hh := h
  induction h with
  | undef l v =>
    intro y os hy ho
    cases y <;> simp only [leP] at hy <;> first | cases hy | exact .undef _ _
    exact .undef _ _
  | int l k n =>
    intro y os hy ho
    cases y <;> simp only [leP] at hy <;> first | (cases hy; done) | skip
    · exact .undef _ _
    · split at hy
      · cases hy
        simp only [All] at ho
        subst ho
        rename_i e
        subst e
        exact hh
      · cases hy
  | bool l b =>
    intro y os hy ho
    cases y <;> simp only [leP] at hy <;> first | (cases hy; done) | skip
    · exact .undef _ _
    · cases hy
      simp only [All] at ho
      subst ho
      exact hh
  | str l s =>
    intro y os hy ho
    cases y <;> simp only [leP] at hy <;> first | (cases hy; done) | skip
    · exact .undef _ _
    · cases hy
      simp only [All] at ho
      subst ho
      exact hh
  | agg l cs vs hl h h1 ih =>
    intro y os hy ho
    cases y <;> simp only [leP] at hy <;> first | (cases hy; done) | skip
    · exact .undef _ _
    · obtain ⟨h2, h3⟩ := lists cs _ vs os hl hy ho (fun i c v a b => ih i c v a b (fun xs ys vs os e1 e2 e3 e4 => lists xs ys vs os e1 e2 e3 e4) (h i c v a b))
      exact .agg _ _ _ h2 h3 h1
  | tup l cs vs hl h ih =>
    intro y os hy ho
    cases y <;> simp only [leP] at hy <;> first | (cases hy; done) | skip
    · exact .undef _ _
    · obtain ⟨h2, h3⟩ := lists cs _ vs os hl hy ho (fun i c v a b => ih i c v a b (fun xs ys vs os e1 e2 e3 e4 => lists xs ys vs os e1 e2 e3 e4) (h i c v a b))
      exact .tup _ _ _ h2 h3
  | fn l f cs vs hl h ih =>
    intro y os hy ho
    cases y <;> simp only [leP] at hy <;> first | (cases hy; done) | skip
    · exact .undef _ _
    · split at hy
      · rename_i hb
        have e := Nat.eq_of_beq_eq_true hb
        subst e
        obtain ⟨h2, h3⟩ := lists cs _ vs os hl hy ho (fun i c v a b => ih i c v a b (fun xs ys vs os e1 e2 e3 e4 => lists xs ys vs os e1 e2 e3 e4) (h i c v a b))
        exact .fn _ _ _ _ h2 h3
      · cases hy
  | nilFn l =>
    intro y os hy ho
    cases y <;> simp only [leP] at hy <;> first | (cases hy; done) | skip
    · exact .undef _ _
    · exact hh
  | sl l nl n cells o A c vs hnl hpos hc hcell hrep hclip hown ih =>
    intro y os hy ho
    cases y <;> simp only [leP] at hy <;> first | (cases hy; done) | skip
    · exact .undef _ _
    · split at hy
      · rename_i h1 h2
        cases hy
        simp only [All] at ho
        obtain ⟨rfl, rfl⟩ := ho
        refine .sl _ _ _ _ _ _ _ vs (fun b hb => ?_) hpos hc hcell hrep (fun e => ?_) (fun t e => ?_)
        · subst hb
          cases nl with
          | none => simp [nlLe] at h1
          | some a =>
            simp [nlLe] at h1
            exact hnl b (by rw [h1])
        · subst e
          cases o <;> simp [ownLe] at h2
          exact hclip rfl
        · subst e
          cases o <;> simp [ownLe] at h2
          subst h2
          exact hown _ rfl
      · cases hy
  | rop l cells off ad vs hcell hrep ih =>
    intro y os hy ho
    cases y <;> simp only [leP] at hy <;> first | (cases hy; done) | skip
    · exact .undef _ _
    · cases hy
      simp only [All] at ho
      obtain ⟨rfl, rfl⟩ := ho
      exact hh
  | nilp l =>
    intro y os hy ho
    cases y <;> simp only [leP] at hy <;> first | (cases hy; done) | skip
    · exact .undef _ _
    · exact hh
  | ptr id off g h =>
    intro y os hy ho
    cases y <;> simp only [leP] at hy <;> first | (cases hy; done) | skip
    · exact .undef _ _
    · split at hy
      · rename_i hb
        have e := Nat.eq_of_beq_eq_true hb
        subst e
        cases hy
        simp only [All] at ho
        subst ho
        exact hh
      · cases hy
  | row id off n g c h hc =>
    intro y os hy ho
    cases y <;> simp only [leP] at hy <;> first | (cases hy; done) | skip
    · exact .undef _ _
    · split at hy
      · rename_i hb
        have e := Nat.eq_of_beq_eq_true hb
        subst e
        cases hy
        simp only [All] at ho
        obtain ⟨rfl, rfl⟩ := ho
        exact hh
      · cases hy
  | vec t n A m c r h hle hv =>
    intro y os hy ho
    cases y <;> simp only [leP] at hy <;> first | (cases hy; done) | skip
    · exact .undef _ _
    · split at hy
      · rename_i hb
        have e := Nat.eq_of_beq_eq_true hb
        subst e
        cases hy
        simp only [All] at ho
        subst ho
        exact hh
      · cases hy
  | vptr t n off p r h hle hv =>
    intro y os hy ho
    cases y <;> simp only [leP] at hy <;> first | (cases hy; done) | skip
    exact .undef _ _

def leB : Blk → Blk → Option (List Prop)
  | .var wr xs, .var wr' ys => match wr == wr' with
    | true => leL xs ys
    | false => none
  | .rows wr xs, .rows wr' ys => match wr == wr' with
    | true => some [xs = ys]
    | false => none
  | .iter s p, .iter s' p' => some [s = s', p = p']
  | _, _ => none
def leT (u v : Tag) : Option (List Prop) :=
  match Nat.beq u.e v.e, Nat.beq u.sz v.sz with
  | true, true => match u.cs, v.cs with
    | none, none => some [u.n = v.n]
    | some (b, c), some (b', c') => match b == b' with
      | true => some [u.n = v.n, c = c']
      | false => none
    | _, _ => none
  | _, _ => none
def among (l : List Nat) (i : Nat) : Bool := l.any (Nat.beq i)
/-- What must hold for this memory to be what the state has. -/
def weakH (s M : AS) : List (Nat × Blk) → Option (List Prop)
  | [] => some []
  | (i, v) :: r => match look s.heap i, idsB M v with
    | some u, true => match leB u v, weakH s M r with
      | some a, some b => some (a ++ b)
      | _, _ => none
    | _, _ => none
def weakG (s : AS) : List (Nat × Tag) → Option (List Prop)
  | [] => some []
  | (i, v) :: r => match look s.tags i with
    | some u => match leT u v, weakG s r with
      | some a, some b => some (a ++ b)
      | _, _ => none
    | none => none
theorem weakH_get {s M : AS} : ∀ {l : List (Nat × Blk)} {os : List Prop}, weakH s M l = some os → All os → ∀ i v, look l i = some v → ∃ u os', look s.heap i = some u ∧ idsB M v = true ∧ leB u v = some os' ∧ All os'
  | [], os, h, ho, i, v, hv => by simp [look] at hv
  | (j, x) :: r, os, h, ho, i, v, hv => by
    simp only [weakH] at h
    split at h
    · rename_i u hu hid
      split at h
      · rename_i a b h1 h2
        cases h
        obtain ⟨ho1, ho2⟩ := All_append.1 ho
        rw [look_cons] at hv
        split at hv
        · rename_i e
          cases hv
          subst e
          exact ⟨u, a, hu, hid, h1, ho1⟩
        · exact weakH_get h2 ho2 i v hv
      · cases h
    · cases h
theorem weakG_get {s : AS} : ∀ {l : List (Nat × Tag)} {os : List Prop}, weakG s l = some os → All os → ∀ i v, look l i = some v → ∃ u os', look s.tags i = some u ∧ leT u v = some os' ∧ All os'
  | [], os, h, ho, i, v, hv => by simp [look] at hv
  | (j, x) :: r, os, h, ho, i, v, hv => by
    simp only [weakG] at h
    split at h
    · rename_i u hu
      split at h
      · rename_i a b h1 h2
        cases h
        obtain ⟨ho1, ho2⟩ := All_append.1 ho
        rw [look_cons] at hv
        split at hv
        · rename_i e
          cases hv
          subst e
          exact ⟨u, a, hu, h1, ho1⟩
        · exact weakG_get h2 ho2 i v hv
      · cases h
    · cases h
theorem leB_ok {w : World} {G : Env} {g : Nat} {u v : Blk} (h : BlkOk w G g u) {os : List Prop} (hl : leB u v = some os) (ho : All os) : BlkOk w G g v ∧ v.rw = u.rw := by
  cases u with
  | var wr xs =>
    cases v with
    | var wr' ys =>
      simp only [leB] at hl
      split at hl
      · rename_i hw
        have hw' : wr = wr' := by simpa using hw
        subst hw'
        obtain ⟨hl, hget⟩ := leL_get hl ho
        obtain ⟨vs, e, k1, k2, k3, k4, k5⟩ := h
        refine ⟨⟨vs, e, k1, by omega, fun j c v hc hv => ?_, k4, fun o ho hw => k5 o (by omega) hw⟩, rfl⟩
        have hlt : j < xs.length := by rw [hl]; exact (List.getElem?_eq_some_iff.1 hc).1
        obtain ⟨os2, h4, h5⟩ := hget j xs[j] c (List.getElem?_eq_getElem hlt) hc
        exact leP_rep (k3 j xs[j] v (List.getElem?_eq_getElem hlt) hv) h4 h5
      · cases hl
    | _ => simp [leB] at hl
  | rows wr xs =>
    cases v with
    | rows wr' ys =>
      simp only [leB] at hl
      split at hl
      · rename_i hw
        have hw' : wr = wr' := by simpa using hw
        subst hw'
        cases hl
        simp only [All] at ho
        subst ho
        exact ⟨h, rfl⟩
      · cases hl
    | _ => simp [leB] at hl
  | iter s p =>
    cases v with
    | iter s' p' =>
      simp only [leB] at hl
      cases hl
      simp only [All] at ho
      obtain ⟨rfl, rfl⟩ := ho
      exact ⟨h, rfl⟩
    | _ => simp [leB] at hl
theorem leT_eq {u v : Tag} {os : List Prop} (hl : leT u v = some os) (ho : All os) : u = v := by
  obtain ⟨n, e, sz, cs⟩ := u
  obtain ⟨n', e', sz', cs'⟩ := v
  simp only [leT] at hl
  split at hl
  · rename_i h1 h2
    have e1 := Nat.eq_of_beq_eq_true h1
    have e2 := Nat.eq_of_beq_eq_true h2
    subst e1; subst e2
    split at hl
    · cases hl
      simp only [All] at ho
      subst ho
      rfl
    · split at hl
      · rename_i b1 c1 b2 c2 _ hb
        cases hl
        simp only [All] at ho
        obtain ⟨rfl, rfl⟩ := ho
        have e3 : b1 = b2 := by simpa using hb
        subst e3
        rfl
      · cases hl
    · cases hl
  · cases hl

theorem RelM.weak {C : Ctx} {G : Env} {s : AS} {w : World} (h : RelM C G s.heap s.tags w) {M : AS} {a b : List Prop} (hH : weakH s M M.heap = some a) (hoH : All a) (hG : weakG s M.tags = some b) (hoG : All b)
    (k1 : ∀ i, C.G0.φ i ≠ none → isS (look M.heap i) = true) (k2 : ∀ t, C.G0.τ t ≠ none → isS (look M.tags t) = true) : RelM C (G.cut M) M.heap M.tags w := by
  refine ⟨h.keep, ⟨h.le.F, h.le.cell, fun i g hg => ?_, fun t r hr => ?_⟩, h.fdom, h.fold, fun i v hv => ?_, fun i hi => by simp [Env.cut, hi, isS], fun i j g hi hj => h.inj i j g (cut_φ hi).1 (cut_φ hj).1, fun t n hn => ?_, fun t ht => by simp [Env.cut, ht, isS], h.deep.mv (fun cells hc => ?_) (fun _ _ _ hr => (cut_τ hr).1) (fun v _ kv => kv.mv (fun _ _ => rfl) (fun _ _ _ hf => hf) (fun g hg i hi => kv.φ g hg i (cut_φ hi).1) (fun g hg t r hr => kv.τ g hg t r (cut_τ hr).1))⟩
  · have := h.le.φ i g hg
    simp [Env.cut, k1 i (by rw [hg]; simp), this]
  · obtain ⟨r', hr', h1⟩ := h.le.τ t r hr
    exact ⟨r', by simp [Env.cut, k2 t (by rw [hr]; simp), hr'], h1⟩
  · obtain ⟨u, os', h1, h2, h3, h4⟩ := weakH_get hH hoH i v hv
    obtain ⟨g, hg, hbase, hok, hnF⟩ := h.blocks i u h1
    obtain ⟨k3, k4⟩ := leB_ok hok h3 h4
    exact ⟨g, by simp [Env.cut, hv, isS, hg], hbase, k3.cut h2, by rw [k4]; exact hnF⟩
  · obtain ⟨u, os', h1, h2, h3⟩ := weakG_get hG hoG t n hn
    have := leT_eq h2 h3
    subst this
    obtain ⟨r, hr, hok⟩ := h.tags t u h1
    refine ⟨r, by simp [Env.cut, hn, isS, hr], ⟨hok.hn, hok.he, hok.hsz, hok.clip, hok.own, hok.one, hok.base, hok.hF, fun ho g hg i hi => hok.hφ ho g hg i (cut_φ hi).1, fun ho g hg t' r' hr' => hok.hτ ho g hg t' r' (cut_τ hr').1, fun b cells hc => ?_⟩⟩
    obtain ⟨k1, k2, k3, k4⟩ := hok.hcs b cells hc
    exact ⟨k1, k2, fun i c v hi hv => (k3 i c v hi hv).tree (fun b o hf => hf), k4⟩
  · obtain ⟨m, q1, q2⟩ := hc
    obtain ⟨u, os', h1, h2, h3⟩ := weakG_get hG hoG DT m q1
    have := leT_eq h2 h3
    subst this
    exact ⟨u, h1, q2⟩

end Go.AX
end

section
set_option linter.unusedVariables false
set_option linter.unusedSimpArgs false
namespace Go.AX
open Go Go.RowKit

/-! ### A function's begin -/
def number {α : Type} : Nat → List α → List (Nat × α)
  | _, [] => []
  | i, x :: r => (i, x) :: number (i + 1) r
theorem number_get {α : Type} : ∀ (l : List α) (k i : Nat), look (number k l) i = if k ≤ i then l[i - k]? else none
  | [], k, i => by simp [number, look]
  | x :: r, k, i => by
    simp only [number, look_cons, number_get r (k + 1) i]
    by_cases h : k = i
    · subst h; simp
    · rw [if_neg h]
      by_cases h2 : k + 1 ≤ i
      · rw [if_pos h2, if_pos (by omega)]
        have : i - k = (i - (k + 1)) + 1 := by omega
        rw [this, List.getElem?_cons_succ]
      · rw [if_neg h2, if_neg (by omega)]
def st0 (args : List AV) : AS := ⟨number 0 args, [], []⟩

def ctx0 (w : World) (F : Nat → Nat → Prop) (nt : Nat) : Ctx := ⟨w, envF F, nt, fun _ => False, fun _ _ => rfl, fun _ _ => rfl⟩
theorem start_rel {w : World} {F : Nat → Nat → Prop} {args : List AV} {vs : Array Value} (hF : ∀ b o, F b o → b < w.heap.size) (ha : Args w F args vs) {nt : Nat} (hnt : args.length ≤ nt) :
    RelG (ctx0 w F nt) (envF F) (st0 args) { tmps := vs ++ Array.replicate (nt - vs.size) undef, defers := [] } w := by
  obtain ⟨h1, h2⟩ := ha
  refine ⟨rfl, by simp [ctx0]; omega, ?_, ⟨Keep.refl _ _, Env.Le.refl _ _, hF, fun b o hf _ => .inl hf, fun i b hb => by simp [st0, look] at hb, fun i _ => rfl, fun i j g hi => by simp [envF] at hi, fun t n ht => by simp [st0, look] at ht, fun t _ => rfl, fun cells r hc => by obtain ⟨m, q, _⟩ := hc; simp [st0, look] at q⟩⟩
  intro i v hv
  simp only [st0, number_get, Nat.zero_le, if_true, Nat.sub_zero] at hv
  have hlt : i < vs.size := by rw [h1]; exact (List.getElem?_eq_some_iff.1 hv).1
  refine ⟨vs[i], by rw [Array.getElem?_append_left hlt, Array.getElem?_eq_getElem hlt], (h2 i v vs[i] hv (Array.getElem?_eq_getElem hlt)).up⟩
/-- A state where memory is lent. -/
def stM (args : List AV) (M : MemS) : AS := ⟨number 0 args, M.heap, M.tags⟩
theorem startM_rel {C : Ctx} {M : MemS} {args : List AV} {vs : Array Value} (hm : RelM C C.G0 M.heap M.tags C.w0) (h1 : vs.size = args.length) (h2 : ∀ (i : Nat) (c : AV) (v : Value), args[i]? = some c → vs[i]? = some v → Rep C.w0 C.G0 true c v) {nt : Nat} (hnt : args.length ≤ nt) :
    RelG { C with nt := nt } C.G0 (stM args M) { tmps := vs ++ Array.replicate (nt - vs.size) undef, defers := [] } C.w0 := by
  refine ⟨rfl, by simp; omega, ?_, ⟨hm.keep, hm.le, hm.fdom, hm.fold, hm.blocks, hm.noblock, hm.inj, fun t n hn => ?_, hm.notag, hm.deep⟩⟩
  · intro i v hv
    simp only [stM, number_get, Nat.zero_le, if_true, Nat.sub_zero] at hv
    have hlt : i < vs.size := by rw [h1]; exact (List.getElem?_eq_some_iff.1 hv).1
    exact ⟨vs[i], by rw [Array.getElem?_append_left hlt, Array.getElem?_eq_getElem hlt], h2 i v vs[i] hv (Array.getElem?_eq_getElem hlt)⟩
  · obtain ⟨r, hr, hok⟩ := hm.tags t n hn
    exact ⟨r, hr, ⟨hok.hn, hok.he, hok.hsz, hok.clip, hok.own, hok.one, hok.base, hok.hF, hok.hφ, hok.hτ, hok.hcs⟩⟩

/-! ### A function's end -/
def ret1 (Γ : TT) (s : AS) : ResultVar → Option AV
  | .tmp t => look s.tmps t
  | .cell a t => match look s.tmps a with
    | some (.ptr id off) => match loadA Γ s t (.ptr id off) none with
      | some (v, []) => some v
      | some (v, [_]) => match look Γ t, look s.heap id with
        | some ti, some (.var _ cs) => match Nat.ble (off + ti.size) cs.length with
          | true => some v
          | false => none
        | _, _ => none
      | _ => none
    | _ => none
def retL (Γ : TT) (s : AS) : List ResultVar → Option (List AV)
  | [] => some []
  | r :: rs => match ret1 Γ s r, retL Γ s rs with
    | some v, some l => some (v :: l)
    | _, _ => none
def retA (Γ : TT) (s : AS) (rs : List ResultVar) : Option AV :=
  match retL Γ s rs with
  | some [v] => some v
  | some l => some (.tup l)
  | none => none

/-- A part of what is handed back, as the contract has it. -/
def finT (s : AS) (x y : AV) : Option (List Prop) :=
  match y with
  | .sl nl' n' c' (.fresh e sz) => match x with
    | .sl nl n c (.own t) => match look s.tags t, nlLe nl nl' with
      | some g, true => match Nat.beq g.e e, Nat.beq g.sz sz with
        | true, true => some [n = n', c = c', g.n = n]
        | _, _ => none
      | _, _ => none
    | .sl nl n c .clip => match nlLe nl nl' with
      | true => some [n = n', c = c']
      | false => none
    | _ => none
  | _ => match treeH s x with
    | some (z, a) => match leP z y with
      | some b => some (a ++ b)
      | none => none
    | none => none
def finL (s : AS) : List AV → List AV → Option (List Prop)
  | [], [] => some []
  | x :: xs, y :: ys => match finT s x y, finL s xs ys with
    | some a, some b => some (a ++ b)
    | _, _ => none
  | _, _ => none
/-- The tags that are given away. -/
def given : List AV → List AV → List Nat
  | .sl _ _ _ (.own t) :: xs, .sl _ _ _ (.fresh _ _) :: ys => t :: given xs ys
  | _ :: xs, _ :: ys => given xs ys
  | _, _ => []
def nodupB : List Nat → Bool
  | [] => true
  | x :: xs => !(xs.any (Nat.beq x)) && nodupB xs
def shape (x y : AV) : Bool :=
  match x, y with
  | .agg _, .agg _ => true
  | .tup _, .tup _ => true
  | .agg _, _ => false
  | .tup _, _ => false
  | _, .agg _ => false
  | _, .tup _ => false
  | _, .undef => false
  | _, _ => true
def retP (Γ : TT) (zs : List Nat) (s : AS) (rs : List ResultVar) (res : AV) : Option (List Prop) :=
  match freezeAll s zs with
  | some (s1, a) => match retA Γ s1 rs with
    | some x => match shape x res, nodupB (given (tops x) (tops res)) with
      | true, true => match finL s1 (tops x) (tops res) with
        | some b => some (a ++ b)
        | none => none
      | _, _ => none
    | none => none
  | none => none

theorem ret1_sound {P : Program} {Γ : TT} (hΓ : Γok P Γ) {C : Ctx} {G : Env} {s : AS} {a : Act} {w : World} (h : RelG C G s a w) {r : ResultVar} {v : AV} (hr : ret1 Γ s r = some v) :
    ∃ x, ((match r with | .tmp t => pure (a.tmps.getD t undef) | .cell b t => do loadVar t (← asAddr (a.tmps.getD b undef)) : Sem Value)).run P w = .ok x w ∧ Rep w G true v x := by
  cases r with
  | tmp t =>
    obtain ⟨x, h1, h2⟩ := h.slots t v hr
    exact ⟨x, by simp [h1], h2⟩
  | cell b t =>
    simp only [ret1] at hr
    split at hr
    · rename_i id off hb
      obtain ⟨x, h1, h2⟩ := h.slots b _ hb
      have key : ∃ os, loadA Γ s t (.ptr id off) none = some (v, os) ∧ All os := by
        split at hr
        · rename_i v' hl
          cases hr
          exact ⟨[], hl, trivial⟩
        · rename_i v' p hl
          split at hr
          · rename_i ti wr cs hti hcs
            split at hr
            · rename_i hble
              cases hr
              refine ⟨_, hl, ?_⟩
              simp only [loadA, hti, hcs, cellsAt] at hl
              split at hl
              · cases hl
                exact Nat.le_of_ble_eq_true hble
              · split at hl <;> cases hl
            · cases hr
          · cases hr
        · cases hr
      obtain ⟨os, h3, h4⟩ := key
      obtain ⟨y, h5, h6⟩ := loadA_sound (P := P) hΓ h h2 h3 h4
      refine ⟨y, ?_, h6⟩
      cases h2 with
      | ptr _ _ g hg =>
        simp only [Instr.loadAt, Instr.sureAddr, Sem.run_bind, Sem.run_pure, Result.andThen_ok] at h5
        simp [h1, asAddr, h5]
    · cases hr

theorem retL_sound {P : Program} {Γ : TT} (hΓ : Γok P Γ) {C : Ctx} {G : Env} {s : AS} {a : Act} {w : World} (h : RelG C G s a w) : ∀ {rs : List ResultVar} {l : List AV}, retL Γ s rs = some l → ∃ xs : List Value, (rs.mapM fun r => (match r with | .tmp t => pure (a.tmps.getD t undef) | .cell b t => do loadVar t (← asAddr (a.tmps.getD b undef)) : Sem Value)).run P w = .ok xs w ∧
    xs.length = l.length ∧ ∀ (i : Nat) (c : AV) (v : Value), l[i]? = some c → xs[i]? = some v → Rep w G true c v
  | [], l, hl => by cases hl; exact ⟨[], rfl, rfl, fun i c v hc => by simp at hc⟩
  | r :: rs, l, hl => by
    simp only [retL] at hl
    split at hl
    · rename_i v l' h1 h2
      cases hl
      obtain ⟨x, h3, h4⟩ := ret1_sound (P := P) hΓ h h1
      obtain ⟨xs, h5, h6, h7⟩ := retL_sound hΓ h h2
      refine ⟨x :: xs, ?_, by simp [h6], fun i c u hc hu => ?_⟩
      · rw [List.mapM_cons, Sem.run_bind, h3]
        simp only [Result.andThen_ok, Sem.run_bind, h5, Sem.run_pure]
      · match i, hc, hu with
        | 0, hc, hu =>
          simp at hc hu
          subst hc; subst hu
          exact h4
        | n + 1, hc, hu => exact h7 n c u (by simpa using hc) (by simpa using hu)
    · cases hl

theorem retA_sound {P : Program} {Γ : TT} (hΓ : Γok P Γ) {C : Ctx} {G : Env} {s : AS} {a : Act} {w : World} (h : RelG C G s a w) {fn : Func} {v : AV} (hr : retA Γ s fn.results.toList = some v) : ∃ x, (results fn a.tmps).run P w = .ok x w ∧ Rep w G true v x := by
  have core : ∀ {l : List AV}, retL Γ s fn.results.toList = some l → ∃ xs : List Value, (results fn a.tmps).run P w = .ok (if h : xs.length = 1 then xs[0] else .tuple xs.toArray) w ∧ xs.length = l.length ∧ ∀ (i : Nat) (c : AV) (v : Value), l[i]? = some c → xs[i]? = some v → Rep w G true c v := by
    intro l hl
    obtain ⟨xs, h1, h2, h3⟩ := retL_sound (P := P) hΓ h hl
    refine ⟨xs, ?_, h2, h3⟩
    unfold results
    rw [Sem.run_bind, Array.mapM_eq_mapM_toList, map_eq_pure_bind, Sem.run_bind]
    erw [h1]
    simp only [Result.andThen_ok, Sem.run_pure, List.size_toArray]
    by_cases h9 : xs.length = 1 <;> simp [h9]
  unfold retA at hr
  split at hr
  · rename_i v' hl
    cases hr
    obtain ⟨xs, h1, h2, h3⟩ := core hl
    have hl1 : xs.length = 1 := by simpa using h2
    rw [dif_pos hl1] at h1
    exact ⟨_, h1, h3 0 v xs[0] rfl (List.getElem?_eq_getElem (by omega))⟩
  · rename_i l hne hl
    cases hr
    obtain ⟨xs, h1, h2, h3⟩ := core hl
    have hl1 : ¬ xs.length = 1 := by
      rw [h2]
      intro e
      match l, e, hne with
      | [x], _, hne => exact hne x rfl
    rw [dif_neg hl1] at h1
    exact ⟨_, h1, .tup _ _ _ (by simpa using h2) fun i c v hc hv => h3 i c v hc (by simpa using hv)⟩
  · cases hr

end Go.AX
end

section
set_option linter.unusedVariables false
set_option linter.unusedSimpArgs false
namespace Go.AX
open Go Go.RowKit

def tsAt (xs ys : List AV) (i : Nat) : Option Nat :=
  match xs[i]?, ys[i]? with
  | some (.sl _ _ _ (.own t)), some (.sl _ _ _ (.fresh _ _)) => some t
  | _, _ => none
theorem given_mem : ∀ (xs ys : List AV) (i t : Nat), tsAt xs ys i = some t → t ∈ given xs ys
  | [], ys, i, t, h => by simp [tsAt] at h
  | x :: xs, [], i, t, h => by
    simp only [tsAt] at h
    split at h
    · rename_i h2; simp at h2
    · cases h
  | x :: xs, y :: ys, i, t, h => by
    match i, h with
    | 0, h =>
      simp only [tsAt, List.getElem?_cons_zero] at h
      split at h
      · rename_i h1 h2
        cases h
        cases h1; cases h2
        simp [given]
      · cases h
    | n + 1, h =>
      have h' : tsAt xs ys n = some t := by simpa [tsAt] using h
      have ih := given_mem xs ys n t h'
      unfold given
      split
      · rename_i e1 e2
        cases e1; cases e2
        exact List.mem_cons_of_mem _ ih
      · rename_i _ e1 e2
        cases e1; cases e2
        exact ih
      · rename_i hne
        exact absurd rfl (hne _ _ _ _ rfl)
theorem given_inj : ∀ (xs ys : List AV) (i j t : Nat), nodupB (given xs ys) = true → tsAt xs ys i = some t → tsAt xs ys j = some t → i = j
  | [], ys, i, j, t, hn, h, h' => by simp [tsAt] at h
  | x :: xs, [], i, j, t, hn, h, h' => by
    simp only [tsAt] at h
    split at h
    · rename_i h2; simp at h2
    · cases h
  | x :: xs, y :: ys, i, j, t, hn, h, h' => by
    have head : ∀ {u}, tsAt (x :: xs) (y :: ys) 0 = some u → given (x :: xs) (y :: ys) = u :: given xs ys := by
      intro u hu
      simp only [tsAt, List.getElem?_cons_zero] at hu
      split at hu
      · rename_i h1 h2
        cases hu
        cases h1; cases h2
        rfl
      · cases hu
    have tail : nodupB (given xs ys) = true := by
      unfold given at hn
      split at hn
      · rename_i e1 e2
        cases e1; cases e2
        simp only [nodupB, Bool.and_eq_true] at hn
        exact hn.2
      · rename_i _ e1 e2
        cases e1; cases e2
        exact hn
      · rename_i hne
        exact absurd rfl (hne _ _ _ _ rfl)
    have no : ∀ {n u}, tsAt (x :: xs) (y :: ys) 0 = some u → tsAt xs ys n = some u → False := by
      intro n u h1 h2
      rw [head h1] at hn
      simp only [nodupB, Bool.and_eq_true, Bool.not_eq_true'] at hn
      have := given_mem xs ys n u h2
      have h3 := List.any_eq_false.1 hn.1 u this
      simp at h3
    match i, j, h, h' with
    | 0, 0, h, h' => rfl
    | 0, n + 1, h, h' => exact (no h (by simpa [tsAt] using h')).elim
    | n + 1, 0, h, h' => exact (no h' (by simpa [tsAt] using h)).elim
    | n + 1, m + 1, h, h' => rw [given_inj xs ys n m t tail (by simpa [tsAt] using h) (by simpa [tsAt] using h')]

theorem finT_undef (s : AS) (y : AV) : finT s .undef y = none := by unfold finT; split <;> simp [treeH]
theorem finL_undef (s : AS) (ys : List AV) : finL s [.undef] ys = none := by
  cases ys with
  | nil => rfl
  | cons y ys => simp [finL, finT_undef]

theorem own_raise {w : World} {b : Nat} {e : TypeId} {size n : Nat} {v : Value} {xs : List Value} (h : w.ownsRow 0 e size v n xs) (hb : ∀ g, v.ownBlock = some g → b ≤ g) : w.ownsRow b e size v n xs := by
  refine ⟨h.1, ?_⟩
  rcases h.2 with h2 | ⟨g, cap, cur, e1, hg, h3⟩
  · exact .inl h2
  · exact .inr ⟨g, cap, cur, e1, hb g (by rw [e1]; rfl), h3⟩

theorem finT_sound {C : Ctx} {G : Env} {s : AS} {a : Act} {w : World} (hL : ∀ g, ¬ C.L g) (hR : RelG C G s a w) {x y : AV} {u : Value} (hx : Rep w G true x u) {os : List Prop} (h : finT s x y = some os) (ho : All os) :
    ∃ r, FrOk C.w0.heap.size w y u r ∧ Rep w G false y u ∧ ∀ r', r = some r' → r'.o = true → ∃ t nl n c nl' n' c' e sz, x = .sl nl n c (.own t) ∧ y = .sl nl' n' c' (.fresh e sz) ∧ G.τ t = some r' := by
  have other : (∀ nl n c e sz, y ≠ .sl nl n c (.fresh e sz)) → (match treeH s x with | some (z, a) => (match leP z y with | some b => some (a ++ b) | none => none) | none => none : Option (List Prop)) = some os → ∃ r, FrOk C.w0.heap.size w y u r ∧ Rep w G false y u ∧ ∀ r', r = some r' → r'.o = true → ∃ t nl n c nl' n' c' e sz, x = .sl nl n c (.own t) ∧ y = .sl nl' n' c' (.fresh e sz) ∧ G.τ t = some r' := by
    intro hy h
    split at h
    · rename_i z a1 hz
      split at h
      · rename_i b1 hb1
        cases h
        obtain ⟨ho1, ho2⟩ := All_append.1 ho
        refine ⟨none, ?_, leP_rep (treeH_sound hR hx hz ho1) hb1 ho2, fun r' e => by cases e⟩
        cases y with
        | sl nl n c o =>
          cases o with
          | fresh e sz => exact absurd rfl (hy _ _ _ _ _)
          | _ => trivial
        | _ => trivial
      · cases h
    · cases h
  unfold finT at h
  split at h
  · rename_i nl' n' c' e sz
    split at h
    · rename_i nl n c t
      split at h
      · rename_i g hg hnl
        split at h
        · rename_i h1 h2
          cases h
          simp only [All] at ho
          obtain ⟨rfl, rfl, hgn⟩ := ho
          obtain ⟨r, hr, hok⟩ := hR.tags t g hg
          have e1 := Nat.eq_of_beq_eq_true h1
          have e2 := Nat.eq_of_beq_eq_true h2
          rw [← hok.hn] at hgn
          rw [← hok.he] at e1
          rw [← hok.hsz] at e2
          cases hx with
          | sl _ _ _ _ _ A c1 vs hnl' hpos hc hcell hrep hclip hown' =>
          obtain ⟨_, r2, hr2, hle, hv⟩ := hown' t rfl
          rw [hr] at hr2
          cases hr2
          have hv' := hv hgn
          refine ⟨some r, ⟨hv', hgn, e1, e2, fun ho => ?_, fun ho => ?_⟩, ?_, fun r' e ho => ?_⟩
          · obtain ⟨_, A', e3, e4⟩ := hok.clip ho
            rw [hv', hgn] at e3
            rw [hgn] at e4
            exact ⟨A', e3, e4⟩
          · have h3 := own_raise (hok.own ho) (b := C.w0.heap.size) (fun g hg => (hok.base ho g hg).resolve_right (hL g))
            rw [hv', e1, e2, hgn] at h3
            exact ⟨h3, hok.one ho⟩
          · refine .sl _ _ _ _ _ _ _ vs (fun b hb => ?_) hpos hc hcell hrep (fun e => by cases e) (fun t e => by cases e)
            subst hb
            cases nl with
            | none => simp [nlLe] at hnl
            | some a1 =>
              simp [nlLe] at hnl
              exact hnl' b (by rw [hnl])
          · cases e
            exact ⟨t, nl, n, c, nl', n, c, e, sz, rfl, rfl, hr⟩
        · cases h
      · cases h
    · rename_i nl n c
      split at h
      · rename_i hnl
        cases h
        simp only [All] at ho
        obtain ⟨rfl, rfl⟩ := ho
        cases hx with
        | sl _ _ _ _ _ A c1 vs hnl' hpos hc hcell hrep hclip hown' =>
        have hcn := hclip rfl
        subst hcn
        refine ⟨some ⟨false, .slice A c1 c1, c1, e, sz, []⟩, ⟨rfl, rfl, rfl, rfl, fun _ => ⟨A, rfl, fun hA => ?_⟩, fun ho => by cases ho⟩, ?_, fun r' e ho => by cases e; cases ho⟩
        · rcases Nat.eq_zero_or_pos c1 with h0 | h0
          · exact h0
          · obtain ⟨ad, e, _⟩ := hpos h0
            rw [hA] at e
            cases e
        · refine .sl _ _ _ _ _ _ _ vs (fun b hb => ?_) hpos hc hcell hrep (fun e => by cases e) (fun t e => by cases e)
          subst hb
          cases nl with
          | none => simp [nlLe] at hnl
          | some a1 =>
            simp [nlLe] at hnl
            exact hnl' b (by rw [hnl])
      · cases h
    · cases h
  · rename_i hne
    exact other (fun nl n c e sz hy => hne nl n c e sz hy) h

theorem finL_sound {C : Ctx} {G : Env} {s : AS} {a : Act} {w : World} (hL : ∀ g, ¬ C.L g) (hR : RelG C G s a w) : ∀ (xs ys : List AV) (us : List Value) (os : List Prop), finL s xs ys = some os → All os → us.length = xs.length → (∀ (i : Nat) (x : AV) (u : Value), xs[i]? = some x → us[i]? = some u → Rep w G true x u) →
    ys.length = xs.length ∧ ∃ rs : List (Option TagRec), rs.length = ys.length ∧ (∀ (i : Nat) (y : AV) (u : Value) (r : Option TagRec), ys[i]? = some y → us[i]? = some u → rs[i]? = some r → FrOk C.w0.heap.size w y u r) ∧
      (∀ (i : Nat) (y : AV) (u : Value), ys[i]? = some y → us[i]? = some u → Rep w G false y u) ∧ ∀ (i : Nat) (r : TagRec), rs[i]? = some (some r) → r.o = true → ∃ t, tsAt xs ys i = some t ∧ G.τ t = some r
  | [], [], us, os, h, ho, hl, hr => ⟨rfl, [], rfl, fun i y u r hy => by simp at hy, fun i y u hy => by simp at hy, fun i r hr => by simp at hr⟩
  | [], _ :: _, us, os, h, ho, hl, hr => by simp [finL] at h
  | _ :: _, [], us, os, h, ho, hl, hr => by simp [finL] at h
  | x :: xs, y :: ys, us, os, h, ho, hl, hr => by
    simp only [finL] at h
    split at h
    · rename_i a1 b1 h1 h2
      cases h
      obtain ⟨ho1, ho2⟩ := All_append.1 ho
      cases us with
      | nil => simp at hl
      | cons u us =>
        obtain ⟨r, h3, h4, h5⟩ := finT_sound hL hR (hr 0 x u rfl rfl) h1 ho1
        obtain ⟨h6, rs, h7, h8, h9, h10⟩ := finL_sound hL hR xs ys us b1 h2 ho2 (by simpa using hl) (fun i x u a b => hr (i + 1) x u (by simpa using a) (by simpa using b))
        refine ⟨by simp [h6], r :: rs, by simp [h7], fun i y' u' r' a b c => ?_, fun i y' u' a b => ?_, fun i r' a b => ?_⟩
        · match i, a, b, c with
          | 0, a, b, c =>
            simp at a b c
            subst a; subst b; subst c
            exact h3
          | n + 1, a, b, c => exact h8 n y' u' r' (by simpa using a) (by simpa using b) (by simpa using c)
        · match i, a, b with
          | 0, a, b =>
            simp at a b
            subst a; subst b
            exact h4
          | n + 1, a, b => exact h9 n y' u' (by simpa using a) (by simpa using b)
        · match i, a with
          | 0, a =>
            simp at a
            obtain ⟨t, nl, n, c, nl', n', c', e, sz, rfl, rfl, ht⟩ := h5 r' a b
            exact ⟨t, rfl, ht⟩
          | n + 1, a =>
            obtain ⟨t, h11, h12⟩ := h10 n r' (by simpa using a) b
            exact ⟨t, by simpa [tsAt] using h11, h12⟩
    · cases h

theorem retP_sound {P : Program} {Γ : TT} (hΓ : Γok P Γ) {C : Ctx} {G : Env} {s : AS} {a : Act} {w : World} (hL : ∀ g, ¬ C.L g) (hR : RelG C G s a w) {fn : Func} {zs : List Nat} {res : AV} {os : List Prop} (h : retP Γ zs s fn.results.toList res = some os) (ho : All os) :
    ∃ x rs, (results fn a.tmps).run P w = .ok x w ∧ Res C.G0.F C.w0 w res x rs := by
  unfold retP at h
  split at h
  · rename_i s1 a1 hs1
    split at h
    · rename_i v hv
      split at h
      · rename_i hsh hnd
        split at h
        · rename_i b1 hfin
          cases h
          obtain ⟨hoa, hob⟩ := All_append.1 ho
          obtain ⟨G1, hR1, _⟩ := freezeAll_sound hR hs1 hoa
          obtain ⟨x, h1, h2⟩ := retA_sound (P := P) hΓ hR1 hv
          have htl : (topsV x).length = (tops v).length ∧ ∀ (i : Nat) (c : AV) (u : Value), (tops v)[i]? = some c → (topsV x)[i]? = some u → Rep w G1 true c u := by
            have hh := h2
            cases h2 with
            | agg _ cs vs hl hr h1' => exact ⟨by simpa [tops, topsV] using hl, fun i c u hc hu => hr i c u hc (by simpa [topsV] using hu)⟩
            | tup _ cs vs hl hr => exact ⟨by simpa [tops, topsV] using hl, fun i c u hc hu => hr i c u hc (by simpa [topsV] using hu)⟩
            | undef l v' =>
              exfalso
              rw [show tops .undef = [.undef] from rfl, finL_undef] at hfin
              cases hfin
            | _ =>
              refine ⟨rfl, fun i c u hc hu => ?_⟩
              match i, hc, hu with
              | 0, hc, hu =>
                simp [tops, topsV] at hc hu
                subst hc; subst hu
                exact hh
              | n + 1, hc, hu => simp [tops] at hc
          obtain ⟨h3, rs, h4, h5, h6, h7⟩ := finL_sound hL hR1 (tops v) (tops res) (topsV x) b1 hfin hob htl.1 htl.2
          have hkeep : Below C.w0.heap.size C.w0 w := ⟨hR1.mem.keep.os, hR1.mem.keep.tape, hR1.mem.keep.output, hR1.mem.keep.size, fun k hk => hR1.mem.keep.block k hk (hL k)⟩
          refine ⟨x, rs, h1, ⟨hkeep, hR1.mem.keep.fz, h4, by rw [htl.1, h3], h5, fun i j r r' g hi hj hro hro' hg hg' => ?_, ?_⟩⟩
          · obtain ⟨t, ht1, ht2⟩ := h7 i r hi hro
            obtain ⟨t', ht1', ht2'⟩ := h7 j r' hj hro'
            have ht : t' = t := by
              obtain ⟨n, _, hok⟩ := hR1.mem.tag_ok ht2
              exact hok.hτ hro g hg t' r' ht2' hro' hg'
            subst ht
            exact given_inj _ _ i j _ hnd ht1 ht1'
          · have hle : ∀ b o, G1.F b o → Fr C.G0.F C.w0 w rs b o := by
              intro b o hf
              by_cases hb : b < C.w0.heap.size
              · exact .inl ((hR1.mem.fold b o hf hb).resolve_right (hL b))
              · refine .inr ⟨by omega, hR1.fdom b o hf, fun r hr hro hg => ?_⟩
                obtain ⟨i, hi⟩ := List.mem_iff_getElem?.1 hr
                obtain ⟨t, _, ht2⟩ := h7 i r hi hro
                obtain ⟨n, _, hok⟩ := hR1.mem.tag_ok ht2
                exact (hok.hF hro b hg o hf).1
            have hrep : Rep w G1 false res x := by
              by_cases hu : v = .undef
              · subst hu
                rw [show tops .undef = [.undef] from rfl, finL_undef] at hfin
                cases hfin
              cases v <;> cases res <;> simp [shape] at hsh
              all_goals first
                | exact absurd rfl hu
                | (cases h2 with | agg _ _ vs hl hr h1' => exact .agg _ _ _ (by simp only [tops] at h3; omega) (fun i c u hc hu => h6 i c u hc (by simpa [topsV] using hu)) h1')
                | (cases h2 with | tup _ _ vs hl hr => exact .tup _ _ _ (by simp only [tops] at h3; omega) (fun i c u hc hu => h6 i c u hc (by simpa [topsV] using hu)))
                | (exact h6 0 _ x rfl (by cases h2 <;> rfl))
            exact hrep.tree hle
        · cases h
      · cases h
    · cases h
  · cases h

theorem Ctr.of {P : Program} {Γ : TT} (hΓ : Γok P Γ) {f : FuncId} {fn : Func} {c : Code} (hf : P.funcs[f]? = some fn) (hb : fn.body = some c) (hcall : ∀ vs w, (callFunc f vs).run P w = .ok (.enter f vs) w) (zs : List Nat) {args : List AV} {res : AV} (hl : args.length ≤ fn.ntmps)
    (h : HT P fn.ntmps [.code c] (st0 args) (fun s => ∃ os, retP Γ zs s fn.results.toList res = some os ∧ All os)) : Ctr P f args res := by
  refine ⟨hcall, fun w F vs hF ha cs => ?_⟩
  let b : Frame := { (default : Frame) with fn := f, kind := .normal }
  have henter : Frame.enter P f vs .normal = b.at { tmps := vs ++ Array.replicate (fn.ntmps - vs.size) undef, defers := [] } [.code c] := by
    simp [Frame.enter, Frame.at, hf, hb, b]
  obtain ⟨a', w', todo', ⟨s', G', ⟨os, hq, ho⟩, hR⟩, hsteps⟩ := h.tw (ctx0 w F fn.ntmps) (envF F) _ w rfl (start_rel hF ha hl) b cs
  obtain ⟨x, rs, h1, h2⟩ := retP_sound (P := P) hΓ (fun _ h => h) hR hq ho
  rw [← henter] at hsteps
  exact ⟨.returned x, w', _, ⟨x, rs, rfl, h2⟩, hsteps, rfl, rfl, hR.defers, rfl, fn, hf, h1⟩

/-! ### The end of a function that was lent memory -/
def retPM (Γ : TT) (zs : List Nat) (s : AS) (rs : List ResultVar) (M' : MemS) (res : AV) : Option (List Prop) :=
  match freezeAll s zs with
  | some (s1, a) => match retA Γ s1 rs with
    | some x => match argsM s1 M'.as [x] with
      | some ([y], b) => match leP y res, weakH s1 M'.as M'.heap, weakG s1 M'.tags with
        | some c, some d, some e => some (a ++ (b ++ (c ++ (d ++ e))))
        | _, _, _ => none
      | _ => none
    | none => none
  | none => none
theorem retPM_sound {P : Program} {Γ : TT} (hΓ : Γok P Γ) {C : Ctx} {G : Env} {s : AS} {a : Act} {w : World} (hR : RelG C G s a w) {fn : Func} {zs : List Nat} {M' : MemS} {res : AV} {os : List Prop} (h : retPM Γ zs s fn.results.toList M' res = some os) (ho : All os)
    (k1 : ∀ i, C.G0.φ i ≠ none → isS (look M'.heap i) = true) (k2 : ∀ t, C.G0.τ t ≠ none → isS (look M'.tags t) = true) :
    ∃ x G', (results fn a.tmps).run P w = .ok x w ∧ RelM C G' M'.heap M'.tags w ∧ Rep w G' true res x := by
  unfold retPM at h
  split at h
  · rename_i s1 a1 hs1
    split at h
    · rename_i v hv
      split at h
      · rename_i y b1 hy
        split at h
        · rename_i c1 d1 e1 hc hd he
          cases h
          obtain ⟨ho1, ho2⟩ := All_append.1 ho
          obtain ⟨ho2, ho3⟩ := All_append.1 ho2
          obtain ⟨ho3, ho4⟩ := All_append.1 ho3
          obtain ⟨ho4, ho5⟩ := All_append.1 ho4
          obtain ⟨G1, hR1, _⟩ := freezeAll_sound hR hs1 ho1
          obtain ⟨x, h1, h2⟩ := retA_sound (P := P) hΓ hR1 hv
          refine ⟨x, G1.cut M'.as, h1, hR1.mem.weak hd ho4 he ho5 k1 k2, ?_⟩
          obtain ⟨_, hg⟩ := argsM_get hy ho2
          obtain ⟨x', hx', hor⟩ := hg 0 y rfl
          simp at hx'
          subst hx'
          refine leP_rep ?_ hc ho3
          rcases hor with ⟨h3, rfl⟩ | ⟨os', h3, h4⟩
          · exact idsOk_rep h2 h3
          · exact (Rep.tree (G' := G1.cut M'.as) (treeH_sound hR1 h2 h3 h4) (fun b o hf => hf)).up
        · cases h
      · cases h
    · cases h
  · cases h

theorem RelM.nt {C : Ctx} {n : Nat} {G : Env} {hp : List (Nat × Blk)} {tg : List (Nat × Tag)} {w : World} (h : RelM { C with nt := n } G hp tg w) : RelM C G hp tg w :=
  ⟨h.keep, h.le, h.fdom, h.fold, h.blocks, h.noblock, h.inj, fun t n hn => by
    obtain ⟨r, hr, hok⟩ := h.tags t n hn
    exact ⟨r, hr, ⟨hok.hn, hok.he, hok.hsz, hok.clip, hok.own, hok.one, hok.base, hok.hF, hok.hφ, hok.hτ, hok.hcs⟩⟩, h.notag, h.deep⟩

theorem CtrM.of {P : Program} {Γ : TT} (hΓ : Γok P Γ) {f : FuncId} {fn : Func} {c : Code} (hf : P.funcs[f]? = some fn) (hb : fn.body = some c) (hcall : ∀ vs w, (callFunc f vs).run P w = .ok (.enter f vs) w) (zs : List Nat) {M M' : MemS} {args : List AV} {res : AV} (hl : args.length ≤ fn.ntmps)
    (hk : keysIn M'.heap M.heap = true) (ht : keysIn M'.tags M.tags = true)
    (h : HT P fn.ntmps [.code c] (stM args M) (fun s => ∃ os, retPM Γ zs s fn.results.toList M' res = some os ∧ All os)) : CtrM P f M args M' res := by
  refine ⟨hcall, fun C vs hm h1 h2 cs => ?_⟩
  let b : Frame := { (default : Frame) with fn := f, kind := .normal }
  have henter : Frame.enter P f vs .normal = b.at { tmps := vs ++ Array.replicate (fn.ntmps - vs.size) undef, defers := [] } [.code c] := by
    simp [Frame.enter, Frame.at, hf, hb, b]
  obtain ⟨a', w', todo', ⟨s', G', ⟨os, hq, ho⟩, hR⟩, hsteps⟩ := h.tw { C with nt := fn.ntmps } C.G0 _ C.w0 rfl (startM_rel hm h1 h2 hl) b cs
  obtain ⟨x, G2, h3, h4, h5⟩ := retPM_sound (P := P) hΓ hR hq ho (fun i hi => by
    cases hli : look M.heap i with
    | none => exact absurd (hm.noblock i hli) hi
    | some b => exact keysIn_look hk (by rw [hli]; rfl)) (fun t hi => by
    cases hli : look M.tags t with
    | none => exact absurd (hm.notag t hli) hi
    | some b => exact keysIn_look ht (by rw [hli]; rfl))
  rw [← henter] at hsteps
  exact ⟨.returned x, w', _, ⟨x, G2, rfl, h4.nt, h5⟩, hsteps, rfl, rfl, hR.defers, rfl, fn, hf, h3⟩

end Go.AX
end

section
set_option linter.unusedVariables false
set_option linter.unusedSimpArgs false
namespace Go.AX
open Go Go.RowKit

/-! ### A table of types, out of closed facts -/
structure TIbase (P : Program) (t : Nat) (ti : TI) : Prop where
  ex : ∃ i d z, P.info? t = some i ∧ P.underlying t = some d ∧ i.size = ti.size ∧ i.bytes = ti.bytes ∧ i.zero = some z ∧ z.cells.size = ti.size ∧ ti.zero = z.cells.toList.map zAV ∧ (∀ v ∈ z.cells, v.oneCell' = true) ∧
    (ti.agg = true ↔ ∃ cs, z = .agg cs) ∧ kindOk P d ti.kind
/-! '==' at structs -/
inductive Form1 : SK → Value → Value → Bool → Prop
  | int (k : IntKind) (a b : Int) : Form1 (.int k) (.int k a) (.int k b) (a == b)
  | bool (a b : Bool) : Form1 .bool (.bool a) (.bool b) (a == b)
  | str (a b : ByteArray) : Form1 .str (.string a) (.string b) (a == b)
inductive Forms : List SK → List Value → List Value → Bool → Prop
  | nil : Forms [] [] [] true
  | cons {k : SK} {ks : List SK} {v u : Value} {vs us : List Value} {a b : Bool} (h : Form1 k v u a) (hs : Forms ks vs us b) : Forms (k :: ks) (v :: vs) (u :: us) (a && b)
theorem zAV_int {v : Value} {k : IntKind} {n : Int} (h : zAV v = .int k n) : v = .int k n := by
  unfold zAV at h
  split at h <;> simp_all
theorem zAV_bool {v : Value} {b : Bool} (h : zAV v = .bool b) : v = .bool b := by
  unfold zAV at h
  split at h <;> simp_all
theorem zAV_str {v : Value} {b : ByteArray} (h : zAV v = .str b) : v = .string b := by
  unfold zAV at h
  split at h <;> simp_all
theorem bytes_beq (a b : ByteArray) : (a == b) = decide (a = b) := by
  have : (a == b) = (a.data == b.data) := rfl
  rw [this]
  by_cases h : a = b
  · subst h; simp
  · have h2 : a.data ≠ b.data := fun e => h (by cases a; cases b; simp at e; rw [e])
    simp [h, h2]
theorem form1_of {k : SK} {v u : Value} {b : Bool} (h : eq1 k (zAV v) (zAV u) = some b) : Form1 k v u b := by
  unfold eq1 at h
  split at h
  · rename_i k k1 a k2 c h1 h2
    split at h
    · rename_i hk
      obtain ⟨rfl, rfl⟩ := hk
      cases h
      rw [zAV_int h1, zAV_int h2]
      exact .int _ _ _
    · cases h
  · rename_i a c h1 h2
    cases h
    rw [zAV_bool h1, zAV_bool h2]
    exact .bool _ _
  · rename_i a c h1 h2
    cases h
    rw [zAV_str h1, zAV_str h2, ← bytes_beq]
    exact .str _ _
  · cases h
theorem forms_of : ∀ {ks : List SK} {xs ys : List Value} {b : Bool}, eqL ks (xs.map zAV) (ys.map zAV) = some b → Forms ks xs ys b
  | [], [], [], b, h => by cases h; exact .nil
  | [], [], _ :: _, b, h => by cases h
  | [], _ :: _, ys, b, h => by cases ys <;> cases h
  | _ :: _, [], ys, b, h => by cases ys <;> cases h
  | _ :: _, _ :: _, [], b, h => by cases h
  | k :: ks, v :: vs, u :: us, b, h => by
    simp only [List.map_cons, eqL] at h
    split at h
    · rename_i a c h1 h2
      cases h
      exact .cons (form1_of h1) (forms_of h2)
    · cases h
theorem TIok.ofEq {P : Program} {t : Nat} {ti : TI} {ks : List SK} (h : TIbase P t ti) (he : ti.eq = some ks) (ha : ti.agg = true) (hg : P.eqGuardType P.depth t = false)
    (hq : ∀ (w : World) (xs ys : List Value) (b : Bool), Forms ks xs ys b → (Op.equal t (.agg xs.toArray) (.agg ys.toArray)).run P w = .ok b w) : TIok P t ti := by
  refine ⟨h.ex, fun ks' hk => ?_⟩
  rw [he] at hk
  cases hk
  refine ⟨ha, fun w xs ys cx cy b hx hy hb => ⟨fun x y => ⟨?_, ?_⟩, ?_⟩⟩
  · simp [eqGuard, hg]
  · simp [eqGuard, hg]
  · subst hx; subst hy
    have := hq w xs.toList ys.toList b (forms_of hb)
    simpa using this
def isAggV : Value → Bool
  | .agg _ => true
  | _ => false
theorem TIbase.of {P : Program} {t : Nat} {ti : TI} (i : TypeInfo) (d : TypeDesc) (z : Value) (h0 : P.info? t = some i) (h1 : P.underlying t = some d) (h2 : i.size = ti.size) (h3 : i.bytes = ti.bytes) (h4 : i.zero = some z) (h5 : z.cells.size = ti.size) (h6 : ti.zero = z.cells.toList.map zAV)
    (h7 : z.cells.all (·.oneCell') = true) (h8 : ti.agg = isAggV z) (h9 : kindOk P d ti.kind) : TIbase P t ti :=
  ⟨i, d, z, h0, h1, h2, h3, h4, h5, h6, fun v hv => by
    obtain ⟨k, hk, rfl⟩ := Array.mem_iff_getElem.1 hv
    exact Array.all_eq_true.1 h7 k hk, by
    rw [h8]
    cases z <;> simp [isAggV], h9⟩
theorem TIok.ofPlain {P : Program} {t : Nat} {ti : TI} (h : TIbase P t ti) (he : ti.eq = none) : TIok P t ti := ⟨h.ex, fun ks hk => by rw [he] at hk; cases hk⟩

def AllTI (P : Program) : TT → Prop
  | [] => True
  | (t, ti) :: r => TIok P t ti ∧ AllTI P r
theorem gok_of {P : Program} : ∀ {Γ : TT}, AllTI P Γ → Γok P Γ
  | [], _ => fun t ti h => by simp [look] at h
  | (j, x) :: r, h => fun t ti ht => by
    rw [look_cons] at ht
    split at ht
    · rename_i e
      subst e
      cases ht
      exact h.1
    · exact gok_of h.2 t ti ht

end Go.AX
end
