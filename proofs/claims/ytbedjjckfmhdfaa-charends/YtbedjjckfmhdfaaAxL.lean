import Derived.Test.YtbedjjckfmhdfaaAxK
set_option linter.unusedVariables false
set_option linter.unusedSimpArgs false
namespace Go.AX
open Go Go.RowKit

/-! ### What is handed to a call: trees; blocks of one's own that stand still meanwhile -/
mutual
def treeH (s : AS) : AV → Option AV
  | .int k n => some (.int k n)
  | .bool b => some (.bool b)
  | .str t => some (.str t)
  | .nilFn => some .nilFn
  | .nilp => some .nilp
  | .sl nl n cells o => some (.sl nl n cells o.tree)
  | .rop cells off => some (.rop cells off)
  | .agg cs => match treeHL s cs with
    | some ds => some (.agg ds)
    | none => none
  | .tup cs => match treeHL s cs with
    | some ds => some (.tup ds)
    | none => none
  | .fn f cs => match treeHL s cs with
    | some ds => some (.fn f ds)
    | none => none
  | .undef => none
  | .ptr id off => match look s.heap id with
    | some (.var false cs) => some (.rop cs off)
    | some (.rows false cs) => some (.rop cs off)
    | _ => none
  | .row id off n => match look s.heap id with
    | some (.rows false cs) => some (.sl (some false) n (cs.drop off) .no)
    | _ => none
def treeHL (s : AS) : List AV → Option (List AV)
  | [] => some []
  | x :: xs => match treeH s x, treeHL s xs with
    | some y, some ys => some (y :: ys)
    | _, _ => none
end

theorem treeHL_get {s : AS} : ∀ {xs ys : List AV}, treeHL s xs = some ys → ys.length = xs.length ∧ ∀ (i : Nat) (y : AV), ys[i]? = some y → ∃ x : AV, xs[i]? = some x ∧ treeH s x = some y
  | [], ys, h => by simp only [treeHL] at h; cases h; exact ⟨rfl, fun i y h => by simp at h⟩
  | x :: xs, ys, h => by
    simp only [treeHL] at h
    split at h
    · rename_i y' ys' h1 h2
      cases h
      obtain ⟨h3, h4⟩ := treeHL_get h2
      refine ⟨by simp [h3], fun i y hy => ?_⟩
      match i, hy with
      | 0, hy =>
        simp at hy
        subst hy
        exact ⟨x, rfl, h1⟩
      | n + 1, hy => simpa using h4 n y (by simpa using hy)
    · cases h

theorem treeH_sound {C : Ctx} {G : Env} {s : AS} {a : Act} {w : World} (hR : RelG C G s a w) {l : Bool} {x : AV} {v : Value} (h : Rep w G l x v) : ∀ {y : AV}, treeH s x = some y → Rep w G false y v := by
  have lists : ∀ (cs : List AV) (vs : Array Value) (ds : List AV), vs.size = cs.length → treeHL s cs = some ds → (∀ (i : Nat) (c : AV) (v : Value), cs[i]? = some c → vs[i]? = some v → ∀ {y : AV}, treeH s c = some y → Rep w G false y v) →
      vs.size = ds.length ∧ ∀ (i : Nat) (c : AV) (v : Value), ds[i]? = some c → vs[i]? = some v → Rep w G false c v := by
    intro cs vs ds hl hd ih
    obtain ⟨h1, h2⟩ := treeHL_get hd
    refine ⟨by rw [h1]; exact hl, fun i c v hc hv => ?_⟩
    obtain ⟨x, hx, ht⟩ := h2 i c hc
    exact ih i x v hx hv ht
  induction h with
  | undef l v => intro y hy; simp [treeH] at hy
  | int l k n => intro y hy; simp only [treeH] at hy; cases hy; exact .int _ _ _
  | bool l b => intro y hy; simp only [treeH] at hy; cases hy; exact .bool _ _
  | str l s => intro y hy; simp only [treeH] at hy; cases hy; exact .str _ _
  | agg l cs vs hl h h1 ih =>
    intro y hy
    simp only [treeH] at hy
    split at hy
    · rename_i ds hd
      cases hy
      obtain ⟨h2, h3⟩ := lists cs vs ds hl hd ih
      exact .agg _ _ _ h2 h3 h1
    · cases hy
  | tup l cs vs hl h ih =>
    intro y hy
    simp only [treeH] at hy
    split at hy
    · rename_i ds hd
      cases hy
      obtain ⟨h2, h3⟩ := lists cs vs ds hl hd ih
      exact .tup _ _ _ h2 h3
    · cases hy
  | fn l f cs vs hl h ih =>
    intro y hy
    simp only [treeH] at hy
    split at hy
    · rename_i ds hd
      cases hy
      obtain ⟨h2, h3⟩ := lists cs vs ds hl hd ih
      exact .fn _ _ _ _ h2 h3
    · cases hy
  | nilFn l => intro y hy; simp only [treeH] at hy; cases hy; exact .nilFn _
  | sl l nl n cells o A c vs hnl hpos hc hcell hrep hclip hown ih =>
    intro y hy
    simp only [treeH] at hy
    cases hy
    refine .sl _ _ _ _ _ _ _ vs hnl hpos hc hcell hrep (fun e => hclip ?_) (fun t e => ?_)
    · cases o <;> simp_all [Own.tree]
    · cases o <;> simp_all [Own.tree]
  | rop l cells off ad vs hcell hrep ih => intro y hy; simp only [treeH] at hy; cases hy; exact .rop _ _ _ _ vs hcell hrep
  | nilp l => intro y hy; simp only [treeH] at hy; cases hy; exact .nilp _
  | ptr id off g h =>
    intro y hy
    simp only [treeH] at hy
    have main : ∀ (cs : List AV) (vs : Array Value) (e : TypeId), w.heap[g]? = some (.cells vs e (0, 0)) → vs.size = cs.length → (∀ (i : Nat) (c : AV) (v : Value), cs[i]? = some c → vs[i]? = some v → Rep w G false c v) → (∀ v ∈ vs, v.oneCell' = true) →
        (∀ o, o < cs.length → G.F g o) → Rep w G false (.rop cs off) (.pointer (some ⟨g, off, none⟩)) := by
      intro cs vs e h1 h2 h3 h4 h5
      have := Rep.rop (w := w) (G := G) false cs off ⟨g, 0, none⟩ (fun j => vs.getD j undef) (fun j x hx => by
        have hj := (List.getElem?_eq_some_iff.1 hx).1
        have hj2 : j < vs.size := by omega
        exact ⟨by simpa using h5 j hj, by simp [World.cell?, h1, hj2], by simp [hj2, h4 _ (Array.getElem_mem hj2)]⟩) (fun j x hx => by
        have hj := (List.getElem?_eq_some_iff.1 hx).1
        have hj2 : j < vs.size := by omega
        simpa [hj2] using h3 j x vs[j] hx (Array.getElem?_eq_getElem hj2))
      simpa using this
    split at hy
    · rename_i cs hb
      cases hy
      obtain ⟨g', hg', hbase, ⟨vs, e, h1, h2, h3, h4, h5⟩, _⟩ := hR.blocks _ _ hb
      rw [h] at hg'
      cases hg'
      exact main cs vs e h1 h2 h3 h4 (fun o ho => h5 o ho rfl)
    · rename_i cs hb
      cases hy
      obtain ⟨g', hg', hbase, ⟨vs, e, h1, h2, h3, h4, h5⟩, _⟩ := hR.blocks _ _ hb
      rw [h] at hg'
      cases hg'
      exact main cs vs e h1 h2 h3 h4 (fun o ho => h5 o ho rfl)
    · cases hy
  | row id off n g c h hc =>
    intro y hy
    simp only [treeH] at hy
    split at hy
    · rename_i cs hb
      cases hy
      obtain ⟨g', hg', hbase, ⟨vs, e, h1, h2, h3, h4, h5⟩, _⟩ := hR.blocks _ _ hb
      rw [h] at hg'
      cases hg'
      refine .sl _ _ _ _ _ _ _ (fun j => vs.getD (off + j) undef) (fun b hb => by cases hb; rfl) (fun _ => ⟨_, rfl, rfl⟩) hc (fun j x hx => ?_) (fun j x hx => ?_) (fun e => by cases e) (fun t e => by cases e)
      · rw [List.getElem?_drop] at hx
        have hj := (List.getElem?_eq_some_iff.1 hx).1
        have hj2 : off + j < vs.size := by omega
        refine ⟨_, rfl, rfl, h5 _ hj rfl, ?_, ?_⟩
        · simp [World.cell?, h1, hj2]
        · simp [hj2, h4 _ (Array.getElem_mem hj2)]
      · rw [List.getElem?_drop] at hx
        have hj := (List.getElem?_eq_some_iff.1 hx).1
        have hj2 : off + j < vs.size := by omega
        simpa [hj2] using h3 (off + j) x vs[off + j] hx (Array.getElem?_eq_getElem hj2)
    · cases hy

def freeze1 (s : AS) (id : Nat) : Option AS :=
  match look s.heap id with
  | some (.var true cs) => match treeHL s cs with
    | some ds => some (s.blk id (.var false ds))
    | none => none
  | some (.rows true cs) => some (s.blk id (.rows false cs))
  | some (.var false _) => some s
  | some (.rows false _) => some s
  | _ => none
def freezeAll (s : AS) : List Nat → Option AS
  | [] => some s
  | i :: r => match freeze1 s i with
    | some s1 => freezeAll s1 r
    | none => none

theorem RelG.still {C : Ctx} {G : Env} {s : AS} {a : Act} {w : World} (h : RelG C G s a w) {i g : Nat} {b b' : Blk} (hi : look s.heap i = some b) (hg : G.φ i = some g) (hrw : b.rw = true) (hrw' : b'.rw = false) {n : Nat}
    (hb : BlkOk w { G with F := fun b o => G.F b o ∨ (b = g ∧ o < n) } g b') : RelG C { G with F := fun b o => G.F b o ∨ (b = g ∧ o < n) } (s.blk i b') a w ∧ Env.Le w G w { G with F := fun b o => G.F b o ∨ (b = g ∧ o < n) } := by
  obtain ⟨g0, h0, hbase, hok, hnF⟩ := h.blocks i b hi
  rw [hg] at h0
  cases h0
  have hle : Env.Le w G w { G with F := fun b o => G.F b o ∨ (b = g ∧ o < n) } := ⟨fun _ _ h => .inl h, fun _ _ _ => rfl, fun _ _ h => h, fun t r hr => ⟨r, hr, Nat.le_refl _, fun _ => rfl⟩⟩
  refine ⟨⟨h.defers, h.size, h.below, ?_, ?_, fun b o hf => .inl (h.f0 b o hf), h.f0dom, ?_, ?_, ?_, h.inj, ?_, h.notag⟩, hle⟩
  · intro b o hf
    rcases hf with hf | ⟨rfl, _⟩
    · exact h.fdom b o hf
    · exact hok.lt
  · intro b o hf hlt
    rcases hf with hf | ⟨rfl, _⟩
    · exact h.fold b o hf hlt
    · omega
  · intro j v hj
    obtain ⟨x, hx, hr⟩ := h.slots j v hj
    exact ⟨x, hx, hr.mono hle⟩
  · intro j c hj
    simp only [AS.blk, look_cons] at hj
    split at hj
    · rename_i e
      cases hj
      subst e
      exact ⟨g, hg, hbase, hb, fun hw => by rw [hrw'] at hw; cases hw⟩
    · rename_i e
      obtain ⟨g', h1, h2, h3, h4⟩ := h.blocks j c hj
      have hne : g' ≠ g := fun hh => e (h.inj i j g hg (hh ▸ h1))
      refine ⟨g', h1, h2, h3.le rfl hle, fun hw o hf => ?_⟩
      rcases hf with hf | ⟨hf, _⟩
      · exact h4 hw o hf
      · exact hne hf
  · intro j hj
    simp only [AS.blk, look_cons] at hj
    split at hj
    · cases hj
    · exact h.noblock j hj
  · intro t n' ht
    obtain ⟨r, hr, hn, hcl, hx⟩ := h.tags t n' ht
    refine ⟨r, hr, hn, hcl, fun ho => ?_⟩
    obtain ⟨hx, h1, h2⟩ := hx ho
    refine ⟨hx, h1, fun g' hg' => ?_⟩
    obtain ⟨h3, h4, h5⟩ := h2 g' hg'
    refine ⟨fun o hf => ?_, h4, h5⟩
    rcases hf with hf | ⟨hf, _⟩
    · exact h3 o hf
    · exact absurd (hf ▸ hg) (h4 i)

theorem freeze1_sound {C : Ctx} {G : Env} {s s' : AS} {a : Act} {w : World} (h : RelG C G s a w) {id : Nat} (hf : freeze1 s id = some s') : ∃ G', RelG C G' s' a w ∧ Env.Le w G w G' ∧ s'.tmps = s.tmps ∧ s'.tags = s.tags := by
  unfold freeze1 at hf
  split at hf
  · rename_i cs hb
    split at hf
    · rename_i ds hd
      cases hf
      obtain ⟨g, hg, hbase, ⟨vs, e, h1, h2, h3, h4, h5⟩, hnF⟩ := h.blocks _ _ hb
      obtain ⟨h6, h7⟩ := treeHL_get hd
      obtain ⟨r1, r2⟩ := h.still (b' := .var false ds) hb hg rfl rfl (n := ds.length) ⟨vs, e, h1, by rw [h6]; exact h2, fun i c v hc hv => by
        obtain ⟨x, hx, ht⟩ := h7 i c hc
        exact (treeH_sound h (h3 i x v hx hv) ht).tree (fun b o hf => .inl hf), h4, fun o ho _ => .inr ⟨rfl, ho⟩⟩
      exact ⟨_, r1, r2, rfl, rfl⟩
    · cases hf
  · rename_i cs hb
    cases hf
    obtain ⟨g, hg, hbase, ⟨vs, e, h1, h2, h3, h4, h5⟩, hnF⟩ := h.blocks _ _ hb
    obtain ⟨r1, r2⟩ := h.still (b' := .rows false cs) hb hg rfl rfl (n := cs.length) ⟨vs, e, h1, h2, fun i c v hc hv => (h3 i c v hc hv).tree (fun b o hf => .inl hf), h4, fun o ho _ => .inr ⟨rfl, ho⟩⟩
    exact ⟨_, r1, r2, rfl, rfl⟩
  · cases hf
    exact ⟨G, h, Env.Le.refl _ _, rfl, rfl⟩
  · cases hf
    exact ⟨G, h, Env.Le.refl _ _, rfl, rfl⟩
  · cases hf

theorem freezeAll_sound {C : Ctx} {a : Act} {w : World} : ∀ {ids : List Nat} {G : Env} {s s' : AS}, RelG C G s a w → freezeAll s ids = some s' → ∃ G', RelG C G' s' a w ∧ Env.Le w G w G'
  | [], G, s, s', h, hf => by cases hf; exact ⟨G, h, Env.Le.refl _ _⟩
  | i :: r, G, s, s', h, hf => by
    simp only [freezeAll] at hf
    split at hf
    · rename_i s1 h1
      obtain ⟨G1, r1, r2, _⟩ := freeze1_sound h h1
      obtain ⟨G2, r3, r4⟩ := freezeAll_sound r1 hf
      exact ⟨G2, r3, r2.trans r4⟩
    · cases hf

end Go.AX
