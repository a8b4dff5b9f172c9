/- The world's moves, as a call's relation sees them. -/
import Derived.Test.YtbedjjckfmhdfaaAxA
import Derived.Deep.MidRow
import Derived.Laws.CopyRow
set_option linter.unusedVariables false
set_option linter.unusedSimpArgs false
namespace Go.AX
open Go Go.RowKit

theorem cell_heap {w w' : World} {b o : Nat} (h : w'.heap[b]? = w.heap[b]?) : w'.cell? ⟨b, o, none⟩ = w.cell? ⟨b, o, none⟩ := by simp [World.cell?, h]
theorem cell_lt {w : World} {b o : Nat} {v : Value} (h : w.cell? ⟨b, o, none⟩ = some v) : b < w.heap.size := World.block_lt_of_cell? w ⟨b, o, none⟩ h

theorem Act.put_get (a : Act) (d i : Nat) (x : Value) (hd : d < a.tmps.size) : (a.put (some d) x).tmps[i]? = if d = i then some x else a.tmps[i]? := by
  simp only [Act.put, Array.getElem?_setIfInBounds]
  split
  · rename_i h; subst h; simp [hd]
  · rfl

theorem BlkOk.le {w w' : World} {G G' : Env} {g : Nat} {b : Blk} (h : BlkOk w G g b) (hg : w'.heap[g]? = w.heap[g]?) (hle : Env.Le w G w' G') : BlkOk w' G' g b := by
  cases b with
  | var wr cs =>
    obtain ⟨vs, e, h1, h2, h3, h4, h5⟩ := h
    exact ⟨vs, e, hg.trans h1, h2, fun i c v a b => (h3 i c v a b).mono hle, h4, fun o ho hw => hle.F _ _ (h5 o ho hw)⟩
  | rows wr cs =>
    obtain ⟨vs, e, h1, h2, h3, h4, h5⟩ := h
    exact ⟨vs, e, hg.trans h1, h2, fun i c v a b => (h3 i c v a b).mono hle, h4, fun o ho hw => hle.F _ _ (h5 o ho hw)⟩
  | iter s pos => exact hg.trans h
theorem BlkOk.lt {w : World} {G : Env} {g : Nat} {b : Blk} (h : BlkOk w G g b) : g < w.heap.size := by
  cases b with
  | var wr cs => obtain ⟨vs, e, h1, _⟩ := h; exact (Array.getElem?_eq_some_iff.1 h1).1
  | rows wr cs => obtain ⟨vs, e, h1, _⟩ := h; exact (Array.getElem?_eq_some_iff.1 h1).1
  | iter s pos => exact (Array.getElem?_eq_some_iff.1 h).1

theorem own_keep {w w' : World} {base : Nat} {e : TypeId} {size n : Nat} {v : Value} {xs : List Value} (h : w.ownsRow base e size v n xs) (hk : ∀ g, v.ownBlock = some g → w'.heap[g]? = w.heap[g]?) : w'.ownsRow base e size v n xs := by
  refine ⟨h.1, ?_⟩
  rcases h.2 with h2 | ⟨g, cap, cur, rfl, hb, hh, h3⟩
  · exact .inl h2
  · exact .inr ⟨g, cap, cur, rfl, hb, (hk g rfl).trans hh, h3⟩

/-! ### A slot -/
theorem RelG.put {C : Ctx} {G : Env} {s : AS} {a : Act} {w : World} (h : RelG C G s a w) {d : Nat} {v : AV} {x : Value} (hd : d < C.nt) (hv : Rep w G true v x) : RelG C G (s.put d v) (a.put (some d) x) w := by
  have hds : d < a.tmps.size := by rw [h.size]; exact hd
  refine ⟨by simpa [Act.put] using h.defers, by simp [Act.put, h.size], h.below, h.fdom, h.fold, h.f0, h.f0dom, ?_, h.blocks, h.noblock, h.inj, h.tags, h.notag⟩
  intro i u hu
  simp only [AS.put, look_cons] at hu
  rw [Act.put_get a d i x hds]
  split at hu
  · rename_i hi
    cases hu
    exact ⟨x, by simp [hi], hv⟩
  · rename_i hi
    simp only [hi, if_false]
    exact h.slots i u hu

/-! ### What is new and only read; draws -/
theorem RelG.grow {C : Ctx} {G G' : Env} {s : AS} {a : Act} {w w' : World} (h : RelG C G s a w) (hb : Below w.heap.size w w') (hφ : G'.φ = G.φ) (hτ : G'.τ = G.τ)
    (hF : ∀ b o, G.F b o → G'.F b o) (hF' : ∀ b o, G'.F b o → G.F b o ∨ (w.heap.size ≤ b ∧ b < w'.heap.size)) : RelG C G' s a w' ∧ Env.Le w G w' G' := by
  have hle : Env.Le w G w' G' := ⟨hF, fun b o hf => cell_heap (hb.block b (h.fdom b o hf)), fun i g hg => by rw [hφ]; exact hg, fun t r hr => ⟨r, by rw [hτ]; exact hr, Nat.le_refl _, fun _ => rfl⟩⟩
  have hbase : C.w0.heap.size ≤ w.heap.size := h.below.size
  refine ⟨⟨h.defers, h.size, h.below.trans (hb.mono hbase), ?_, ?_, fun b o hf => hF _ _ (h.f0 b o hf), h.f0dom, ?_, ?_, fun i hi => by rw [hφ]; exact h.noblock i hi, fun i j g => by rw [hφ]; exact h.inj i j g, ?_, fun t ht => by rw [hτ]; exact h.notag t ht⟩, hle⟩
  · intro b o hf
    rcases hF' b o hf with h1 | h1
    · exact Nat.lt_of_lt_of_le (h.fdom b o h1) hb.size
    · exact h1.2
  · intro b o hf hlt
    rcases hF' b o hf with h1 | h1
    · exact h.fold b o h1 hlt
    · omega
  · intro i v hi
    obtain ⟨x, hx, hr⟩ := h.slots i v hi
    exact ⟨x, hx, hr.mono hle⟩
  · intro i b hi
    obtain ⟨g, hg, h1, h2, h3⟩ := h.blocks i b hi
    refine ⟨g, by rw [hφ]; exact hg, h1, h2.le (hb.block g h2.lt) hle, fun hw o hf => ?_⟩
    rcases hF' g o hf with h4 | h4
    · exact h3 hw o h4
    · have := h2.lt; omega
  · intro t n ht
    obtain ⟨r, hr, hn, hcl, hx⟩ := h.tags t n ht
    refine ⟨r, by rw [hτ]; exact hr, hn, hcl, fun ho => ?_⟩
    obtain ⟨hx, h1, h2⟩ := hx ho
    refine ⟨own_keep hx fun g hg => hb.block g (hx.lt g hg).2, h1, fun g hg => ?_⟩
    obtain ⟨h3, h4, h5⟩ := h2 g hg
    refine ⟨fun o hf => ?_, fun i => by rw [hφ]; exact h4 i, fun t' r' hr' => h5 t' r' (by rw [← hτ]; exact hr')⟩
    rcases hF' g o hf with h6 | h6
    · exact h3 o h6
    · have := (hx.lt g hg).2; omega

theorem RelG.drew {C : Ctx} {G : Env} {s : AS} {a : Act} {w : World} (h : RelG C G s a w) : RelG C G s a { w with drawn := w.drawn + 1 } :=
  (h.grow (w' := { w with drawn := w.drawn + 1 }) ⟨rfl, rfl, rfl, Nat.le_refl _, fun _ _ => rfl⟩ rfl rfl (fun _ _ h => h) (fun _ _ h => .inl h)).1

/-! ### A new block of one's own -/
def Env.addB (G : Env) (i g : Nat) : Env := { G with φ := fun j => if j = i then some g else G.φ j }
theorem Env.addB_le (w : World) (G : Env) (i g : Nat) (hi : G.φ i = none) : Env.Le w G w (G.addB i g) :=
  ⟨fun _ _ h => h, fun _ _ _ => rfl, fun j k hj => by
    simp only [Env.addB]
    split
    · rename_i e; subst e; rw [hi] at hj; cases hj
    · exact hj, fun t r hr => ⟨r, hr, Nat.le_refl _, fun _ => rfl⟩⟩

theorem RelG.addBlk {C : Ctx} {G : Env} {s : AS} {a : Act} {w : World} (h : RelG C G s a w) {i g : Nat} {b : Blk} (hi : look s.heap i = none) (hg : C.w0.heap.size ≤ g) (hG : ∀ o, ¬ G.F g o) (hφ : ∀ j, G.φ j ≠ some g)
    (hτ : ∀ t r, G.τ t = some r → r.o = true → r.v.ownBlock ≠ some g) (hb : BlkOk w G g b) : RelG C (G.addB i g) (s.blk i b) a w ∧ Env.Le w G w (G.addB i g) := by
  have hle := Env.addB_le w G i g (h.noblock i hi)
  refine ⟨⟨h.defers, h.size, h.below, h.fdom, h.fold, h.f0, h.f0dom, ?_, ?_, ?_, ?_, ?_, h.notag⟩, hle⟩
  · intro j v hj
    obtain ⟨x, hx, hr⟩ := h.slots j v hj
    exact ⟨x, hx, hr.mono hle⟩
  · intro j c hj
    simp only [AS.blk, look_cons] at hj
    split at hj
    · rename_i e
      cases hj
      subst e
      exact ⟨g, by simp [Env.addB], hg, hb.le rfl hle, fun _ o => hG o⟩
    · obtain ⟨g', h1, h2, h3, h4⟩ := h.blocks j c hj
      exact ⟨g', hle.φ _ _ h1, h2, h3.le rfl hle, h4⟩
  · intro j hj
    simp only [AS.blk, look_cons] at hj
    split at hj
    · cases hj
    · rename_i e
      simp only [Env.addB]
      rw [if_neg (fun h => e h.symm)]
      exact h.noblock j hj
  · intro j k g' hj hk
    simp only [Env.addB] at hj hk
    split at hj <;> split at hk
    · simp_all
    · simp only [Option.some.injEq] at hj
      subst hj
      exact absurd hk (hφ k)
    · simp only [Option.some.injEq] at hk
      subst hk
      exact absurd hj (hφ j)
    · exact h.inj j k g' hj hk
  · intro t n ht
    obtain ⟨r, hr, hn, hcl, hx⟩ := h.tags t n ht
    refine ⟨r, hr, hn, hcl, fun ho => ?_⟩
    obtain ⟨hx, h1, h2⟩ := hx ho
    refine ⟨hx, h1, fun g' hg' => ?_⟩
    obtain ⟨h3, h4, h5⟩ := h2 g' hg'
    refine ⟨h3, fun j hj => ?_, h5⟩
    simp only [Env.addB] at hj
    split at hj
    · simp only [Option.some.injEq] at hj
      subst hj
      exact hτ t r hr ho hg'
    · exact h4 j hj

theorem RelG.blk_lt {C : Ctx} {G : Env} {s : AS} {a : Act} {w : World} (h : RelG C G s a w) {i g : Nat} (hg : G.φ i = some g) : g < w.heap.size := by
  cases hi : look s.heap i with
  | none => rw [h.noblock i hi] at hg; cases hg
  | some b =>
    obtain ⟨g', h1, _, h2, _⟩ := h.blocks i b hi
    rw [hg] at h1
    cases h1
    exact h2.lt
theorem RelG.tag_lt {C : Ctx} {G : Env} {s : AS} {a : Act} {w : World} (h : RelG C G s a w) {t : Nat} {r : TagRec} (hr : G.τ t = some r) (ho : r.o = true) {g : Nat} (hx : r.v.ownBlock = some g) : g < w.heap.size := by
  cases ht : look s.tags t with
  | none => rw [h.notag t ht] at hr; cases hr
  | some n =>
    obtain ⟨r', h1, _, _, h2⟩ := h.tags t n ht
    rw [hr] at h1
    cases h1
    exact ((h2 ho).1.lt g hx).2

/-- A block that is laid now, and is a block of one's own. -/
theorem RelG.alloc {C : Ctx} {G : Env} {s : AS} {a : Act} {w : World} (h : RelG C G s a w) {i : Nat} {b : Blk} {o : Obj} (hi : look s.heap i = none) (hb : BlkOk (w.alloc o) G w.heap.size b) : RelG C (G.addB i w.heap.size) (s.blk i b) a (w.alloc o) ∧ Env.Le w G (w.alloc o) (G.addB i w.heap.size) := by
  obtain ⟨h1, h2⟩ := h.grow (G' := G) (w' := w.alloc o) ((Below.refl _ _).alloc (Nat.le_refl _) o) rfl rfl (fun _ _ h => h) (fun _ _ h => .inl h)
  obtain ⟨h3, h4⟩ := h1.addBlk (i := i) (g := w.heap.size) (b := b) hi h.below.size (fun o hf => absurd (h.fdom _ _ hf) (by omega)) (fun j hj => absurd (h.blk_lt hj) (by omega)) (fun t r hr ho hx => absurd (h.tag_lt hr ho hx) (by omega)) hb
  exact ⟨h3, h2.trans h4⟩

/-- The content of a block of one's own is another one. -/
theorem RelG.setBlk {C : Ctx} {G : Env} {s : AS} {a : Act} {w w' : World} (h : RelG C G s a w) {i g : Nat} {b b' : Blk} (hi : look s.heap i = some b) (hg : G.φ i = some g) (hrw : b.rw = true)
    (hos : w'.os = w.os) (htape : w'.tape = w.tape) (hout : w'.output = w.output) (hsz : w'.heap.size = w.heap.size) (hoth : ∀ k, k ≠ g → w'.heap[k]? = w.heap[k]?)
    (hb : Env.Le w G w' G → BlkOk w' G g b') (hrw' : b'.rw = true) : RelG C G (s.blk i b') a w' ∧ Env.Le w G w' G := by
  obtain ⟨g0, h0, hbase, hok, hnF⟩ := h.blocks i b hi
  rw [hg] at h0
  cases h0
  have hnF' := hnF hrw
  have hle : Env.Le w G w' G := ⟨fun _ _ h => h, fun b o hf => cell_heap (hoth b (fun e => hnF' o (e ▸ hf))), fun _ _ h => h, fun t r hr => ⟨r, hr, Nat.le_refl _, fun _ => rfl⟩⟩
  refine ⟨⟨h.defers, h.size, h.below.trans ⟨hos, htape, hout, by omega, fun k hk => hoth k (by omega)⟩, fun b o hf => by rw [hsz]; exact h.fdom b o hf, h.fold, h.f0, h.f0dom, ?_, ?_, ?_, h.inj, ?_, h.notag⟩, hle⟩
  · intro j v hj
    obtain ⟨x, hx, hr⟩ := h.slots j v hj
    exact ⟨x, hx, hr.mono hle⟩
  · intro j c hj
    simp only [AS.blk, look_cons] at hj
    split at hj
    · rename_i e
      cases hj
      subst e
      exact ⟨g, hg, hbase, hb hle, fun _ o => hnF' o⟩
    · rename_i e
      obtain ⟨g', h1, h2, h3, h4⟩ := h.blocks j c hj
      have hne : g' ≠ g := fun hh => e (h.inj i j g hg (hh ▸ h1))
      exact ⟨g', h1, h2, h3.le (hoth g' hne) hle, h4⟩
  · intro j hj
    simp only [AS.blk, look_cons] at hj
    split at hj
    · cases hj
    · exact h.noblock j hj
  · intro t n ht
    obtain ⟨r, hr, hn, hcl, hx⟩ := h.tags t n ht
    refine ⟨r, hr, hn, hcl, fun ho => ?_⟩
    obtain ⟨hx, h1, h2⟩ := hx ho
    exact ⟨own_keep hx fun g' hg' => hoth g' fun hh => (h2 g' hg').2.1 i (hh ▸ hg), h1, h2⟩

/-! ### Tags -/
def Env.setT (G : Env) (t : Nat) (r : TagRec) : Env := { G with τ := fun u => if u = t then some r else G.τ u }

/-- A slice is put under a new tag. -/
theorem RelG.addTag {C : Ctx} {G : Env} {s : AS} {a : Act} {w : World} (h : RelG C G s a w) {t : Nat} {r : TagRec} (ht : look s.tags t = none)
    (hcl : r.o = false → ∃ A, r.v = .slice A r.n r.n ∧ (A = none → r.n = 0))
    (hr : r.o = true → w.ownsRow C.w0.heap.size r.e r.sz r.v r.n r.xs ∧ (∀ u ∈ r.xs, u.oneCell' = true) ∧
      ∀ g, r.v.ownBlock = some g → (∀ o, G.F g o → o < r.n * r.sz) ∧ (∀ i, G.φ i ≠ some g) ∧ ∀ t' r', G.τ t' = some r' → r'.o = true → r'.v.ownBlock ≠ some g) :
    RelG C (G.setT t r) (s.tag t ⟨r.n, r.e, r.sz⟩) a w ∧ Env.Le w G w (G.setT t r) := by
  have hle : Env.Le w G w (G.setT t r) := ⟨fun _ _ h => h, fun _ _ _ => rfl, fun _ _ h => h, fun u r' hu => by
    have hne : u ≠ t := fun e => by subst e; rw [h.notag u ht] at hu; cases hu
    exact ⟨r', by simp [Env.setT, hne, hu], Nat.le_refl _, fun _ => rfl⟩⟩
  refine ⟨⟨h.defers, h.size, h.below, h.fdom, h.fold, h.f0, h.f0dom, ?_, ?_, h.noblock, h.inj, ?_, ?_⟩, hle⟩
  · intro j v hj
    obtain ⟨x, hx, hr⟩ := h.slots j v hj
    exact ⟨x, hx, hr.mono hle⟩
  · intro j c hj
    obtain ⟨g', h1, h2, h3, h4⟩ := h.blocks j c hj
    exact ⟨g', h1, h2, h3.le rfl hle, h4⟩
  · intro u n hu
    simp only [AS.tag, look_cons] at hu
    split at hu
    · rename_i e
      cases hu
      subst e
      refine ⟨r, by simp [Env.setT], rfl, hcl, fun ho => ?_⟩
      obtain ⟨h1, h2, h3⟩ := hr ho
      refine ⟨h1, h2, fun g hg => ?_⟩
      obtain ⟨h4, h5, h6⟩ := h3 g hg
      refine ⟨h4, h5, fun t' r' hr' ho' hb' => ?_⟩
      simp only [Env.setT] at hr'
      split at hr'
      · assumption
      · exact absurd hb' (h6 t' r' hr' ho')
    · rename_i e
      obtain ⟨r', h1, hn, h2, h3⟩ := h.tags u n hu
      have hne : u ≠ t := fun hh => e hh.symm
      refine ⟨r', by simp [Env.setT, hne, h1], hn, h2, fun ho => ?_⟩
      obtain ⟨h4, h5, h6⟩ := h3 ho
      refine ⟨h4, h5, fun g hg => ?_⟩
      obtain ⟨h7, h8, h9⟩ := h6 g hg
      refine ⟨h7, h8, fun t' r'' hr'' ho'' hb'' => ?_⟩
      simp only [Env.setT] at hr''
      split at hr''
      · cases hr''
        exact absurd hg (((hr ho'').2.2 g hb'').2.2 u r' h1 ho)
      · exact h9 t' r'' hr'' ho'' hb''
  · intro u hu
    simp only [AS.tag, look_cons] at hu
    split at hu
    · cases hu
    · rename_i e
      simp only [Env.setT]
      rw [if_neg (fun hh => e hh.symm)]
      exact h.notag u hu

theorem add_plain (g o : Nat) : (⟨g, 0, none⟩ : Addr).add o = ⟨g, o, none⟩ := by unfold Addr.add; split <;> simp_all
theorem add_spot (ad : Addr) (o : Nat) (h : ad.spot = none) : ad.add o = ⟨ad.block, ad.off + o, none⟩ := by
  obtain ⟨b, f, sp⟩ := ad
  simp only at h
  subst h
  unfold Addr.add
  split <;> simp_all

/-- A tag's slice is appended to in place. -/
theorem RelG.setTagRoom {C : Ctx} {G : Env} {s : AS} {a : Act} {w w' : World} (h : RelG C G s a w) {t : Nat} {n : Tag} {r r' : TagRec} (ht : look s.tags t = some n) (hr : G.τ t = some r) (ho : r.o = true) (ho' : r'.o = true)
    (hn : r.n ≤ r'.n) (hsame : r.n = r'.n → r'.v = r.v) {g : Nat} (hg : r.v.ownBlock = some g) (hos : w'.os = w.os) (htape : w'.tape = w.tape) (hout : w'.output = w.output) (hsz : w'.heap.size = w.heap.size) (hoth : ∀ k, k ≠ g → w'.heap[k]? = w.heap[k]?)
    (hown : w'.ownsRow C.w0.heap.size r'.e r'.sz r'.v r'.n r'.xs) (h1 : ∀ u ∈ r'.xs, u.oneCell' = true) (hblk : r'.v.ownBlock = some g) (hrsz : r'.sz = r.sz) (hys : ∃ ys, r'.xs = r.xs ++ ys) :
    RelG C { G.setT t r' with F := fun b o => G.F b o ∨ (b = g ∧ o < r'.n * r'.sz) } (s.tag t ⟨r'.n, r'.e, r'.sz⟩) a w' ∧ Env.Le w G w' { G.setT t r' with F := fun b o => G.F b o ∨ (b = g ∧ o < r'.n * r'.sz) } := by
  obtain ⟨r0, hr0, hn0, hcl, hx⟩ := h.tags t n ht
  rw [hr] at hr0
  cases hr0
  subst hn0
  obtain ⟨hx1, hx2, hx3⟩ := hx ho
  obtain ⟨hF3, hφ3, hτ3⟩ := hx3 g hg
  have hbase := (hx1.lt g hg).1
  have hglt := (hx1.lt g hg).2
  obtain ⟨ys, hys⟩ := hys
  have hcell : ∀ b o, G.F b o → w'.cell? ⟨b, o, none⟩ = w.cell? ⟨b, o, none⟩ := by
    intro b o hf
    by_cases hb : b = g
    · subst hb
      have hol : o < r.xs.length := by rw [hx1.1]; exact hF3 o hf
      have c1 := hx1.cells hg o r.xs[o] (List.getElem?_eq_getElem hol)
      have c2 := hown.cells hblk o r.xs[o] (by rw [hys, List.getElem?_append_left hol, List.getElem?_eq_getElem hol])
      rw [add_plain] at c1 c2
      rw [c1, c2]
    · exact cell_heap (hoth b hb)
  have hle : Env.Le w G w' { G.setT t r' with F := fun b o => G.F b o ∨ (b = g ∧ o < r'.n * r'.sz) } :=
    ⟨fun _ _ h => .inl h, hcell, fun _ _ h => h, fun u ru hu => by
      by_cases e : u = t
      · subst e
        rw [hr] at hu
        cases hu
        exact ⟨r', by simp [Env.setT], hn, hsame⟩
      · exact ⟨ru, by simp [Env.setT, e, hu], Nat.le_refl _, fun _ => rfl⟩⟩
  refine ⟨⟨h.defers, h.size, h.below.trans ⟨hos, htape, hout, by omega, fun k hk => hoth k (by omega)⟩, ?_, ?_, fun b o hf => .inl (h.f0 b o hf), h.f0dom, ?_, ?_, h.noblock, h.inj, ?_, ?_⟩, hle⟩
  · intro b o hf
    rw [hsz]
    rcases hf with hf | ⟨hf, _⟩
    · exact h.fdom b o hf
    · omega
  · intro b o hf hlt
    rcases hf with hf | ⟨hf, _⟩
    · exact h.fold b o hf hlt
    · omega
  · intro j v hj
    obtain ⟨x, hx, hr⟩ := h.slots j v hj
    exact ⟨x, hx, hr.mono hle⟩
  · intro j c hj
    obtain ⟨g', h1, h2, h3, h4⟩ := h.blocks j c hj
    have hne : g' ≠ g := fun e => hφ3 j (e ▸ h1)
    refine ⟨g', h1, h2, h3.le (hoth g' hne) hle, fun hw o hf => ?_⟩
    rcases hf with hf | ⟨hf, _⟩
    · exact h4 hw o hf
    · exact hne hf
  · intro u m hu
    simp only [AS.tag, look_cons] at hu
    split at hu
    · rename_i e
      cases hu
      subst e
      refine ⟨r', by simp [Env.setT], rfl, fun e => (by rw [ho'] at e; cases e), fun _ => ⟨hown, h1, fun g' hg' => ?_⟩⟩
      rw [hblk] at hg'
      cases hg'
      refine ⟨fun o hf => ?_, hφ3, fun t' r'' hr'' ho'' hb'' => ?_⟩
      · rcases hf with hf | ⟨_, hf⟩
        · have := hF3 o hf
          have : r.n * r.sz ≤ r'.n * r'.sz := by rw [hrsz]; exact Nat.mul_le_mul_right _ hn
          omega
        · exact hf
      · simp only [Env.setT] at hr''
        split at hr''
        · assumption
        · exact hτ3 t' r'' hr'' ho'' hb''
    · rename_i e
      obtain ⟨ru, h2, hn2, h3, h4⟩ := h.tags u m hu
      have hne : u ≠ t := fun hh => e hh.symm
      refine ⟨ru, by simp [Env.setT, hne, h2], hn2, h3, fun hou => ?_⟩
      obtain ⟨h5, h6, h7⟩ := h4 hou
      have hgne : ∀ g', ru.v.ownBlock = some g' → g' ≠ g := fun g' hg' e' => hne (hτ3 u ru h2 hou (e' ▸ hg'))
      refine ⟨own_keep h5 fun g' hg' => hoth g' (hgne g' hg'), h6, fun g' hg' => ?_⟩
      obtain ⟨h8, h9, h10⟩ := h7 g' hg'
      refine ⟨fun o hf => ?_, h9, fun t' r'' hr'' ho'' hb'' => ?_⟩
      · rcases hf with hf | ⟨hf, _⟩
        · exact h8 o hf
        · exact absurd hf (hgne g' hg')
      · simp only [Env.setT] at hr''
        split at hr''
        · cases hr''
          rw [hblk] at hb''
          exact absurd (Option.some.inj hb'').symm (hgne g' hg')
        · exact h10 t' r'' hr'' ho'' hb''
  · intro u hu
    simp only [AS.tag, look_cons] at hu
    split at hu
    · cases hu
    · rename_i e
      simp only [Env.setT]
      rw [if_neg (fun hh => e hh.symm)]
      exact h.notag u hu

/-- A tag's slice is appended to, and lies in a new block. -/
theorem RelG.setTagNew {C : Ctx} {G : Env} {s : AS} {a : Act} {w w' : World} (h : RelG C G s a w) {t : Nat} {n : Tag} {r r' : TagRec} (ht : look s.tags t = some n) (hr : G.τ t = some r) (ho' : r'.o = true)
    (hn : r.n < r'.n) (hb : Below w.heap.size w w') (hlt : w.heap.size < w'.heap.size)
    (hown : w'.ownsRow C.w0.heap.size r'.e r'.sz r'.v r'.n r'.xs) (h1 : ∀ u ∈ r'.xs, u.oneCell' = true) (hblk : r'.v.ownBlock = some w.heap.size) :
    RelG C { G.setT t r' with F := fun b o => G.F b o ∨ (b = w.heap.size ∧ o < r'.n * r'.sz) } (s.tag t ⟨r'.n, r'.e, r'.sz⟩) a w' ∧ Env.Le w G w' { G.setT t r' with F := fun b o => G.F b o ∨ (b = w.heap.size ∧ o < r'.n * r'.sz) } := by
  obtain ⟨h2, hle2⟩ := h.grow (G' := { G with F := fun b o => G.F b o ∨ (b = w.heap.size ∧ o < r'.n * r'.sz) }) hb rfl rfl (fun _ _ h => .inl h) (fun b o hf => by
    rcases hf with hf | ⟨hf, _⟩
    · exact .inl hf
    · exact .inr ⟨by omega, by omega⟩)
  have hle : Env.Le w G w' { G.setT t r' with F := fun b o => G.F b o ∨ (b = w.heap.size ∧ o < r'.n * r'.sz) } :=
    ⟨hle2.F, hle2.cell, hle2.φ, fun u ru hu => by
      by_cases e : u = t
      · subst e
        rw [hr] at hu
        cases hu
        exact ⟨r', by simp [Env.setT], by omega, fun e => by omega⟩
      · exact ⟨ru, by simp [Env.setT, e, hu], Nat.le_refl _, fun _ => rfl⟩⟩
  refine ⟨⟨h2.defers, h2.size, h2.below, h2.fdom, h2.fold, h2.f0, h2.f0dom, ?_, ?_, h2.noblock, h2.inj, ?_, ?_⟩, hle⟩
  · intro j v hj
    obtain ⟨x, hx, hr⟩ := h.slots j v hj
    exact ⟨x, hx, hr.mono hle⟩
  · intro j c hj
    obtain ⟨g', h3, h4, h5, h6⟩ := h.blocks j c hj
    obtain ⟨g2, h7, h8, h9, h10⟩ := h2.blocks j c hj
    rw [h3] at h7
    cases h7
    exact ⟨g', h3, h4, h5.le (hb.block g' h5.lt) hle, h10⟩
  · intro u m hu
    simp only [AS.tag, look_cons] at hu
    split at hu
    · rename_i e
      cases hu
      subst e
      refine ⟨r', by simp [Env.setT], rfl, fun e => (by rw [ho'] at e; cases e), fun _ => ⟨hown, h1, fun g' hg' => ?_⟩⟩
      rw [hblk] at hg'
      cases hg'
      refine ⟨fun o hf => ?_, fun i hi => absurd (h.blk_lt hi) (by omega), fun t' r'' hr'' ho'' hb'' => ?_⟩
      · rcases hf with hf | ⟨_, hf⟩
        · exact absurd (h.fdom _ _ hf) (by omega)
        · exact hf
      · simp only [Env.setT] at hr''
        split at hr''
        · assumption
        · exact absurd (h.tag_lt hr'' ho'' hb'') (by omega)
    · rename_i e
      obtain ⟨ru, h3, hn2, h4, h5⟩ := h2.tags u m hu
      have hne : u ≠ t := fun hh => e hh.symm
      refine ⟨ru, by simp only [Env.setT, if_neg hne]; exact h3, hn2, h4, fun hou => ?_⟩
      obtain ⟨h6, h7, h8⟩ := h5 hou
      refine ⟨h6, h7, fun g' hg' => ?_⟩
      obtain ⟨h9, h10, h11⟩ := h8 g' hg'
      refine ⟨h9, h10, fun t' r'' hr'' ho'' hb'' => ?_⟩
      simp only [Env.setT] at hr''
      split at hr''
      · cases hr''
        rw [hblk] at hb''
        cases hb''
        exact absurd (h.tag_lt h3 hou hg') (by omega)
      · exact h11 t' r'' hr'' ho'' hb''
  · intro u hu
    simp only [AS.tag, look_cons] at hu
    split at hu
    · cases hu
    · rename_i e
      simp only [Env.setT]
      rw [if_neg (fun hh => e hh.symm)]
      exact h.notag u hu

/-! ### append -/
section
variable {P : Program} {w : World}
/-- What a source yields, whatever was drawn. -/
def Yields (P : Program) (w : World) (size m : Nat) (x : Value) (news : List Value) : Prop :=
  (Builtin.lenOf x).run P w = .ok m w ∧ (Builtin.lenOf x).run P w.drew = .ok m w.drew ∧ (Builtin.firstCells size m x).run P w = .ok news.toArray w ∧ (Builtin.firstCells size m x).run P w.drew = .ok news.toArray w.drew

theorem yields_slice (size m c : Nat) (A : Option Addr) (news : List Value) (hl : news.length = m * size) (hA : A = none → m = 0) (h : ∀ j u, news[j]? = some u → ∃ ad, A = some ad ∧ w.cell? (ad.add j) = some u) :
    Yields P w size m (.slice A m c) news := by
  cases A with
  | none =>
    have hm := hA rfl
    subst hm
    have hn : news = [] := List.eq_nil_of_length_eq_zero (by simpa using hl)
    subst hn
    refine ⟨rfl, rfl, ?_, ?_⟩ <;> simp [Builtin.firstCells]
  | some ad =>
    have h' : ∀ j u, news[j]? = some u → w.cell? (ad.add j) = some u := fun j u hj => by
      obtain ⟨ad', e, hc⟩ := h j u hj
      cases e
      exact hc
    refine ⟨rfl, rfl, run_firstCells_some (P := P) w size m ad m c news hl h', run_firstCells_some (P := P) w.drew size m ad m c news hl (by simpa using h')⟩

theorem app_room {t xT ty e : TypeId} {d : TypeDesc} {i : TypeInfo} (ht : P.underlying t = some (.slice e)) (hxT : P.underlying xT = some d) (hd : (∃ e', d = .slice e') ∨ d = .string) (hi : P.info? e = some i)
    (g sLen sCap : Nat) (cur : Array Value) (hg : w.heap[g]? = some (.cells cur e (0, 0))) (x : Value) (m : Nat) (news : List Value) (hx : Yields P w i.size m x news) (hl : news.length = m * i.size) (h1 : ∀ u ∈ news, u.oneCell' = true)
    (hroom : sLen + m ≤ sCap) (hfit : sLen * i.size + news.length ≤ cur.size) :
    (Builtin.append_ #[t, xT] ty #[.slice (some ⟨g, 0, none⟩) sLen sCap, x]).run P w =
      .ok (.slice (some ⟨g, 0, none⟩) (sLen + m) sCap) (w.setRow g (cur.toList.take (sLen * i.size) ++ news ++ cur.toList.drop (sLen * i.size + news.length)).toArray) := by
  obtain ⟨hx1, _, hx2, _⟩ := hx
  have hst := run_storeCells_at P g (sLen * i.size) e news 0 cur w hg (by simpa using hfit) h1
  simp only [Nat.add_zero] at hst
  rcases hd with ⟨e', rfl⟩ | rfl <;> simp [Builtin.append_, run_underlying ht, run_underlying hxT, sizeOf, typeInfo, hi, hx1, hroom, hx2, Addr.add_lit, hst]

theorem app_none {t xT ty e : TypeId} {d : TypeDesc} {i : TypeInfo} (ht : P.underlying t = some (.slice e)) (hxT : P.underlying xT = some d) (hd : (∃ e', d = .slice e') ∨ d = .string) (hi : P.info? e = some i)
    (A : Option Addr) (sLen sCap : Nat) (x : Value) (hx : Yields P w i.size 0 x []) (hroom : sLen ≤ sCap) :
    (Builtin.append_ #[t, xT] ty #[.slice A sLen sCap, x]).run P w = .ok (.slice A sLen sCap) w := by
  obtain ⟨hx1, _, hx2, _⟩ := hx
  rcases hd with ⟨e', rfl⟩ | rfl <;> cases A <;> simp [Builtin.append_, run_underlying ht, run_underlying hxT, sizeOf, typeInfo, hi, hx1, hroom, hx2, storeCells]

theorem app_grow {t xT ty e : TypeId} {d : TypeDesc} {i : TypeInfo} {z : Value} (ht : P.underlying t = some (.slice e)) (hxT : P.underlying xT = some d) (hd : (∃ e', d = .slice e') ∨ d = .string) (hi : P.info? e = some i) (hz : i.zero = some z)
    (A : Option Addr) (sLen sCap : Nat) (olds : List Value) (ho : Yields P w i.size sLen (.slice A sLen sCap) olds) (x : Value) (m : Nat) (news : List Value) (hx : Yields P w i.size m x news)
    (hroom : sCap < sLen + m) (hfit : Builtin.nextslicecap (sLen + m) sCap * i.bytes ≤ 281474976710656) (h63 : sLen + m ≤ 9223372036854775807) :
    (Builtin.append_ #[t, xT] ty #[.slice A sLen sCap, x]).run P w =
      .ok (.slice (some ⟨w.heap.size, 0, none⟩) (sLen + m) (grownCap w (sLen + m) sCap e))
        (w.drew.alloc (.cells (olds.toArray ++ news.toArray ++ Builtin.zeroCells z.cells (grownCap w (sLen + m) sCap e - (sLen + m))) e)) := by
  obtain ⟨hx1, _, _, hx2⟩ := hx
  obtain ⟨_, _, _, ho2⟩ := ho
  have hn : ¬ (sLen + m ≤ sCap) := by omega
  have h63' : ¬ (9223372036854775807 < ((sLen : Int) + (m : Int))) := by omega
  have h48' : ¬ (281474976710656 < Builtin.nextslicecap (sLen + m) sCap * i.bytes) := by omega
  rcases hd with ⟨e', rfl⟩ | rfl <;> simp [Builtin.append_, run_underlying ht, run_underlying hxT, sizeOf, typeInfo, zeroValue, hi, hz, hx1, hn, h63', h48', Question.forced, hx2, ho2, newRow, grownCap] <;> rw [← Array.append_assoc, List.append_toArray olds news]
end

end Go.AX
