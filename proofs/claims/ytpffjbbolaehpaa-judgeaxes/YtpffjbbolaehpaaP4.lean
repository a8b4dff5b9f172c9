import Derived.Test.YtpffjbbolaehpaaP3
import Derived.Orders
import Derived.ChangeSame
import Derived.ProofKit
import Derived.ChangeArms
import Derived.Carry
import Derived.Deep.Slices
section
set_option linter.unusedVariables false
set_option linter.unusedSimpArgs false
namespace Go.AX
open Go Go.RowKit

/-! ### An operation asks a state only for what it asks: in a greater state it does the same -/
structure Dl where
  t : List (Nat × AV)
  h : List (Nat × Blk)
  g : List (Nat × Tag)
def AS.plus (s : AS) (δ : Dl) : AS := ⟨δ.t ++ s.tmps, δ.h ++ s.heap, δ.g ++ s.tags⟩
def Dl.then (δ ε : Dl) : Dl := ⟨ε.t ++ δ.t, ε.h ++ δ.h, ε.g ++ δ.g⟩
theorem AS.plus_then (s : AS) (δ ε : Dl) : (s.plus δ).plus ε = s.plus (δ.then ε) := by simp [AS.plus, Dl.then]
structure Ext (s t : AS) : Prop where
  tmps : ∀ i v, look s.tmps i = some v → look t.tmps i = some v
  heap : ∀ i v, look s.heap i = some v → look t.heap i = some v
  tags : ∀ i v, look s.tags i = some v → look t.tags i = some v
/-- What is new in a change is new to the greater state too. -/
structure Fresh (δ : Dl) (s t : AS) : Prop where
  h : ∀ k, isS (look δ.h k) = true → look s.heap k = none → look t.heap k = none
  g : ∀ k, isS (look δ.g k) = true → look s.tags k = none → look t.tags k = none

theorem look_plus {α : Type} {l m n : List (Nat × α)} (h : ∀ i v, look m i = some v → look n i = some v) : ∀ i v, look (l ++ m) i = some v → look (l ++ n) i = some v := by
  intro i v hv
  rw [look_append] at hv ⊢
  cases hl : look l i with
  | some x => rw [hl] at hv; exact hv
  | none =>
    rw [hl] at hv
    simp only [Option.none_or] at hv ⊢
    exact h i v hv
theorem Ext.plus {s t : AS} (h : Ext s t) (δ : Dl) : Ext (s.plus δ) (t.plus δ) := ⟨look_plus h.tmps, look_plus h.heap, look_plus h.tags⟩
theorem Fresh.left {δ ε : Dl} {s t : AS} (h : Fresh (δ.then ε) s t) : Fresh δ s t := by
  refine ⟨fun k hk => h.h k ?_, fun k hk => h.g k ?_⟩
  · show isS (look (ε.h ++ δ.h) k) = true
    rw [look_append]
    cases hh : look ε.h k with
    | some x => rfl
    | none => simpa using hk
  · show isS (look (ε.g ++ δ.g) k) = true
    rw [look_append]
    cases hh : look ε.g k with
    | some x => rfl
    | none => simpa using hk
theorem Fresh.right {δ ε : Dl} {s t : AS} (h : Fresh (δ.then ε) s t) : Fresh ε (s.plus δ) (t.plus δ) := by
  refine ⟨fun k hk hn => ?_, fun k hk hn => ?_⟩
  · simp only [AS.plus] at hn ⊢
    rw [look_append, Option.or_eq_none_iff] at hn ⊢
    refine ⟨hn.1, h.h k ?_ hn.2⟩
    show isS (look (ε.h ++ δ.h) k) = true
    rw [look_append]
    cases hh : look ε.h k with
    | some x => rfl
    | none => rw [hh] at hk; cases hk
  · simp only [AS.plus] at hn ⊢
    rw [look_append, Option.or_eq_none_iff] at hn ⊢
    refine ⟨hn.1, h.g k ?_ hn.2⟩
    show isS (look (ε.g ++ δ.g) k) = true
    rw [look_append]
    cases hh : look ε.g k with
    | some x => rfl
    | none => rw [hh] at hk; cases hk

/-- Of an operation that changes the state. -/
def Mono {α : Type} (op : AS → Option (AS × α)) : Prop := ∀ s s' x, op s = some (s', x) → ∃ δ : Dl, s' = s.plus δ ∧ ∀ t, Ext s t → Fresh δ s t → op t = some (t.plus δ, x)
theorem Mono.of {α : Type} {op : AS → Option (AS × α)} (h : ∀ s s' x, op s = some (s', x) → ∃ δ : Dl, s' = s.plus δ ∧ ∀ t, Ext s t → Fresh δ s t → op t = some (t.plus δ, x)) : Mono op := h

theorem ev_mono {s t : AS} (h : Ext s t) {x : Operand} {v : AV} (hv : s.ev x = some v) : t.ev x = some v := by
  cases x with
  | tmp d => exact h.tmps _ _ hv
  | _ => exact hv
theorem evs_mono {s t : AS} (h : Ext s t) : ∀ {xs : List Operand} {vs : List AV}, evs s xs = some vs → evs t xs = some vs
  | [], vs, hv => hv
  | x :: xs, vs, hv => by
    simp only [evs] at hv ⊢
    split at hv
    · rename_i v l h1 h2
      rw [ev_mono h h1, evs_mono h h2]
      exact hv
    · cases hv
theorem evParts_mono {s t : AS} (h : Ext s t) : ∀ {xs : List (Nat × Operand)} {vs : List (Nat × AV)}, evParts s xs = some vs → evParts t xs = some vs
  | [], vs, hv => hv
  | (i, x) :: xs, vs, hv => by
    simp only [evParts] at hv ⊢
    split at hv
    · rename_i v l h1 h2
      rw [ev_mono h h1, evParts_mono h h2]
      exact hv
    · cases hv
theorem loadA_mono {Γ : TT} {s t : AS} (h : Ext s t) {ty : TypeId} {p : AV} {ann : Option AV} {r : AV × List Prop} (hv : loadA Γ s ty p ann = some r) : loadA Γ t ty p ann = some r := by
  unfold loadA at hv ⊢
  split at hv
  · cases hv
  · rename_i ti hti
    try simp only [hti]
    split at hv
    · exact hv
    · split at hv
      · rename_i hb; simp only [h.heap _ _ hb]; exact hv
      · rename_i hb; simp only [h.heap _ _ hb]; exact hv
      · cases hv
    · split at hv
      · rename_i hb; simp only [h.tags _ _ hb]; exact hv
      · cases hv
    · cases hv
theorem indexAddrA_mono {Γ : TT} {s t : AS} (h : Ext s t) {ty : TypeId} {x i : AV} {r : AV × List Prop} (hv : indexAddrA Γ s ty x i = some r) : indexAddrA Γ t ty x i = some r := by
  unfold indexAddrA at hv ⊢
  split at hv
  · rename_i ti hti
    try simp only [hti]
    split at hv
    · rename_i e he
      try simp only [he]
      split at hv
      · rename_i ei hei
        try simp only [hei]
        split at hv
        · exact hv
        · exact hv
        · split at hv
          · rename_i hb; simp only [h.tags _ _ hb]; exact hv
          · cases hv
        · cases hv
      · cases hv
    · cases hv
  · cases hv
theorem lenA_mono {Γ : TT} {s t : AS} (h : Ext s t) {ty : TypeId} {x : AV} {r : AV × List Prop} (hv : lenA Γ s ty x = some r) : lenA Γ t ty x = some r := by
  unfold lenA at hv ⊢
  split at hv
  · rename_i ti hti
    try simp only [hti]
    split at hv
    · rename_i he; try simp only [he]
      exact hv
    · rename_i he; try simp only [he]
      exact hv
    · rename_i he; try simp only [he]
      exact hv
    · rename_i he
      try simp only [he]
      split at hv
      · rename_i hb; simp only [h.tags _ _ hb]; exact hv
      · cases hv
    · cases hv
  · cases hv
theorem srcA_mono {s t : AS} (h : Ext s t) {sz : Nat} {x : AV} {r : Nat × List AV} (hv : srcA s sz x = some r) : srcA t sz x = some r := by
  unfold srcA at hv ⊢
  split at hv
  · exact hv
  · split at hv
    · rename_i hb
      simp only [h.heap _ _ hb]
      exact hv
    · cases hv
  · split at hv
    · rename_i hb
      simp only [h.tags _ _ hb]
      exact hv
    · cases hv
  · cases hv
mutual
theorem treeH_mono {s t : AS} (h : Ext s t) : ∀ {x : AV} {r : AV × List Prop}, treeH s x = some r → treeH t x = some r
  | .int k n, r, hv => by simpa only [treeH] using hv
  | .bool b, r, hv => by simpa only [treeH] using hv
  | .str b, r, hv => by simpa only [treeH] using hv
  | .nilFn, r, hv => by simpa only [treeH] using hv
  | .nilp, r, hv => by simpa only [treeH] using hv
  | .sl _ _ _ _, r, hv => by simpa only [treeH] using hv
  | .rop _ _, r, hv => by simpa only [treeH] using hv
  | .undef, r, hv => by simp only [treeH] at hv; cases hv
  | .vptr _ _ _, r, hv => by simp only [treeH] at hv; cases hv
  | .agg cs, r, hv => by
    simp only [treeH] at hv ⊢
    split at hv
    · rename_i ds os h1; rw [treeHL_mono h h1]; exact hv
    · cases hv
  | .tup cs, r, hv => by
    simp only [treeH] at hv ⊢
    split at hv
    · rename_i ds os h1; rw [treeHL_mono h h1]; exact hv
    · cases hv
  | .fn f cs, r, hv => by
    simp only [treeH] at hv ⊢
    split at hv
    · rename_i ds os h1; rw [treeHL_mono h h1]; exact hv
    · cases hv
  | .ptr id off, r, hv => by
    simp only [treeH] at hv ⊢
    split at hv
    · rename_i hb; simp only [h.heap _ _ hb]; exact hv
    · rename_i hb; simp only [h.heap _ _ hb]; exact hv
    · cases hv
  | .row id off n, r, hv => by
    simp only [treeH] at hv ⊢
    split at hv
    · rename_i hb; simp only [h.heap _ _ hb]; exact hv
    · cases hv
  | .vec t n, r, hv => by
    simp only [treeH] at hv ⊢
    split at hv
    · rename_i hb; simp only [h.tags _ _ hb]; exact hv
    · cases hv
theorem treeHL_mono {s t : AS} (h : Ext s t) : ∀ {xs : List AV} {r : List AV × List Prop}, treeHL s xs = some r → treeHL t xs = some r
  | [], r, hv => by simpa only [treeHL] using hv
  | x :: xs, r, hv => by
    simp only [treeHL] at hv ⊢
    split at hv
    · rename_i y a ys b h1 h2
      rw [treeH_mono h h1, treeHL_mono h h2]
      exact hv
    · cases hv
end

theorem newA_mono (d : Nat) (cs : List AV) : Mono (fun s => newA s d cs) := by
  intro s s' x h
  simp only [newA] at h
  split at h
  · rename_i hn
    cases h
    refine ⟨⟨[], [(d, .var true cs)], []⟩, rfl, fun t hE hF => ?_⟩
    have : look t.heap d = none := hF.h d (by simp [look_cons, isS]) hn
    simp only [newA, this]
    rfl
  · cases h
theorem allocA_mono (Γ : TT) (d : Nat) (ty : TypeId) : Mono (fun s => allocA Γ s d ty) := by
  unfold allocA
  cases look Γ ty with
  | none => intro s s' x h; cases h
  | some ti => exact newA_mono d ti.zero
theorem boxA_mono (Γ : TT) (d : Nat) (ty : TypeId) (x : AV) : Mono (fun s => boxA Γ s d ty x) := by
  unfold boxA
  cases look Γ ty with
  | none => intro s s' x h; cases h
  | some ti =>
    cases x.real with
    | false => intro s s' x h; cases h
    | true => exact newA_mono d (cellsOf x)
theorem makeA_mono (Γ : TT) (d : Nat) (ty : TypeId) (l c : AV) : Mono (fun s => makeA Γ s d ty l c) := by
  intro s s' x h
  simp only [makeA] at h
  split at h
  · rename_i ti hti
    split at h
    · rename_i e he
      split at h
      · rename_i ei hei
        split at h
        · rename_i kl n kc m z hz hn
          cases h
          refine ⟨⟨[], [(d, .rows true (List.replicate n.toNat (zn z)))], []⟩, rfl, fun t hE hF => ?_⟩
          have : look t.heap d = none := hF.h d (by simp [look_cons, isS]) hn
          simp only [makeA, hti, he, hei, hz, this]
          rfl
        · cases h
      · cases h
    · cases h
  · cases h
theorem rangeA_mono (Γ : TT) (d : Nat) (ty : TypeId) (x : AV) : Mono (fun s => rangeA Γ s d ty x) := by
  intro s s' r h
  simp only [rangeA] at h
  split at h
  · rename_i ti hti
    split at h
    · rename_i b hk hn
      cases h
      refine ⟨⟨[], [(d, .iter b 0)], []⟩, rfl, fun t hE hF => ?_⟩
      have : look t.heap d = none := hF.h d (by simp [look_cons, isS]) hn
      simp only [rangeA, hti, hk, this]
      rfl
    · cases h
  · cases h
theorem nextA_mono (x : AV) (ann : Option AV) : Mono (fun s => nextA s x ann) := by
  intro s s' r h
  simp only [nextA] at h
  split at h
  · rename_i id
    split at h
    · rename_i b pos hb
      split at h
      · cases h
        refine ⟨⟨[], [], []⟩, rfl, fun t hE hF => ?_⟩
        simp only [nextA, hE.heap _ _ hb]
        rfl
      · cases h
        refine ⟨⟨[], [(id, .iter b (pos + (Utf8.decode b pos).2))], []⟩, rfl, fun t hE hF => ?_⟩
        simp only [nextA, hE.heap _ _ hb]
        rfl
      · cases h
    · cases h
  · cases h
theorem dstA_mono (d n e sz : Nat) (o : Own) : Mono (fun s => (dstA s d n e sz o).map fun r => (r.1, r.2)) := by
  intro s s' r h
  simp only [Option.map_eq_some_iff] at h
  obtain ⟨⟨s1, t1, os1⟩, h, h'⟩ := h
  cases h'
  unfold dstA at h
  split at h
  · rename_i t
    split at h
    · rename_i g hg
      split at h
      · rename_i h1 h2 h3
        cases h
        refine ⟨⟨[], [], []⟩, rfl, fun t' hE hF => ?_⟩
        simp only [dstA, hE.tags _ _ hg, h1, h2, h3]
        rfl
      · cases h
    · cases h
  · split at h
    · rename_i hn
      cases h
      refine ⟨⟨[], [], [(d, ⟨n, e, sz, none⟩)]⟩, rfl, fun t' hE hF => ?_⟩
      have : look t'.tags d = none := hF.g d (by simp [look_cons, isS]) hn
      simp only [dstA, this]
      rfl
    · cases h
  · cases h
theorem appA_mono (Γ : TT) (d : Nat) (ty xT : TypeId) (v x : AV) : Mono (fun s => appA Γ s d ty xT v x) := by
  intro s s' r h
  simp only [appA] at h
  split at h
  · rename_i ti xi hti hxi
    split at h
    · rename_i e e' he he'
      split at h
      · rename_i ei hei
        split at h
        · rename_i nl n cells o m news hsrc
          split at h
          · rename_i s1 tg os1 sz by_ hdst hsz hby
            cases h
            obtain ⟨δ, hs1, hm⟩ := dstA_mono d n e ei.size o s s1 (tg, os1) (by simp [hdst])
            refine ⟨δ.then ⟨[], [], [(tg, ⟨n + m, e, sz + 1, none⟩)]⟩, by rw [← AS.plus_then, ← hs1]; rfl, fun t hE hF => ?_⟩
            have h1 := hm t hE hF.left
            simp only [Option.map_eq_some_iff] at h1
            obtain ⟨⟨s2, t2, os2⟩, h2, h3⟩ := h1
            cases h3
            rw [hsz] at h2
            have hq := srcA_mono hE hsrc
            rw [hsz] at hq
            simp only [appA, hti, hxi, he, he', hei, hsz, hq, hby, h2]
            rfl
          · cases h
        · rename_i tg n m news hsrc
          split at h
          · rename_i n' e2 sz2 b cells sz by_ ht hsz hby
            split at h
            · rename_i ys h1 h2 h3
              cases h
              refine ⟨⟨[], [], [(tg, ⟨n + m, e, sz + 1, some (b, cells ++ ys)⟩)]⟩, rfl, fun t hE hF => ?_⟩
              have hq := srcA_mono hE hsrc
              rw [hsz] at hq
              simp only [appA, hti, hxi, he, he', hei, hsz, hq, hE.tags _ _ ht, hby, h1, h2, h3]
              rfl
            · cases h
          · cases h
        · cases h
      · cases h
    · cases h
  · cases h
theorem appN_mono (Γ : TT) (d : Nat) (ty xT : TypeId) (v x : AV) : Mono (fun s => appN Γ s d ty xT v x) := by
  intro s s' r h
  simp only [appN] at h
  split at h
  · rename_i nl hd
    split at h
    · rename_i ti xi hti hxi
      split at h
      · rename_i e e' he he'
        split at h
        · rename_i ei hei
          split at h
          · rename_i m news sz by_ hsrc hsz hby htg
            cases h
            refine ⟨⟨[], [], [(d, ⟨m, e, sz + 1, some (true, news)⟩), (d, ⟨0, e, sz + 1, some (true, [])⟩)]⟩, rfl, fun t hE hF => ?_⟩
            have ht : look t.tags d = none := hF.g d (by simp [look_cons, isS]) htg
            have hq := srcA_mono hE hsrc
            rw [hsz] at hq
            simp only [appN, hd, hti, hxi, he, he', hei, hsz, hq, hby, ht]
            rfl
          · cases h
        · cases h
      · cases h
    · cases h
  · rename_i v b v1 hne
    obtain ⟨δ, h1, h2⟩ := appA_mono Γ d ty xT v x s s' r h
    refine ⟨δ, h1, fun t hE hF => ?_⟩
    simp only [appN]
    exact h2 t hE hF
theorem putA_mono (size n off : Nat) (x : AV) : Mono (fun s => putA s size n off x) := by
  intro s s' r h
  simp only [putA] at h
  split at h
  · rename_i k n'
    split at h
    · rename_i n2 e2 sz2 xs m e sz cells hk hd hne
      split at h
      · rename_i h1 h2
        cases h
        refine ⟨⟨[], [], [(DT, ⟨m, e, sz, some (true, setAt cells off [.sl none n' xs .no])⟩), (k, ⟨n2 + 1, e2, sz2, none⟩)]⟩, rfl, fun t hE hF => ?_⟩
        simp only [putA, hE.tags _ _ hk, hE.tags _ _ hd, hne, h1, h2]
        rfl
      · cases h
    · cases h
  · cases h
theorem takeA_mono (Γ : TT) (ty : TypeId) (n off k n' : Nat) (xs : List AV) : Mono (fun s => takeA Γ s ty n off k n' xs) := by
  intro s s' r h
  simp only [takeA] at h
  split at h
  · rename_i ti m e sz cells hti hd hk hne
    split at h
    · rename_i hag
      cases h
      refine ⟨⟨[], [], [(k, ⟨n', DE, 1, some (false, xs)⟩), (DT, ⟨m, e, sz, some (true, cells.set off .undef)⟩)]⟩, rfl, fun t hE hF => ?_⟩
      have hk' : look t.tags k = none := hF.g k (by simp [look_cons, isS]) hk
      simp only [takeA, hti, hE.tags _ _ hd, hk', hne, hag]
      rfl
    · cases h
  · cases h
theorem loadS_mono (Γ : TT) (ty : TypeId) (p : AV) (ann : Option AV) : Mono (fun s => loadS Γ s ty p ann) := by
  intro s s' r h
  simp only [loadS] at h
  split at h
  · rename_i n off k n' xs hh
    obtain ⟨δ, e, m⟩ := takeA_mono Γ ty n off k n' xs s s' r h
    refine ⟨δ, e, fun t hE hF => ?_⟩
    have := m t hE hF
    simp only at this
    simp only [loadS, hh, this]
  · rename_i hh
    split at h
    · rename_i v os hl
      cases h
      refine ⟨⟨[], [], []⟩, rfl, fun t hE hF => ?_⟩
      simp only [loadS, hh, loadA_mono hE hl]
      rfl
    · cases h
theorem storeA_mono (Γ : TT) (ty : TypeId) (p x : AV) : Mono (fun s => storeA Γ s ty p x) := by
  intro s s' r h
  simp only [storeA] at h
  split at h
  · rename_i ti hti hr
    split at h
    · rename_i id off
      split at h
      · rename_i cs hb
        split at h
        · rename_i h1 h2
          cases h
          refine ⟨⟨[], [(id, .var true (splice cs off (cellsOf x)))], []⟩, rfl, fun t hE hF => ?_⟩
          simp only [storeA, hti, hr, hE.heap _ _ hb, h1, h2]
          rfl
        · cases h
      · rename_i cs hb
        split at h
        · rename_i b h1
          cases h
          refine ⟨⟨[], [(id, .rows true (cs.set off (.bool b)))], []⟩, rfl, fun t hE hF => ?_⟩
          simp only [storeA, hti, hr, hE.heap _ _ hb, h1]
          rfl
        · rename_i k n h1
          cases h
          refine ⟨⟨[], [(id, .rows true (cs.set off (.int k n)))], []⟩, rfl, fun t hE hF => ?_⟩
          simp only [storeA, hti, hr, hE.heap _ _ hb, h1]
          rfl
        · rename_i b h1
          cases h
          refine ⟨⟨[], [(id, .rows true (cs.set off (.str b)))], []⟩, rfl, fun t hE hF => ?_⟩
          simp only [storeA, hti, hr, hE.heap _ _ hb, h1]
          rfl
        · cases h
      · cases h
    · rename_i tg n off
      split at h
      · rename_i hdt
        obtain ⟨δ, e1, m1⟩ := putA_mono ti.size n off x s s' r h
        refine ⟨δ, e1, fun t hE hF => ?_⟩
        have := m1 t hE hF
        simp only at this
        simp only [storeA, hti, hr, hdt, this]
      · rename_i hdt
        split at h
        · rename_i m e sz cells y ht hy
          split at h
          · rename_i h1
            cases h
            refine ⟨⟨[], [], [(tg, ⟨m, e, sz, some (true, setAt cells off (cellsOf y))⟩)]⟩, rfl, fun t hE hF => ?_⟩
            simp only [storeA, hti, hr, hdt, hE.tags _ _ ht, hy, h1]
            rfl
          · cases h
        · cases h
    · cases h
  · cases h
/-- What a change names is in the state. -/
def OldD (δ : Dl) (s : AS) : Prop := (∀ k, isS (look δ.h k) = true → isS (look s.heap k) = true) ∧ ∀ k, isS (look δ.g k) = true → isS (look s.tags k) = true
theorem OldD.fresh {δ : Dl} {s t : AS} (h : OldD δ s) : Fresh δ s t := ⟨(fun k hk hn => by have := h.1 k hk; rw [hn] at this; cases this), (fun k hk hn => by have := h.2 k hk; rw [hn] at this; cases this)⟩
theorem OldD.nil (s : AS) : OldD ⟨[], [], []⟩ s := ⟨(fun k hk => by cases hk), (fun k hk => by cases hk)⟩
theorem OldD.then {δ ε : Dl} {s : AS} (h : OldD δ s) (k : OldD ε (s.plus δ)) : OldD (δ.then ε) s := by
  refine ⟨fun i hi => ?_, fun i hi => ?_⟩
  · have hi : isS (look (ε.h ++ δ.h) i) = true := hi
    rw [look_append] at hi
    cases hh : look ε.h i with
    | none => rw [hh] at hi; exact h.1 i (by simpa using hi)
    | some x =>
      have := k.1 i (by rw [hh]; rfl)
      simp only [AS.plus, look_append] at this
      cases hd : look δ.h i with
      | none => rw [hd] at this; simpa using this
      | some y => exact h.1 i (by rw [hd]; rfl)
  · have hi : isS (look (ε.g ++ δ.g) i) = true := hi
    rw [look_append] at hi
    cases hh : look ε.g i with
    | none => rw [hh] at hi; exact h.2 i (by simpa using hi)
    | some x =>
      have := k.2 i (by rw [hh]; rfl)
      simp only [AS.plus, look_append] at this
      cases hd : look δ.g i with
      | none => rw [hd] at this; simpa using this
      | some y => exact h.2 i (by rw [hd]; rfl)
theorem old1h {i : Nat} {b c : Blk} {s : AS} (h : look s.heap i = some c) : OldD ⟨[], [(i, b)], []⟩ s := by
  refine ⟨fun k hk => ?_, fun k hk => ?_⟩
  · rw [look_cons] at hk
    split at hk
    · rename_i e; subst e; rw [h]; rfl
    · cases hk
  · cases hk
theorem old1g {i : Nat} {b c : Tag} {s : AS} (h : look s.tags i = some c) : OldD ⟨[], [], [(i, b)]⟩ s := by
  refine ⟨fun k hk => ?_, fun k hk => ?_⟩
  · cases hk
  · rw [look_cons] at hk
    split at hk
    · rename_i e; subst e; rw [h]; rfl
    · cases hk
theorem freeze1_mono (id : Nat) {s s' : AS} {x : List Prop} (h : freeze1 s id = some (s', x)) : ∃ δ : Dl, s' = s.plus δ ∧ OldD δ s ∧ ∀ t, Ext s t → freeze1 t id = some (t.plus δ, x) := by
  simp only [freeze1] at h
  split at h
  · rename_i hb
    split at h
    · rename_i n e sz b cells ht
      cases h
      refine ⟨⟨[], [], [(id - 5000000, ⟨n, e, sz, some (false, cells)⟩)]⟩, rfl, old1g ht, fun t hE => ?_⟩
      simp only [freeze1, hb, hE.tags _ _ ht]
      rfl
    · cases h
  · rename_i hb
    split at h
    · rename_i cs hc
      split at h
      · rename_i ds os hd
        cases h
        refine ⟨⟨[], [(id, .var false ds)], []⟩, rfl, old1h hc, fun t hE => ?_⟩
        simp only [freeze1, hb, hE.heap _ _ hc, treeHL_mono hE hd]
        rfl
      · cases h
    · rename_i cs hc
      cases h
      refine ⟨⟨[], [(id, .rows false cs)], []⟩, rfl, old1h hc, fun t hE => ?_⟩
      simp only [freeze1, hb, hE.heap _ _ hc]
      rfl
    · rename_i cs hc
      cases h
      refine ⟨⟨[], [], []⟩, rfl, OldD.nil _, fun t hE => ?_⟩
      simp only [freeze1, hb, hE.heap _ _ hc]
      rfl
    · rename_i cs hc
      cases h
      refine ⟨⟨[], [], []⟩, rfl, OldD.nil _, fun t hE => ?_⟩
      simp only [freeze1, hb, hE.heap _ _ hc]
      rfl
    · cases h
theorem freezeAll_mono : ∀ (ids : List Nat) {s s' : AS} {x : List Prop}, freezeAll s ids = some (s', x) → ∃ δ : Dl, s' = s.plus δ ∧ OldD δ s ∧ ∀ t, Ext s t → freezeAll t ids = some (t.plus δ, x)
  | [], s, s', x, h => by
    cases h
    exact ⟨⟨[], [], []⟩, rfl, OldD.nil _, fun t hE => rfl⟩
  | i :: ids, s, s', x, h => by
    simp only [freezeAll] at h
    split at h
    · rename_i s1 a h1
      split at h
      · rename_i s2 b h2
        cases h
        obtain ⟨δ, e1, o1, m1⟩ := freeze1_mono i h1
        subst e1
        obtain ⟨ε, e2, o2, m2⟩ := freezeAll_mono ids h2
        subst e2
        refine ⟨δ.then ε, AS.plus_then _ _ _, o1.then o2, fun t hE => ?_⟩
        simp only [freezeAll, m1 t hE, m2 _ (hE.plus δ), AS.plus_then]
      · cases h
    · cases h
theorem impL_mono : ∀ (xs : List AV) (d : Nat), Mono (fun s => impL s d xs)
  | [], d => by
    intro s s' r h
    cases h
    exact ⟨⟨[], [], []⟩, rfl, fun t hE hF => rfl⟩
  | x :: xs, d => by
    intro s s' r h
    simp only at h
    unfold impL at h
    split at h
    · rename_i heq; cases heq
    · rename_i nl n cells e sz r' heq
      cases heq
      split at h
      · rename_i hn
        split at h
        · rename_i s2 l h2
          cases h
          obtain ⟨ε, e2, m2⟩ := impL_mono xs (d + 1000) _ _ _ h2
          subst e2
          refine ⟨(⟨[], [], [(d, ⟨n, e, sz, none⟩)]⟩ : Dl).then ε, by rw [← AS.plus_then]; rfl, fun t hE hF => ?_⟩
          have hn' : look t.tags d = none := hF.left.g d (by simp [look_cons, isS]) hn
          have k2 := m2 _ (hE.plus ⟨[], [], [(d, ⟨n, e, sz, none⟩)]⟩) hF.right
          have e3 : t.tag d ⟨n, e, sz, none⟩ = t.plus ⟨[], [], [(d, ⟨n, e, sz, none⟩)]⟩ := rfl
          simp only at k2
          simp only [impL, hn', e3, k2, AS.plus_then]
        · cases h
      · cases h
    · rename_i x' r' hne heq
      cases heq
      split at h
      · rename_i s2 l h2
        cases h
        obtain ⟨ε, e2, m2⟩ := impL_mono xs (d + 1000) _ _ _ h2
        subst e2
        refine ⟨ε, rfl, fun t hE hF => ?_⟩
        have k2 := m2 _ hE hF
        simp only at k2
        show impL t d (x :: xs) = _
        unfold impL
        split
        · rename_i heq; cases heq
        · rename_i nl n cells e sz r'' heq
          cases heq
          exact (hne _ _ _ _ _ rfl).elim
        · rename_i x2 r2 _ heq
          cases heq
          rw [k2]
      · cases h
theorem imp_mono (d : Nat) (res : AV) : Mono (fun s => imp s d res) := by
  intro s s' r h
  simp only [imp] at h
  split at h
  · rename_i cs
    split at h
    · rename_i s1 l h1
      cases h
      obtain ⟨δ, e, m⟩ := impL_mono cs d _ _ _ h1
      refine ⟨δ, e, fun t hE hF => ?_⟩
      have := m t hE hF
      simp only at this
      simp only [imp, this]
    · cases h
  · rename_i cs
    split at h
    · rename_i s1 l h1
      cases h
      obtain ⟨δ, e, m⟩ := impL_mono cs d _ _ _ h1
      refine ⟨δ, e, fun t hE hF => ?_⟩
      have := m t hE hF
      simp only at this
      simp only [imp, this]
    · cases h
  · rename_i nl n cells o
    split at h
    · rename_i s1 y h1
      cases h
      obtain ⟨δ, e, m⟩ := impL_mono [.sl nl n cells o] d _ _ _ h1
      refine ⟨δ, e, fun t hE hF => ?_⟩
      have := m t hE hF
      simp only at this
      simp only [imp, this]
    · cases h
  · rename_i h1 h2 h3
    cases h
    refine ⟨⟨[], [], []⟩, rfl, fun t hE hF => ?_⟩
    cases res <;> first | rfl | exact absurd rfl (h1 _) | exact absurd rfl (h2 _) | exact absurd rfl (h3 _ _ _ _)
theorem callA_mono (P : Program) (d : Nat) (f : AV) (xs : List AV) (ann : Option Ann) : Mono (fun s => callA P s d f xs ann) := by
  intro s s' r h
  simp only [callA] at h
  split at h
  · rename_i fid caps zs g hann
    split at h
    · rename_i s1 a hs1
      obtain ⟨δ, e1, o1, m1⟩ := freezeAll_mono zs hs1
      subst e1
      split at h
      · rename_i ys b hys
        split at h
        · rename_i hsc
          cases h
          refine ⟨⟨[], [], []⟩, rfl, fun t hE hF => ?_⟩
          simp only [callA, hann, m1 t hE, treeHL_mono (hE.plus δ) hys, hsc]
          rfl
        · rename_i hsc
          split at h
          · rename_i s2 v hi
            cases h
            obtain ⟨ε, e2, m2⟩ := imp_mono d (g ys) _ _ _ hi
            subst e2
            refine ⟨δ.then ε, AS.plus_then _ _ _, fun t hE hF => ?_⟩
            have k1 := m1 t hE
            have k2 := m2 _ (hE.plus δ) hF.right
            simp only at k2
            simp only [callA, hann, k1, treeHL_mono (hE.plus δ) hys, hsc, k2, AS.plus_then]
          · cases h
      · cases h
    · cases h
  · cases h

theorem ovr_mono {r1 r2 : VR} {ann : Option AV} {y : AV × List Prop} (h : ∀ x, r1 = some x → r2 = some x) (hy : ovr r1 ann = some y) : ovr r2 ann = some y := by
  unfold ovr at hy ⊢
  split at hy
  · exact h _ hy
  · split at hy
    · rename_i x' os'
      rw [h _ rfl]
      exact hy
    · cases hy
theorem buildA_mono {Γ : TT} {s t : AS} (h : Ext s t) {ty : TypeId} {ps : Array (Nat × Operand)} {r : AV × List Prop} (hv : buildA Γ s ty ps = some r) : buildA Γ t ty ps = some r := by
  unfold buildA at hv ⊢
  cases h1 : look Γ ty with
  | none => rw [h1] at hv; cases hv
  | some ti =>
    simp only [h1] at hv ⊢
    cases h2 : ti.kind with
    | struct fs =>
      simp only [h2] at hv ⊢
      cases h3 : fieldSizes Γ fs with
      | none => simp only [h3] at hv; cases hv
      | some zs =>
        cases h4 : evParts s ps.toList with
        | none => simp only [h3, h4] at hv; cases hv
        | some xs =>
          simp only [h3, h4] at hv
          simp only [evParts_mono h h4]
          exact hv
    | _ => simp only [h2] at hv; cases hv
theorem litA_mono {f : AV → Option AV} {Γ : TT} {s t : AS} (h : Ext s t) {ty : TypeId} {len : Nat} {ps : Array (Nat × Operand)} {r : AV × List Prop} (hv : litA f Γ s ty len ps = some r) : litA f Γ t ty len ps = some r := by
  unfold litA at hv ⊢
  cases h1 : look Γ ty with
  | none => rw [h1] at hv; cases hv
  | some ti =>
    simp only [h1] at hv ⊢
    cases h2 : ti.kind with
    | slice e =>
      simp only [h2] at hv ⊢
      cases h3 : look Γ e with
      | none => simp only [h3] at hv; cases hv
      | some ei =>
        simp only [h3] at hv ⊢
        cases h4 : evParts s ps.toList with
        | none =>
          simp only [h4] at hv
          split at hv
          · rename_i h5; cases h5
          · cases hv
        | some xs =>
          simp only [h4] at hv
          simp only [evParts_mono h h4]
          exact hv
    | _ => simp only [h2] at hv; cases hv

theorem litN_mono {Γ : TT} {s t : AS} (h : Ext s t) {ty : TypeId} {len : Nat} {ps : Array (Nat × Operand)} {ann : Option AV} {r : AV × List Prop} (hv : litN Γ s ty len ps ann = some r) : litN Γ t ty len ps ann = some r := by
  unfold litN at hv ⊢
  cases ann with
  | none => exact litA_mono h hv
  | some _ => exact litA_mono h hv
def evO (s : AS) : Option Operand → Option (Option AV)
  | some y => (s.ev y).map some
  | none => some none
theorem evOpt_mono {s t : AS} (h : Ext s t) {y : Option Operand} {z : Option AV} (hz : evO s y = some z) : evO t y = some z := by
  cases y with
  | none => exact hz
  | some y =>
    simp only [evO, Option.map_eq_some_iff] at hz ⊢
    obtain ⟨u, hu, rfl⟩ := hz
    exact ⟨u, ev_mono h hu, rfl⟩

theorem stepV_mono (Γ : TT) (d : Nat) (op : Op) (ann : Option AV) : Mono (fun s => stepV Γ s d op ann) := by
  intro s s' x h
  simp only at h
  have nil : ∀ {r : AV × List Prop}, s' = s → x = r → (∀ t, Ext s t → stepV Γ t d op ann = some (t, r)) → ∃ δ : Dl, s' = s.plus δ ∧ ∀ t, Ext s t → Fresh δ s t → stepV Γ t d op ann = some (t.plus δ, x) := by
    intro r e1 e2 hm
    subst e1; subst e2
    exact ⟨⟨[], [], []⟩, rfl, fun t hE hF => hm t hE⟩
  have viaM : ∀ {F : AS → SR}, Mono F → F s = some (s', x) → (∀ t, Ext s t → stepV Γ t d op ann = F t) → ∃ δ : Dl, s' = s.plus δ ∧ ∀ t, Ext s t → Fresh δ s t → stepV Γ t d op ann = some (t.plus δ, x) := by
    intro F hF hs ht
    obtain ⟨δ, e, m⟩ := hF s s' x hs
    exact ⟨δ, e, fun t hE hf => by rw [ht t hE]; exact m t hE hf⟩
  unfold stepV at h
  split at h
  · split at h
    · rename_i y hy
      obtain ⟨e, hr⟩ := pure_sr h
      exact nil (r := x) e rfl fun t hE => by simp only [stepV, ev_mono hE hy, hr]
    · cases h
  · split at h
    · rename_i y hy
      obtain ⟨e, hr⟩ := pure_sr h
      exact nil (r := x) e rfl fun t hE => by simp only [stepV, ev_mono hE hy, hr]
    · cases h
  · split at h
    · rename_i hc
      split at h
      · rename_i y hy
        obtain ⟨e, hr⟩ := pure_sr h
        exact nil (r := x) e rfl fun t hE => by simp only [stepV, ev_mono hE hc, ev_mono hE hy, hr]
      · cases h
    · rename_i hc
      split at h
      · rename_i y hy
        obtain ⟨e, hr⟩ := pure_sr h
        exact nil (r := x) e rfl fun t hE => by simp only [stepV, ev_mono hE hc, ev_mono hE hy, hr]
      · cases h
    · cases h
  · exact viaM (allocA_mono Γ d _) h fun t hE => rfl
  · split at h
    · rename_i y hy
      exact viaM (boxA_mono Γ d _ y) h fun t hE => by simp only [stepV, ev_mono hE hy]
    · cases h
  · obtain ⟨e, hr⟩ := pure_sr h
    exact nil (r := x) e rfl fun t hE => by simp only [stepV, ovr_mono (fun z hz => buildA_mono hE hz) hr]
  · obtain ⟨e, hr⟩ := pure_sr h
    exact nil (r := x) e rfl fun t hE => by simp only [stepV, litN_mono hE hr]
  · split at h
    · rename_i p hy
      exact viaM (loadS_mono Γ _ p _) h fun t hE => by simp only [stepV, ev_mono hE hy]
    · cases h
  · split at h
    · rename_i hy
      cases h
      exact nil rfl rfl fun t hE => by simp only [stepV, ev_mono hE hy]
    · rename_i hy
      cases h
      exact nil rfl rfl fun t hE => by simp only [stepV, ev_mono hE hy]
    · rename_i hy
      cases h
      exact nil rfl rfl fun t hE => by simp only [stepV, ev_mono hE hy]
    · cases h
  · split at h
    · rename_i v u hv hu
      split at h
      · obtain ⟨e, hr⟩ := pure_sr h
        exact nil (r := x) e rfl fun t hE => by simp only [stepV, ev_mono hE hv, ev_mono hE hu, hr]
      · rename_i hne
        obtain ⟨e, hr⟩ := pure_sr h
        refine nil (r := x) e rfl fun t hE => ?_
        simp only [stepV, ev_mono hE hv, ev_mono hE hu]
        cases v <;> first | (simp only [hr]; done) | exact absurd rfl (hne _ _ _ _)
    · cases h
  · split at h
    · rename_i y hy
      obtain ⟨e, hr⟩ := pure_sr h
      exact nil (r := x) e rfl fun t hE => by simp only [stepV, ev_mono hE hy, hr]
    · cases h
  · split at h
    · rename_i y hy
      obtain ⟨e, hr⟩ := pure_sr h
      exact nil (r := x) e rfl fun t hE => by
        have e2 : ∀ a b, convA Γ t a b y = convA Γ s a b y := fun _ _ => rfl
        simp only [stepV, ev_mono hE hy, e2, hr]
    · cases h
  · split at h
    · rename_i vs hvs
      cases h
      exact nil rfl rfl fun t hE => by simp only [stepV, evs_mono hE hvs]
    · cases h
  · split at h
    · rename_i v u hv hu
      exact viaM (makeA_mono Γ d _ v u) h fun t hE => by simp only [stepV, ev_mono hE hv, ev_mono hE hu]
    · cases h
  · split at h
    · rename_i v1 l1 h1 m1 e1 e2 e3 e4
      obtain ⟨e, hr⟩ := pure_sr h
      refine nil (r := x) e rfl fun t hE => ?_
      have k2 := evOpt_mono (s := s) hE e2
      have k3 := evOpt_mono (s := s) hE e3
      have k4 := evOpt_mono (s := s) hE e4
      simp only [stepV, ev_mono hE e1]
      split
      · rename_i a1 a2 a3 a4 f1 f2 f3 f4
        have g2 := f2.symm.trans k2
        have g3 := f3.symm.trans k3
        have g4 := f4.symm.trans k4
        cases f1; cases g2; cases g3; cases g4
        simp only [hr]
      · rename_i hne
        exact (hne _ _ _ _ rfl k2 k3 k4).elim
    · cases h
  · split at h
    · rename_i y hy
      obtain ⟨e, hr⟩ := pure_sr h
      exact nil (r := x) e rfl fun t hE => by simp only [stepV, ev_mono hE hy, hr]
    · cases h
  · split at h
    · rename_i y hy
      obtain ⟨e, hr⟩ := pure_sr h
      exact nil (r := x) e rfl fun t hE => by simp only [stepV, ev_mono hE hy, hr]
    · cases h
  · split at h
    · rename_i v u hv hu
      obtain ⟨e, hr⟩ := pure_sr h
      exact nil (r := x) e rfl fun t hE => by simp only [stepV, ev_mono hE hv, ev_mono hE hu, ovr_mono (fun z hz => indexAddrA_mono hE hz) hr]
    · cases h
  · split at h
    · rename_i v u hv hu
      obtain ⟨e, hr⟩ := pure_sr h
      exact nil (r := x) e rfl fun t hE => by simp only [stepV, ev_mono hE hv, ev_mono hE hu, hr]
    · cases h
  · split at h
    · rename_i y hy
      exact viaM (rangeA_mono Γ d _ y) h fun t hE => by simp only [stepV, ev_mono hE hy]
    · cases h
  · split at h
    · rename_i y hy
      exact viaM (nextA_mono y ann) h fun t hE => by simp only [stepV, ev_mono hE hy]
    · cases h
  · split at h
    · rename_i y hy
      obtain ⟨e, hr⟩ := pure_sr h
      exact nil (r := x) e rfl fun t hE => by simp only [stepV, ev_mono hE hy, hr]
    · cases h
  · split at h
    · rename_i y hy
      obtain ⟨e, hr⟩ := pure_sr h
      exact nil (r := x) e rfl fun t hE => by simp only [stepV, ev_mono hE hy, ovr_mono (fun z hz => lenA_mono hE hz) hr]
    · cases h
  · split at h
    · rename_i v u hv hu
      obtain ⟨e, hr⟩ := pure_sr h
      exact nil (r := x) e rfl fun t hE => by simp only [stepV, ev_mono hE hv, ev_mono hE hu, hr]
    · cases h
  · split at h
    · rename_i v u hv hu
      obtain ⟨e, hr⟩ := pure_sr h
      exact nil (r := x) e rfl fun t hE => by simp only [stepV, ev_mono hE hv, ev_mono hE hu, hr]
    · cases h
  · split at h
    · rename_i v u hv hu
      exact viaM (appN_mono Γ d _ _ v u) h fun t hE => by simp only [stepV, ev_mono hE hv, ev_mono hE hu]
    · cases h
  · cases h

/-! ### A call over memory that is lent -/
theorem conv1_mono (x : Bool × Nat × Nat × Nat × TypeId × Nat) {s s' : AS} (h : conv1 s x = some s') : ∃ δ : Dl, s' = s.plus δ ∧ ∀ t, Ext s t → Fresh δ s t → conv1 t x = some (t.plus δ) := by
  obtain ⟨b, id, off, g, e, sz⟩ := x
  simp only [conv1] at h
  split at h
  · rename_i cs hb
    split at h
    · rename_i nl n cells hc
      split at h
      · rename_i hn
        split at h
        · split at h
          · cases h
            refine ⟨⟨[], [(id, .var true (cs.set off (.vec g 0)))], [(g, ⟨0, e, sz, some (true, [])⟩)]⟩, rfl, fun t hE hF => ?_⟩
            have hn' : look t.tags g = none := hF.g g (by simp [look_cons, isS]) hn
            simp only [conv1, hE.heap _ _ hb, hc, hn']
            rfl
          · cases h
        · cases h
          refine ⟨⟨[], [(id, .var true (cs.set off (.sl none n cells (.own g))))], [(g, ⟨n, e, sz, none⟩)]⟩, rfl, fun t hE hF => ?_⟩
          have hn' : look t.tags g = none := hF.g g (by simp [look_cons, isS]) hn
          simp only [conv1, hE.heap _ _ hb, hc, hn']
          rfl
      · cases h
    · rename_i hc
      cases h
      refine ⟨⟨[], [], []⟩, rfl, fun t hE hF => ?_⟩
      simp only [conv1, hE.heap _ _ hb, hc]
      rfl
    · rename_i hc
      cases h
      refine ⟨⟨[], [], []⟩, rfl, fun t hE hF => ?_⟩
      simp only [conv1, hE.heap _ _ hb, hc]
      rfl
    · cases h
  · cases h
theorem convAll_mono : ∀ (cv : List (Bool × Nat × Nat × Nat × TypeId × Nat)) {s s' : AS}, convAll s cv = some s' → ∃ δ : Dl, s' = s.plus δ ∧ ∀ t, Ext s t → Fresh δ s t → convAll t cv = some (t.plus δ)
  | [], s, s', h => by
    cases h
    exact ⟨⟨[], [], []⟩, rfl, fun t hE hF => rfl⟩
  | x :: cv, s, s', h => by
    simp only [convAll] at h
    split at h
    · rename_i s1 h1
      obtain ⟨δ, e1, m1⟩ := conv1_mono x h1
      subst e1
      obtain ⟨ε, e2, m2⟩ := convAll_mono cv h
      subst e2
      refine ⟨δ.then ε, AS.plus_then _ _ _, fun t hE hF => ?_⟩
      simp only [convAll, m1 t hE hF.left, m2 _ (hE.plus δ) hF.right, AS.plus_then]
    · cases h
theorem pickK_ext {α : Type} {l m : List (Nat × α)} (h : ∀ i v, look l i = some v → look m i = some v) : ∀ {ks : List Nat}, presK l ks = true → pickK ks m = pickK ks l ∧ presK m ks = true
  | [], _ => ⟨rfl, rfl⟩
  | k :: ks, hp => by
    simp only [presK, Bool.and_eq_true] at hp
    obtain ⟨v, hv⟩ := isS_some hp.1
    obtain ⟨h1, h2⟩ := pickK_ext h hp.2
    simp only [pickK, presK, hv, h _ _ hv, h1, h2]
    exact ⟨trivial, rfl⟩
theorem argsM_mono {s t M : AS} (h : Ext s t) : ∀ {xs : List AV} {r : List AV × List Prop}, argsM s M xs = some r → argsM t M xs = some r
  | [], r, hv => hv
  | x :: xs, r, hv => by
    simp only [argsM] at hv ⊢
    split at hv
    · rename_i hid
      split at hv
      · rename_i ys b h1
        simp only [hid, argsM_mono h h1]
        exact hv
      · cases hv
    · rename_i hid
      split at hv
      · rename_i y a ys b h1 h2
        simp only [hid, treeH_mono h h1, argsM_mono h h2]
        exact hv
      · cases hv
theorem keysNew_mono {α β γ : Type} {m : List (Nat × β)} {l l' : List (Nat × γ)} : ∀ {h : List (Nat × α)}, (∀ k, isS (look h k) = true → look l k = none → look l' k = none) → keysNew m l h = true → keysNew m l' h = true
  | [], _, _ => rfl
  | (i, v) :: r, hf, hk => by
    simp only [keysNew, Bool.and_eq_true, Bool.or_eq_true, Bool.not_eq_true'] at hk ⊢
    refine ⟨?_, ?_⟩
    · rcases hk.1 with h1 | h1
      · exact .inl h1
      · right
        have hn : look l i = none := by
          cases hl : look l i with
          | none => rfl
          | some x => rw [hl] at h1; cases h1
        rw [hf i (by simp [look_cons, isS]) hn]
        rfl
    · refine keysNew_mono (fun k hs hn => hf k ?_ hn) hk.2
      rw [look_cons]
      split
      · rfl
      · exact hs
theorem callMA_mono (P : Program) (f : AV) (xs : List AV) (ann : Option Ann) : Mono (fun s => callMA P s f xs ann) := by
  intro s s' r h
  simp only [callMA] at h
  split at h
  · rename_i fid caps cv zs hs gs h' t' res
    split at h
    · rename_i s0 hs0
      obtain ⟨δ, e0, m0⟩ := convAll_mono cv hs0
      subst e0
      split at h
      · rename_i s1 a hs1
        obtain ⟨ε, e1, o1, m1⟩ := freezeAll_mono zs hs1
        subst e1
        split at h
        · rename_i ys b hys hok
          cases h
          refine ⟨(δ.then ε).then ⟨[], h', t'⟩, by rw [← AS.plus_then, ← AS.plus_then]; rfl, fun t hE hF => ?_⟩
          have hE1 := (hE.plus δ).plus ε
          have k0 := m0 t hE hF.left.left
          have k1 := m1 _ (hE.plus δ)
          simp only [Bool.and_eq_true] at hok
          obtain ⟨⟨p1, p2⟩, hl⟩ := hok
          obtain ⟨q1, q2⟩ := pickK_ext hE1.heap p1
          obtain ⟨q3, q4⟩ := pickK_ext hE1.tags p2
          simp only [lendOk, Bool.and_eq_true] at hl
          obtain ⟨l1, l2, l3, l4, l5, l6, l7⟩ := hl
          have hF2 := hF.right
          rw [← AS.plus_then, ← AS.plus_then] at hF2
          have n1 := keysNew_mono hF2.h l6
          have n2 := keysNew_mono hF2.g l7
          have ha := argsM_mono hE1 hys
          simp only [callMA, k0, k1, q1, q2, q3, q4, ha, lendOk, l1, l2, l3, l4, l5, n1, n2, Bool.and_self]
          rw [← AS.plus_then, ← AS.plus_then]
          rfl
        · cases h
      · cases h
    · cases h
  · cases h
theorem callB_mono (P : Program) (d : Nat) (f : AV) (xs : List AV) (ann : Option Ann) : Mono (fun s => callB P s d f xs ann) := by
  intro s s' r h
  simp only [callB] at h
  split at h
  · obtain ⟨δ, e, m⟩ := callMA_mono P f xs _ s s' r h
    exact ⟨δ, e, fun t hE hF => by simpa only [callB] using m t hE hF⟩
  · rename_i hne
    obtain ⟨δ, e, m⟩ := callA_mono P d f xs _ s s' r h
    refine ⟨δ, e, fun t hE hF => ?_⟩
    have := m t hE hF
    simp only at this
    cases ann with
    | none => simpa only [callB] using this
    | some x =>
      cases x with
      | callM cv zs hs gs h' t' res => exact (hne _ _ _ _ _ _ _ rfl).elim
      | _ => simpa only [callB] using this
end Go.AX
end

section
set_option linter.unusedVariables false
set_option linter.unusedSimpArgs false
namespace Go.AX
open Go Go.RowKit

def isM : Ann → Bool := fun _ => false
def filterM : List (Nat × Ann) → List (Nat × Ann)
  | [] => []
  | (i, a) :: r => match isM a with
    | true => filterM r
    | false => (i, a) :: filterM r
theorem filterM_look : ∀ {l : List (Nat × Ann)} {i : Nat} {a : Ann}, look (filterM l) i = some a → isM a = false
  | [], i, a, h => by simp [filterM, look] at h
  | (j, b) :: r, i, a, h => by
    simp only [filterM] at h
    split at h
    · exact filterM_look h
    · rename_i hb
      rw [look_cons] at h
      split at h
      · cases h; exact hb
      · exact filterM_look h

theorem litV_mono {F : AS → SR} (hF : Mono F) (a : Option Ann) : Mono (fun s => litV a (F s)) := by
  intro s s' x h
  simp only [litV] at h
  split at h
  · rename_i b
    split at h
    · rename_i s1 e os h1
      cases h
      obtain ⟨δ, e1, m⟩ := hF s s' (.bool e, os) h1
      refine ⟨δ, e1, fun t hE hf => ?_⟩
      have k := m t hE hf
      simp only [litV, k]
    · rename_i hne
      obtain ⟨δ, e1, m⟩ := hF s s' x h
      refine ⟨δ, e1, fun t hE hf => ?_⟩
      have k := m t hE hf
      simp only [litV, k]
      split
      · rename_i s2 e2 os2 hh
        cases hh
        exact (hne _ _ _ h).elim
      · rfl
  · rename_i hne
    obtain ⟨δ, e1, m⟩ := hF s s' x h
    refine ⟨δ, e1, fun t hE hf => ?_⟩
    have k := m t hE hf
    simp only [litV]
    exact k
theorem put_mono {nt : Nat} {F : AS → SR} (hF : Mono F) (d : Option Nat) : Mono (fun s => finO nt (F s) d) := by
  intro s s' x h
  simp only [finO] at h
  split at h
  · rename_i s1 v os d h1
    split at h
    · rename_i hb
      cases h
      obtain ⟨δ, e, m⟩ := hF s s1 (v, x) h1
      subst e
      refine ⟨δ.then ⟨[(d, v)], [], []⟩, by rw [← AS.plus_then]; rfl, fun t hE hf => ?_⟩
      have k := m t hE hf.left
      simp only [finO, k, hb]
      rw [← AS.plus_then]
      rfl
    · cases h
  · cases h

theorem stepOp_mono (P : Program) (Γ : TT) (nt : Nat) {ann : List (Nat × Ann)} (hN : ∀ i a, look ann i = some a → isM a = false) (o : Oper) : Mono (fun s => stepOp P Γ nt ann s o) := by
  intro s s' x h
  simp only at h
  have h0 := h
  unfold stepOp at h
  split at h
  · rename_i ty p y hop
    split at h
    · rename_i u v hu hv hd
      obtain ⟨δ, e, m⟩ := storeA_mono Γ ty u v s s' x h
      refine ⟨δ, e, fun t hE hf => ?_⟩
      have k := m t hE hf
      simp only at k
      simp only [stepOp, hop, ev_mono hE hu, ev_mono hE hv, hd, k]
    · cases h
  · rename_i f args ts hop
    split at h
    · rename_i u vs hu hvs
      obtain ⟨δ, e, m⟩ := put_mono (nt := nt) (litV_mono (callB_mono P (o.dst.getD 0) u vs (annC ann u o.dst)) (litK ann o.dst)) o.dst s s' x h
      refine ⟨δ, e, fun t hE hf => ?_⟩
      have k := m t hE hf
      simp only at k
      simp only [stepOp, hop, ev_mono hE hu, evs_mono hE hvs, k]
    · cases h
  · rename_i h1 h2
    obtain ⟨δ, e, m⟩ := put_mono (nt := nt) (litV_mono (stepV_mono Γ (annI (lookO ann o.dst) (o.dst.getD 0)) o.op (Ann.v? (lookO ann o.dst))) (litK ann o.dst)) o.dst s s' x h
    refine ⟨δ, e, fun t hE hf => ?_⟩
    have k := m t hE hf
    simp only at k
    unfold stepOp
    split
    · rename_i hop; exact absurd hop (h1 _ _ _)
    · rename_i hop; exact absurd hop (h2 _ _ _)
    · exact k

theorem gval_mono {s t : AS} (h : Ext s t) {ops : Array Oper} {j : Nat} {b : Option Bool} (hg : gval s ops j = some b) : gval t ops j = some b := by
  unfold gval at hg ⊢
  cases ho : ops[j]? with
  | none => rw [ho] at hg; cases hg
  | some o =>
    simp only [ho] at hg ⊢
    cases hd : o.dst with
    | none => rw [hd] at hg; cases hg
    | some d =>
      simp only [hd, lookO] at hg ⊢
      cases hl : look s.tmps d with
      | none => rw [hl] at hg; cases hg
      | some v =>
        rw [hl] at hg
        rw [h.tmps _ _ hl]
        exact hg
theorem skipO_mono (nt : Nat) (d : Option Nat) : Mono (fun s => (skipO nt s d).map fun s' => (s', ([] : List Prop))) := by
  intro s s' x h
  simp only [Option.map_eq_some_iff] at h
  obtain ⟨s1, h, h'⟩ := h
  cases h'
  cases d with
  | none => cases h; exact ⟨⟨[], [], []⟩, rfl, fun t hE hf => rfl⟩
  | some d =>
    simp only [skipO] at h
    split at h
    · rename_i hb
      cases h
      refine ⟨⟨[(d, .tup [])], [], []⟩, rfl, fun t hE hf => ?_⟩
      simp only [skipO, hb]
      rfl
    · cases h
theorem oper1_mono (P : Program) (Γ : TT) (nt : Nat) {ann : List (Nat × Ann)} (hN : ∀ i a, look ann i = some a → isM a = false) (ops : Array Oper) (o : Oper) : Mono (fun s => oper1 P Γ nt ann ops s o) := by
  intro s s' x h
  simp only [oper1] at h
  have A : ∀ {b : Option (Nat × Bool)}, stepOp P Γ nt ann s o = some (s', x) → (∀ t, Ext s t → oper1 P Γ nt ann ops t o = stepOp P Γ nt ann t o) → ∃ δ : Dl, s' = s.plus δ ∧ ∀ t, Ext s t → Fresh δ s t → oper1 P Γ nt ann ops t o = some (t.plus δ, x) := by
    intro b hs ht
    obtain ⟨δ, e, m⟩ := stepOp_mono P Γ nt hN o s s' x hs
    exact ⟨δ, e, fun t hE hf => by rw [ht t hE]; exact m t hE hf⟩
  have B : (skipO nt s o.dst).map (fun s' => (s', ([] : List Prop))) = some (s', x) → (∀ t, Ext s t → oper1 P Γ nt ann ops t o = (skipO nt t o.dst).map fun s' => (s', ([] : List Prop))) → ∃ δ : Dl, s' = s.plus δ ∧ ∀ t, Ext s t → Fresh δ s t → oper1 P Γ nt ann ops t o = some (t.plus δ, x) := by
    intro hs ht
    obtain ⟨δ, e, m⟩ := skipO_mono nt o.dst s s' x hs
    exact ⟨δ, e, fun t hE hf => by rw [ht t hE]; exact m t hE hf⟩
  split at h
  · rename_i hg
    exact A (b := none) h fun t hE => by simp only [oper1, hg]
  · rename_i j want hg
    split at h
    · rename_i hv
      split at h
      · exact A (b := none) h fun t hE => by simp only [oper1, hg, gval_mono hE hv]
      · exact B h fun t hE => by simp only [oper1, hg, gval_mono hE hv]
    · rename_i hv
      split at h
      · exact B h fun t hE => by simp only [oper1, hg, gval_mono hE hv]
      · exact A (b := none) h fun t hE => by simp only [oper1, hg, gval_mono hE hv]
    · rename_i hv
      exact B h fun t hE => by simp only [oper1, hg, gval_mono hE hv]
    · cases h
end Go.AX
end

section
set_option linter.unusedVariables false
set_option linter.unusedSimpArgs false
namespace Go.AX
open Go Go.RowKit

/-! ### A region whose order is drawn -/
def edges (o : Oper) : List Nat := (o.after.toList.filter fun e => Region.binds .any e).map (·.on)
def addAll (l : List Nat) : List Nat → List Nat
  | [] => l
  | x :: r => match among l x with
    | true => addAll l r
    | false => addAll (x :: l) r
def ancOf (tab : List (Nat × List Nat)) : List Nat → List Nat
  | [] => []
  | e :: r => addAll (ancOf tab r) (e :: (look tab e).getD [])
def ancTab : List Oper → Nat → List (Nat × List Nat) → List (Nat × List Nat)
  | [], _, tab => tab
  | o :: r, i, tab => ancTab r (i + 1) ((i, ancOf tab (edges o)) :: tab)

abbrev Keys := List Nat × List Nat × List Nat
def Dl.keys (δ : Dl) : Keys := (δ.t.map (·.1), δ.h.map (·.1), δ.g.map (·.1))
def deltaOf (s s' : AS) : Dl := ⟨s'.tmps.take (s'.tmps.length - s.tmps.length), s'.heap.take (s'.heap.length - s.heap.length), s'.tags.take (s'.tags.length - s.tags.length)⟩
theorem deltaOf_plus (s : AS) (δ : Dl) : deltaOf s (s.plus δ) = δ := by simp [deltaOf, AS.plus]
def remK {α : Type} (r : List Nat) : List (Nat × α) → List (Nat × α)
  | [] => []
  | (i, v) :: l => match among r i with
    | true => remK r l
    | false => (i, v) :: remK r l
theorem look_remK {α : Type} {r : List Nat} : ∀ {l : List (Nat × α)} {k : Nat}, look (remK r l) k = if among r k = true then none else look l k
  | [], k => by simp [remK, look]
  | (i, v) :: l, k => by
    simp only [remK]
    split
    · rename_i h
      rw [look_remK, look_cons]
      by_cases hk : among r k = true
      · simp [hk]
      · have hne : i ≠ k := fun e => hk (by rw [← e]; exact h)
        simp [hk, hne]
    · rename_i h
      rw [look_cons, look_cons, look_remK]
      split
      · rename_i e
        subst e
        rw [if_neg (by rw [h]; decide)]
      · rfl
def remS (R : Keys) (s : AS) : AS := ⟨remK R.1 s.tmps, remK R.2.1 s.heap, remK R.2.2 s.tags⟩
/-- The state behind those operations that are done: the latest first. -/
def SLr (s : AS) (D : Nat → Bool) : List (Nat × Dl) → AS
  | [] => s
  | (j, δ) :: r => match D j with
    | true => (SLr s D r).plus δ
    | false => SLr s D r

/-- Two states that say the same. -/
structure Same (s t : AS) : Prop where
  tmps : ∀ i, look s.tmps i = look t.tmps i
  heap : ∀ i, look s.heap i = look t.heap i
  tags : ∀ i, look s.tags i = look t.tags i
theorem RelG.same {C : Ctx} {G : Env} {s t : AS} {a : Act} {w : World} (h : RelG C G s a w) (k : Same s t) : RelG C G t a w :=
  ⟨h.defers, h.size, fun i v hv => h.slots i v (by rw [k.tmps]; exact hv), ⟨h.mem.keep, h.mem.le, h.mem.fdom, h.mem.fold, fun i b hb => h.mem.blocks i b (by rw [k.heap]; exact hb), fun i hi => h.mem.noblock i (by rw [k.heap]; exact hi), h.mem.inj, fun i b hb => h.mem.tags i b (by rw [k.tags]; exact hb), fun i hi => h.mem.notag i (by rw [k.tags]; exact hi), fun cells r hc => h.mem.deep cells r (by obtain ⟨m, q1, q2⟩ := hc; exact ⟨m, by rw [k.tags]; exact q1, q2⟩)⟩⟩

theorem among_mem {l : List Nat} {k : Nat} : among l k = true ↔ k ∈ l := by
  unfold among
  rw [List.any_eq_true]
  constructor
  · rintro ⟨x, hx, hb⟩
    rw [Nat.eq_of_beq_eq_true hb]; exact hx
  · intro h
    exact ⟨k, h, by simp⟩

section
variable (s0 : AS)
/-- What is done more names none of what is asked. -/
theorem SLr_more {D B : Nat → Bool} : ∀ {l : List (Nat × Dl)}, (∀ j, B j = true → D j = true) → ∀ k,
    ((∀ j δ, (j, δ) ∈ l → D j = true → B j = false → look δ.t k = none) → look (SLr s0 D l).tmps k = look (SLr s0 B l).tmps k) ∧
    ((∀ j δ, (j, δ) ∈ l → D j = true → B j = false → look δ.h k = none) → look (SLr s0 D l).heap k = look (SLr s0 B l).heap k) ∧
    ((∀ j δ, (j, δ) ∈ l → D j = true → B j = false → look δ.g k = none) → look (SLr s0 D l).tags k = look (SLr s0 B l).tags k)
  | [], hBD, k => ⟨fun _ => rfl, fun _ => rfl, fun _ => rfl⟩
  | (j, δ) :: r, hBD, k => by
    obtain ⟨h1, h2, h3⟩ := SLr_more (l := r) hBD k
    cases hD : D j with
    | false =>
      have hB : B j = false := by cases hb : B j; rfl; rw [hBD j hb] at hD; cases hD
      simp only [SLr, hD, hB]
      exact ⟨fun h => h1 fun i δ hi => h i δ (List.mem_cons_of_mem _ hi), fun h => h2 fun i δ hi => h i δ (List.mem_cons_of_mem _ hi), fun h => h3 fun i δ hi => h i δ (List.mem_cons_of_mem _ hi)⟩
    | true =>
      cases hB : B j with
      | true =>
        simp only [SLr, hD, hB, AS.plus, look_append]
        refine ⟨fun h => ?_, fun h => ?_, fun h => ?_⟩
        · rw [h1 fun i δ hi => h i δ (List.mem_cons_of_mem _ hi)]
        · rw [h2 fun i δ hi => h i δ (List.mem_cons_of_mem _ hi)]
        · rw [h3 fun i δ hi => h i δ (List.mem_cons_of_mem _ hi)]
      | false =>
        simp only [SLr, hD, hB, AS.plus, look_append]
        refine ⟨fun h => ?_, fun h => ?_, fun h => ?_⟩
        · rw [h j δ (by simp) hD hB, Option.none_or]; exact h1 fun i δ hi => h i δ (List.mem_cons_of_mem _ hi)
        · rw [h j δ (by simp) hD hB, Option.none_or]; exact h2 fun i δ hi => h i δ (List.mem_cons_of_mem _ hi)
        · rw [h j δ (by simp) hD hB, Option.none_or]; exact h3 fun i δ hi => h i δ (List.mem_cons_of_mem _ hi)

theorem SLr_congr {D B : Nat → Bool} : ∀ {l : List (Nat × Dl)}, (∀ j δ, (j, δ) ∈ l → D j = B j) → SLr s0 D l = SLr s0 B l
  | [], h => rfl
  | (j, δ) :: r, h => by
    simp only [SLr, h j δ (by simp), SLr_congr fun i δ' hi => h i δ' (List.mem_cons_of_mem _ hi)]

theorem or_swap {α : Type} {a b c : Option α} (h : a = none ∨ b = none) : a.or (b.or c) = b.or (a.or c) := by
  rcases h with h | h <;> subst h <;> simp
/-- One more is done. -/
theorem SLr_add {D : Nat → Bool} {i : Nat} {δ : Dl} (hi : D i = false) : ∀ {later earlier : List (Nat × Dl)}, (∀ j ε, (j, ε) ∈ later → j ≠ i) → (∀ j ε, (j, ε) ∈ earlier → j ≠ i) →
    (∀ j ε, (j, ε) ∈ later → D j = true → ∀ k, (look ε.t k = none ∨ look δ.t k = none) ∧ (look ε.h k = none ∨ look δ.h k = none) ∧ (look ε.g k = none ∨ look δ.g k = none)) →
    Same ((SLr s0 D (later ++ (i, δ) :: earlier)).plus δ) (SLr s0 (fun j => D j || Nat.beq j i) (later ++ (i, δ) :: earlier))
  | [], earlier, h1, h2, h3 => by
    have e : SLr s0 (fun j => D j || Nat.beq j i) earlier = SLr s0 D earlier := SLr_congr s0 fun j ε hj => by
      have : Nat.beq j i = false := by
        cases hb : Nat.beq j i
        · rfl
        · exact absurd (Nat.eq_of_beq_eq_true hb) (h2 j ε hj)
      simp [this]
    simp only [List.nil_append, SLr, hi, Nat.beq_refl, Bool.or_true, e]
    exact ⟨fun _ => rfl, fun _ => rfl, fun _ => rfl⟩
  | (j, ε) :: later, earlier, h1, h2, h3 => by
    have ih := SLr_add (δ := δ) hi (later := later) (earlier := earlier) (fun j ε hj => h1 j ε (List.mem_cons_of_mem _ hj)) h2 (fun j ε hj => h3 j ε (List.mem_cons_of_mem _ hj))
    have hb : Nat.beq j i = false := by
      cases hb : Nat.beq j i
      · rfl
      · exact absurd (Nat.eq_of_beq_eq_true hb) (h1 j ε (by simp))
    simp only [List.cons_append, SLr, hb, Bool.or_false]
    cases hD : D j with
    | false => exact ih
    | true =>
      have hd := h3 j ε (by simp) hD
      refine ⟨fun k => ?_, fun k => ?_, fun k => ?_⟩
      · have := ih.tmps k
        simp only [AS.plus, look_append] at this ⊢
        rw [← this, or_swap]
        rcases (hd k).1 with h | h
        · exact .inr h
        · exact .inl h
      · have := ih.heap k
        simp only [AS.plus, look_append] at this ⊢
        rw [← this, or_swap]
        rcases (hd k).2.1 with h | h
        · exact .inr h
        · exact .inl h
      · have := ih.tags k
        simp only [AS.plus, look_append] at this ⊢
        rw [← this, or_swap]
        rcases (hd k).2.2 with h | h
        · exact .inr h
        · exact .inl h
end

/-- The keys that each operation names, in a run in the order of the text. -/
def roughs (P : Program) (Γ : TT) (nt : Nat) (ann : List (Nat × Ann)) (ops : Array Oper) : List Oper → Nat → AS → List (Nat × Keys) → List (Nat × Keys)
  | [], _, _, acc => acc
  | o :: r, i, s, acc => match oper1 P Γ nt ann ops s o with
    | some (s', _) => roughs P Γ nt ann ops r (i + 1) s' ((i, (deltaOf s s').keys) :: acc)
    | none => acc
/-- The keys of those that may come ahead of or behind one. -/
def others (At : List (Nat × List Nat)) (i : Nat) : List (Nat × Keys) → Keys
  | [] => ([], [], [])
  | (j, K) :: r => match Nat.beq i j || (among ((look At i).getD []) j || among ((look At j).getD []) i) with
    | true => others At i r
    | false => (K.1 ++ (others At i r).1, K.2.1 ++ (others At i r).2.1, K.2.2 ++ (others At i r).2.2)
def drawGo (P : Program) (Γ : TT) (nt : Nat) (ann : List (Nat × Ann)) (ops : Array Oper) (s0 : AS) (A : Nat → List Nat) (R : Nat → Keys) : List Oper → Nat → List (Nat × Dl) → List Prop → Option (List (Nat × Dl) × List Prop)
  | [], _, l, os => some (l, os)
  | o :: r, i, l, os => match oper1 P Γ nt ann ops (remS (R i) (SLr s0 (among (A i)) l)) o with
    | some (s', os') => drawGo P Γ nt ann ops s0 A R r (i + 1) ((i, deltaOf (remS (R i) (SLr s0 (among (A i)) l)) s') :: l) (os ++ os')
    | none => none
def allIn {α : Type} (r : List Nat) : List (Nat × α) → Bool
  | [] => true
  | (k, _) :: l => among r k && allIn r l
def noneIn {α : Type} (r : List Nat) : List (Nat × α) → Bool
  | [] => true
  | (k, _) :: l => !among r k && noneIn r l
theorem allIn_look {α : Type} {r : List Nat} : ∀ {l : List (Nat × α)} {k : Nat}, allIn r l = true → isS (look l k) = true → among r k = true
  | [], k, h, hk => by cases hk
  | (j, v) :: l, k, h, hk => by
    simp only [allIn, Bool.and_eq_true] at h
    rw [look_cons] at hk
    split at hk
    · rename_i e; subst e; exact h.1
    · exact allIn_look h.2 hk
theorem noneIn_look {α : Type} {r : List Nat} : ∀ {l : List (Nat × α)} {k : Nat}, noneIn r l = true → isS (look l k) = true → among r k = false
  | [], k, h, hk => by cases hk
  | (j, v) :: l, k, h, hk => by
    simp only [noneIn, Bool.and_eq_true, Bool.not_eq_true'] at h
    rw [look_cons] at hk
    split at hk
    · rename_i e; subst e; exact h.1
    · exact noneIn_look h.2 hk
def Dl.inR (R : Keys) (δ : Dl) : Bool := allIn R.1 δ.t && (allIn R.2.1 δ.h && allIn R.2.2 δ.g)
def Dl.outR (R : Keys) (δ : Dl) : Bool := noneIn R.1 δ.t && (noneIn R.2.1 δ.h && noneIn R.2.2 δ.g)
def ltAll (i : Nat) : List Nat → Bool
  | [] => true
  | j :: r => Nat.blt j i && ltAll i r
def viaE (A : Nat → List Nat) (es : List Nat) : List Nat → Bool
  | [] => true
  | j :: r => (among es j || es.any fun e => among (A e) j) && viaE A es r
def pairOk (A : Nat → List Nat) (R : Nat → Keys) (i : Nat) : List (Nat × Dl) → Bool
  | [] => true
  | (j, ε) :: l => (match Nat.beq i j with
    | true => ε.outR (R i)
    | false => among (A i) j || (among (A j) i || ε.inR (R i))) && pairOk A R i l
def drawOk (A : Nat → List Nat) (R : Nat → Keys) (l : List (Nat × Dl)) : List Oper → Nat → Bool
  | [], _ => true
  | o :: r, i => ltAll i (edges o) && (ltAll i (A i) && (viaE A (edges o) (A i) && (pairOk A R i l && drawOk A R l r (i + 1))))

def draw (P : Program) (Γ : TT) (nt : Nat) (ann : List (Nat × Ann)) (ops : Array Oper) (s : AS) : Option (AS × List Prop) :=
  let At := ancTab ops.toList 0 []
  let rg := roughs P Γ nt (filterM ann) ops ops.toList 0 s []
  let A : Nat → List Nat := fun i => (look At i).getD []
  let R : Nat → Keys := fun i => others At i rg
  match drawGo P Γ nt (filterM ann) ops s A R ops.toList 0 [] [] with
  | some (l, os) => match drawOk A R l ops.toList 0 with
    | true => some (SLr s (fun _ => true) l, os)
    | false => none
  | none => none

theorem drawGo_spec {P : Program} {Γ : TT} {nt : Nat} {ann : List (Nat × Ann)} (hN : ∀ i a, look ann i = some a → isM a = false) {ops : Array Oper} {s0 : AS} {A : Nat → List Nat} {R : Nat → Keys} : ∀ {l : List Oper} {k : Nat} {ds ds' : List (Nat × Dl)} {os os' : List Prop}, drawGo P Γ nt ann ops s0 A R l k ds os = some (ds', os') → (∀ j δ, (j, δ) ∈ ds → j < k) →
    (∃ pre, ds' = pre ++ ds ∧ ∀ j δ, (j, δ) ∈ pre → k ≤ j ∧ j < k + l.length) ∧ (All os' → All os) ∧ ∀ m o, l[m]? = some o → ∃ δ later earlier osi, ds' = later ++ (k + m, δ) :: earlier ∧ (∀ j ε, (j, ε) ∈ later → k + m < j) ∧ (∀ j ε, (j, ε) ∈ earlier → j < k + m) ∧
      (∀ t, Ext (remS (R (k + m)) (SLr s0 (among (A (k + m))) earlier)) t → Fresh δ (remS (R (k + m)) (SLr s0 (among (A (k + m))) earlier)) t → oper1 P Γ nt ann ops t o = some (t.plus δ, osi)) ∧ (All os' → All osi)
  | [], k, ds, ds', os, os', h, hk => by
    cases h
    exact ⟨⟨[], rfl, fun j δ hj => by simp at hj⟩, id, fun m o ho => by simp at ho⟩
  | o :: l, k, ds, ds', os, os', h, hk => by
    simp only [drawGo] at h
    split at h
    · rename_i s' os1 h1
      obtain ⟨δ, e, hm⟩ := oper1_mono P Γ nt hN ops o _ s' os1 h1
      subst e
      rw [deltaOf_plus] at h
      obtain ⟨⟨pre, e1, hpre⟩, h2, h3⟩ := drawGo_spec hN h (fun j ε hj => by
        rcases List.mem_cons.1 hj with hj | hj
        · cases hj; omega
        · have := hk j ε hj; omega)
      refine ⟨⟨pre ++ [(k, δ)], by rw [e1]; simp, fun j ε hj => ?_⟩, fun ho => (All_append.1 (h2 ho)).1, fun m o' ho' => ?_⟩
      · rw [List.length_cons]
        rcases List.mem_append.1 hj with hj | hj
        · have := hpre j ε hj; omega
        · simp at hj; omega
      · match m, ho' with
        | 0, ho' =>
          simp at ho'
          subst ho'
          refine ⟨δ, pre, ds, os1, e1, fun j ε hj => ?_, fun j ε hj => ?_, hm, fun ho => (All_append.1 (h2 ho)).2⟩
          · have := hpre j ε hj; omega
          · have := hk j ε hj; omega
        | m + 1, ho' =>
          obtain ⟨δ', later, earlier, osi, a1, a2, a3, a4, a5⟩ := h3 m o' (by simpa using ho')
          have e2 : k + 1 + m = k + (m + 1) := by omega
          rw [e2] at a1 a2 a3 a4
          exact ⟨δ', later, earlier, osi, a1, a2, a3, a4, a5⟩
    · cases h

theorem drawOk_spec {A : Nat → List Nat} {R : Nat → Keys} {ds : List (Nat × Dl)} : ∀ {l : List Oper} {k : Nat}, drawOk A R ds l k = true → ∀ m o, l[m]? = some o → ltAll (k + m) (edges o) = true ∧ ltAll (k + m) (A (k + m)) = true ∧ viaE A (edges o) (A (k + m)) = true ∧ pairOk A R (k + m) ds = true
  | [], k, h, m, o, ho => by simp at ho
  | o' :: l, k, h, m, o, ho => by
    simp only [drawOk, Bool.and_eq_true] at h
    obtain ⟨h1, h2, h3, h4, h5⟩ := h
    match m, ho with
    | 0, ho =>
      simp at ho
      subst ho
      exact ⟨h1, h2, h3, h4⟩
    | m + 1, ho =>
      have := drawOk_spec h5 m o (by simpa using ho)
      have e2 : k + 1 + m = k + (m + 1) := by omega
      rw [e2] at this
      exact this
theorem ltAll_mem {i : Nat} : ∀ {l : List Nat}, ltAll i l = true → ∀ j ∈ l, j < i
  | [], h, j, hj => by simp at hj
  | x :: l, h, j, hj => by
    simp only [ltAll, Bool.and_eq_true] at h
    rcases List.mem_cons.1 hj with rfl | hj
    · exact Nat.le_of_ble_eq_true h.1
    · exact ltAll_mem h.2 j hj
theorem viaE_mem {A : Nat → List Nat} {es : List Nat} : ∀ {l : List Nat}, viaE A es l = true → ∀ j ∈ l, j ∈ es ∨ ∃ e ∈ es, j ∈ A e
  | [], h, j, hj => by simp at hj
  | x :: l, h, j, hj => by
    simp only [viaE, Bool.and_eq_true, Bool.or_eq_true, List.any_eq_true] at h
    rcases List.mem_cons.1 hj with rfl | hj
    · rcases h.1 with h1 | ⟨e, he, h1⟩
      · exact .inl (among_mem.1 h1)
      · exact .inr ⟨e, he, among_mem.1 h1⟩
    · exact viaE_mem h.2 j hj
theorem pairOk_mem {A : Nat → List Nat} {R : Nat → Keys} {i : Nat} : ∀ {l : List (Nat × Dl)}, pairOk A R i l = true → ∀ j ε, (j, ε) ∈ l → (i = j → ε.outR (R i) = true) ∧ (i ≠ j → j ∉ A i → i ∉ A j → ε.inR (R i) = true)
  | [], h, j, ε, hj => by simp at hj
  | (x, δ) :: l, h, j, ε, hj => by
    simp only [pairOk, Bool.and_eq_true] at h
    rcases List.mem_cons.1 hj with e | hj
    · cases e
      have h1 := h.1
      split at h1
      · rename_i hb
        have := Nat.eq_of_beq_eq_true hb
        subst this
        exact ⟨fun _ => h1, fun hn => absurd rfl hn⟩
      · rename_i hb
        refine ⟨fun e => ?_, fun _ a1 a2 => ?_⟩
        · subst e
          rw [Nat.beq_refl] at hb
          cases hb
        · simp only [Bool.or_eq_true] at h1
          rcases h1 with h1 | h1 | h1
          · exact absurd (among_mem.1 h1) a1
          · exact absurd (among_mem.1 h1) a2
          · exact h1
    · exact pairOk_mem h.2 j ε hj

theorem inR_none {R : Keys} {δ : Dl} (h : δ.inR R = true) (k : Nat) : (among R.1 k = false → look δ.t k = none) ∧ (among R.2.1 k = false → look δ.h k = none) ∧ (among R.2.2 k = false → look δ.g k = none) := by
  simp only [Dl.inR, Bool.and_eq_true] at h
  refine ⟨fun hk => isS_none fun hs => ?_, fun hk => isS_none fun hs => ?_, fun hk => isS_none fun hs => ?_⟩
  · have := allIn_look h.1 hs; rw [hk] at this; cases this
  · have := allIn_look h.2.1 hs; rw [hk] at this; cases this
  · have := allIn_look h.2.2 hs; rw [hk] at this; cases this
theorem outR_not {R : Keys} {δ : Dl} (h : δ.outR R = true) (k : Nat) : (isS (look δ.t k) = true → among R.1 k = false) ∧ (isS (look δ.h k) = true → among R.2.1 k = false) ∧ (isS (look δ.g k) = true → among R.2.2 k = false) := by
  simp only [Dl.outR, Bool.and_eq_true] at h
  exact ⟨noneIn_look h.1, noneIn_look h.2.1, noneIn_look h.2.2⟩

theorem filter_lt {p q : Nat → Bool} : ∀ {l : List Nat}, (∀ x, q x = true → p x = true) → ∀ {i : Nat}, i ∈ l → p i = true → q i = false → (l.filter q).length < (l.filter p).length
  | [], h, i, hi, hp, hq => by simp at hi
  | x :: l, h, i, hi, hp, hq => by
    have hle : ∀ l : List Nat, (l.filter q).length ≤ (l.filter p).length := by
      intro l
      induction l with
      | nil => simp
      | cons y l ih =>
        simp only [List.filter_cons]
        cases hqy : q y with
        | true => rw [h y hqy]; simp; omega
        | false =>
          cases hpy : p y
          · simpa using ih
          · simp; omega
    simp only [List.filter_cons]
    rcases List.mem_cons.1 hi with rfl | hi
    · rw [hp, hq]
      have := hle l
      simp
      omega
    · have ih := filter_lt (l := l) h hi hp hq
      cases hqy : q x with
      | true => rw [h x hqy]; simp; omega
      | false =>
        cases hpy : p x
        · simpa using ih
        · simp; omega

/-- Every order leaves the state of the text's order. -/
theorem draw_any {P : Program} {Γ : TT} (hΓ : Γok P Γ) {C : Ctx} {ann : List (Nat × Ann)} (hN : ∀ i a, look ann i = some a → isM a = false) {ops : Array Oper} {s0 : AS} {A : Nat → List Nat} {R : Nat → Keys} {ds : List (Nat × Dl)} {os : List Prop}
    (hgo : drawGo P Γ C.nt ann ops s0 A R ops.toList 0 [] [] = some (ds, os)) (hok : drawOk A R ds ops.toList 0 = true) (ho : All os) {E : Exit → Act → World → Prop}
    (hE : ∀ G a w, RelG C G (SLr s0 (fun _ => true) ds) a w → E .normal a w) :
    ∀ (fuel : Nat) (listed : Array Bool) (G : Env) (a : Act) (w : World), listed.size = ops.size → (∀ i, listed.getD i false = true → ∀ j ∈ A i, listed.getD j false = true) →
      ((List.range ops.size).filter fun i => !listed.getD i false).length ≤ fuel → RelG C G (SLr s0 (fun i => listed.getD i false) ds) a w → wpAny P .any ops E fuel listed a w := by
  obtain ⟨⟨pre, e0, hpre⟩, _, hspec⟩ := drawGo_spec hN hgo (fun j δ hj => by simp at hj)
  have hidx : ∀ j ε, (j, ε) ∈ ds → j < ops.size := by
    intro j ε hj
    rw [e0, List.append_nil] at hj
    have := (hpre j ε hj).2
    simpa using this
  have hspec' : ∀ i o, ops[i]? = some o → ∃ δ later earlier osi, ds = later ++ (i, δ) :: earlier ∧ (∀ j ε, (j, ε) ∈ later → i < j) ∧ (∀ j ε, (j, ε) ∈ earlier → j < i) ∧
      (∀ t, Ext (remS (R i) (SLr s0 (among (A i)) earlier)) t → Fresh δ (remS (R i) (SLr s0 (among (A i)) earlier)) t → oper1 P Γ C.nt ann ops t o = some (t.plus δ, osi)) ∧ All osi := by
    intro i o hio
    obtain ⟨δ, later, earlier, osi, a1, a2, a3, a4, a5⟩ := hspec i o (by simpa using hio)
    rw [Nat.zero_add] at a1 a2 a3 a4
    exact ⟨δ, later, earlier, osi, a1, a2, a3, a4, a5 ho⟩
  have hchk : ∀ i o, ops[i]? = some o → ltAll i (edges o) = true ∧ ltAll i (A i) = true ∧ viaE A (edges o) (A i) = true ∧ pairOk A R i ds = true := by
    intro i o hio
    have := drawOk_spec hok i o (by simpa using hio)
    rwa [Nat.zero_add] at this
  -- who is listed, and what an operation that may come up needs
  have done : ∀ (listed : Array Bool), listed.size = ops.size → Region.ready .any ops listed = [] → ∀ i, i < ops.size → listed.getD i false = true := by
    intro listed hsz hr i
    induction i using Nat.strongRecOn with
    | ind i ih =>
      intro hi
      cases hl : listed.getD i false with
      | true => rfl
      | false =>
        exfalso
        have hio : ops[i]? = some ops[i] := Array.getElem?_eq_getElem hi
        have hmem : i ∈ Region.ready .any ops listed := by
          rw [mem_ready]
          refine ⟨?_, _, hio, fun e he hb => ?_⟩
          · simp only [Array.getD_eq_getD_getElem?] at hl ⊢
            rw [Array.getElem?_eq_getElem (by omega)] at hl ⊢
            exact hl
          · have hlt := ltAll_mem (hchk i _ hio).1 e.on (by
              simp only [edges, List.mem_map, List.mem_filter]
              exact ⟨e, ⟨by simpa using he, hb⟩, rfl⟩)
            exact ih e.on hlt (by omega)
        rw [hr] at hmem
        cases hmem
  intro fuel
  induction fuel with
  | zero =>
    intro listed G a w hsz hcl hcnt hR
    have hall : ∀ i, i < ops.size → listed.getD i false = true := by
      intro i hi
      cases hl : listed.getD i false with
      | true => rfl
      | false =>
        exfalso
        have : i ∈ (List.range ops.size).filter fun i => !listed.getD i false := by
          rw [List.mem_filter]
          exact ⟨List.mem_range.2 hi, by rw [hl]; rfl⟩
        have := List.length_pos_of_mem this
        omega
    refine ⟨?_, hE G a w ?_⟩
    · rw [List.eq_nil_iff_forall_not_mem]
      intro i hi
      obtain ⟨h0, o, hio, _⟩ := mem_ready.1 hi
      have hlt : i < ops.size := (Array.getElem?_eq_some_iff.1 hio).1
      have := hall i hlt
      simp only [Array.getD_eq_getD_getElem?] at this h0
      rw [Array.getElem?_eq_getElem (by omega)] at this h0
      simp only [Option.getD_some] at this h0
      rw [this] at h0
      cases h0
    · have : SLr s0 (fun i => listed.getD i false) ds = SLr s0 (fun _ => true) ds := SLr_congr s0 fun j δ hj => hall j (hidx j δ hj)
      rw [← this]
      exact hR
  | succ fuel ih =>
    intro listed G a w hsz hcl hcnt hR
    refine ⟨fun hr => ?_, fun i hi => ?_⟩
    · refine hE G a w ?_
      have : SLr s0 (fun i => listed.getD i false) ds = SLr s0 (fun _ => true) ds := SLr_congr s0 fun j δ hj => done listed hsz hr j (hidx j δ hj)
      rw [← this]
      exact hR
    · obtain ⟨h0, o, hio, hafter⟩ := mem_ready.1 hi
      have hilt : i < ops.size := (Array.getElem?_eq_some_iff.1 hio).1
      have hDi : listed.getD i false = false := by
        simp only [Array.getD_eq_getD_getElem?] at h0 ⊢
        rw [Array.getElem?_eq_getElem (by omega)] at h0 ⊢
        exact h0
      obtain ⟨δ, later, earlier, osi, e, hl, he, hmono, hosi⟩ := hspec' i o hio
      obtain ⟨c1, c2, c3, c4⟩ := hchk i o hio
      have hedge : ∀ x ∈ edges o, listed.getD x false = true := by
        intro x hx
        simp only [edges, List.mem_map, List.mem_filter] at hx
        obtain ⟨ed, ⟨h1, h2⟩, rfl⟩ := hx
        exact hafter ed (by simpa using h1) h2
      have hA : ∀ j ∈ A i, listed.getD j false = true := by
        intro j hj
        rcases viaE_mem c3 j hj with h1 | ⟨x, hx, h1⟩
        · exact hedge j h1
        · exact hcl x (hedge x hx) j h1
      have hnA : ∀ j, listed.getD j false = true → i ∉ A j := fun j hj hm => by
        have := hcl j hj i hm
        rw [hDi] at this
        cases this
      have hiA : among (A i) i = false := by
        cases hb : among (A i) i
        · rfl
        · have := ltAll_mem c2 i (among_mem.1 hb); omega
      have hcut : SLr s0 (among (A i)) ds = SLr s0 (among (A i)) earlier := by
        rw [e]
        have : ∀ later : List (Nat × Dl), (∀ j ε, (j, ε) ∈ later → i < j) → SLr s0 (among (A i)) (later ++ (i, δ) :: earlier) = SLr s0 (among (A i)) earlier := by
          intro later
          induction later with
          | nil => intro _; simp only [List.nil_append, SLr, hiA]
          | cons x later ih2 =>
            intro h
            obtain ⟨j, ε⟩ := x
            have hj : among (A i) j = false := by
              cases hb : among (A i) j
              · rfl
              · have := ltAll_mem c2 j (among_mem.1 hb)
                have := h j ε (by simp)
                omega
            simp only [List.cons_append, SLr, hj]
            exact ih2 fun j ε hj => h j ε (List.mem_cons_of_mem _ hj)
        exact this later hl
      have hother : ∀ j ε, (j, ε) ∈ ds → listed.getD j false = true → among (A i) j = false → ε.inR (R i) = true := by
        intro j ε hj hD hB
        have hne : i ≠ j := fun e2 => by subst e2; rw [hDi] at hD; cases hD
        exact (pairOk_mem c4 j ε hj).2 hne (fun hm => by rw [among_mem.2 hm] at hB; cases hB) (hnA j hD)
      have hBD : ∀ j, among (A i) j = true → listed.getD j false = true := fun j hj => hA j (among_mem.1 hj)
      have hk : ∀ k, (among (R i).1 k = false → look (SLr s0 (fun i => listed.getD i false) ds).tmps k = look (SLr s0 (among (A i)) earlier).tmps k) ∧
          (among (R i).2.1 k = false → look (SLr s0 (fun i => listed.getD i false) ds).heap k = look (SLr s0 (among (A i)) earlier).heap k) ∧
          (among (R i).2.2 k = false → look (SLr s0 (fun i => listed.getD i false) ds).tags k = look (SLr s0 (among (A i)) earlier).tags k) := by
        intro k
        obtain ⟨m1, m2, m3⟩ := SLr_more s0 (D := fun i => listed.getD i false) (B := among (A i)) (l := ds) hBD k
        rw [hcut] at m1 m2 m3
        exact ⟨fun hr => m1 fun j ε hj hD hB => (inR_none (hother j ε hj hD hB) k).1 hr, fun hr => m2 fun j ε hj hD hB => (inR_none (hother j ε hj hD hB) k).2.1 hr, fun hr => m3 fun j ε hj hD hB => (inR_none (hother j ε hj hD hB) k).2.2 hr⟩
      have hext : Ext (remS (R i) (SLr s0 (among (A i)) earlier)) (SLr s0 (fun i => listed.getD i false) ds) := by
        refine ⟨fun k v hv => ?_, fun k v hv => ?_, fun k v hv => ?_⟩
        · simp only [remS, look_remK] at hv
          split at hv
          · cases hv
          · rename_i hn; rw [(hk k).1 (by simpa using hn)]; exact hv
        · simp only [remS, look_remK] at hv
          split at hv
          · cases hv
          · rename_i hn; rw [(hk k).2.1 (by simpa using hn)]; exact hv
        · simp only [remS, look_remK] at hv
          split at hv
          · cases hv
          · rename_i hn; rw [(hk k).2.2 (by simpa using hn)]; exact hv
      have hout : δ.outR (R i) = true := (pairOk_mem c4 i δ (by rw [e]; simp)).1 rfl
      have hfresh : Fresh δ (remS (R i) (SLr s0 (among (A i)) earlier)) (SLr s0 (fun i => listed.getD i false) ds) := by
        refine ⟨fun k hs hn => ?_, fun k hs hn => ?_⟩
        · have hr := (outR_not hout k).2.1 hs
          rw [(hk k).2.1 hr]
          simp only [remS, look_remK] at hn
          rw [if_neg (by rw [hr]; decide)] at hn
          exact hn
        · have hr := (outR_not hout k).2.2 hs
          rw [(hk k).2.2 hr]
          simp only [remS, look_remK] at hn
          rw [if_neg (by rw [hr]; decide)] at hn
          exact hn
      have hstep := hmono _ hext hfresh
      have hset : ∀ j, (listed.setIfInBounds i true).getD j false = (listed.getD j false || Nat.beq j i) := by
        intro j
        by_cases hji : j = i
        · subst hji
          simp [Array.getElem?_setIfInBounds, show j < listed.size by omega]
        · rw [getD_set_ne false (Ne.symm hji)]
          have : Nat.beq j i = false := by
            cases hb : Nat.beq j i
            · rfl
            · exact absurd (Nat.eq_of_beq_eq_true hb) hji
          rw [this, Bool.or_false]
      have key := oper1_sound (Q := E) (K := wpAny P .any ops E fuel (listed.setIfInBounds i true)) hΓ hR hstep hosi (fun G' a' w' h' => by
        refine ih (listed.setIfInBounds i true) G' a' w' (by simpa using hsz) (fun x hx j hj => ?_) ?_ ?_
        · rw [hset] at hx ⊢
          simp only [Bool.or_eq_true] at hx ⊢
          rcases hx with hx | hx
          · exact .inl (hcl x hx j hj)
          · have := Nat.eq_of_beq_eq_true hx
            subst this
            exact .inl (hA j hj)
        · have := filter_lt (p := fun i => !listed.getD i false) (q := fun j => !(listed.setIfInBounds i true).getD j false) (l := List.range ops.size) (fun x hx => by
            simp only [hset, Bool.not_or, Bool.and_eq_true] at hx
            exact hx.1) (i := i) (List.mem_range.2 hilt) (by simp only [hDi]; rfl) (by simp only [hset, Nat.beq_refl, Bool.or_true]; rfl)
          omega
        · have hsame := SLr_add s0 (D := fun i => listed.getD i false) (i := i) (δ := δ) hDi (later := later) (earlier := earlier) (fun j ε hj => by have := hl j ε hj; omega) (fun j ε hj => by have := he j ε hj; omega) (fun j ε hj hD k => by
            have hjd : (j, ε) ∈ ds := by rw [e]; exact List.mem_append_left _ hj
            have hji : among (A i) j = false := by
              cases hb : among (A i) j
              · rfl
              · have := ltAll_mem c2 j (among_mem.1 hb)
                have := hl j ε hj
                omega
            have hin := hother j ε hjd hD hji
            obtain ⟨n1, n2, n3⟩ := inR_none hin k
            obtain ⟨o1, o2, o3⟩ := outR_not hout k
            refine ⟨?_, ?_, ?_⟩
            · cases hd : look δ.t k with
              | none => exact .inr rfl
              | some v => exact .inl (n1 (o1 (by rw [hd]; rfl)))
            · cases hd : look δ.h k with
              | none => exact .inr rfl
              | some v => exact .inl (n2 (o2 (by rw [hd]; rfl)))
            · cases hd : look δ.g k with
              | none => exact .inr rfl
              | some v => exact .inl (n3 (o3 (by rw [hd]; rfl))))
          rw [← e] at hsame
          have hcg : SLr s0 (fun j => (listed.setIfInBounds i true).getD j false) ds = SLr s0 (fun j => listed.getD j false || Nat.beq j i) ds := SLr_congr s0 fun j ε _ => hset j
          rw [hcg]
          exact h'.same hsame)
      unfold wpOp
      rw [hio]
      simp only
      split at key
      · rename_i hw
        rw [if_pos hw]
        exact .inl key
      · rename_i hw
        rw [if_neg hw]
        exact key

theorem draw_sound {P : Program} {Γ : TT} (hΓ : Γok P Γ) {C : Ctx} {ann : List (Nat × Ann)} {ops : Array Oper} {s s' : AS} {os : List Prop} (hd : draw P Γ C.nt ann ops s = some (s', os)) (ho : All os) {E : Exit → Act → World → Prop} (hE : ∀ G a w, RelG C G s' a w → E .normal a w)
    {G : Env} {a : Act} {w : World} (h : RelG C G s a w) : wpAny P .any ops E ops.size (Array.replicate ops.size false) a { w with drawn := w.drawn + 1 } := by
  simp only [draw] at hd
  split at hd
  · rename_i l os1 h1
    split at hd
    · rename_i hok
      cases hd
      have hfalse : ∀ i, (Array.replicate ops.size false).getD i false = false := by
        intro i
        simp only [Array.getD_eq_getD_getElem?, Array.getElem?_replicate]
        split <;> rfl
      refine draw_any hΓ (fun i a ha => filterM_look ha) h1 hok ho hE ops.size _ G a _ (by simp) (fun i hi => by rw [hfalse] at hi; cases hi) (Nat.le_trans (List.length_filter_le _ _) (by simp)) ?_
      have e : SLr s (fun i => (Array.replicate ops.size false).getD i false) l = s := by
        have : ∀ l : List (Nat × Dl), SLr s (fun i => (Array.replicate ops.size false).getD i false) l = s := by
          intro l
          induction l with
          | nil => rfl
          | cons x l ih =>
            obtain ⟨j, δ⟩ := x
            simp only [SLr, hfalse] at ih ⊢
            exact ih
        exact this l
      rw [e]
      exact h.drew
    · cases hd
  · cases hd
end Go.AX
end

section
set_option linter.unusedVariables false
set_option linter.unusedSimpArgs false
namespace Go.AX
open Go Go.RowKit

def fbody (f : Func) : Code := f.body.getD .skip
/-- The loops of a text, each as what is to be done at its head. -/
def heads : Code → List Item → List (List Item)
  | .seq a b, k => heads a (.code b :: k) ++ heads b k
  | .cond _ t e, k => heads t k ++ heads e k
  | .block id c, k => heads c (.inBlock id :: k)
  | .loop c, k => (.code c :: .inLoop c :: k) :: heads c (.inLoop c :: k)
  | .scope c, k => heads c (.inScope c :: k)
  | _, _ => []
/-- The regions of a text, each with what is to be done from there on. -/
def regs : Code → List Item → List (Nat × List Item)
  | .seq a b, k => regs a (.code b :: k) ++ regs b k
  | .cond _ t e, k => regs t k ++ regs e k
  | .block id c, k => regs c (.inBlock id :: k)
  | .loop c, k => regs c (.inLoop c :: k)
  | .scope c, k => regs c (.inScope c :: k)
  | .region id ops d, k => [(id, .code (.region id ops d) :: k)]
  | _, _ => []
def pr (f : Func) (id : Nat) : List Item := (look (regs (fbody f) []) id).getD []
def pt (f : Func) (i : Nat) : List Item := (heads (fbody f) []).getD i []
def p0 (f : Func) : List Item := [.code (fbody f)]

/-- How a function ends: with a result; or, where memory is lent, with that memory and a result. -/
inductive Fin
  | pure (zs : List Nat) (res : AV)
  | mem (zs : List Nat) (M : MemS) (res : AV)
def retF (Γ : TT) (s : AS) (rs : List ResultVar) : Fin → Option (List Prop)
  | .pure zs res => retP Γ zs s rs res
  | .mem zs M res => retPM Γ zs s rs M res
def EndsA (Γ : TT) (F : Fin) (f : Func) (s : AS) : Prop := ∃ os, retF Γ s f.results.toList F = some os ∧ All os
theorem Ctr.mk {P : Program} {Γ : TT} (hΓ : Γok P Γ) {f : FuncId} {fn : Func} (hf : P.funcs[f]? = some fn) (hb : fn.body = some (fbody fn)) (hcall : ∀ vs w, (callFunc f vs).run P w = .ok (.enter f vs) w) (zs : List Nat) {args : List AV} {res : AV} (hl : Nat.ble args.length fn.ntmps = true)
    (h : HT P fn.ntmps (p0 fn) (st0 args) (EndsA Γ (.pure zs res) fn)) : Ctr P f args res :=
  Ctr.of hΓ hf hb hcall zs (Nat.le_of_ble_eq_true hl) h
theorem CtrM.mk {P : Program} {Γ : TT} (hΓ : Γok P Γ) {f : FuncId} {fn : Func} (hf : P.funcs[f]? = some fn) (hb : fn.body = some (fbody fn)) (hcall : ∀ vs w, (callFunc f vs).run P w = .ok (.enter f vs) w) (zs : List Nat) {M M' : MemS} {args : List AV} {res : AV} (hl : Nat.ble args.length fn.ntmps = true)
    (hk : keysIn M'.heap M.heap = true) (ht : keysIn M'.tags M.tags = true)
    (h : HT P fn.ntmps (p0 fn) (stM args M) (EndsA Γ (.mem zs M' res) fn)) : CtrM P f M args M' res :=
  CtrM.of hΓ hf hb hcall zs (Nat.le_of_ble_eq_true hl) hk ht h

/-- Arguments of which more is known. -/
theorem Ctr.args {P : Program} {f : FuncId} {xs ys : List AV} {res : AV} (h : Ctr P f xs res) {os : List Prop} (hl : leL ys xs = some os) (ho : All os) : Ctr P f ys res := by
  refine ⟨h.1, fun w F vs hF ha => h.2 w F vs hF ?_⟩
  obtain ⟨h1, h2⟩ := leL_get hl ho
  refine ⟨by rw [← h1]; exact ha.1, fun i c v hc hv => ?_⟩
  have hlt : i < ys.length := by rw [h1]; exact (List.getElem?_eq_some_iff.1 hc).1
  obtain ⟨os', h3, h4⟩ := h2 i ys[i] c (List.getElem?_eq_getElem hlt) hc
  exact leP_rep (ha.2 i ys[i] v (List.getElem?_eq_getElem hlt) hv) h3 h4

theorem i64_wrap {i : Int} (h0 : -9223372036854775808 ≤ i) (h : i ≤ 9223372036854775807) : IntKind.i64.wrap i = i := IntWalk.i64_in _ (by omega)
end Go.AX
end

section
set_option linter.unusedVariables false
set_option linter.unusedSimpArgs false
namespace Go.AX
open Go Go.RowKit

/-! ### All ways through a text at once -/
/-- What is left to be shown, as a tree of ways. -/
inductive PT
  | tt
  | bad (why i : Nat)
  | ob (p : Prop) (r : PT)
  | split (b : Bool) (t f : PT)
  | or (a b : PT)
  | head (todo : List Item) (s : AS)

def PT.holds (P : Program) (nt : Nat) (Q : AS → Prop) : PT → Prop
  | .tt => True
  | .bad _ _ => False
  | .ob p r => p ∧ r.holds P nt Q
  | .split b t f => (b = true → t.holds P nt Q) ∧ (b = false → f.holds P nt Q)
  | .or a b => a.holds P nt Q ∨ b.holds P nt Q
  | .head todo s => HT P nt todo s Q

def obL : List Prop → PT → PT
  | [], r => r
  | p :: l, r => .ob p (obL l r)
theorem obL_holds {P : Program} {nt : Nat} {Q : AS → Prop} : ∀ {l : List Prop} {r : PT}, (obL l r).holds P nt Q → All l ∧ r.holds P nt Q
  | [], r, h => ⟨trivial, h⟩
  | p :: l, r, h => by
    obtain ⟨h1, h2⟩ := obL_holds (l := l) h.2
    exact ⟨All_cons.2 ⟨h.1, h1⟩, h2⟩

def idsT (s : AS) : List (Nat × AV) → Bool
  | [] => true
  | (_, v) :: r => idsOk s v && idsT s r
/-- What was lent is kept. -/
def bigIn {α : Type} (ks : List Nat) : List (Nat × α) → Bool
  | [] => true
  | (i, _) :: r => (Nat.blt i 1000000 || among ks i) && bigIn ks r
theorem bigIn_look {α : Type} {ks : List Nat} : ∀ {l : List (Nat × α)} {i : Nat}, bigIn ks l = true → isS (look l i) = true → 1000000 ≤ i → among ks i = true
  | [], i, h, hi, hb => by cases hi
  | (j, v) :: l, i, h, hi, hb => by
    simp only [bigIn, Bool.and_eq_true, Bool.or_eq_true] at h
    rw [look_cons] at hi
    split at hi
    · rename_i e
      subst e
      rcases h.1 with h1 | h1
      · have : j + 1 ≤ 1000000 := Nat.le_of_ble_eq_true h1
        omega
      · exact h1
    · exact bigIn_look h.2 hi hb
theorem pickK_keep {α : Type} {l : List (Nat × α)} : ∀ {ks : List Nat} {i : Nat}, among ks i = true → isS (look l i) = true → isS (look (pickK ks l) i) = true
  | [], i, h, hi => by cases h
  | k :: ks, i, h, hi => by
    have h : (Nat.beq i k || among ks i) = true := h
    simp only [Bool.or_eq_true] at h
    simp only [pickK]
    rcases h with h | h
    · have := Nat.eq_of_beq_eq_true h
      subst this
      obtain ⟨v, hv⟩ := isS_some hi
      rw [hv]
      simp [look_cons, isS]
    · split
      · rw [look_cons]
        split
        · rfl
        · exact pickK_keep h hi
      · exact pickK_keep h hi
def prune (ls hs gs : List Nat) (s : AS) : Option AS :=
  let s' : AS := ⟨pickK ls s.tmps, pickK hs s.heap, pickK gs s.tags⟩
  match idsT s' s'.tmps, idsH s' s'.heap, bigIn hs s.heap && bigIn gs s.tags with
  | true, true, true => some s'
  | _, _, _ => none

theorem idsT_look {s : AS} : ∀ {l : List (Nat × AV)} {i : Nat} {v : AV}, idsT s l = true → look l i = some v → idsOk s v = true
  | [], i, v, h, hl => by simp [look] at hl
  | (j, u) :: r, i, v, h, hl => by
    simp only [idsT, Bool.and_eq_true] at h
    rw [look_cons] at hl
    split at hl
    · cases hl; exact h.1
    · exact idsT_look h.2 hl
theorem RelG.prune {C : Ctx} {G : Env} {s s' : AS} {a : Act} {w : World} (h : RelG C G s a w) {ls hs gs : List Nat} (hp : AX.prune ls hs gs s = some s') : RelG C (G.cut s') s' a w := by
  simp only [AX.prune] at hp
  split at hp
  · rename_i i1 i2 i3
    cases hp
    simp only [Bool.and_eq_true] at i3
    refine ⟨h.defers, h.size, fun i v hv => ?_, ⟨h.mem.keep, ⟨h.mem.le.F, h.mem.le.cell, fun i g hg => ?_, fun t r hr => ?_⟩, h.mem.fdom, h.mem.fold, fun i b hb => ?_, fun i hi => ?_, fun i j g hi hj => h.inj i j g (cut_φ hi).1 (cut_φ hj).1, fun t n ht => ?_, fun t ht => ?_, h.deep.mv (fun cells hc => ?_) (fun _ _ _ hr => (cut_τ hr).1) (fun v _ kv => kv.mv (fun _ _ => rfl) (fun _ _ _ hf => hf) (fun g hg i hi => kv.φ g hg i (cut_φ hi).1) (fun g hg t r hr => kv.τ g hg t r (cut_τ hr).1))⟩⟩
    · obtain ⟨x, hx, hr⟩ := h.slots i v (pickK_look hv)
      exact ⟨x, hx, idsOk_rep hr (idsT_look i1 hv)⟩
    · have h1 := h.mem.le.φ i g hg
      have hbig : 1000000 ≤ i := by
        rcases Nat.lt_or_ge i 1000000 with h2 | h2
        · rw [C.dom0 i h2] at hg; cases hg
        · exact h2
      have hs1 : isS (look s.heap i) = true := by
        cases hl : look s.heap i with
        | none => rw [h.noblock i hl] at h1; cases h1
        | some b => rfl
      have := pickK_keep (bigIn_look i3.1 hs1 hbig) hs1
      simp [Env.cut, this, h1]
    · obtain ⟨r', h1, h2⟩ := h.mem.le.τ t r hr
      have hbig : 1000000 ≤ t := by
        rcases Nat.lt_or_ge t 1000000 with h2 | h2
        · rw [C.domτ t h2] at hr; cases hr
        · exact h2
      have hs1 : isS (look s.tags t) = true := by
        cases hl : look s.tags t with
        | none => rw [h.notag t hl] at h1; cases h1
        | some b => rfl
      have := pickK_keep (bigIn_look i3.2 hs1 hbig) hs1
      exact ⟨r', by simp [Env.cut, this, h1], h2⟩
    · obtain ⟨g, hg, hbase, hok, hnF⟩ := h.blocks i b (pickK_look hb)
      exact ⟨g, by simp [Env.cut, hb, isS, hg], hbase, hok.cut (idsH_look i2 hb), hnF⟩
    · simp only [Env.cut]
      rw [hi]
      rfl
    · obtain ⟨r, hr, hok⟩ := h.tags t n (pickK_look ht)
      refine ⟨r, by simp [Env.cut, ht, isS, hr], ⟨hok.hn, hok.he, hok.hsz, hok.clip, hok.own, hok.one, hok.base, hok.hF, fun ho g hg i hi => hok.hφ ho g hg i (cut_φ hi).1, fun ho g hg t' r' hr' => hok.hτ ho g hg t' r' (cut_τ hr').1, fun b cells hc => ?_⟩⟩
      obtain ⟨k1, k2, k3, k4⟩ := hok.hcs b cells hc
      exact ⟨k1, k2, fun i c v hi hv => (k3 i c v hi hv).tree (fun b o hf => hf), k4⟩
    · simp only [Env.cut]
      rw [ht]
      rfl
    · obtain ⟨m, q1, q2⟩ := hc
      exact ⟨m, pickK_look q1, q2⟩
  · cases hp

/-- The parts of a walk: hints, the slots where ways part, what is kept at a loop's head, what is frozen at the end, the result. -/
structure Hd where
  ls : List Nat
  hs : List Nat
  gs : List Nat
  tg : List (Nat × Nat × TypeId × Nat)
  cv : List (Bool × Nat × Nat × Nat × TypeId × Nat)
structure Wk where
  ann : List (Nat × Ann)
  sp : List Nat
  hd : List (Nat × Hd)
  dsp : List (Nat × List (List (Nat × Bool)))
  fin : Fin

/-- The number of a text's first region. -/
def rid : Code → Nat
  | .region id _ _ => id
  | .seq a _ => rid a
  | .block _ c => rid c
  | .loop c => rid c
  | .scope c => rid c
  | .cond _ t _ => rid t
  | _ => 0

/-- A slice whose capacity is its length comes under a tag. -/
def retag0 (s : AS) (x : Nat × Nat × TypeId × Nat) : Option AS :=
  match look s.tmps x.1 with
  | some (.sl _ n cells .clip) => match look s.tags x.2.1 with
    | none => some ((s.tag x.2.1 ⟨n, x.2.2.1, x.2.2.2, none⟩).put x.1 (.sl none n cells (.own x.2.1)))
    | some _ => none
  | some (.sl _ n cells (.own t)) => some (s.put x.1 (.sl none n cells (.own t)))
  | _ => some s
/-- .. or (tag 999999) nobody asks for its capacity any more. -/
def retag1 (s : AS) (x : Nat × Nat × TypeId × Nat) : Option AS :=
  match Nat.beq x.2.1 999999 with
  | true => match look s.tmps x.1 with
    | some (.sl _ n cells _) => some (s.put x.1 (.sl none n cells .no))
    | _ => some s
  | false => retag0 s x
def retag (s : AS) : List (Nat × Nat × TypeId × Nat) → Option AS
  | [] => some s
  | x :: r => match retag1 s x with
    | some s1 => retag s1 r
    | none => none
def headAt (W : Wk) (key : Nat) (s : AS) : Option AS :=
  match look W.hd key with
  | some h => match retag s h.tg with
    | some s1 => match convAll s1 h.cv with
      | some s2 => prune h.ls h.hs h.gs s2
      | none => none
    | none => none
  | none => none
def atHead (W : Wk) (c : Code) (s : AS) : Option AS := headAt W (rid c) s

theorem put_at {C : Ctx} {G : Env} {s : AS} {a : Act} {w : World} (h : RelG C G s a w) {d : Nat} {u : AV} {y : Value} (hy : a.tmps[d]? = some y) (hu : Rep w G true u y) : RelG C G (s.put d u) a w := by
  refine ⟨h.defers, h.size, fun i x hx => ?_, h.mem⟩
  simp only [AS.put, look_cons] at hx
  split at hx
  · rename_i e
    cases hx
    subst e
    exact ⟨y, hy, hu⟩
  · exact h.slots i x hx

theorem retag0_sound {C : Ctx} {G : Env} {s s' : AS} {a : Act} {w : World} (h : RelG C G s a w) {x : Nat × Nat × TypeId × Nat} (hs : retag0 s x = some s') : ∃ G', RelG C G' s' a w := by
  unfold retag0 at hs
  split at hs
  · rename_i nl n cells hv
    split at hs
    · rename_i ht
      cases hs
      obtain ⟨y, hy, hr⟩ := h.slots x.1 _ hv
      cases hr with
      | sl _ _ _ _ _ A c vs hnl hpos hc hcell hrep hclip hown =>
        have hcn := hclip rfl
        subst hcn
        have hA : A = none → c = 0 := fun hA => by
          rcases Nat.eq_zero_or_pos c with h0 | h0
          · exact h0
          · obtain ⟨ad, e, _⟩ := hpos h0
            rw [hA] at e
            cases e
        obtain ⟨h1, hle⟩ := h.addTag (t := x.2.1) (m := ⟨c, x.2.2.1, x.2.2.2, none⟩) (r := ⟨false, .slice A c c, c, x.2.2.1, x.2.2.2, []⟩) ht rfl rfl rfl (fun _ => ⟨rfl, A, rfl, hA⟩) (fun e => by cases e) (fun cs _ hc => by cases hc) (fun b cs hc => by cases hc)
        refine ⟨_, put_at h1 hy (.sl _ _ _ _ _ A c vs (fun b e => by cases e) hpos hc (fun j z hz => ?_) (fun j z hz => (hrep j z hz).mono hle) (fun e => by cases e) (fun t e => ?_))⟩
        · obtain ⟨ad, h2, h3, h4, h5, h6⟩ := hcell j z hz
          exact ⟨ad, h2, h3, hle.F _ _ h4, h5, h6⟩
        · cases e
          exact ⟨rfl, ⟨false, .slice A c c, c, x.2.2.1, x.2.2.2, []⟩, by simp [Env.setT], Nat.le_refl _, fun _ => rfl⟩
    · cases hs
  · rename_i nl n cells t hv
    cases hs
    obtain ⟨y, hy, hr⟩ := h.slots x.1 _ hv
    refine ⟨G, put_at h hy ?_⟩
    cases hr with
    | sl _ _ _ _ _ A c vs hnl hpos hc hcell hrep hclip hown => exact .sl _ _ _ _ _ A c vs (fun b e => by cases e) hpos hc hcell hrep (fun e => by cases e) hown
  · cases hs
    exact ⟨G, h⟩
theorem retag1_sound {C : Ctx} {G : Env} {s s' : AS} {a : Act} {w : World} (h : RelG C G s a w) {x : Nat × Nat × TypeId × Nat} (hs : retag1 s x = some s') : ∃ G', RelG C G' s' a w := by
  unfold retag1 at hs
  split at hs
  · split at hs
    · rename_i nl n cells o hv
      cases hs
      obtain ⟨y, hy, hr⟩ := h.slots x.1 _ hv
      refine ⟨G, put_at h hy ?_⟩
      cases hr with
      | sl _ _ _ _ _ A c vs hnl hpos hc hcell hrep hclip hown => exact .sl _ _ _ _ _ A c vs (fun b e => by cases e) hpos hc hcell hrep (fun e => by cases e) (fun t e => by cases e)
    · cases hs
      exact ⟨G, h⟩
  · exact retag0_sound h hs
theorem retag_sound {C : Ctx} {a : Act} {w : World} : ∀ {l : List (Nat × Nat × TypeId × Nat)} {G : Env} {s s' : AS}, RelG C G s a w → retag s l = some s' → ∃ G', RelG C G' s' a w
  | [], G, s, s', h, hs => by cases hs; exact ⟨G, h⟩
  | x :: r, G, s, s', h, hs => by
    simp only [retag] at hs
    split at hs
    · rename_i s1 h1
      obtain ⟨G1, h2⟩ := retag1_sound h h1
      exact retag_sound h2 hs
    · cases hs
theorem headAt_sound {C : Ctx} {G : Env} {s s' : AS} {a : Act} {w : World} (h : RelG C G s a w) {W : Wk} {key : Nat} (hs : headAt W key s = some s') : ∃ G', RelG C G' s' a w := by
  unfold headAt at hs
  split at hs
  · split at hs
    · rename_i s1 h1
      obtain ⟨G1, h2⟩ := retag_sound h h1
      split at hs
      · rename_i s2 h3
        obtain ⟨G2, h4, _⟩ := convAll_sound h2 h3
        exact ⟨_, h4.prune hs⟩
      · cases hs
    · cases hs
  · cases hs
theorem HT.headAt {P : Program} {nt : Nat} {todo : List Item} {s s' : AS} {Q : AS → Prop} (h : HT P nt todo s' Q) {W : Wk} {key : Nat} (hp : AX.headAt W key s = some s') (hne : todo ≠ []) : HT P nt todo s Q := by
  cases todo with
  | nil => exact absurd rfl hne
  | cons x r =>
    intro C G a w hnt hR
    obtain ⟨G', h'⟩ := headAt_sound hR hp
    exact h C G' a w hnt h'

def splitK (sp : List Nat) (d : Option Nat) (s : AS) (K : AS → PT) : PT :=
  match d with
  | some d => match among sp d with
    | true => match look s.tmps d with
      | some (.bool e) => .split e (K (s.put d (.bool true))) (K (s.put d (.bool false)))
      | _ => K s
    | false => K s
  | none => K s
def walkIdx (P : Program) (Γ : TT) (nt : Nat) (W : Wk) (ops : Array Oper) : List Nat → AS → (AS → PT) → PT
  | [], s, K => K s
  | i :: rest, s, K => match ops[i]? with
    | none => .bad 1 i
    | some o => match oper1 P Γ nt W.ann ops s o with
      | some (s', os) => obL os (splitK W.sp o.dst s' fun s'' => walkIdx P Γ nt W ops rest s'' K)
      | none => .bad 2 (o.dst.getD i)

/-- The hints of one way through a drawn region. -/
def scAnn : List (Nat × Bool) → List (Nat × Ann)
  | [] => []
  | (d, b) :: r => (2000000 + d, .val (.bool b)) :: scAnn r
def drawPT (P : Program) (Γ : TT) (nt : Nat) (ann : List (Nat × Ann)) (id : Nat) (ops : Array Oper) (s : AS) (K : AS → PT) : List (List (Nat × Bool)) → PT
  | [] => match draw P Γ nt ann ops s with
    | some (s', os) => obL os (K s')
    | none => .bad 20 id
  | [sc] => match draw P Γ nt (scAnn sc ++ ann) ops s with
    | some (s', os) => obL os (K s')
    | none => .bad 21 id
  | sc :: r => .or (match draw P Γ nt (scAnn sc ++ ann) ops s with
    | some (s', os) => obL os (K s')
    | none => .bad 22 id) (drawPT P Γ nt ann id ops s K r)

def walk (P : Program) (Γ : TT) (f : Func) (W : Wk) : Nat → List Item → AS → PT
  | 0, _, _ => .bad 0 0
  | _ + 1, [], s => match retF Γ s f.results.toList W.fin with
    | some os => obL os .tt
    | none => .bad 3 0
  | k + 1, x :: r, s => match x with
    | .code .ret => match retF Γ s f.results.toList W.fin with
      | some os => obL os .tt
      | none => .bad 4 0
    | .code .skip => walk P Γ f W k r s
    | .code (.label _) => walk P Γ f W k r s
    | .inBlock _ => walk P Γ f W k r s
    | .code (.seq a b) => walk P Γ f W k (.code a :: .code b :: r) s
    | .code (.cond c t e) => match s.ev c with
      | some (.bool true) => walk P Γ f W k (.code t :: r) s
      | some (.bool false) => walk P Γ f W k (.code e :: r) s
      | _ => .bad 5 0
    | .code (.block id body) => walk P Γ f W k (.code body :: .inBlock id :: r) s
    | .code (.loop body) => match atHead W body s with
      | some s' => .head (.code body :: .inLoop body :: r) s'
      | none => .bad 6 0
    | .inLoop body => match atHead W body s with
      | some s' => .head (.code body :: .inLoop body :: r) s'
      | none => .bad 7 0
    | .code (.exit id) => match exitTo id r with
      | some r' => walk P Γ f W k r' s
      | none => .bad 8 0
    | .code (.region id ops d) => match headAt W (7000000 + id) s with
      | some s' => .head (.code (.region id ops d) :: r) s'
      | none => match d with
        | false => walkIdx P Γ f.ntmps W ops (List.range ops.size) s (walk P Γ f W k r)
        | true => drawPT P Γ f.ntmps W.ann id ops s (walk P Γ f W k r) ((look W.dsp id).getD [])
    | _ => .bad 9 0

theorem put_same {C : Ctx} {G : Env} {s : AS} {a : Act} {w : World} (h : RelG C G s a w) {d : Nat} {v u : AV} (hd : look s.tmps d = some v) (hu : v = u) : RelG C G (s.put d u) a w := by
  refine ⟨h.defers, h.size, fun i x hx => ?_, h.mem⟩
  simp only [AS.put, look_cons] at hx
  split at hx
  · rename_i e
    cases hx
    subst e
    subst hu
    exact h.slots d v hd
  · exact h.slots i x hx

theorem splitK_sound {P : Program} {nt : Nat} {Q : AS → Prop} {C : Ctx} {G : Env} {s : AS} {a : Act} {w : World} (h : RelG C G s a w) {sp : List Nat} {d : Option Nat} {K : AS → PT} (hs : (splitK sp d s K).holds P nt Q) : ∃ s', RelG C G s' a w ∧ (K s').holds P nt Q := by
  unfold splitK at hs
  split at hs
  · rename_i d
    split at hs
    · split at hs
      · rename_i e he
        cases e with
        | true => exact ⟨_, put_same h he rfl, hs.1 rfl⟩
        | false => exact ⟨_, put_same h he rfl, hs.2 rfl⟩
      · exact ⟨s, h, hs⟩
    · exact ⟨s, h, hs⟩
  · exact ⟨s, h, hs⟩

theorem walkIdx_sound {P : Program} {Γ : TT} (hΓ : Γok P Γ) {C : Ctx} {W : Wk} {ops : Array Oper} {Q : AS → Prop} {E : Exit → Act → World → Prop} {K : AS → PT} (hK : ∀ G s a w, RelG C G s a w → (K s).holds P C.nt Q → E .normal a w) :
    ∀ {l : List Nat} {G : Env} {s : AS} {a : Act} {w : World}, RelG C G s a w → (walkIdx P Γ C.nt W ops l s K).holds P C.nt Q → wpOps P ops E l a w
  | [], G, s, a, w, h, hs => hK G s a w h hs
  | i :: rest, G, s, a, w, h, hs => by
    simp only [walkIdx] at hs
    split at hs
    · exact hs.elim
    · rename_i o hoi
      split at hs
      · rename_i s1 os1 h1
        obtain ⟨ho, hs⟩ := obL_holds hs
        have key := oper1_sound (Q := E) (K := wpOps P ops E rest) hΓ h h1 ho (fun G' a' w' h' => by
          obtain ⟨s2, h2, h3⟩ := splitK_sound h' hs
          exact walkIdx_sound hΓ hK h2 h3)
        simp only [wpOps, hoi]
        split at key
        · rename_i hw
          rw [if_pos hw]
          exact .inl key
        · rename_i hw
          rw [if_neg hw]
          exact key
      · exact hs.elim

theorem drawPT_sound {P : Program} {Γ : TT} (hΓ : Γok P Γ) {C : Ctx} {ann : List (Nat × Ann)} {id : Nat} {ops : Array Oper} {Q : AS → Prop} {E : Exit → Act → World → Prop} {K : AS → PT} (hK : ∀ G s a w, RelG C G s a w → (K s).holds P C.nt Q → E .normal a w) {G : Env} {s : AS} {a : Act} {w : World} (h : RelG C G s a w) :
    ∀ {sc : List (List (Nat × Bool))}, (drawPT P Γ C.nt ann id ops s K sc).holds P C.nt Q → wpAny P .any ops E ops.size (Array.replicate ops.size false) a { w with drawn := w.drawn + 1 } := by
  have one : ∀ (ann : List (Nat × Ann)) (x : Nat), (match draw P Γ C.nt ann ops s with | some (s', os) => obL os (K s') | none => .bad x id : PT).holds P C.nt Q → wpAny P .any ops E ops.size (Array.replicate ops.size false) a { w with drawn := w.drawn + 1 } := by
    intro ann x hs
    split at hs
    · rename_i s' os hd
      obtain ⟨ho, hs⟩ := obL_holds hs
      exact draw_sound hΓ hd ho (fun G' a' w' h' => hK G' s' a' w' h' hs) h
    · exact hs.elim
  intro sc
  induction sc with
  | nil => exact one _ _
  | cons x r ih =>
    cases r with
    | nil => exact one _ _
    | cons y r =>
      intro hs
      rcases hs with hs | hs
      · exact one _ _ hs
      · exact ih hs
theorem TW.draw {P : Program} (hm : P.follows .mixedOrders = true) {id : Nat} {ops : Array Oper} {k : List Item} {R : Act → World → Prop} {a : Act} {w : World} (h : wpAny P .any ops (fun e a w => e = .normal ∧ TW P k R a w) ops.size (Array.replicate ops.size false) a { w with drawn := w.drawn + 1 }) : TW P (.code (.region id ops true) :: k) R a w := by
  intro b cs
  have h2 := TW.ops (wpAny_sound ops.size (w.tape w.drawn (.order b.fn id)) _ a _ h) b cs
  obtain ⟨a', w', t, h3, h4⟩ := h2
  refine ⟨a', w', t, h3, .head step_region_draw ?_⟩
  simp only [Region.schedule, hm, Bool.true_or, if_true]
  exact h4

theorem walk_sound {P : Program} {Γ : TT} (hΓ : Γok P Γ) (hm : P.follows .mixedOrders = true) {f : Func} {W : Wk} : ∀ {k : Nat} {todo : List Item} {s : AS}, (walk P Γ f W k todo s).holds P f.ntmps (EndsA Γ W.fin f) → HT P f.ntmps todo s (EndsA Γ W.fin f) := by
  intro k
  induction k with
  | zero => intro todo s h; exact h.elim
  | succ k ih =>
    intro todo s h
    cases todo with
    | nil =>
      simp only [walk] at h
      split at h
      · rename_i os hos
        exact ⟨os, hos, (obL_holds h).1⟩
      · exact h.elim
    | cons x r =>
      simp only [walk] at h
      split at h
      · split at h
        · rename_i os hos
          exact fun C G a w hnt hR b cs => ⟨a, w, .code .ret :: r, ⟨s, G, ⟨os, hos, (obL_holds h).1⟩, hR⟩, .one step_ret⟩
        · exact h.elim
      · exact fun C G a w hnt hR => TW.step (fun b cs => step_skip) ((ih h).tw C G a w hnt hR)
      · exact fun C G a w hnt hR => TW.step (fun b cs => step_label) ((ih h).tw C G a w hnt hR)
      · exact fun C G a w hnt hR => TW.step (fun b cs => step_inBlock) ((ih h).tw C G a w hnt hR)
      · exact fun C G a w hnt hR => TW.step (fun b cs => step_seq) ((ih h).tw C G a w hnt hR)
      · rename_i c t e
        split at h
        · rename_i hc
          intro C G a w hnt hR
          have hv := hR.ev hc
          generalize hcv : a.eval c = cv at hv
          cases hv
          exact TW.step (todo' := .code t :: r) (fun b cs => by rw [step_cond hcv, if_pos rfl]) ((ih h).tw C G a w hnt hR)
        · rename_i hc
          intro C G a w hnt hR
          have hv := hR.ev hc
          generalize hcv : a.eval c = cv at hv
          cases hv
          exact TW.step (todo' := .code e :: r) (fun b cs => by rw [step_cond hcv, if_neg (by decide)]) ((ih h).tw C G a w hnt hR)
        · exact h.elim
      · exact fun C G a w hnt hR => TW.step (fun b cs => step_block) ((ih h).tw C G a w hnt hR)
      · split at h
        · rename_i s' hp
          exact fun C G a w hnt hR => TW.step (fun b cs => step_loop) ((HT.headAt h hp (by simp)).tw C G a w hnt hR)
        · exact h.elim
      · split at h
        · rename_i s' hp
          exact fun C G a w hnt hR => TW.step (fun b cs => step_inLoop) ((HT.headAt h hp (by simp)).tw C G a w hnt hR)
        · exact h.elim
      · split at h
        · rename_i r' hr'
          exact fun C G a w hnt hR => TW.step (fun b cs => step_exit hr') ((ih h).tw C G a w hnt hR)
        · exact h.elim
      · rename_i id ops d
        split at h
        · rename_i s' hp
          exact fun C G a w hnt hR => (HT.headAt h hp (by simp)).tw C G a w hnt hR
        · cases d with
          | false =>
            intro C G a w hnt hR
            refine TW.step (fun b cs => step_region) (TW.ops ?_)
            rw [← hnt] at h
            exact walkIdx_sound (E := fun e a w => e = .normal ∧ TW P r (fun a' w' => ∃ s' G', EndsA Γ W.fin f s' ∧ RelG C G' s' a' w') a w) hΓ (fun G s a w h1 h2 => ⟨rfl, (ih (by rw [hnt] at h2; exact h2)).tw C G a w hnt h1⟩) hR h
          | true =>
            intro C G a w hnt hR
            refine TW.draw hm ?_
            rw [← hnt] at h
            exact drawPT_sound (E := fun e a w => e = .normal ∧ TW P r (fun a' w' => ∃ s' G', EndsA Γ W.fin f s' ∧ RelG C G' s' a' w') a w) hΓ (fun G s a w h1 h2 => ⟨rfl, (ih (by rw [hnt] at h2; exact h2)).tw C G a w hnt h1⟩) hR h
      · exact h.elim

/-- The walk's tree, written out, is what is to be shown. -/
theorem HT.walk {P : Program} {Γ : TT} (hΓ : Γok P Γ) (hm : P.follows .mixedOrders = true) {f : Func} (W : Wk) (k : Nat) {todo : List Item} {s : AS} {T : PT} (h : AX.walk P Γ f W k todo s = T) (hT : T.holds P f.ntmps (EndsA Γ W.fin f)) : HT P f.ntmps todo s (EndsA Γ W.fin f) :=
  walk_sound hΓ hm (k := k) (by rw [h]; exact hT)
end Go.AX
end

section
set_option linter.unusedVariables false
set_option linter.unusedSimpArgs false
namespace Go.AX
open Go Go.RowKit Go.WideShapes Go.ChangeShapes

/-! ### From a contract to a statement -/
theorem Ctr.calls {P : Program} {f : FuncId} {args : List AV} {b : Bool} (h : Ctr P f args (.bool b)) {w : World} {F : Nat → Nat → Prop} {vs : Array Value} (hF : ∀ b o, F b o → b < w.heap.size) (ha : Args w F args vs) :
    Calls P f vs w fun e w' => e = .returned (.bool b) ∧ Below w.heap.size w w' := by
  refine (h.2 w F vs hF ha).mono fun e w' hh => ?_
  obtain ⟨v, rs, rfl, hr⟩ := hh
  have := hr.rep
  cases this
  exact ⟨rfl, hr.below⟩

theorem args_nil (w : World) (F : Nat → Nat → Prop) : Args w F [] #[] := ⟨rfl, fun i c v h => by simp at h⟩
theorem args_cons {w : World} {F : Nat → Nat → Prop} {x : AV} {v : Value} {xs : List AV} {vs : List Value} (h : Rep w (envF F) false x v) (hs : Args w F xs vs.toArray) : Args w F (x :: xs) (v :: vs).toArray := by
  refine ⟨by simpa using hs.1, fun i c u hc hu => ?_⟩
  match i, hc, hu with
  | 0, hc, hu =>
    simp at hc hu
    subst hc; subst hu
    exact h
  | n + 1, hc, hu => exact hs.2 n c u (by simpa using hc) (by simpa using hu)

section
variable {H : Type} {enc : TypeId × Value → H} {P : Program}
theorem post_of_below {f : Func} {s : ChangeSpec} {apart fresh handsOn again : Bool} {W W' : World} {args : Array Value} {v : Value} {ds gs : List (DataW H)} {before pa pv : List MemPlace}
    (hW : DataW.Whole enc P f.params.toList s.vars apart W args.toList ds gs before)
    (hres : ∀ (b : Nat) (sp : Nat → Bool) (hd : Bool), DataW.TrodAll enc P W' b sp hd f.resultTypes.toList (v.resultList f.resultTypes.size) (s.fn H (ds ++ gs)).results [])
    (hargs : ∀ sp : Nat → Bool, (∀ p ∈ before, sp p.block = true) → DataW.TrodAll enc P W' 0 sp true f.params.toList args.toList (s.fn H (ds ++ gs)).args pa)
    (hvars : ∀ sp : Nat → Bool, (∀ p ∈ before, sp p.block = true) → DataW.TrodVars enc P W' sp s.vars (s.fn H (ds ++ gs)).vars pv)
    (hps : before = pa ++ pv) (hb : Below W.heap.size W W')
    (hok : ∀ (j : Nat) (t : TypeId) (r : Value), f.resultTypes[j]? = some t → (v.resultList f.resultTypes.size)[j]? = some r → Value.okWide P W' .any 0 t r) :
    s.post enc P f apart fresh handsOn again W args v W' := by
  have hlt : ∀ p ∈ before, p.block < W.heap.size := fun p hp => hW.lt p hp
  have hold : ∀ p ∈ before, (fun b => decide (b < W.heap.size)) p.block = true := fun p hp => by simpa using hlt p hp
  refine ⟨ds, gs, before, [], pa, pv, hW, hres _ _ _, hargs _ hold, hvars _ hold, World.keptBut_mono (fun p hp => ⟨hp, ?_⟩) (hb.frame (· ∈ before)), fun _ => ?_⟩
  · rw [hps, List.mem_append] at hp
    exact Or.inr hp
  · obtain ⟨_, _, _, _, _, hz, hn⟩ := hW
    refine ⟨hok, _, _, ([] ++ pa) ++ pv, ⟨[] ++ pa, pv, trodAll_append (hargs _ (fun _ _ => rfl)) (hres _ _ _), hvars _ (fun _ _ => rfl), rfl, ?_, ?_⟩, ?_⟩
    · intro b off hp
      have hin : MemPlace.cell b off ∈ before := by rw [hps]; simpa using hp
      rw [hb.frozen (hlt _ hin)]
      exact hz b off hin
    · intro ha
      have := hn ha
      rw [hps] at this
      simpa using this
    · intro p hp _
      rw [hps]
      simpa using hp
end
end Go.AX
end

section
set_option linter.unusedVariables false
set_option linter.unusedSimpArgs false
namespace Go.AX
open Go Go.RowKit Go.WideShapes Go.ChangeShapes

/-! ### What is handed in, opened -/
def Reps (w : World) (F : Nat → Nat → Prop) (l : List AV) (cs : List Value) : Prop :=
  l.length = cs.length ∧ ∀ (i : Nat) (c : AV) (v : Value), l[i]? = some c → cs[i]? = some v → Rep w (envF F) false c v ∧ v.oneCell' = true
theorem Reps.nil {w : World} {F : Nat → Nat → Prop} : Reps w F [] [] := ⟨rfl, fun i c v h => by simp at h⟩
theorem Reps.one {w : World} {F : Nat → Nat → Prop} {c : AV} {v : Value} (h : Rep w (envF F) false c v) (h1 : v.oneCell' = true) : Reps w F [c] [v] := by
  refine ⟨rfl, fun i c' v' hc hv => ?_⟩
  match i, hc, hv with
  | 0, hc, hv =>
    simp at hc hv
    subst hc; subst hv
    exact ⟨h, h1⟩
  | i + 1, hc, hv => simp at hc
theorem Reps.append {w : World} {F : Nat → Nat → Prop} {a b : List AV} {cs ds : List Value} (h : Reps w F a cs) (k : Reps w F b ds) : Reps w F (a ++ b) (cs ++ ds) := by
  refine ⟨by simp [h.1, k.1], fun i c v hc hv => ?_⟩
  by_cases hi : i < a.length
  · rw [List.getElem?_append_left hi] at hc
    rw [List.getElem?_append_left (by rw [← h.1]; exact hi)] at hv
    exact h.2 i c v hc hv
  · rw [List.getElem?_append_right (by omega)] at hc
    rw [List.getElem?_append_right (by rw [← h.1]; omega), ← h.1] at hv
    exact k.2 _ c v hc hv
theorem Reps.agg {w : World} {F : Nat → Nat → Prop} {a : List AV} {vs : Array Value} (h : Reps w F a vs.toList) : Rep w (envF F) false (.agg a) (.agg vs) := by
  refine .agg _ _ _ (by simpa using h.1.symm) (fun i c v hc hv => (h.2 i c v hc (by simpa using hv)).1) (fun v hv => ?_)
  obtain ⟨i, hi, rfl⟩ := List.getElem_of_mem (Array.mem_def.1 hv)
  have hi' : i < a.length := by rw [h.1]; exact hi
  exact (h.2 i a[i] _ (List.getElem?_eq_getElem hi') (List.getElem?_eq_getElem hi)).2

/-- How much a reading holds: what a part holds, the whole holds. -/
structure Meas {H : Type} (m : DataW H → Nat) : Prop where
  sl : ∀ es sp x, x ∈ es → m x ≤ m (.slice es sp)
  len : ∀ es sp, es.length ≤ m (.slice es sp)
  ag : ∀ es x, x ∈ es → m x ≤ m (.agg es)
  str : ∀ b, b.length ≤ m (.lit (.string b))

section
variable {H : Type} {enc : TypeId × Value → H} {P : Program} {w : World} {base : Nat} {spare : Nat → Bool} {held : Bool}
/-- The cells that there are. -/
def heldAt (w : World) (b o : Nat) : Prop := ∃ v, w.cell? ⟨b, o, none⟩ = some v
theorem heldAt_lt {w : World} : ∀ b o, heldAt w b o → b < w.heap.size := by
  intro b o ⟨v, h⟩
  have := World.cells?_block (w := w) (base := 0) (a := ⟨b, o, none⟩) (n := 1) (cs := [v]) (Go.ChangeShapes.cells?_of (Nat.zero_le _) rfl (fun i hi => by
    have : i = 0 := by omega
    subst this
    simpa using h)) (by omega)
  exact this
theorem flat_get' {α : Type} {f : α → List AV} {k : Nat} (hk : ∀ a, (f a).length = k) : ∀ (l : List α) (i j : Nat), j < k → (l.flatMap f)[i * k + j]? = l[i]?.bind fun a => (f a)[j]?
  | [], i, j, hj => by simp
  | a :: l, 0, j, hj => by
    rw [List.flatMap_cons, List.getElem?_append_left (by rw [hk]; omega)]
    simp
  | a :: l, i + 1, j, hj => by
    have e : (i + 1) * k + j = k + (i * k + j) := by rw [Nat.add_mul, Nat.one_mul]; omega
    rw [List.flatMap_cons, List.getElem?_append_right (by rw [hk, e]; omega), hk, e, Nat.add_sub_cancel_left, flat_get' hk l i j hj]
    simp
theorem flat_len' {α : Type} {f : α → List AV} {k : Nat} (hk : ∀ a, (f a).length = k) : ∀ (l : List α), (l.flatMap f).length = l.length * k
  | [] => by simp
  | a :: l => by rw [List.flatMap_cons, List.length_append, flat_len' hk l, hk, List.length_cons, Nat.add_mul, Nat.one_mul, Nat.add_comm]
theorem add_at {a : Addr} {i j : Nat} {v : Value} (h : w.cell? ((a.add i).add j) = some v) : w.cell? ⟨a.block, a.off + (i + j), none⟩ = some v := by
  have hs := World.cell?_spot h
  rw [Go.Deep.add_add] at h hs
  unfold Addr.add at h hs
  split at h
  · rename_i h0
    rw [if_pos h0] at hs
    obtain ⟨b, o, s⟩ := a
    simp only at hs
    subst hs
    simpa [h0] using h
  · exact h
theorem open_listQ {T : Type} (f : T → List AV) (ok : T → Prop) {k : Nat} (hk : ∀ a, (f a).length = k) (hp : 0 < k) {t e : TypeId} (hc : P.cellsOf e = k) (ht : P.underlying t = some (.slice e)) {Q Qe : DataW H → Prop} {B n : Nat} (hB : ∀ es sp, Q (.slice es sp) → es.length ≤ B ∧ ∀ x ∈ es, Qe x)
    (hel : ∀ n', n' < n → ∀ (cs : List Value) (x : DataW H × List MemPlace), DataW.trod enc P w base spare held n' e cs = some x → Qe x.1 → ∃ a, Reps w (heldAt w) (f a) cs ∧ ok a)
    {cs : List Value} {x : DataW H × List MemPlace} (h : DataW.trod enc P w base spare held n t cs = some x) (hx : Q x.1) :
    ∃ l : List T, Reps w (heldAt w) [.sl none l.length (l.flatMap f) .no] cs ∧ l.length ≤ B ∧ ∀ a ∈ l, ok a := by
  rcases DataW.trod_slice ht h with ⟨rfl, rfl⟩ | ⟨a, len, cap, elems, rest, n', hn, rfl, rfl, hb, hl, hcap, hlen, hel2, hsp, hns⟩
  · refine ⟨[], .one (.sl _ _ _ _ _ none 0 (fun _ => .nilFunc) (fun _ h => by cases h) (fun h => by simp at h) (Nat.le_refl _) (fun j x h => by simp at h) (fun j x h => by simp at h) (fun h => by cases h) (fun t h => by cases h)) rfl, Nat.zero_le _, fun a ha => by cases ha⟩
  have hel3 : ∀ i : _root_.Fin len, ∃ a' : T, ∃ cs', w.cells? base (a.add (i * k)) k = some cs' ∧ Reps w (heldAt w) (f a') cs' ∧ ok a' := by
    intro i
    have h1 := hel2 i i.2
    rw [hc, List.getElem?_eq_getElem (by rw [hlen]; exact i.2)] at h1
    obtain ⟨cs', h2, h3⟩ := Option.bind_eq_some_iff.1 h1
    obtain ⟨a', h4, h5⟩ := hel n' (by omega) cs' _ h3 ((hB _ _ hx).2 _ (List.mem_map.2 ⟨_, List.getElem_mem _, rfl⟩))
    exact ⟨a', cs', h2, h4, h5⟩
  let l : List T := List.ofFn fun i : _root_.Fin len => Classical.choose (hel3 i)
  have hll : l.length = len := by simp [l]
  have hlg : ∀ i (hi : i < len), l[i]? = some (Classical.choose (hel3 ⟨i, hi⟩)) := by
    intro i hi
    rw [List.getElem?_eq_getElem (by rw [hll]; exact hi)]
    simp [l]
  refine ⟨l, ?_, ?_, ?_⟩
  · have hcell : ∀ (j : Nat) (x : AV), (l.flatMap f)[j]? = some x → ∃ v, w.cell? ⟨a.block, a.off + j, none⟩ = some v ∧ a.spot = none ∧ Rep w (envF (heldAt w)) false x v ∧ v.oneCell' = true := by
      intro j x hj
      have hj1 : j < len * k := by
        rcases Nat.lt_or_ge j (len * k) with h1 | h1
        · exact h1
        · rw [List.getElem?_eq_none (by rw [flat_len' hk, hll]; exact h1)] at hj
          cases hj
      have hd : j / k < len := Nat.div_lt_of_lt_mul (by rw [Nat.mul_comm]; exact hj1)
      have hr : j % k < k := Nat.mod_lt _ hp
      have hjj : j = j / k * k + j % k := by rw [Nat.mul_comm]; exact (Nat.div_add_mod j k).symm
      obtain ⟨cs', h1, h2, h3⟩ := Classical.choose_spec (hel3 ⟨j / k, hd⟩)
      obtain ⟨hb1, hl1, hc1⟩ := World.cells?_some h1
      have h0 := hc1 0 hp
      rw [hjj, flat_get' hk l _ _ hr, hlg _ hd] at hj
      simp only [Option.bind_some] at hj
      have hv : cs'[j % k]? = some cs'[j % k] := List.getElem?_eq_getElem (by omega)
      have h4 := hc1 (j % k) hr
      rw [hv] at h4
      have h5 := add_at h4
      have hs : a.spot = none := by
        obtain ⟨cs0, g1, _, _⟩ := Classical.choose_spec (hel3 ⟨0, Nat.lt_of_le_of_lt (Nat.zero_le _) hd⟩)
        obtain ⟨_, gl, gc⟩ := World.cells?_some g1
        have g0 := gc 0 hp
        rw [List.getElem?_eq_getElem (by omega)] at g0
        simpa [Addr.add] using World.cell?_spot g0
      refine ⟨_, ?_, hs, h2.2 _ _ _ hj hv⟩
      have e2 : a.off + j = a.off + (j / k * k + j % k) := by rw [← hjj]
      rw [e2]
      exact h5
    have e : Value.slice (some a) len cap = .slice (some a) l.length cap := by rw [hll]
    rw [e]
    refine .one (.sl false none l.length (l.flatMap f) .no (some a) cap (fun j => (w.cell? ⟨a.block, a.off + j, none⟩).getD .nilFunc) (fun _ h => by cases h) (fun h => ?_) (by rw [hll]; exact hl) (fun j x h => ?_) (fun j x h => ?_) (fun h => by cases h) (fun t h => by cases h)) rfl
    · rw [hll] at h
      refine ⟨a, rfl, ?_⟩
      obtain ⟨cs0, g1, _, _⟩ := Classical.choose_spec (hel3 ⟨0, h⟩)
      obtain ⟨_, gl, gc⟩ := World.cells?_some g1
      have g0 := gc 0 hp
      rw [List.getElem?_eq_getElem (by omega)] at g0
      simpa [Addr.add] using World.cell?_spot g0
    · obtain ⟨v, h1, h2, h3, h4⟩ := hcell j x h
      exact ⟨a, rfl, h2, ⟨v, h1⟩, by rw [h1]; rfl, by rw [h1]; exact h4⟩
    · obtain ⟨v, h1, h2, h3, h4⟩ := hcell j x h
      rw [h1]
      exact h3
  · have := (hB _ _ hx).1
    simp only [List.length_map] at this
    omega
  · intro a' ha
    obtain ⟨i, hi, rfl⟩ := List.getElem_of_mem ha
    have hi' : i < len := by rw [← hll]; exact hi
    obtain ⟨cs', h1, h2, h3⟩ := Classical.choose_spec (hel3 ⟨i, hi'⟩)
    have h4 := hlg i hi'
    rw [List.getElem?_eq_getElem hi] at h4
    rw [Option.some.inj h4]
    exact h3
end
end Go.AX
end
