import Derived.Test.YtbedjjckfmhdfaaAxS
set_option linter.unusedVariables false
set_option linter.unusedSimpArgs false
namespace Go.AX
open Go Go.RowKit

/-! ### All ways through a text at once -/
/-- What is left to be shown, as a tree of ways. -/
inductive PT
  | tt
  | bad (why i : Nat)
  | ob (p : Prop) (r : PT)
  | split (b : Bool) (t f : PT)
  | head (todo : List Item) (s : AS)

def PT.holds (P : Program) (nt : Nat) (Q : AS → Prop) : PT → Prop
  | .tt => True
  | .bad _ _ => False
  | .ob p r => p ∧ r.holds P nt Q
  | .split b t f => (b = true → t.holds P nt Q) ∧ (b = false → f.holds P nt Q)
  | .head todo s => HT P nt todo s Q

def obL : List Prop → PT → PT
  | [], r => r
  | p :: l, r => .ob p (obL l r)
theorem obL_holds {P : Program} {nt : Nat} {Q : AS → Prop} : ∀ {l : List Prop} {r : PT}, (obL l r).holds P nt Q → All l ∧ r.holds P nt Q
  | [], r, h => ⟨trivial, h⟩
  | p :: l, r, h => by
    obtain ⟨h1, h2⟩ := obL_holds (l := l) h.2
    exact ⟨All_cons.2 ⟨h.1, h1⟩, h2⟩

/-- Only these slots, blocks and tags are kept. -/
def pickK {α : Type} : List Nat → List (Nat × α) → List (Nat × α)
  | [], _ => []
  | i :: r, l => match look l i with
    | some v => (i, v) :: pickK r l
    | none => pickK r l
def idsT (s : AS) : List (Nat × AV) → Bool
  | [] => true
  | (_, v) :: r => idsOk s v && idsT s r
def idsH (s : AS) : List (Nat × Blk) → Bool
  | [] => true
  | (_, v) :: r => idsB s v && idsH s r
def prune (ls hs gs : List Nat) (s : AS) : Option AS :=
  let s' : AS := ⟨pickK ls s.tmps, pickK hs s.heap, pickK gs s.tags⟩
  match idsT s' s'.tmps, idsH s' s'.heap with
  | true, true => some s'
  | _, _ => none

theorem pickK_look {α : Type} {l : List (Nat × α)} : ∀ {ks : List Nat} {i : Nat} {v : α}, look (pickK ks l) i = some v → look l i = some v
  | [], i, v, h => by simp [pickK, look] at h
  | k :: ks, i, v, h => by
    simp only [pickK] at h
    split at h
    · rename_i u hu
      rw [look_cons] at h
      split at h
      · rename_i e
        cases h
        subst e
        exact hu
      · exact pickK_look h
    · exact pickK_look h
theorem idsT_look {s : AS} : ∀ {l : List (Nat × AV)} {i : Nat} {v : AV}, idsT s l = true → look l i = some v → idsOk s v = true
  | [], i, v, h, hl => by simp [look] at hl
  | (j, u) :: r, i, v, h, hl => by
    simp only [idsT, Bool.and_eq_true] at h
    rw [look_cons] at hl
    split at hl
    · cases hl; exact h.1
    · exact idsT_look h.2 hl
theorem idsH_look {s : AS} : ∀ {l : List (Nat × Blk)} {i : Nat} {v : Blk}, idsH s l = true → look l i = some v → idsB s v = true
  | [], i, v, h, hl => by simp [look] at hl
  | (j, u) :: r, i, v, h, hl => by
    simp only [idsH, Bool.and_eq_true] at h
    rw [look_cons] at hl
    split at hl
    · cases hl; exact h.1
    · exact idsH_look h.2 hl

theorem RelG.prune {C : Ctx} {G : Env} {s s' : AS} {a : Act} {w : World} (h : RelG C G s a w) {ls hs gs : List Nat} (hp : AX.prune ls hs gs s = some s') : RelG C (G.cut s') s' a w := by
  simp only [AX.prune] at hp
  split at hp
  · rename_i i1 i2
    cases hp
    have hcut : ∀ i g, (G.cut (⟨pickK ls s.tmps, pickK hs s.heap, pickK gs s.tags⟩ : AS)).φ i = some g → G.φ i = some g := fun i g hg => by
      simp only [Env.cut] at hg
      split at hg
      · exact hg
      · cases hg
    have hcutT : ∀ t r, (G.cut (⟨pickK ls s.tmps, pickK hs s.heap, pickK gs s.tags⟩ : AS)).τ t = some r → G.τ t = some r := fun t r hr => by
      simp only [Env.cut] at hr
      split at hr
      · exact hr
      · cases hr
    refine ⟨h.defers, h.size, h.below, h.fdom, h.fold, h.f0, h.f0dom, ?_, ?_, ?_, fun i j g hi hj => h.inj i j g (hcut i g hi) (hcut j g hj), ?_, ?_⟩
    · intro i v hv
      have hid := idsT_look i1 hv
      obtain ⟨x, hx, hr⟩ := h.slots i v (pickK_look hv)
      exact ⟨x, hx, idsOk_rep hr hid⟩
    · intro i b hb
      have hid := idsH_look i2 hb
      obtain ⟨g, hg, hbase, hok, hnF⟩ := h.blocks i b (pickK_look hb)
      refine ⟨g, by simp [Env.cut, hb, isS, hg], hbase, ?_, hnF⟩
      cases b with
      | var wr xs =>
        obtain ⟨vs, e, k1, k2, k3, k4, k5⟩ := hok
        refine ⟨vs, e, k1, k2, fun j c v hc hv => ?_, k4, k5⟩
        cases wr with
        | true => exact idsOk_rep (k3 j c v hc hv) (idsOkL_get hid j c hc)
        | false => exact (k3 j c v hc hv).tree (fun b o hf => hf)
      | rows wr xs =>
        obtain ⟨vs, e, k1, k2, k3, k4, k5⟩ := hok
        exact ⟨vs, e, k1, k2, fun j c v hc hv => (k3 j c v hc hv).tree (fun b o hf => hf), k4, k5⟩
      | iter st p => exact hok
    · intro i hi
      simp only [Env.cut]
      rw [hi]
      rfl
    · intro t n ht
      obtain ⟨r, hr, h1, h2, h3⟩ := h.tags t n (pickK_look ht)
      refine ⟨r, by simp [Env.cut, ht, isS, hr], h1, h2, fun ho => ?_⟩
      obtain ⟨k1, k2, k3⟩ := h3 ho
      refine ⟨k1, k2, fun g hg => ?_⟩
      obtain ⟨k4, k5, k6⟩ := k3 g hg
      exact ⟨k4, fun i hi => k5 i (hcut i g hi), fun t' r' hr' ho' hb' => k6 t' r' (hcutT t' r' hr') ho' hb'⟩
    · intro t ht
      simp only [Env.cut]
      rw [ht]
      rfl
  · cases hp

/-- The parts of a walk: hints, the slots where ways part, what is kept at a loop's head, what is frozen at the end, the result. -/
structure Hd where
  ls : List Nat
  hs : List Nat
  gs : List Nat
  tg : List (Nat × Nat × TypeId × Nat)
structure Wk where
  ann : List (Nat × Ann)
  sp : List Nat
  hd : List (Nat × Hd)
  zs : List Nat
  res : AV

/-- The number of a text's first region. -/
def rid : Code → Nat
  | .region id _ _ => id
  | .seq a _ => rid a
  | .block _ c => rid c
  | .loop c => rid c
  | .scope c => rid c
  | .cond _ t _ => rid t
  | _ => 0

/-- A slice whose capacity is its length comes under a tag. -/
def retag1 (s : AS) (x : Nat × Nat × TypeId × Nat) : Option AS :=
  match look s.tmps x.1 with
  | some (.sl _ n cells .clip) => match look s.tags x.2.1 with
    | none => some ((s.tag x.2.1 ⟨n, x.2.2.1, x.2.2.2⟩).put x.1 (.sl none n cells (.own x.2.1)))
    | some _ => none
  | some (.sl _ n cells (.own t)) => some (s.put x.1 (.sl none n cells (.own t)))
  | _ => some s
def retag (s : AS) : List (Nat × Nat × TypeId × Nat) → Option AS
  | [] => some s
  | x :: r => match retag1 s x with
    | some s1 => retag s1 r
    | none => none
def atHead (W : Wk) (c : Code) (s : AS) : Option AS :=
  match look W.hd (rid c) with
  | some h => match retag s h.tg with
    | some s1 => prune h.ls h.hs h.gs s1
    | none => none
  | none => none

theorem put_at {C : Ctx} {G : Env} {s : AS} {a : Act} {w : World} (h : RelG C G s a w) {d : Nat} {u : AV} {y : Value} (hy : a.tmps[d]? = some y) (hu : Rep w G true u y) : RelG C G (s.put d u) a w := by
  refine ⟨h.defers, h.size, h.below, h.fdom, h.fold, h.f0, h.f0dom, fun i x hx => ?_, h.blocks, h.noblock, h.inj, h.tags, h.notag⟩
  simp only [AS.put, look_cons] at hx
  split at hx
  · rename_i e
    cases hx
    subst e
    exact ⟨y, hy, hu⟩
  · exact h.slots i x hx

theorem retag1_sound {C : Ctx} {G : Env} {s s' : AS} {a : Act} {w : World} (h : RelG C G s a w) {x : Nat × Nat × TypeId × Nat} (hs : retag1 s x = some s') : ∃ G', RelG C G' s' a w := by
  unfold retag1 at hs
  split at hs
  · rename_i nl n cells hv
    split at hs
    · rename_i ht
      cases hs
      obtain ⟨y, hy, hr⟩ := h.slots x.1 _ hv
      cases hr with
      | sl _ _ _ _ _ A c vs hnl hpos hc hcell hrep hclip hown =>
        have hcn := hclip rfl
        subst hcn
        have hA : A = none → c = 0 := fun hA => by
          rcases Nat.eq_zero_or_pos c with h0 | h0
          · exact h0
          · obtain ⟨ad, e, _⟩ := hpos h0
            rw [hA] at e
            cases e
        obtain ⟨h1, hle⟩ := h.addTag (t := x.2.1) (r := ⟨false, .slice A c c, c, x.2.2.1, x.2.2.2, []⟩) ht (fun _ => ⟨A, rfl, hA⟩) (fun e => by cases e)
        refine ⟨_, put_at h1 hy (.sl _ _ _ _ _ A c vs (fun b e => by cases e) hpos hc (fun j z hz => ?_) (fun j z hz => (hrep j z hz).mono hle) (fun e => by cases e) (fun t e => ?_))⟩
        · obtain ⟨ad, h2, h3, h4, h5, h6⟩ := hcell j z hz
          exact ⟨ad, h2, h3, hle.F _ _ h4, h5, h6⟩
        · cases e
          exact ⟨rfl, ⟨false, .slice A c c, c, x.2.2.1, x.2.2.2, []⟩, by simp [Env.setT], Nat.le_refl _, fun _ => rfl⟩
    · cases hs
  · rename_i nl n cells t hv
    cases hs
    obtain ⟨y, hy, hr⟩ := h.slots x.1 _ hv
    refine ⟨G, put_at h hy ?_⟩
    cases hr with
    | sl _ _ _ _ _ A c vs hnl hpos hc hcell hrep hclip hown => exact .sl _ _ _ _ _ A c vs (fun b e => by cases e) hpos hc hcell hrep (fun e => by cases e) hown
  · cases hs
    exact ⟨G, h⟩
theorem retag_sound {C : Ctx} {a : Act} {w : World} : ∀ {l : List (Nat × Nat × TypeId × Nat)} {G : Env} {s s' : AS}, RelG C G s a w → retag s l = some s' → ∃ G', RelG C G' s' a w
  | [], G, s, s', h, hs => by cases hs; exact ⟨G, h⟩
  | x :: r, G, s, s', h, hs => by
    simp only [retag] at hs
    split at hs
    · rename_i s1 h1
      obtain ⟨G1, h2⟩ := retag1_sound h h1
      exact retag_sound h2 hs
    · cases hs
theorem atHead_sound {C : Ctx} {G : Env} {s s' : AS} {a : Act} {w : World} (h : RelG C G s a w) {W : Wk} {c : Code} (hs : atHead W c s = some s') : ∃ G', RelG C G' s' a w := by
  unfold atHead at hs
  split at hs
  · split at hs
    · rename_i s1 h1
      obtain ⟨G1, h2⟩ := retag_sound h h1
      exact ⟨_, h2.prune hs⟩
    · cases hs
  · cases hs
theorem HT.atHead {P : Program} {nt : Nat} {todo : List Item} {s s' : AS} {Q : AS → Prop} (h : HT P nt todo s' Q) {W : Wk} {c : Code} (hp : AX.atHead W c s = some s') (hne : todo ≠ []) : HT P nt todo s Q := by
  cases todo with
  | nil => exact absurd rfl hne
  | cons x r =>
    intro C G a w hnt hR
    obtain ⟨G', h'⟩ := atHead_sound hR hp
    exact h C G' a w hnt h'

def splitK (sp : List Nat) (d : Option Nat) (s : AS) (K : AS → PT) : PT :=
  match d with
  | some d => match among sp d with
    | true => match look s.tmps d with
      | some (.bool e) => .split e (K (s.put d (.bool true))) (K (s.put d (.bool false)))
      | _ => K s
    | false => K s
  | none => K s
def walkIdx (P : Program) (Γ : TT) (nt : Nat) (W : Wk) (ops : Array Oper) : List Nat → AS → (AS → PT) → PT
  | [], s, K => K s
  | i :: rest, s, K => match ops[i]? with
    | none => .bad 1 i
    | some o => match oper1 P Γ nt W.ann ops s o with
      | some (s', os) => obL os (splitK W.sp o.dst s' fun s'' => walkIdx P Γ nt W ops rest s'' K)
      | none => .bad 2 (o.dst.getD i)

def walk (P : Program) (Γ : TT) (f : Func) (W : Wk) : Nat → List Item → AS → PT
  | 0, _, _ => .bad 0 0
  | _ + 1, [], s => match retP Γ W.zs s f.results.toList W.res with
    | some os => obL os .tt
    | none => .bad 3 0
  | k + 1, x :: r, s => match x with
    | .code .ret => match retP Γ W.zs s f.results.toList W.res with
      | some os => obL os .tt
      | none => .bad 4 0
    | .code .skip => walk P Γ f W k r s
    | .code (.label _) => walk P Γ f W k r s
    | .inBlock _ => walk P Γ f W k r s
    | .code (.seq a b) => walk P Γ f W k (.code a :: .code b :: r) s
    | .code (.cond c t e) => match s.ev c with
      | some (.bool true) => walk P Γ f W k (.code t :: r) s
      | some (.bool false) => walk P Γ f W k (.code e :: r) s
      | _ => .bad 5 0
    | .code (.block id body) => walk P Γ f W k (.code body :: .inBlock id :: r) s
    | .code (.loop body) => match atHead W body s with
      | some s' => .head (.code body :: .inLoop body :: r) s'
      | none => .bad 6 0
    | .inLoop body => match atHead W body s with
      | some s' => .head (.code body :: .inLoop body :: r) s'
      | none => .bad 7 0
    | .code (.exit id) => match exitTo id r with
      | some r' => walk P Γ f W k r' s
      | none => .bad 8 0
    | .code (.region _ ops false) => walkIdx P Γ f.ntmps W ops (List.range ops.size) s (walk P Γ f W k r)
    | _ => .bad 9 0

theorem put_same {C : Ctx} {G : Env} {s : AS} {a : Act} {w : World} (h : RelG C G s a w) {d : Nat} {v u : AV} (hd : look s.tmps d = some v) (hu : v = u) : RelG C G (s.put d u) a w := by
  refine ⟨h.defers, h.size, h.below, h.fdom, h.fold, h.f0, h.f0dom, fun i x hx => ?_, h.blocks, h.noblock, h.inj, h.tags, h.notag⟩
  simp only [AS.put, look_cons] at hx
  split at hx
  · rename_i e
    cases hx
    subst e
    subst hu
    exact h.slots d v hd
  · exact h.slots i x hx

theorem splitK_sound {P : Program} {nt : Nat} {Q : AS → Prop} {C : Ctx} {G : Env} {s : AS} {a : Act} {w : World} (h : RelG C G s a w) {sp : List Nat} {d : Option Nat} {K : AS → PT} (hs : (splitK sp d s K).holds P nt Q) : ∃ s', RelG C G s' a w ∧ (K s').holds P nt Q := by
  unfold splitK at hs
  split at hs
  · rename_i d
    split at hs
    · split at hs
      · rename_i e he
        cases e with
        | true => exact ⟨_, put_same h he rfl, hs.1 rfl⟩
        | false => exact ⟨_, put_same h he rfl, hs.2 rfl⟩
      · exact ⟨s, h, hs⟩
    · exact ⟨s, h, hs⟩
  · exact ⟨s, h, hs⟩

theorem walkIdx_sound {P : Program} {Γ : TT} (hΓ : Γok P Γ) {C : Ctx} {W : Wk} {ops : Array Oper} {Q : AS → Prop} {E : Exit → Act → World → Prop} {K : AS → PT} (hK : ∀ G s a w, RelG C G s a w → (K s).holds P C.nt Q → E .normal a w) :
    ∀ {l : List Nat} {G : Env} {s : AS} {a : Act} {w : World}, RelG C G s a w → (walkIdx P Γ C.nt W ops l s K).holds P C.nt Q → wpOps P ops E l a w
  | [], G, s, a, w, h, hs => hK G s a w h hs
  | i :: rest, G, s, a, w, h, hs => by
    simp only [walkIdx] at hs
    split at hs
    · exact hs.elim
    · rename_i o hoi
      split at hs
      · rename_i s1 os1 h1
        obtain ⟨ho, hs⟩ := obL_holds hs
        have key := oper1_sound (Q := E) (K := wpOps P ops E rest) hΓ h h1 ho (fun G' a' w' h' => by
          obtain ⟨s2, h2, h3⟩ := splitK_sound h' hs
          exact walkIdx_sound hΓ hK h2 h3)
        simp only [wpOps, hoi]
        split at key
        · rename_i hw
          rw [if_pos hw]
          exact .inl key
        · rename_i hw
          rw [if_neg hw]
          exact key
      · exact hs.elim

theorem walk_sound {P : Program} {Γ : TT} (hΓ : Γok P Γ) {f : Func} {W : Wk} : ∀ {k : Nat} {todo : List Item} {s : AS}, (walk P Γ f W k todo s).holds P f.ntmps (EndsA Γ W.zs f W.res) → HT P f.ntmps todo s (EndsA Γ W.zs f W.res) := by
  intro k
  induction k with
  | zero => intro todo s h; exact h.elim
  | succ k ih =>
    intro todo s h
    cases todo with
    | nil =>
      simp only [walk] at h
      split at h
      · rename_i os hos
        exact ⟨os, hos, (obL_holds h).1⟩
      · exact h.elim
    | cons x r =>
      simp only [walk] at h
      split at h
      · split at h
        · rename_i os hos
          exact fun C G a w hnt hR b cs => ⟨a, w, .code .ret :: r, ⟨s, G, ⟨os, hos, (obL_holds h).1⟩, hR⟩, .one step_ret⟩
        · exact h.elim
      · exact fun C G a w hnt hR => TW.step (fun b cs => step_skip) ((ih h).tw C G a w hnt hR)
      · exact fun C G a w hnt hR => TW.step (fun b cs => step_label) ((ih h).tw C G a w hnt hR)
      · exact fun C G a w hnt hR => TW.step (fun b cs => step_inBlock) ((ih h).tw C G a w hnt hR)
      · exact fun C G a w hnt hR => TW.step (fun b cs => step_seq) ((ih h).tw C G a w hnt hR)
      · rename_i c t e
        split at h
        · rename_i hc
          intro C G a w hnt hR
          have hv := hR.ev hc
          generalize hcv : a.eval c = cv at hv
          cases hv
          exact TW.step (todo' := .code t :: r) (fun b cs => by rw [step_cond hcv, if_pos rfl]) ((ih h).tw C G a w hnt hR)
        · rename_i hc
          intro C G a w hnt hR
          have hv := hR.ev hc
          generalize hcv : a.eval c = cv at hv
          cases hv
          exact TW.step (todo' := .code e :: r) (fun b cs => by rw [step_cond hcv, if_neg (by decide)]) ((ih h).tw C G a w hnt hR)
        · exact h.elim
      · exact fun C G a w hnt hR => TW.step (fun b cs => step_block) ((ih h).tw C G a w hnt hR)
      · split at h
        · rename_i s' hp
          exact fun C G a w hnt hR => TW.step (fun b cs => step_loop) ((HT.atHead h hp (by simp)).tw C G a w hnt hR)
        · exact h.elim
      · split at h
        · rename_i s' hp
          exact fun C G a w hnt hR => TW.step (fun b cs => step_inLoop) ((HT.atHead h hp (by simp)).tw C G a w hnt hR)
        · exact h.elim
      · split at h
        · rename_i r' hr'
          exact fun C G a w hnt hR => TW.step (fun b cs => step_exit hr') ((ih h).tw C G a w hnt hR)
        · exact h.elim
      · rename_i id ops
        intro C G a w hnt hR
        refine TW.step (fun b cs => step_region) (TW.ops ?_)
        rw [← hnt] at h
        exact walkIdx_sound (E := fun e a w => e = .normal ∧ TW P r (fun a' w' => ∃ s' G', EndsA Γ W.zs f W.res s' ∧ RelG C G' s' a' w') a w) hΓ (fun G s a w h1 h2 => ⟨rfl, (ih (by rw [hnt] at h2; exact h2)).tw C G a w hnt h1⟩) hR h
      · exact h.elim

/-- The walk's tree, written out, is what is to be shown. -/
theorem HT.walk {P : Program} {Γ : TT} (hΓ : Γok P Γ) {f : Func} (W : Wk) (k : Nat) {todo : List Item} {s : AS} {T : PT} (h : AX.walk P Γ f W k todo s = T) (hT : T.holds P f.ntmps (EndsA Γ W.zs f W.res)) : HT P f.ntmps todo s (EndsA Γ W.zs f W.res) :=
  walk_sound hΓ (k := k) (by rw [h]; exact hT)
end Go.AX
