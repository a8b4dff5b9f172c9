import Derived.Test.YtbedjjckfmhdfaaAxN
set_option linter.unusedVariables false
set_option linter.unusedSimpArgs false
namespace Go.AX
open Go Go.RowKit

/-! ### A state that says less -/
def nlLe : Option Bool → Option Bool → Bool
  | _, none => true
  | some a, some b => a == b
  | none, some _ => false
def ownLe : Own → Own → Bool
  | _, .no => true
  | .clip, .clip => true
  | .own t, .own u => Nat.beq t u
  | _, _ => false
mutual
def leP : AV → AV → Option (List Prop)
  | _, .undef => some []
  | .int k a, .int k' b => if k = k' then some [a = b] else none
  | .bool a, .bool b => some [a = b]
  | .str a, .str b => some [a = b]
  | .sl nl n c o, .sl nl' n' c' o' => match nlLe nl nl', ownLe o o' with
    | true, true => some [n = n', c = c']
    | _, _ => none
  | .agg xs, .agg ys => leL xs ys
  | .tup xs, .tup ys => leL xs ys
  | .fn f xs, .fn g ys => match Nat.beq f g with
    | true => leL xs ys
    | false => none
  | .rop c o, .rop c' o' => some [c = c', o = o']
  | .ptr b o, .ptr b' o' => match Nat.beq b b' with
    | true => some [o = o']
    | false => none
  | .row b o n, .row b' o' n' => match Nat.beq b b' with
    | true => some [o = o', n = n']
    | false => none
  | .nilp, .nilp => some []
  | .nilFn, .nilFn => some []
  | _, _ => none
def leL : List AV → List AV → Option (List Prop)
  | [], [] => some []
  | x :: xs, y :: ys => match leP x y, leL xs ys with
    | some a, some b => some (a ++ b)
    | _, _ => none
  | _, _ => none
end

theorem leL_get : ∀ {xs ys : List AV} {os : List Prop}, leL xs ys = some os → All os → xs.length = ys.length ∧ ∀ (i : Nat) (x y : AV), xs[i]? = some x → ys[i]? = some y → ∃ os', leP x y = some os' ∧ All os'
  | [], [], os, h, ho => ⟨rfl, fun i x y hx => by simp at hx⟩
  | [], _ :: _, os, h, ho => by simp [leL] at h
  | _ :: _, [], os, h, ho => by simp [leL] at h
  | x :: xs, y :: ys, os, h, ho => by
    simp only [leL] at h
    split at h
    · rename_i a b h1 h2
      cases h
      obtain ⟨ho1, ho2⟩ := All_append.1 ho
      obtain ⟨h3, h4⟩ := leL_get h2 ho2
      refine ⟨by simp [h3], fun i x' y' hx hy => ?_⟩
      match i, hx, hy with
      | 0, hx, hy =>
        simp at hx hy
        subst hx; subst hy
        exact ⟨a, h1, ho1⟩
      | n + 1, hx, hy => exact h4 n x' y' (by simpa using hx) (by simpa using hy)
    · cases h

theorem leP_rep {w : World} {G : Env} {l : Bool} {x : AV} {v : Value} (h : Rep w G l x v) : ∀ {y : AV} {os : List Prop}, leP x y = some os → All os → Rep w G l y v := by
  have lists : ∀ (xs ys : List AV) (vs : Array Value) (os : List Prop), vs.size = xs.length → leL xs ys = some os → All os → (∀ (i : Nat) (c : AV) (v : Value), xs[i]? = some c → vs[i]? = some v → ∀ {y : AV} {os : List Prop}, leP c y = some os → All os → Rep w G l y v) →
      vs.size = ys.length ∧ ∀ (i : Nat) (c : AV) (v : Value), ys[i]? = some c → vs[i]? = some v → Rep w G l c v := by
    intro xs ys vs os hl h1 ho ih
    obtain ⟨h2, h3⟩ := leL_get h1 ho
    refine ⟨by omega, fun i c v hc hv => ?_⟩
    have hlt : i < xs.length := by rw [h2]; exact (List.getElem?_eq_some_iff.1 hc).1
    obtain ⟨os', h4, h5⟩ := h3 i xs[i] c (List.getElem?_eq_getElem hlt) hc
    exact ih i xs[i] v (List.getElem?_eq_getElem hlt) hv h4 h5
  have hh := h
  induction h with
  | undef l v =>
    intro y os hy ho
    cases y <;> simp only [leP] at hy <;> first | cases hy | exact .undef _ _
    exact .undef _ _
  | int l k n =>
    intro y os hy ho
    cases y <;> simp only [leP] at hy <;> first | (cases hy; done) | skip
    · exact .undef _ _
    · split at hy
      · cases hy
        simp only [All] at ho
        subst ho
        rename_i e
        subst e
        exact hh
      · cases hy
  | bool l b =>
    intro y os hy ho
    cases y <;> simp only [leP] at hy <;> first | (cases hy; done) | skip
    · exact .undef _ _
    · cases hy
      simp only [All] at ho
      subst ho
      exact hh
  | str l s =>
    intro y os hy ho
    cases y <;> simp only [leP] at hy <;> first | (cases hy; done) | skip
    · exact .undef _ _
    · cases hy
      simp only [All] at ho
      subst ho
      exact hh
  | agg l cs vs hl h h1 ih =>
    intro y os hy ho
    cases y <;> simp only [leP] at hy <;> first | (cases hy; done) | skip
    · exact .undef _ _
    · obtain ⟨h2, h3⟩ := lists cs _ vs os hl hy ho (fun i c v a b => ih i c v a b (fun xs ys vs os e1 e2 e3 e4 => lists xs ys vs os e1 e2 e3 e4) (h i c v a b))
      exact .agg _ _ _ h2 h3 h1
  | tup l cs vs hl h ih =>
    intro y os hy ho
    cases y <;> simp only [leP] at hy <;> first | (cases hy; done) | skip
    · exact .undef _ _
    · obtain ⟨h2, h3⟩ := lists cs _ vs os hl hy ho (fun i c v a b => ih i c v a b (fun xs ys vs os e1 e2 e3 e4 => lists xs ys vs os e1 e2 e3 e4) (h i c v a b))
      exact .tup _ _ _ h2 h3
  | fn l f cs vs hl h ih =>
    intro y os hy ho
    cases y <;> simp only [leP] at hy <;> first | (cases hy; done) | skip
    · exact .undef _ _
    · split at hy
      · rename_i hb
        have e := Nat.eq_of_beq_eq_true hb
        subst e
        obtain ⟨h2, h3⟩ := lists cs _ vs os hl hy ho (fun i c v a b => ih i c v a b (fun xs ys vs os e1 e2 e3 e4 => lists xs ys vs os e1 e2 e3 e4) (h i c v a b))
        exact .fn _ _ _ _ h2 h3
      · cases hy
  | nilFn l =>
    intro y os hy ho
    cases y <;> simp only [leP] at hy <;> first | (cases hy; done) | skip
    · exact .undef _ _
    · exact hh
  | sl l nl n cells o A c vs hnl hpos hc hcell hrep hclip hown ih =>
    intro y os hy ho
    cases y <;> simp only [leP] at hy <;> first | (cases hy; done) | skip
    · exact .undef _ _
    · split at hy
      · rename_i h1 h2
        cases hy
        simp only [All] at ho
        obtain ⟨rfl, rfl⟩ := ho
        refine .sl _ _ _ _ _ _ _ vs (fun b hb => ?_) hpos hc hcell hrep (fun e => ?_) (fun t e => ?_)
        · subst hb
          cases nl with
          | none => simp [nlLe] at h1
          | some a =>
            simp [nlLe] at h1
            exact hnl b (by rw [h1])
        · subst e
          cases o <;> simp [ownLe] at h2
          exact hclip rfl
        · subst e
          cases o <;> simp [ownLe] at h2
          subst h2
          exact hown _ rfl
      · cases hy
  | rop l cells off ad vs hcell hrep ih =>
    intro y os hy ho
    cases y <;> simp only [leP] at hy <;> first | (cases hy; done) | skip
    · exact .undef _ _
    · cases hy
      simp only [All] at ho
      obtain ⟨rfl, rfl⟩ := ho
      exact hh
  | nilp l =>
    intro y os hy ho
    cases y <;> simp only [leP] at hy <;> first | (cases hy; done) | skip
    · exact .undef _ _
    · exact hh
  | ptr id off g h =>
    intro y os hy ho
    cases y <;> simp only [leP] at hy <;> first | (cases hy; done) | skip
    · exact .undef _ _
    · split at hy
      · rename_i hb
        have e := Nat.eq_of_beq_eq_true hb
        subst e
        cases hy
        simp only [All] at ho
        subst ho
        exact hh
      · cases hy
  | row id off n g c h hc =>
    intro y os hy ho
    cases y <;> simp only [leP] at hy <;> first | (cases hy; done) | skip
    · exact .undef _ _
    · split at hy
      · rename_i hb
        have e := Nat.eq_of_beq_eq_true hb
        subst e
        cases hy
        simp only [All] at ho
        obtain ⟨rfl, rfl⟩ := ho
        exact hh
      · cases hy

/-- A value that names no block and no tag but those of a state. -/
def isS {α : Type} : Option α → Bool
  | some _ => true
  | none => false
mutual
def idsOk (s : AS) : AV → Bool
  | .ptr b _ => isS (look s.heap b)
  | .row b _ _ => isS (look s.heap b)
  | .sl _ _ _ (.own t) => isS (look s.tags t)
  | .agg xs => idsOkL s xs
  | .tup xs => idsOkL s xs
  | .fn _ xs => idsOkL s xs
  | _ => true
def idsOkL (s : AS) : List AV → Bool
  | [] => true
  | x :: xs => idsOk s x && idsOkL s xs
end
theorem idsOkL_get {s : AS} : ∀ {xs : List AV}, idsOkL s xs = true → ∀ (i : Nat) (x : AV), xs[i]? = some x → idsOk s x = true
  | [], _, i, x, hx => by simp at hx
  | y :: ys, h, i, x, hx => by
    simp only [idsOkL, Bool.and_eq_true] at h
    match i, hx with
    | 0, hx => simp at hx; subst hx; exact h.1
    | n + 1, hx => exact idsOkL_get h.2 n x (by simpa using hx)

def Env.cut (G : Env) (s : AS) : Env := { G with φ := fun i => if isS (look s.heap i) then G.φ i else none, τ := fun t => if isS (look s.tags t) then G.τ t else none }
theorem idsOk_rep {w : World} {G : Env} {s : AS} {l : Bool} {x : AV} {v : Value} (h : Rep w G l x v) : idsOk s x = true → Rep w (G.cut s) l x v := by
  have trees : ∀ {y : AV} {u : Value}, Rep w G false y u → Rep w (G.cut s) false y u := fun hy => hy.tree (fun b o hf => hf)
  induction h with
  | undef l v => intro _; exact .undef _ _
  | int l k n => intro _; exact .int _ _ _
  | bool l b => intro _; exact .bool _ _
  | str l s => intro _; exact .str _ _
  | agg l cs vs hl h h1 ih => intro hs; simp only [idsOk] at hs; exact .agg _ _ _ hl (fun i c v a b => ih i c v a b (idsOkL_get hs i c a)) h1
  | tup l cs vs hl h ih => intro hs; simp only [idsOk] at hs; exact .tup _ _ _ hl (fun i c v a b => ih i c v a b (idsOkL_get hs i c a))
  | fn l f cs vs hl h ih => intro hs; simp only [idsOk] at hs; exact .fn _ _ _ _ hl (fun i c v a b => ih i c v a b (idsOkL_get hs i c a))
  | nilFn l => intro _; exact .nilFn _
  | sl l nl n cells o A c vs hnl hpos hc hcell hrep hclip hown ih =>
    intro hs
    refine .sl _ _ _ _ _ _ _ vs hnl hpos hc hcell (fun j x hx => trees (hrep j x hx)) hclip (fun t e => ?_)
    subst e
    simp only [idsOk] at hs
    obtain ⟨h1, r, hr, h2⟩ := hown t rfl
    exact ⟨h1, r, by simp [Env.cut, hs, hr], h2⟩
  | rop l cells off ad vs hcell hrep ih => intro _; exact .rop _ _ _ _ vs hcell (fun j x hx => trees (hrep j x hx))
  | nilp l => intro _; exact .nilp _
  | ptr id off g h => intro hs; simp only [idsOk] at hs; exact .ptr _ _ _ (by simp [Env.cut, hs, h])
  | row id off n g c h hc => intro hs; simp only [idsOk] at hs; exact .row _ _ _ _ _ (by simp [Env.cut, hs, h]) hc

def leB : Blk → Blk → Option (List Prop)
  | .var wr xs, .var wr' ys => match wr == wr' with
    | true => leL xs ys
    | false => none
  | .rows wr xs, .rows wr' ys => match wr == wr' with
    | true => some [xs = ys]
    | false => none
  | .iter s p, .iter s' p' => some [s = s', p = p']
  | _, _ => none
def idsB (s : AS) : Blk → Bool
  | .var true xs => idsOkL s xs
  | _ => true

/-- Is a slot among those that are said anew? The others are as they were. -/
def among (l : List Nat) (i : Nat) : Bool := l.any (Nat.beq i)
def subT (ch : List Nat) (s s' : AS) : List (Nat × AV) → Option (List (Nat × AV) × List Prop)
  | [] => some ([], [])
  | (i, v) :: r => match look s.tmps i, idsOk s' v, among ch i with
    | some u, true, true => match leP u v, subT ch s s' r with
      | some a, some (l, b) => some ((i, v) :: l, a ++ b)
      | _, _ => none
    | some u, true, false => match subT ch s s' r with
      | some (l, b) => some ((i, u) :: l, b)
      | none => none
    | _, _, _ => none
def subH (ch : List Nat) (s s' : AS) : List (Nat × Blk) → Option (List (Nat × Blk) × List Prop)
  | [] => some ([], [])
  | (i, v) :: r => match look s.heap i, idsB s' v, among ch i with
    | some u, true, true => match leB u v, subH ch s s' r with
      | some a, some (l, b) => some ((i, v) :: l, a ++ b)
      | _, _ => none
    | some u, true, false => match subH ch s s' r with
      | some (l, b) => some ((i, u) :: l, b)
      | none => none
    | _, _, _ => none
def subG (ch : List Nat) (s s' : AS) : List (Nat × Tag) → Option (List (Nat × Tag) × List Prop)
  | [] => some ([], [])
  | (i, v) :: r => match look s.tags i, among ch i with
    | some u, true => match Nat.beq u.e v.e, Nat.beq u.sz v.sz, subG ch s s' r with
      | true, true, some (l, b) => some ((i, v) :: l, (u.n = v.n) :: b)
      | _, _, _ => none
    | some u, false => match subG ch s s' r with
      | some (l, b) => some ((i, u) :: l, b)
      | none => none
    | none, _ => none
/-- What must hold for state s' to say no more than s; it must then be the state that stands beside it. -/
def subS (ch : List Nat) (s s' : AS) : Option (AS × List Prop) :=
  match subT ch s s' s'.tmps, subH ch s s' s'.heap, subG ch s s' s'.tags with
  | some (t, a), some (h, b), some (g, c) => some (⟨t, h, g⟩, a ++ (b ++ c))
  | _, _, _ => none

theorem leP_refl' (w : World) (G : Env) (l : Bool) (x : AV) (v : Value) (h : Rep w G l x v) : Rep w G l x v := h
theorem subT_get {ch : List Nat} {s s' : AS} : ∀ {l m : List (Nat × AV)} {os : List Prop}, subT ch s s' l = some (m, os) → m = l → All os → ∀ i v, look l i = some v → ∃ u, look s.tmps i = some u ∧ idsOk s' v = true ∧ ∀ w G b x, Rep w G b u x → Rep w G b v x
  | [], m, os, h, hm, ho, i, v, hv => by simp [look] at hv
  | (j, x) :: r, m, os, h, hm, ho, i, v, hv => by
    simp only [subT] at h
    split at h
    · rename_i u hu hid hc
      split at h
      · rename_i a l b h1 h2
        cases h
        cases hm
        obtain ⟨ho1, ho2⟩ := All_append.1 ho
        rw [look_cons] at hv
        split at hv
        · rename_i e
          subst e
          cases hv
          exact ⟨u, hu, hid, fun w G b x hx => leP_rep hx h1 ho1⟩
        · exact subT_get h2 rfl ho2 i v hv
      · cases h
    · rename_i u hu hid hc
      split at h
      · rename_i l b h2
        cases h
        cases hm
        rw [look_cons] at hv
        split at hv
        · rename_i e
          subst e
          cases hv
          exact ⟨_, hu, hid, fun w G b x hx => hx⟩
        · exact subT_get h2 rfl ho i v hv
      · cases h
    · cases h
theorem subH_get {ch : List Nat} {s s' : AS} : ∀ {l m : List (Nat × Blk)} {os : List Prop}, subH ch s s' l = some (m, os) → m = l → All os → ∀ i v, look l i = some v → ∃ u, look s.heap i = some u ∧ idsB s' v = true ∧ (u = v ∨ ∃ os', leB u v = some os' ∧ All os')
  | [], m, os, h, hm, ho, i, v, hv => by simp [look] at hv
  | (j, x) :: r, m, os, h, hm, ho, i, v, hv => by
    simp only [subH] at h
    split at h
    · rename_i u hu hid hc
      split at h
      · rename_i a l b h1 h2
        cases h
        cases hm
        obtain ⟨ho1, ho2⟩ := All_append.1 ho
        rw [look_cons] at hv
        split at hv
        · rename_i e
          subst e
          cases hv
          exact ⟨u, hu, hid, .inr ⟨a, h1, ho1⟩⟩
        · exact subH_get h2 rfl ho2 i v hv
      · cases h
    · rename_i u hu hid hc
      split at h
      · rename_i l b h2
        cases h
        cases hm
        rw [look_cons] at hv
        split at hv
        · rename_i e
          subst e
          cases hv
          exact ⟨_, hu, hid, .inl rfl⟩
        · exact subH_get h2 rfl ho i v hv
      · cases h
    · cases h
theorem subG_get {ch : List Nat} {s s' : AS} : ∀ {l m : List (Nat × Tag)} {os : List Prop}, subG ch s s' l = some (m, os) → m = l → All os → ∀ i v, look l i = some v → look s.tags i = some v
  | [], m, os, h, hm, ho, i, v, hv => by simp [look] at hv
  | (j, x) :: r, m, os, h, hm, ho, i, v, hv => by
    simp only [subG] at h
    split at h
    · rename_i u hu hc
      split at h
      · rename_i l b he hs h2
        cases h
        cases hm
        obtain ⟨ho1, ho2⟩ := All_cons.1 ho
        rw [look_cons] at hv
        split at hv
        · rename_i e
          subst e
          cases hv
          rw [hu]
          obtain ⟨n, e, sz⟩ := u
          obtain ⟨n', e', sz'⟩ := x
          have h3 := Nat.eq_of_beq_eq_true he
          have h4 := Nat.eq_of_beq_eq_true hs
          simp only at h3 h4 ho1
          rw [h3, h4, ho1]
        · exact subG_get h2 rfl ho2 i v hv
      · cases h
    · rename_i u hu hc
      split at h
      · rename_i l b h2
        cases h
        cases hm
        rw [look_cons] at hv
        split at hv
        · rename_i e
          subst e
          cases hv
          exact hu
        · exact subG_get h2 rfl ho i v hv
      · cases h
    · cases h

theorem RelG.weak {C : Ctx} {G : Env} {s s' : AS} {a : Act} {w : World} (h : RelG C G s a w) {os : List Prop} {ch : List Nat} (hs : subS ch s s' = some (s', os)) (ho : All os) : RelG C (G.cut s') s' a w := by
  unfold subS at hs
  split at hs
  · rename_i t1 a1 u1 b1 v1 c1 h1 h2 h3
    simp only [Option.some.injEq, Prod.mk.injEq] at hs
    obtain ⟨hst, rfl⟩ := hs
    have em : t1 = s'.tmps := by rw [← hst]
    have eh : u1 = s'.heap := by rw [← hst]
    have eg : v1 = s'.tags := by rw [← hst]
    obtain ⟨ho1, ho2⟩ := All_append.1 ho
    obtain ⟨ho2, ho3⟩ := All_append.1 ho2
    have hcut : ∀ i g, (G.cut s').φ i = some g → G.φ i = some g := fun i g hg => by
      simp only [Env.cut] at hg
      split at hg
      · exact hg
      · cases hg
    have hcutT : ∀ t r, (G.cut s').τ t = some r → G.τ t = some r := fun t r hr => by
      simp only [Env.cut] at hr
      split at hr
      · exact hr
      · cases hr
    refine ⟨h.defers, h.size, h.below, h.fdom, h.fold, h.f0, h.f0dom, ?_, ?_, ?_, fun i j g hi hj => h.inj i j g (hcut i g hi) (hcut j g hj), ?_, ?_⟩
    · intro i v hv
      obtain ⟨u, hu, hid, hle⟩ := subT_get h1 em ho1 i v hv
      obtain ⟨x, hx, hr⟩ := h.slots i u hu
      exact ⟨x, hx, idsOk_rep (hle _ _ _ _ hr) hid⟩
    · intro i b hb
      obtain ⟨u, hu, hid, hor⟩ := subH_get h2 eh ho2 i b hb
      obtain ⟨g, hg, hbase, hok, hnF⟩ := h.blocks i u hu
      rcases hor with rfl | ⟨os', hle, hos⟩
      · refine ⟨g, by simp [Env.cut, hb, isS, hg], hbase, ?_, hnF⟩
        cases u with
        | var wr xs =>
          obtain ⟨vs, e, k1, k2, k3, k4, k5⟩ := hok
          refine ⟨vs, e, k1, k2, fun j c v hc hv => ?_, k4, k5⟩
          cases wr with
          | true => exact idsOk_rep (k3 j c v hc hv) (idsOkL_get hid j c hc)
          | false => exact (k3 j c v hc hv).tree (fun b o hf => hf)
        | rows wr xs =>
          obtain ⟨vs, e, k1, k2, k3, k4, k5⟩ := hok
          exact ⟨vs, e, k1, k2, fun j c v hc hv => (k3 j c v hc hv).tree (fun b o hf => hf), k4, k5⟩
        | iter st p => exact hok
      refine ⟨g, by simp [Env.cut, hb, isS, hg], hbase, ?_, ?_⟩
      · cases u with
        | var wr xs =>
          cases b with
          | var wr' ys =>
            simp only [leB] at hle
            split at hle
            · rename_i hw
              have hw' : wr = wr' := by simpa using hw
              subst hw'
              obtain ⟨hl, hget⟩ := leL_get hle hos
              obtain ⟨vs, e, k1, k2, k3, k4, k5⟩ := hok
              refine ⟨vs, e, k1, by omega, fun j c v hc hv => ?_, k4, fun o ho hw => k5 o (by omega) hw⟩
              have hlt : j < xs.length := by rw [hl]; exact (List.getElem?_eq_some_iff.1 hc).1
              obtain ⟨os2, h4, h5⟩ := hget j xs[j] c (List.getElem?_eq_getElem hlt) hc
              have hrep := leP_rep (k3 j xs[j] v (List.getElem?_eq_getElem hlt) hv) h4 h5
              cases wr with
              | true => exact idsOk_rep hrep (idsOkL_get hid j c hc)
              | false => exact hrep.tree (fun b o hf => hf)
            · cases hle
          | _ => simp [leB] at hle
        | rows wr xs =>
          cases b with
          | rows wr' ys =>
            simp only [leB] at hle
            split at hle
            · rename_i hw
              have hw' : wr = wr' := by simpa using hw
              subst hw'
              cases hle
              simp only [All] at hos
              subst hos
              obtain ⟨vs, e, k1, k2, k3, k4, k5⟩ := hok
              exact ⟨vs, e, k1, k2, fun j c v hc hv => (k3 j c v hc hv).tree (fun b o hf => hf), k4, k5⟩
            · cases hle
          | _ => simp [leB] at hle
        | iter st p =>
          cases b with
          | iter st' p' =>
            simp only [leB] at hle
            cases hle
            simp only [All] at hos
            obtain ⟨rfl, rfl⟩ := hos
            exact hok
          | _ => simp [leB] at hle
      · intro hw
        refine hnF ?_
        cases u <;> cases b <;> simp only [leB] at hle <;> first | (cases hle; done) | skip
        · split at hle
          · rename_i hw'
            simp only [Blk.rw] at hw ⊢
            rw [hw] at hw'
            simpa using hw'
          · cases hle
        · split at hle
          · rename_i hw'
            simp only [Blk.rw] at hw ⊢
            rw [hw] at hw'
            simpa using hw'
          · cases hle
        · rfl
    · intro i hi
      simp [Env.cut, hi, isS]
    · intro t n ht
      have ht0 := subG_get h3 eg ho3 t n ht
      obtain ⟨r, hr, hn, hcl, hx⟩ := h.tags t n ht0
      refine ⟨r, by simp [Env.cut, ht, isS, hr], hn, hcl, fun hro => ?_⟩
      obtain ⟨k1, k2, k3⟩ := hx hro
      refine ⟨k1, k2, fun g hg => ?_⟩
      obtain ⟨k4, k5, k6⟩ := k3 g hg
      exact ⟨k4, fun i hi => k5 i (hcut i g hi), fun t' r' hr' => k6 t' r' (hcutT t' r' hr')⟩
    · intro t ht
      simp [Env.cut, ht, isS]
  · cases hs

/-! ### From one point of the text to the next -/
def check (P : Program) (Γ : TT) (nt : Nat) (ann : List (Nat × Ann)) (k : Nat) (ch : List Nat) (todo : List Item) (s s1 : AS) : Option (List Item × AS × List Prop) :=
  match run P Γ nt ann k todo s [] with
  | some (todo', s', os) => match subS ch s' s1 with
    | some (s2, os') => some (todo', s2, os ++ os')
    | none => none
  | none => none

theorem HT.weak {P : Program} {nt : Nat} {todo : List Item} {s s' : AS} {Q : AS → Prop} (h : HT P nt todo s' Q) {ch : List Nat} {os : List Prop} (hs : subS ch s s' = some (s', os)) (ho : All os) (hne : todo ≠ []) : HT P nt todo s Q := by
  cases todo with
  | nil => exact absurd rfl hne
  | cons x r => exact fun C G a w hnt hR => h C _ a w hnt (hR.weak hs ho)

theorem HT.seg {P : Program} {Γ : TT} (hΓ : Γok P Γ) {nt : Nat} (ann : List (Nat × Ann)) (k : Nat) (ch : List Nat) {todo tgt : List Item} {s s1 : AS} {Q : AS → Prop} {os : List Prop} (h : check P Γ nt ann k ch todo s s1 = some (tgt, s1, os)) (ho : All os) (hne : tgt ≠ []) (hk : HT P nt tgt s1 Q) : HT P nt todo s Q := by
  unfold check at h
  split at h
  · rename_i todo' s' os1 h1
    split at h
    · rename_i s2 os2 h2
      simp only [Option.some.injEq, Prod.mk.injEq] at h
      obtain ⟨rfl, rfl, rfl⟩ := h
      obtain ⟨ho1, ho2⟩ := All_append.1 ho
      exact run_sound hΓ h1 ho1 (hk.weak h2 ho2 hne)
    · cases h
  · cases h

end Go.AX
