/- Abstract values, and what of the world they stand for. -/
import Derived.WalkKit
import Derived.Maps.AppendAt
import Derived.KernelRfl
import Derived.Below
set_option linter.unusedVariables false
set_option linter.unusedSimpArgs false
namespace Go.AX
open Go Go.RowKit

/-- Who may append to a slice: nobody knows; its capacity is its length; whoever called got it new; this call owns it (tag t). -/
inductive Own where
  | no
  | clip
  | fresh (e sz : Nat)
  | own (t : Nat)

/-- Abstract values. `sl`, `rop`: what is only read, as trees. `ptr`, `row`: a block of this call's own. -/
inductive AV where
  | undef
  | int (k : IntKind) (n : Int)
  | bool (b : Bool)
  | str (s : ByteArray)
  | agg (cs : List AV)
  | tup (vs : List AV)
  | fn (f : FuncId) (caps : List AV)
  | nilFn
  | sl (nl : Option Bool) (n : Nat) (cells : List AV) (o : Own)
  | rop (cells : List AV) (off : Nat)
  | nilp
  | ptr (b off : Nat)
  | row (b off n : Nat)

/-- A slice of one's own that may be appended to. -/
structure TagRec where
  o : Bool
  v : Value
  n : Nat
  e : TypeId
  sz : Nat
  xs : List Value

structure Env where
  F : Nat → Nat → Prop
  φ : Nat → Option Nat
  τ : Nat → Option TagRec

inductive Rep (w : World) (G : Env) : Bool → AV → Value → Prop
  | undef (l : Bool) (v : Value) : Rep w G l .undef v
  | int (l : Bool) (k : IntKind) (n : Int) : Rep w G l (.int k n) (.int k n)
  | bool (l : Bool) (b : Bool) : Rep w G l (.bool b) (.bool b)
  | str (l : Bool) (s : ByteArray) : Rep w G l (.str s) (.string s)
  | agg (l : Bool) (cs : List AV) (vs : Array Value) (hl : vs.size = cs.length) (h : ∀ (i : Nat) (c : AV) (v : Value), cs[i]? = some c → vs[i]? = some v → Rep w G l c v) (h1 : ∀ v ∈ vs, v.oneCell' = true) :
      Rep w G l (.agg cs) (.agg vs)
  | tup (l : Bool) (cs : List AV) (vs : Array Value) (hl : vs.size = cs.length) (h : ∀ (i : Nat) (c : AV) (v : Value), cs[i]? = some c → vs[i]? = some v → Rep w G l c v) :
      Rep w G l (.tup cs) (.tuple vs)
  | fn (l : Bool) (f : FuncId) (cs : List AV) (vs : Array Value) (hl : vs.size = cs.length) (h : ∀ (i : Nat) (c : AV) (v : Value), cs[i]? = some c → vs[i]? = some v → Rep w G l c v) :
      Rep w G l (.fn f cs) (.func (.func f) #[] vs)
  | nilFn (l : Bool) : Rep w G l .nilFn .nilFunc
  | sl (l : Bool) (nl : Option Bool) (n : Nat) (cells : List AV) (o : Own) (A : Option Addr) (c : Nat) (vs : Nat → Value)
      (hnl : ∀ b, nl = some b → A.isNone = b) (hpos : 0 < n → ∃ ad : Addr, A = some ad ∧ ad.spot = none) (hc : n ≤ c)
      (hcell : ∀ (j : Nat) (x : AV), cells[j]? = some x → ∃ ad : Addr, A = some ad ∧ ad.spot = none ∧ G.F ad.block (ad.off + j) ∧ w.cell? ⟨ad.block, ad.off + j, none⟩ = some (vs j) ∧ (vs j).oneCell' = true)
      (hrep : ∀ (j : Nat) (x : AV), cells[j]? = some x → Rep w G false x (vs j))
      (hclip : o = .clip → c = n)
      (hown : ∀ t, o = .own t → l = true ∧ ∃ r, G.τ t = some r ∧ n ≤ r.n ∧ (r.n = n → r.v = .slice A n c)) :
      Rep w G l (.sl nl n cells o) (.slice A n c)
  | rop (l : Bool) (cells : List AV) (off : Nat) (ad : Addr) (vs : Nat → Value)
      (hcell : ∀ (j : Nat) (x : AV), cells[j]? = some x → G.F ad.block (ad.off + j) ∧ w.cell? ⟨ad.block, ad.off + j, none⟩ = some (vs j) ∧ (vs j).oneCell' = true)
      (hrep : ∀ (j : Nat) (x : AV), cells[j]? = some x → Rep w G false x (vs j)) :
      Rep w G l (.rop cells off) (.pointer (some ⟨ad.block, ad.off + off, none⟩))
  | nilp (l : Bool) : Rep w G l .nilp (.pointer none)
  | ptr (id off g : Nat) (h : G.φ id = some g) : Rep w G true (.ptr id off) (.pointer (some ⟨g, off, none⟩))
  | row (id off n g c : Nat) (h : G.φ id = some g) (hc : n ≤ c) : Rep w G true (.row id off n) (.slice (some ⟨g, off, none⟩) n c)

theorem Rep.up {w : World} {G : Env} {l : Bool} {x : AV} {v : Value} (h : Rep w G l x v) : Rep w G true x v := by
  induction h with
  | undef l v => exact .undef _ _
  | int l k n => exact .int _ _ _
  | bool l b => exact .bool _ _
  | str l s => exact .str _ _
  | agg l cs vs hl h h1 ih => exact .agg _ _ _ hl ih h1
  | tup l cs vs hl h ih => exact .tup _ _ _ hl ih
  | fn l f cs vs hl h ih => exact .fn _ _ _ _ hl ih
  | nilFn l => exact .nilFn _
  | sl l nl n cells o A c vs hnl hpos hc hcell hrep hclip hown ih => exact .sl _ _ _ _ _ _ _ vs hnl hpos hc hcell hrep hclip (fun t ht => ⟨rfl, (hown t ht).2⟩)
  | rop l cells off ad vs hcell hrep ih => exact .rop _ _ _ _ vs hcell hrep
  | nilp l => exact .nilp _
  | ptr id off g h => exact .ptr _ _ _ h
  | row id off n g c h hc => exact .row _ _ _ _ _ h hc

/-- What keeps readings: the cells of F stay, F grows, the blocks' and the tags' places stay. -/
structure Env.Le (w : World) (G : Env) (w' : World) (G' : Env) : Prop where
  F : ∀ b o, G.F b o → G'.F b o
  cell : ∀ b o, G.F b o → w'.cell? ⟨b, o, none⟩ = w.cell? ⟨b, o, none⟩
  φ : ∀ i g, G.φ i = some g → G'.φ i = some g
  τ : ∀ t r, G.τ t = some r → ∃ r', G'.τ t = some r' ∧ r.n ≤ r'.n ∧ (r.n = r'.n → r'.v = r.v)

theorem Env.Le.refl (w : World) (G : Env) : Env.Le w G w G := ⟨fun _ _ h => h, fun _ _ _ => rfl, fun _ _ h => h, fun _ r h => ⟨r, h, Nat.le_refl _, fun _ => rfl⟩⟩
theorem Env.Le.trans {w w1 w2 : World} {G G1 G2 : Env} (h : Env.Le w G w1 G1) (k : Env.Le w1 G1 w2 G2) : Env.Le w G w2 G2 :=
  ⟨fun b o hf => k.F b o (h.F b o hf), fun b o hf => (k.cell b o (h.F b o hf)).trans (h.cell b o hf), fun i g hg => k.φ i g (h.φ i g hg), fun t r hr => by
    obtain ⟨r1, e1, a1, b1⟩ := h.τ t r hr
    obtain ⟨r2, e2, a2, b2⟩ := k.τ t r1 e1
    exact ⟨r2, e2, by omega, fun hn => (b2 (by omega)).trans (b1 (by omega))⟩⟩

/-- A tree's reading asks of F alone. -/
theorem Rep.le {w w' : World} {G G' : Env} {l : Bool} {x : AV} {v : Value} (h : Rep w G l x v) (hF : ∀ b o, G.F b o → G'.F b o ∧ w'.cell? ⟨b, o, none⟩ = w.cell? ⟨b, o, none⟩)
    (hφ : l = true → ∀ i g, G.φ i = some g → G'.φ i = some g)
    (hτ : l = true → ∀ t r, G.τ t = some r → ∃ r', G'.τ t = some r' ∧ r.n ≤ r'.n ∧ (r.n = r'.n → r'.v = r.v)) : Rep w' G' l x v := by
  induction h with
  | undef l v => exact .undef _ _
  | int l k n => exact .int _ _ _
  | bool l b => exact .bool _ _
  | str l s => exact .str _ _
  | agg l cs vs hl h h1 ih => exact .agg _ _ _ hl (fun i c v a b => ih i c v a b hφ hτ) h1
  | tup l cs vs hl h ih => exact .tup _ _ _ hl (fun i c v a b => ih i c v a b hφ hτ)
  | fn l f cs vs hl h ih => exact .fn _ _ _ _ hl (fun i c v a b => ih i c v a b hφ hτ)
  | nilFn l => exact .nilFn _
  | sl l nl n cells o A c vs hnl hpos hc hcell hrep hclip hown ih =>
    refine .sl _ _ _ _ _ _ _ vs hnl hpos hc ?_ ?_ hclip ?_
    · intro j x hx
      obtain ⟨ad, hA, hs, hf, hw, h1⟩ := hcell j x hx
      exact ⟨ad, hA, hs, (hF _ _ hf).1, (hF _ _ hf).2.trans hw, h1⟩
    · exact fun j x hx => ih j x hx (fun h => by cases h) (fun h => by cases h)
    · intro t ht
      obtain ⟨hl, r, hr, h3, h4⟩ := hown t ht
      obtain ⟨r', hr', h1, h2⟩ := hτ hl t r hr
      exact ⟨hl, r', hr', by omega, fun hn => (h2 (by omega)).trans (h4 (by omega))⟩
  | rop l cells off ad vs hcell hrep ih =>
    refine .rop _ _ _ _ vs ?_ ?_
    · intro j x hx
      obtain ⟨hf, hw, h1⟩ := hcell j x hx
      exact ⟨(hF _ _ hf).1, (hF _ _ hf).2.trans hw, h1⟩
    · exact fun j x hx => ih j x hx (fun h => by cases h) (fun h => by cases h)
  | nilp l => exact .nilp _
  | ptr id off g h => exact .ptr _ _ _ (hφ rfl _ _ h)
  | row id off n g c h hc => exact .row _ _ _ _ _ (hφ rfl _ _ h) hc

theorem Rep.mono {w w' : World} {G G' : Env} {l : Bool} {x : AV} {v : Value} (h : Rep w G l x v) (hle : Env.Le w G w' G') : Rep w' G' l x v :=
  h.le (fun b o hf => ⟨hle.F b o hf, hle.cell b o hf⟩) (fun _ => hle.φ) (fun _ => hle.τ)

/-- The environment of a caller: what is only read. -/
def envF (F : Nat → Nat → Prop) : Env := ⟨F, fun _ => none, fun _ => none⟩

theorem Rep.tree {w : World} {G G' : Env} {x : AV} {v : Value} (h : Rep w G false x v) (hF : ∀ b o, G.F b o → G'.F b o) : Rep w G' false x v :=
  h.le (fun b o hf => ⟨hF b o hf, rfl⟩) (fun h => by cases h) (fun h => by cases h)

/-! Lists by key -/
def look {α : Type} : List (Nat × α) → Nat → Option α
  | [], _ => none
  | (j, v) :: r, i => match Nat.beq j i with
    | true => some v
    | false => look r i
theorem look_cons {α : Type} (j : Nat) (v : α) (r : List (Nat × α)) (i : Nat) : look ((j, v) :: r) i = if j = i then some v else look r i := by
  by_cases h : j = i
  · subst h
    simp [look]
  · have hb : Nat.beq j i = false := by
      cases hb : Nat.beq j i
      · rfl
      · exact absurd (Nat.eq_of_beq_eq_true hb) h
    simp only [look, hb, h, if_false]

inductive Blk where
  | var (wr : Bool) (cs : List AV)
  | rows (wr : Bool) (cs : List AV)
  | iter (s : ByteArray) (pos : Nat)

/-- A tag: how long its slice is, its elements' type and how many cells they have. -/
structure Tag where
  n : Nat
  e : TypeId
  sz : Nat

structure AS where
  tmps : List (Nat × AV)
  heap : List (Nat × Blk)
  tags : List (Nat × Tag)

def AS.put (s : AS) (d : Nat) (v : AV) : AS := { s with tmps := (d, v) :: s.tmps }
def AS.blk (s : AS) (i : Nat) (b : Blk) : AS := { s with heap := (i, b) :: s.heap }
def AS.tag (s : AS) (t : Nat) (g : Tag) : AS := { s with tags := (t, g) :: s.tags }

def Blk.rw : Blk → Bool
  | .var wr _ => wr
  | .rows wr _ => wr
  | .iter _ _ => true

def BlkOk (w : World) (G : Env) (g : Nat) : Blk → Prop
  | .var wr cs => ∃ (vs : Array Value) (e : TypeId), w.heap[g]? = some (.cells vs e (0, 0)) ∧ vs.size = cs.length ∧ (∀ (i : Nat) (c : AV) (v : Value), cs[i]? = some c → vs[i]? = some v → Rep w G wr c v) ∧ (∀ v ∈ vs, v.oneCell' = true) ∧
      (∀ o, o < cs.length → wr = false → G.F g o)
  | .rows wr cs => ∃ (vs : Array Value) (e : TypeId), w.heap[g]? = some (.cells vs e (0, 0)) ∧ vs.size = cs.length ∧ (∀ (i : Nat) (c : AV) (v : Value), cs[i]? = some c → vs[i]? = some v → Rep w G false c v) ∧ (∀ v ∈ vs, v.oneCell' = true) ∧
      (∀ o, o < cs.length → wr = false → G.F g o)
  | .iter s pos => w.heap[g]? = some (.stringIter s pos)

/-- Of one call: the world at its begin, what was then only read, how many slots it has. -/
structure Ctx where
  w0 : World
  F0 : Nat → Nat → Prop
  nt : Nat

structure RelG (C : Ctx) (G : Env) (s : AS) (a : Act) (w : World) : Prop where
  defers : a.defers = []
  size : a.tmps.size = C.nt
  below : Below C.w0.heap.size C.w0 w
  fdom : ∀ b o, G.F b o → b < w.heap.size
  fold : ∀ b o, G.F b o → b < C.w0.heap.size → C.F0 b o
  f0 : ∀ b o, C.F0 b o → G.F b o
  f0dom : ∀ b o, C.F0 b o → b < C.w0.heap.size
  slots : ∀ i v, look s.tmps i = some v → ∃ x, a.tmps[i]? = some x ∧ Rep w G true v x
  blocks : ∀ i b, look s.heap i = some b → ∃ g, G.φ i = some g ∧ C.w0.heap.size ≤ g ∧ BlkOk w G g b ∧ (b.rw = true → ∀ o, ¬ G.F g o)
  noblock : ∀ i, look s.heap i = none → G.φ i = none
  inj : ∀ i j g, G.φ i = some g → G.φ j = some g → i = j
  tags : ∀ t n, look s.tags t = some n → ∃ r, G.τ t = some r ∧ Tag.mk r.n r.e r.sz = n ∧ (r.o = false → ∃ A, r.v = .slice A r.n r.n ∧ (A = none → r.n = 0)) ∧
    (r.o = true → w.ownsRow C.w0.heap.size r.e r.sz r.v r.n r.xs ∧ (∀ u ∈ r.xs, u.oneCell' = true) ∧
      ∀ g, r.v.ownBlock = some g → (∀ o, G.F g o → o < r.n * r.sz) ∧ (∀ i, G.φ i ≠ some g) ∧ ∀ t' r', G.τ t' = some r' → r'.o = true → r'.v.ownBlock = some g → t' = t)
  notag : ∀ t, look s.tags t = none → G.τ t = none

def Rl (C : Ctx) (s : AS) (a : Act) (w : World) : Prop := ∃ G, RelG C G s a w

end Go.AX
