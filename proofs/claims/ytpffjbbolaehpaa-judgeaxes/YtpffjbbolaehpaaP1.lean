import Derived.WalkKit
import Derived.Maps.AppendAt
import Derived.KernelRfl
import Derived.Below
import Derived.Deep.MidRow
import Derived.Laws.CopyRow
section
/- Abstract values, and what of the world they stand for. -/
set_option linter.unusedVariables false
set_option linter.unusedSimpArgs false
namespace Go.AX
open Go Go.RowKit

/-- Who may append to a slice: nobody knows; its capacity is its length; whoever called got it new; this call owns it (tag t). -/
inductive Own where
  | no
  | clip
  | fresh (e sz : Nat)
  | own (t : Nat)

/-- Abstract values. `sl`, `rop`: what is only read, as trees. `ptr`, `row`: a block of this call's own. -/
inductive AV where
  | undef
  | int (k : IntKind) (n : Int)
  | bool (b : Bool)
  | str (s : ByteArray)
  | agg (cs : List AV)
  | tup (vs : List AV)
  | fn (f : FuncId) (caps : List AV)
  | nilFn
  | sl (nl : Option Bool) (n : Nat) (cells : List AV) (o : Own)
  | rop (cells : List AV) (off : Nat)
  | nilp
  | ptr (b off : Nat)
  | row (b off n : Nat)
  | vec (t n : Nat)
  | vptr (t n off : Nat)

/-- A slice of one's own that may be appended to. -/
structure TagRec where
  o : Bool
  v : Value
  n : Nat
  e : TypeId
  sz : Nat
  xs : List Value

structure Env where
  F : Nat → Nat → Prop
  φ : Nat → Option Nat
  τ : Nat → Option TagRec

inductive Rep (w : World) (G : Env) : Bool → AV → Value → Prop
  | undef (l : Bool) (v : Value) : Rep w G l .undef v
  | int (l : Bool) (k : IntKind) (n : Int) : Rep w G l (.int k n) (.int k n)
  | bool (l : Bool) (b : Bool) : Rep w G l (.bool b) (.bool b)
  | str (l : Bool) (s : ByteArray) : Rep w G l (.str s) (.string s)
  | agg (l : Bool) (cs : List AV) (vs : Array Value) (hl : vs.size = cs.length) (h : ∀ (i : Nat) (c : AV) (v : Value), cs[i]? = some c → vs[i]? = some v → Rep w G l c v) (h1 : ∀ v ∈ vs, v.oneCell' = true) :
      Rep w G l (.agg cs) (.agg vs)
  | tup (l : Bool) (cs : List AV) (vs : Array Value) (hl : vs.size = cs.length) (h : ∀ (i : Nat) (c : AV) (v : Value), cs[i]? = some c → vs[i]? = some v → Rep w G l c v) :
      Rep w G l (.tup cs) (.tuple vs)
  | fn (l : Bool) (f : FuncId) (cs : List AV) (vs : Array Value) (hl : vs.size = cs.length) (h : ∀ (i : Nat) (c : AV) (v : Value), cs[i]? = some c → vs[i]? = some v → Rep w G l c v) :
      Rep w G l (.fn f cs) (.func (.func f) #[] vs)
  | nilFn (l : Bool) : Rep w G l .nilFn .nilFunc
  | sl (l : Bool) (nl : Option Bool) (n : Nat) (cells : List AV) (o : Own) (A : Option Addr) (c : Nat) (vs : Nat → Value)
      (hnl : ∀ b, nl = some b → A.isNone = b) (hpos : 0 < n → ∃ ad : Addr, A = some ad ∧ ad.spot = none) (hc : n ≤ c)
      (hcell : ∀ (j : Nat) (x : AV), cells[j]? = some x → ∃ ad : Addr, A = some ad ∧ ad.spot = none ∧ G.F ad.block (ad.off + j) ∧ w.cell? ⟨ad.block, ad.off + j, none⟩ = some (vs j) ∧ (vs j).oneCell' = true)
      (hrep : ∀ (j : Nat) (x : AV), cells[j]? = some x → Rep w G false x (vs j))
      (hclip : o = .clip → c = n)
      (hown : ∀ t, o = .own t → l = true ∧ ∃ r, G.τ t = some r ∧ n ≤ r.n ∧ (r.n = n → r.v = .slice A n c)) :
      Rep w G l (.sl nl n cells o) (.slice A n c)
  | rop (l : Bool) (cells : List AV) (off : Nat) (ad : Addr) (vs : Nat → Value)
      (hcell : ∀ (j : Nat) (x : AV), cells[j]? = some x → G.F ad.block (ad.off + j) ∧ w.cell? ⟨ad.block, ad.off + j, none⟩ = some (vs j) ∧ (vs j).oneCell' = true)
      (hrep : ∀ (j : Nat) (x : AV), cells[j]? = some x → Rep w G false x (vs j)) :
      Rep w G l (.rop cells off) (.pointer (some ⟨ad.block, ad.off + off, none⟩))
  | nilp (l : Bool) : Rep w G l .nilp (.pointer none)
  | ptr (id off g : Nat) (h : G.φ id = some g) : Rep w G true (.ptr id off) (.pointer (some ⟨g, off, none⟩))
  | row (id off n g c : Nat) (h : G.φ id = some g) (hc : n ≤ c) : Rep w G true (.row id off n) (.slice (some ⟨g, off, none⟩) n c)
  | vec (t n : Nat) (A : Option Addr) (m c : Nat) (r : TagRec) (h : G.τ t = some r) (hle : n ≤ r.n) (hv : r.n = n → r.v = .slice A m c) : Rep w G true (.vec t n) (.slice A m c)
  | vptr (t n off : Nat) (p : Option Addr) (r : TagRec) (h : G.τ t = some r) (hle : n ≤ r.n) (hv : r.n = n → ∃ g m c, r.v = .slice (some ⟨g, 0, none⟩) m c ∧ p = some ⟨g, off, none⟩) : Rep w G true (.vptr t n off) (.pointer p)

theorem Rep.up {w : World} {G : Env} {l : Bool} {x : AV} {v : Value} (h : Rep w G l x v) : Rep w G true x v := by
  induction h with
  | undef l v => exact .undef _ _
  | int l k n => exact .int _ _ _
  | bool l b => exact .bool _ _
  | str l s => exact .str _ _
  | agg l cs vs hl h h1 ih => exact .agg _ _ _ hl ih h1
  | tup l cs vs hl h ih => exact .tup _ _ _ hl ih
  | fn l f cs vs hl h ih => exact .fn _ _ _ _ hl ih
  | nilFn l => exact .nilFn _
  | sl l nl n cells o A c vs hnl hpos hc hcell hrep hclip hown ih => exact .sl _ _ _ _ _ _ _ vs hnl hpos hc hcell hrep hclip (fun t ht => ⟨rfl, (hown t ht).2⟩)
  | rop l cells off ad vs hcell hrep ih => exact .rop _ _ _ _ vs hcell hrep
  | nilp l => exact .nilp _
  | ptr id off g h => exact .ptr _ _ _ h
  | row id off n g c h hc => exact .row _ _ _ _ _ h hc
  | vec t n A m c r h hle hv => exact .vec _ _ _ _ _ _ h hle hv
  | vptr t n off p r h hle hv => exact .vptr _ _ _ _ _ h hle hv

/-- What keeps readings: the cells of F stay, F grows, the blocks' and the tags' places stay. -/
structure Env.Le (w : World) (G : Env) (w' : World) (G' : Env) : Prop where
  F : ∀ b o, G.F b o → G'.F b o
  cell : ∀ b o, G.F b o → w'.cell? ⟨b, o, none⟩ = w.cell? ⟨b, o, none⟩
  φ : ∀ i g, G.φ i = some g → G'.φ i = some g
  τ : ∀ t r, G.τ t = some r → ∃ r', G'.τ t = some r' ∧ r.n ≤ r'.n ∧ (r.n = r'.n → r'.v = r.v)

theorem Env.Le.refl (w : World) (G : Env) : Env.Le w G w G := ⟨fun _ _ h => h, fun _ _ _ => rfl, fun _ _ h => h, fun _ r h => ⟨r, h, Nat.le_refl _, fun _ => rfl⟩⟩
theorem Env.Le.trans {w w1 w2 : World} {G G1 G2 : Env} (h : Env.Le w G w1 G1) (k : Env.Le w1 G1 w2 G2) : Env.Le w G w2 G2 :=
  ⟨fun b o hf => k.F b o (h.F b o hf), fun b o hf => (k.cell b o (h.F b o hf)).trans (h.cell b o hf), fun i g hg => k.φ i g (h.φ i g hg), fun t r hr => by
    obtain ⟨r1, e1, a1, b1⟩ := h.τ t r hr
    obtain ⟨r2, e2, a2, b2⟩ := k.τ t r1 e1
    exact ⟨r2, e2, by omega, fun hn => (b2 (by omega)).trans (b1 (by omega))⟩⟩

/-- A tree's reading asks of F alone. -/
theorem Rep.le {w w' : World} {G G' : Env} {l : Bool} {x : AV} {v : Value} (h : Rep w G l x v) (hF : ∀ b o, G.F b o → G'.F b o ∧ w'.cell? ⟨b, o, none⟩ = w.cell? ⟨b, o, none⟩)
    (hφ : l = true → ∀ i g, G.φ i = some g → G'.φ i = some g)
    (hτ : l = true → ∀ t r, G.τ t = some r → ∃ r', G'.τ t = some r' ∧ r.n ≤ r'.n ∧ (r.n = r'.n → r'.v = r.v)) : Rep w' G' l x v := by
  induction h with
  | undef l v => exact .undef _ _
  | int l k n => exact .int _ _ _
  | bool l b => exact .bool _ _
  | str l s => exact .str _ _
  | agg l cs vs hl h h1 ih => exact .agg _ _ _ hl (fun i c v a b => ih i c v a b hφ hτ) h1
  | tup l cs vs hl h ih => exact .tup _ _ _ hl (fun i c v a b => ih i c v a b hφ hτ)
  | fn l f cs vs hl h ih => exact .fn _ _ _ _ hl (fun i c v a b => ih i c v a b hφ hτ)
  | nilFn l => exact .nilFn _
  | sl l nl n cells o A c vs hnl hpos hc hcell hrep hclip hown ih =>
    refine .sl _ _ _ _ _ _ _ vs hnl hpos hc ?_ ?_ hclip ?_
    · intro j x hx
      obtain ⟨ad, hA, hs, hf, hw, h1⟩ := hcell j x hx
      exact ⟨ad, hA, hs, (hF _ _ hf).1, (hF _ _ hf).2.trans hw, h1⟩
    · exact fun j x hx => ih j x hx (fun h => by cases h) (fun h => by cases h)
    · intro t ht
      obtain ⟨hl, r, hr, h3, h4⟩ := hown t ht
      obtain ⟨r', hr', h1, h2⟩ := hτ hl t r hr
      exact ⟨hl, r', hr', by omega, fun hn => (h2 (by omega)).trans (h4 (by omega))⟩
  | rop l cells off ad vs hcell hrep ih =>
    refine .rop _ _ _ _ vs ?_ ?_
    · intro j x hx
      obtain ⟨hf, hw, h1⟩ := hcell j x hx
      exact ⟨(hF _ _ hf).1, (hF _ _ hf).2.trans hw, h1⟩
    · exact fun j x hx => ih j x hx (fun h => by cases h) (fun h => by cases h)
  | nilp l => exact .nilp _
  | ptr id off g h => exact .ptr _ _ _ (hφ rfl _ _ h)
  | row id off n g c h hc => exact .row _ _ _ _ _ (hφ rfl _ _ h) hc
  | vec t n A m c r h hle hv =>
    obtain ⟨r', hr', h1, h2⟩ := hτ rfl t r h
    exact .vec _ _ _ _ _ _ hr' (by omega) (fun hn => (h2 (by omega)).trans (hv (by omega)))
  | vptr t n off p r h hle hv =>
    obtain ⟨r', hr', h1, h2⟩ := hτ rfl t r h
    refine .vptr _ _ _ _ _ hr' (by omega) (fun hn => ?_)
    rw [h2 (by omega)]
    exact hv (by omega)

theorem Rep.mono {w w' : World} {G G' : Env} {l : Bool} {x : AV} {v : Value} (h : Rep w G l x v) (hle : Env.Le w G w' G') : Rep w' G' l x v :=
  h.le (fun b o hf => ⟨hle.F b o hf, hle.cell b o hf⟩) (fun _ => hle.φ) (fun _ => hle.τ)

/-- The environment of a caller: what is only read. -/
def envF (F : Nat → Nat → Prop) : Env := ⟨F, fun _ => none, fun _ => none⟩

theorem Rep.tree {w : World} {G G' : Env} {x : AV} {v : Value} (h : Rep w G false x v) (hF : ∀ b o, G.F b o → G'.F b o) : Rep w G' false x v :=
  h.le (fun b o hf => ⟨hF b o hf, rfl⟩) (fun h => by cases h) (fun h => by cases h)

/-! Lists by key -/
def look {α : Type} : List (Nat × α) → Nat → Option α
  | [], _ => none
  | (j, v) :: r, i => match Nat.beq j i with
    | true => some v
    | false => look r i
theorem look_cons {α : Type} (j : Nat) (v : α) (r : List (Nat × α)) (i : Nat) : look ((j, v) :: r) i = if j = i then some v else look r i := by
  by_cases h : j = i
  · subst h
    simp [look]
  · have hb : Nat.beq j i = false := by
      cases hb : Nat.beq j i
      · rfl
      · exact absurd (Nat.eq_of_beq_eq_true hb) h
    simp only [look, hb, h, if_false]

inductive Blk where
  | var (wr : Bool) (cs : List AV)
  | rows (wr : Bool) (cs : List AV)
  | iter (s : ByteArray) (pos : Nat)

/-- A tag: how long its slice is, its elements' type and how many cells they have; of a slice whose elements may be written (true), and of one that was such (false): its cells. -/
structure Tag where
  n : Nat
  e : TypeId
  sz : Nat
  cs : Option (Bool × List AV) := none

structure AS where
  tmps : List (Nat × AV)
  heap : List (Nat × Blk)
  tags : List (Nat × Tag)

def AS.put (s : AS) (d : Nat) (v : AV) : AS := { s with tmps := (d, v) :: s.tmps }
def AS.blk (s : AS) (i : Nat) (b : Blk) : AS := { s with heap := (i, b) :: s.heap }
def AS.tag (s : AS) (t : Nat) (g : Tag) : AS := { s with tags := (t, g) :: s.tags }

def Blk.rw : Blk → Bool
  | .var wr _ => wr
  | .rows wr _ => wr
  | .iter _ _ => true
/-- May the cells of a tag's slice be written? -/
def Tag.rw (n : Tag) : Bool := match n.cs with
  | some (true, _) => true
  | _ => false

def BlkOk (w : World) (G : Env) (g : Nat) : Blk → Prop
  | .var wr cs => ∃ (vs : Array Value) (e : TypeId), w.heap[g]? = some (.cells vs e (0, 0)) ∧ vs.size = cs.length ∧ (∀ (i : Nat) (c : AV) (v : Value), cs[i]? = some c → vs[i]? = some v → Rep w G wr c v) ∧ (∀ v ∈ vs, v.oneCell' = true) ∧
      (∀ o, o < cs.length → wr = false → G.F g o)
  | .rows wr cs => ∃ (vs : Array Value) (e : TypeId), w.heap[g]? = some (.cells vs e (0, 0)) ∧ vs.size = cs.length ∧ (∀ (i : Nat) (c : AV) (v : Value), cs[i]? = some c → vs[i]? = some v → Rep w G false c v) ∧ (∀ v ∈ vs, v.oneCell' = true) ∧
      (∀ o, o < cs.length → wr = false → G.F g o)
  | .iter s pos => w.heap[g]? = some (.stringIter s pos)

/-- Of one call: the world at its begin, the environment there, how many slots it has, which blocks it was lent. -/
structure Ctx where
  w0 : World
  G0 : Env
  nt : Nat
  L : Nat → Prop
  dom0 : ∀ i, i < 1000000 → G0.φ i = none
  domτ : ∀ i, i < 1000000 → G0.τ i = none

/-- Not frozen, or no strings in it. -/
def Pl (vs : Array Value) (fr : Nat × Nat) : Prop := fr = (0, 0) ∨ ∀ (i : Nat) (s : ByteArray), vs[i]? ≠ some (.string s)
/-- Nothing is frozen anew; what is new is not frozen (but for bytes). -/
def Unf (w w' : World) : Prop := ∀ (k : Nat) (vs : Array Value) (e : TypeId) (fr : Nat × Nat), w'.heap[k]? = some (.cells vs e fr) → (∀ vs0 e0 fr0, w.heap[k]? = some (.cells vs0 e0 fr0) → Pl vs0 fr0) → Pl vs fr
theorem Unf.refl (w : World) : Unf w w := fun k vs e fr h h0 => h0 vs e fr h
theorem Unf.trans {a b c : World} (h : Unf a b) (k : Unf b c) : Unf a c := fun i vs e fr h1 h0 => k i vs e fr h1 (fun vs1 e1 fr1 h2 => h i vs1 e1 fr1 h2 h0)
theorem Unf.same {w w' : World} (h : w'.heap = w.heap) : Unf w w' := fun k vs e fr h1 h0 => h0 vs e fr (by rw [← h]; exact h1)
/-- One block is another one, or new. -/
theorem Unf.one {w w' : World} {g : Nat} (ho : ∀ k, k ≠ g → w'.heap[k]? = w.heap[k]?) (hg : ∀ vs e fr, w'.heap[g]? = some (.cells vs e fr) → Pl vs fr) : Unf w w' := fun k vs e fr h1 h0 => by
  by_cases hk : k = g
  · subst hk; exact hg vs e fr h1
  · exact h0 vs e fr (by rw [← ho k hk]; exact h1)
theorem Unf.alloc_ne (w : World) (o : Obj) {k : Nat} (hk : k ≠ w.heap.size) : (w.alloc o).heap[k]? = w.heap[k]? := by
  show (w.heap.push o)[k]? = w.heap[k]?
  rw [Array.getElem?_push, if_neg hk]
theorem Unf.alloc (w : World) {o : Obj} (h : ∀ vs e fr, o = .cells vs e fr → Pl vs fr) : Unf w (w.alloc o) := by
  refine Unf.one (g := w.heap.size) (fun k hk => ?_) (fun vs e fr h1 => ?_)
  · show (w.heap.push o)[k]? = w.heap[k]?
    rw [Array.getElem?_push, if_neg hk]
  · have h2 : (w.heap.push o)[w.heap.size]? = some (.cells vs e fr) := h1
    rw [Array.getElem?_push, if_pos rfl] at h2
    cases h2
    exact h vs e fr rfl
/-- What is not lent stays. -/
structure Keep (L : Nat → Prop) (w w' : World) : Prop where
  os : w'.os = w.os
  tape : w'.tape = w.tape
  output : w'.output = w.output
  size : w.heap.size ≤ w'.heap.size
  block : ∀ k, k < w.heap.size → ¬ L k → w'.heap[k]? = w.heap[k]?
  fz : Unf w w'

/-- What holds of a tag. -/
structure TagOk (C : Ctx) (G : Env) (w : World) (t : Nat) (m : Tag) (r : TagRec) : Prop where
  hn : r.n = m.n
  he : r.e = m.e
  hsz : r.sz = m.sz
  clip : r.o = false → m.cs = none ∧ ∃ A, r.v = .slice A r.n r.n ∧ (A = none → r.n = 0)
  own : r.o = true → w.ownsRow 0 r.e r.sz r.v r.n r.xs
  one : r.o = true → ∀ u ∈ r.xs, u.oneCell' = true
  base : r.o = true → ∀ g, r.v.ownBlock = some g → C.w0.heap.size ≤ g ∨ C.L g
  hF : r.o = true → ∀ g, r.v.ownBlock = some g → ∀ o, G.F g o → o < r.n * r.sz ∧ m.rw = false
  hφ : r.o = true → ∀ g, r.v.ownBlock = some g → ∀ i, G.φ i ≠ some g
  hτ : r.o = true → ∀ g, r.v.ownBlock = some g → ∀ t' r', G.τ t' = some r' → r'.o = true → r'.v.ownBlock = some g → t' = t
  hcs : ∀ b cells, m.cs = some (b, cells) → r.o = true ∧ cells.length = r.xs.length ∧ (∀ (i : Nat) (c : AV) (v : Value), cells[i]? = some c → r.xs[i]? = some v → Rep w G false c v) ∧
    (b = false → ∀ g, r.v.ownBlock = some g → ∀ o, o < r.n * r.sz → G.F g o)

/-- The tag of that slice whose elements are slices of one's own, and what those are slices of. -/
def DT : Nat := 1000777
def DE : TypeId := 9
/-- A slice of one's own, that lies in a cell. -/
def Inn (C : Ctx) (G : Env) (w : World) (v : Value) : Prop :=
  ∃ n xs, w.ownsRow 0 DE 1 v n xs ∧ (∀ u ∈ xs, u.oneCell' = true) ∧ ∀ g, v.ownBlock = some g → (C.w0.heap.size ≤ g ∨ C.L g) ∧ (∀ o, G.F g o → o < n * 1) ∧ (∀ i, G.φ i ≠ some g) ∧ ∀ t r, G.τ t = some r → r.o = true → r.v.ownBlock ≠ some g
def InnAt (cells : List AV) (xs : List Value) (i : Nat) (v : Value) : Prop := ∃ c : AV, cells[i]? = some c ∧ c ≠ .undef ∧ xs[i]? = some v
def InnOk (C : Ctx) (G : Env) (w : World) (cells : List AV) (xs : List Value) : Prop :=
  (∀ i v, InnAt cells xs i v → Inn C G w v) ∧ ∀ i j v u g, InnAt cells xs i v → InnAt cells xs j u → v.ownBlock = some g → u.ownBlock = some g → i = j
/-- The cells of the slice of slices, where it may be written. -/
def deepC (tg : List (Nat × Tag)) (cells : List AV) : Prop := ∃ m, look tg DT = some m ∧ m.cs = some (true, cells)
def Deep (C : Ctx) (G : Env) (tg : List (Nat × Tag)) (w : World) : Prop := ∀ cells r, deepC tg cells → G.τ DT = some r → InnOk C G w cells r.xs
def InnV (G : Env) (tg : List (Nat × Tag)) (v : Value) : Prop := ∃ cells r i, deepC tg cells ∧ G.τ DT = some r ∧ InnAt cells r.xs i v

structure RelM (C : Ctx) (G : Env) (hp : List (Nat × Blk)) (tg : List (Nat × Tag)) (w : World) : Prop where
  keep : Keep C.L C.w0 w
  le : Env.Le C.w0 C.G0 w G
  fdom : ∀ b o, G.F b o → b < w.heap.size
  fold : ∀ b o, G.F b o → b < C.w0.heap.size → C.G0.F b o ∨ C.L b
  blocks : ∀ i b, look hp i = some b → ∃ g, G.φ i = some g ∧ (C.w0.heap.size ≤ g ∨ C.L g) ∧ BlkOk w G g b ∧ (b.rw = true → ∀ o, ¬ G.F g o)
  noblock : ∀ i, look hp i = none → G.φ i = none
  inj : ∀ i j g, G.φ i = some g → G.φ j = some g → i = j
  tags : ∀ t n, look tg t = some n → ∃ r, G.τ t = some r ∧ TagOk C G w t n r
  notag : ∀ t, look tg t = none → G.τ t = none
  deep : Deep C G tg w

structure RelG (C : Ctx) (G : Env) (s : AS) (a : Act) (w : World) : Prop where
  defers : a.defers = []
  size : a.tmps.size = C.nt
  slots : ∀ i v, look s.tmps i = some v → ∃ x, a.tmps[i]? = some x ∧ Rep w G true v x
  mem : RelM C G s.heap s.tags w

theorem Deep.get {C : Ctx} {G : Env} {tg : List (Nat × Tag)} {w : World} (h : Deep C G tg w) {v : Value} (hv : InnV G tg v) : Inn C G w v := by
  obtain ⟨cells, r, i, h1, h2, h3⟩ := hv
  exact (h cells r h1 h2).1 i v h3
/-- In another world and environment, the same cells. -/
theorem Deep.mv {C C' : Ctx} {G G' : Env} {tg tg' : List (Nat × Tag)} {w w' : World} (h : Deep C G tg w) (hT : ∀ cells, deepC tg' cells → deepC tg cells) (hτ : ∀ cells r, deepC tg' cells → G'.τ DT = some r → G.τ DT = some r)
    (hi : ∀ v, InnV G tg v → Inn C G w v → Inn C' G' w' v) : Deep C' G' tg' w' := by
  intro cells r hc hr
  have h1 := hT cells hc
  have h2 := hτ cells r hc hr
  obtain ⟨k1, k2⟩ := h cells r h1 h2
  exact ⟨fun i v hv => hi v ⟨cells, r, i, h1, h2, hv⟩ (k1 i v hv), k2⟩
theorem Inn.lt {C : Ctx} {G : Env} {w : World} {v : Value} (h : Inn C G w v) {g : Nat} (hg : v.ownBlock = some g) : g < w.heap.size := by
  obtain ⟨n, xs, h1, _⟩ := h
  exact (h1.lt g hg).2

def Rl (C : Ctx) (s : AS) (a : Act) (w : World) : Prop := ∃ G, RelG C G s a w

end Go.AX
end

section
/- The world's moves, as a call's relation sees them. -/
set_option linter.unusedVariables false
set_option linter.unusedSimpArgs false
namespace Go.AX
open Go Go.RowKit

theorem cell_heap {w w' : World} {b o : Nat} (h : w'.heap[b]? = w.heap[b]?) : w'.cell? ⟨b, o, none⟩ = w.cell? ⟨b, o, none⟩ := by simp [World.cell?, h]
theorem Act.put_get (a : Act) (d i : Nat) (x : Value) (hd : d < a.tmps.size) : (a.put (some d) x).tmps[i]? = if d = i then some x else a.tmps[i]? := by
  simp only [Act.put, Array.getElem?_setIfInBounds]
  split
  · rename_i h; subst h; simp [hd]
  · rfl

theorem BlkOk.le {w w' : World} {G G' : Env} {g : Nat} {b : Blk} (h : BlkOk w G g b) (hg : w'.heap[g]? = w.heap[g]?) (hle : Env.Le w G w' G') : BlkOk w' G' g b := by
  cases b with
  | var wr cs =>
    obtain ⟨vs, e, h1, h2, h3, h4, h5⟩ := h
    exact ⟨vs, e, hg.trans h1, h2, fun i c v a b => (h3 i c v a b).mono hle, h4, fun o ho hw => hle.F _ _ (h5 o ho hw)⟩
  | rows wr cs =>
    obtain ⟨vs, e, h1, h2, h3, h4, h5⟩ := h
    exact ⟨vs, e, hg.trans h1, h2, fun i c v a b => (h3 i c v a b).mono hle, h4, fun o ho hw => hle.F _ _ (h5 o ho hw)⟩
  | iter s pos => exact hg.trans h
theorem BlkOk.lt {w : World} {G : Env} {g : Nat} {b : Blk} (h : BlkOk w G g b) : g < w.heap.size := by
  cases b with
  | var wr cs => obtain ⟨vs, e, h1, _⟩ := h; exact (Array.getElem?_eq_some_iff.1 h1).1
  | rows wr cs => obtain ⟨vs, e, h1, _⟩ := h; exact (Array.getElem?_eq_some_iff.1 h1).1
  | iter s pos => exact (Array.getElem?_eq_some_iff.1 h).1

theorem own_keep {w w' : World} {base : Nat} {e : TypeId} {size n : Nat} {v : Value} {xs : List Value} (h : w.ownsRow base e size v n xs) (hk : ∀ g, v.ownBlock = some g → w'.heap[g]? = w.heap[g]?) : w'.ownsRow base e size v n xs := by
  refine ⟨h.1, ?_⟩
  rcases h.2 with h2 | ⟨g, cap, cur, rfl, hb, hh, h3⟩
  · exact .inl h2
  · exact .inr ⟨g, cap, cur, rfl, hb, (hk g rfl).trans hh, h3⟩

theorem Inn.mv {C : Ctx} {G G' : Env} {w w' : World} {v : Value} (h : Inn C G w v) (hk : ∀ g, v.ownBlock = some g → w'.heap[g]? = w.heap[g]?) (hF : ∀ g, v.ownBlock = some g → ∀ o, G'.F g o → G.F g o) (hφ : ∀ g, v.ownBlock = some g → ∀ i, G'.φ i ≠ some g)
    (hτ : ∀ g, v.ownBlock = some g → ∀ t r, G'.τ t = some r → r.o = true → r.v.ownBlock ≠ some g) : Inn C G' w' v := by
  obtain ⟨n, xs, h1, h2, h3⟩ := h
  exact ⟨n, xs, own_keep h1 hk, h2, fun g hg => ⟨(h3 g hg).1, fun o hf => (h3 g hg).2.1 o (hF g hg o hf), hφ g hg, hτ g hg⟩⟩
theorem Inn.φ {C : Ctx} {G : Env} {w : World} {v : Value} (h : Inn C G w v) : ∀ g, v.ownBlock = some g → ∀ i, G.φ i ≠ some g := by
  obtain ⟨n, xs, h1, h2, h3⟩ := h
  exact fun g hg => (h3 g hg).2.2.1
theorem Inn.τ {C : Ctx} {G : Env} {w : World} {v : Value} (h : Inn C G w v) : ∀ g, v.ownBlock = some g → ∀ t r, G.τ t = some r → r.o = true → r.v.ownBlock ≠ some g := by
  obtain ⟨n, xs, h1, h2, h3⟩ := h
  exact fun g hg => (h3 g hg).2.2.2
theorem Inn.base {C : Ctx} {G : Env} {w : World} {v : Value} (h : Inn C G w v) : ∀ g, v.ownBlock = some g → C.w0.heap.size ≤ g ∨ C.L g := by
  obtain ⟨n, xs, h1, h2, h3⟩ := h
  exact fun g hg => (h3 g hg).1
theorem deepC_cons {t : Nat} {m : Tag} {tg : List (Nat × Tag)} {cells : List AV} (h : deepC ((t, m) :: tg) cells) : (t = DT ∧ m.cs = some (true, cells)) ∨ (t ≠ DT ∧ deepC tg cells) := by
  obtain ⟨m', h1, h2⟩ := h
  rw [look_cons] at h1
  split at h1
  · rename_i e
    cases h1
    exact .inl ⟨e, h2⟩
  · rename_i e
    exact .inr ⟨e, m', h1, h2⟩

theorem Keep.refl (L : Nat → Prop) (w : World) : Keep L w w := ⟨rfl, rfl, rfl, Nat.le_refl _, fun _ _ _ => rfl, Unf.refl w⟩
theorem Keep.trans {L L' : Nat → Prop} {a b c : World} (h : Keep L a b) (k : Keep L' b c) (hL : ∀ g, g < a.heap.size → L' g → L g) : Keep L a c :=
  ⟨k.os.trans h.os, k.tape.trans h.tape, k.output.trans h.output, Nat.le_trans h.size k.size, fun i hi hn => (k.block i (Nat.lt_of_lt_of_le hi h.size) (fun hl => hn (hL i hi hl))).trans (h.block i hi hn), h.fz.trans k.fz⟩
theorem Keep.below {L : Nat → Prop} {a b c : World} (h : Keep L a b) (k : Below b.heap.size b c) (kz : Unf b c) : Keep L a c :=
  ⟨k.os.trans h.os, k.tape.trans h.tape, k.output.trans h.output, Nat.le_trans h.size k.size, fun i hi hn => (k.block i (Nat.lt_of_lt_of_le hi h.size)).trans (h.block i hi hn), h.fz.trans kz⟩
/-- One block is another one. -/
theorem Keep.one {L : Nat → Prop} {a b c : World} (h : Keep L a b) {g : Nat} (hg : a.heap.size ≤ g ∨ L g) (hos : c.os = b.os) (htape : c.tape = b.tape) (hout : c.output = b.output) (hsz : c.heap.size = b.heap.size) (hoth : ∀ k, k ≠ g → c.heap[k]? = b.heap[k]?) (hgz : ∀ vs e fr, c.heap[g]? = some (.cells vs e fr) → Pl vs fr) : Keep L a c :=
  ⟨hos.trans h.os, htape.trans h.tape, hout.trans h.output, by rw [hsz]; exact h.size, fun k hk hn => (hoth k (fun e => by subst e; rcases hg with h1 | h1; exact absurd h1 (by omega); exact hn h1)).trans (h.block k hk hn), h.fz.trans (Unf.one hoth hgz)⟩

/-! ### A slot -/
theorem RelG.put {C : Ctx} {G : Env} {s : AS} {a : Act} {w : World} (h : RelG C G s a w) {d : Nat} {v : AV} {x : Value} (hd : d < C.nt) (hv : Rep w G true v x) : RelG C G (s.put d v) (a.put (some d) x) w := by
  have hds : d < a.tmps.size := by rw [h.size]; exact hd
  refine ⟨by simpa [Act.put] using h.defers, by simp [Act.put, h.size], ?_, h.mem⟩
  intro i u hu
  simp only [AS.put, look_cons] at hu
  rw [Act.put_get a d i x hds]
  split at hu
  · rename_i hi
    cases hu
    exact ⟨x, by simp [hi], hv⟩
  · rename_i hi
    simp only [hi, if_false]
    exact h.slots i u hu

/-- The slots stand for what they stood for. -/
theorem RelG.mv {C : Ctx} {G G' : Env} {s : AS} {a : Act} {w w' : World} (h : RelG C G s a w) {hp : List (Nat × Blk)} {tg : List (Nat × Tag)} (hm : RelM C G' hp tg w') (hle : Env.Le w G w' G') : RelG C G' ⟨s.tmps, hp, tg⟩ a w' :=
  ⟨h.defers, h.size, fun i v hi => by
    obtain ⟨x, hx, hr⟩ := h.slots i v hi
    exact ⟨x, hx, hr.mono hle⟩, hm⟩

section
variable {C : Ctx} {G G' : Env} {hp : List (Nat × Blk)} {tg : List (Nat × Tag)} {w w' : World}
theorem RelM.size (h : RelM C G hp tg w) : C.w0.heap.size ≤ w.heap.size := h.keep.size
theorem RelM.blk_lt (h : RelM C G hp tg w) {i g : Nat} (hg : G.φ i = some g) : g < w.heap.size := by
  cases hi : look hp i with
  | none => rw [h.noblock i hi] at hg; cases hg
  | some b =>
    obtain ⟨g', h1, _, h2, _⟩ := h.blocks i b hi
    rw [hg] at h1
    cases h1
    exact h2.lt
theorem RelM.tag_ok (h : RelM C G hp tg w) {t : Nat} {r : TagRec} (hr : G.τ t = some r) : ∃ n, look tg t = some n ∧ TagOk C G w t n r := by
  cases ht : look tg t with
  | none => rw [h.notag t ht] at hr; cases hr
  | some n =>
    obtain ⟨r', h1, h2⟩ := h.tags t n ht
    rw [hr] at h1
    cases h1
    exact ⟨n, rfl, h2⟩
theorem RelM.tag_lt (h : RelM C G hp tg w) {t : Nat} {r : TagRec} (hr : G.τ t = some r) (ho : r.o = true) {g : Nat} (hx : r.v.ownBlock = some g) : g < w.heap.size := by
  obtain ⟨n, _, h2⟩ := h.tag_ok hr
  exact ((h2.own ho).lt g hx).2

/-- A tag, in another world and environment where its block is as it was. -/
theorem TagOk.mv {t : Nat} {m : Tag} {r : TagRec} (h : TagOk C G w t m r) (hle : Env.Le w G w' G') (hk : r.o = true → ∀ g, r.v.ownBlock = some g → w'.heap[g]? = w.heap[g]?) (hF : r.o = true → ∀ g, r.v.ownBlock = some g → ∀ o, G'.F g o → G.F g o ∨ (o < r.n * r.sz ∧ m.rw = false))
    (hφ : r.o = true → ∀ g, r.v.ownBlock = some g → ∀ i, G'.φ i ≠ some g) (hτ : r.o = true → ∀ g, r.v.ownBlock = some g → ∀ t' r', G'.τ t' = some r' → r'.o = true → r'.v.ownBlock = some g → t' = t) : TagOk C G' w' t m r where
  hn := h.hn
  he := h.he
  hsz := h.hsz
  clip := h.clip
  own := fun ho => own_keep (h.own ho) (hk ho)
  one := h.one
  base := h.base
  hF := fun ho g hg o hf => by
    rcases hF ho g hg o hf with h1 | h1
    · exact h.hF ho g hg o h1
    · exact h1
  hφ := hφ
  hτ := hτ
  hcs := fun b cells hc => by
    obtain ⟨h1, h2, h3, h4⟩ := h.hcs b cells hc
    exact ⟨h1, h2, fun i c v hi hv => (h3 i c v hi hv).mono hle, fun hb g hg o ho => hle.F _ _ (h4 hb g hg o ho)⟩

/-! ### What is new and only read; draws -/
theorem RelM.grow (h : RelM C G hp tg w) (hb : Below w.heap.size w w') (hz : Unf w w') (hφ : G'.φ = G.φ) (hτ : G'.τ = G.τ)
    (hF : ∀ b o, G.F b o → G'.F b o) (hF' : ∀ b o, G'.F b o → G.F b o ∨ (w.heap.size ≤ b ∧ b < w'.heap.size)) : RelM C G' hp tg w' ∧ Env.Le w G w' G' := by
  have hle : Env.Le w G w' G' := ⟨hF, fun b o hf => cell_heap (hb.block b (h.fdom b o hf)), fun i g hg => by rw [hφ]; exact hg, fun t r hr => ⟨r, by rw [hτ]; exact hr, Nat.le_refl _, fun _ => rfl⟩⟩
  have hbase : C.w0.heap.size ≤ w.heap.size := h.size
  refine ⟨⟨h.keep.below hb hz, h.le.trans hle, ?_, ?_, ?_, fun i hi => by rw [hφ]; exact h.noblock i hi, fun i j g => by rw [hφ]; exact h.inj i j g, ?_, fun t ht => by rw [hτ]; exact h.notag t ht, h.deep.mv (fun _ h => h) (fun _ r _ hr => by rw [← hτ]; exact hr) (fun v _ hi => hi.mv (fun g hg => hb.block g (hi.lt hg)) (fun g hg o hf => ?_) (fun g hg i => by rw [hφ]; exact hi.φ g hg i) (fun g hg t r hr => hi.τ g hg t r (by rw [← hτ]; exact hr)))⟩, hle⟩
  · intro b o hf
    rcases hF' b o hf with h1 | h1
    · exact Nat.lt_of_lt_of_le (h.fdom b o h1) hb.size
    · exact h1.2
  · intro b o hf hlt
    rcases hF' b o hf with h1 | h1
    · exact h.fold b o h1 hlt
    · omega
  · intro i b hi
    obtain ⟨g, hg, h1, h2, h3⟩ := h.blocks i b hi
    refine ⟨g, by rw [hφ]; exact hg, h1, h2.le (hb.block g h2.lt) hle, fun hw o hf => ?_⟩
    rcases hF' g o hf with h4 | h4
    · exact h3 hw o h4
    · have := h2.lt; omega
  · intro t n ht
    obtain ⟨r, hr, hok⟩ := h.tags t n ht
    refine ⟨r, by rw [hτ]; exact hr, hok.mv hle (fun ho g hg => hb.block g ((hok.own ho).lt g hg).2) (fun ho g hg o hf => ?_) (fun ho g hg i => by rw [hφ]; exact hok.hφ ho g hg i) (fun ho g hg t' r' hr' => hok.hτ ho g hg t' r' (by rw [← hτ]; exact hr'))⟩
    rcases hF' g o hf with h6 | h6
    · exact .inl h6
    · have := ((hok.own ho).lt g hg).2; omega
  · rcases hF' g o hf with h6 | h6
    · exact h6
    · have := hi.lt hg; omega
end
theorem RelG.grow {C : Ctx} {G G' : Env} {s : AS} {a : Act} {w w' : World} (h : RelG C G s a w) (hb : Below w.heap.size w w') (hz : Unf w w') (hφ : G'.φ = G.φ) (hτ : G'.τ = G.τ)
    (hF : ∀ b o, G.F b o → G'.F b o) (hF' : ∀ b o, G'.F b o → G.F b o ∨ (w.heap.size ≤ b ∧ b < w'.heap.size)) : RelG C G' s a w' ∧ Env.Le w G w' G' := by
  obtain ⟨h1, h2⟩ := h.mem.grow hb hz hφ hτ hF hF'
  exact ⟨h.mv h1 h2, h2⟩
theorem RelG.drew {C : Ctx} {G : Env} {s : AS} {a : Act} {w : World} (h : RelG C G s a w) : RelG C G s a { w with drawn := w.drawn + 1 } :=
  (h.grow (w' := { w with drawn := w.drawn + 1 }) ⟨rfl, rfl, rfl, Nat.le_refl _, fun _ _ => rfl⟩ (Unf.same rfl) rfl rfl (fun _ _ h => h) (fun _ _ h => .inl h)).1
theorem RelG.blk_lt {C : Ctx} {G : Env} {s : AS} {a : Act} {w : World} (h : RelG C G s a w) {i g : Nat} (hg : G.φ i = some g) : g < w.heap.size := h.mem.blk_lt hg
theorem RelG.tag_lt {C : Ctx} {G : Env} {s : AS} {a : Act} {w : World} (h : RelG C G s a w) {t : Nat} {r : TagRec} (hr : G.τ t = some r) (ho : r.o = true) {g : Nat} (hx : r.v.ownBlock = some g) : g < w.heap.size := h.mem.tag_lt hr ho hx
theorem RelG.fdom {C : Ctx} {G : Env} {s : AS} {a : Act} {w : World} (h : RelG C G s a w) : ∀ b o, G.F b o → b < w.heap.size := h.mem.fdom
theorem RelG.blocks {C : Ctx} {G : Env} {s : AS} {a : Act} {w : World} (h : RelG C G s a w) : ∀ i b, look s.heap i = some b → ∃ g, G.φ i = some g ∧ (C.w0.heap.size ≤ g ∨ C.L g) ∧ BlkOk w G g b ∧ (b.rw = true → ∀ o, ¬ G.F g o) := h.mem.blocks
theorem RelG.noblock {C : Ctx} {G : Env} {s : AS} {a : Act} {w : World} (h : RelG C G s a w) : ∀ i, look s.heap i = none → G.φ i = none := h.mem.noblock
theorem RelG.inj {C : Ctx} {G : Env} {s : AS} {a : Act} {w : World} (h : RelG C G s a w) : ∀ i j g, G.φ i = some g → G.φ j = some g → i = j := h.mem.inj
theorem RelG.tags {C : Ctx} {G : Env} {s : AS} {a : Act} {w : World} (h : RelG C G s a w) : ∀ t n, look s.tags t = some n → ∃ r, G.τ t = some r ∧ TagOk C G w t n r := h.mem.tags
theorem RelG.deep {C : Ctx} {G : Env} {s : AS} {a : Act} {w : World} (h : RelG C G s a w) : Deep C G s.tags w := h.mem.deep
theorem RelG.notag {C : Ctx} {G : Env} {s : AS} {a : Act} {w : World} (h : RelG C G s a w) : ∀ t, look s.tags t = none → G.τ t = none := h.mem.notag

/-! ### A new block of one's own -/
def Env.addB (G : Env) (i g : Nat) : Env := { G with φ := fun j => if j = i then some g else G.φ j }
theorem Env.addB_le (w : World) (G : Env) (i g : Nat) (hi : G.φ i = none) : Env.Le w G w (G.addB i g) :=
  ⟨fun _ _ h => h, fun _ _ _ => rfl, fun j k hj => by
    simp only [Env.addB]
    split
    · rename_i e; subst e; rw [hi] at hj; cases hj
    · exact hj, fun t r hr => ⟨r, hr, Nat.le_refl _, fun _ => rfl⟩⟩

theorem RelG.addBlk {C : Ctx} {G : Env} {s : AS} {a : Act} {w : World} (h : RelG C G s a w) {i g : Nat} {b : Blk} (hi : look s.heap i = none) (hg : C.w0.heap.size ≤ g) (hG : ∀ o, ¬ G.F g o) (hφ : ∀ j, G.φ j ≠ some g)
    (hτ : ∀ t r, G.τ t = some r → r.o = true → r.v.ownBlock ≠ some g) (hin : ∀ v, InnV G s.tags v → v.ownBlock ≠ some g) (hb : BlkOk w G g b) : RelG C (G.addB i g) (s.blk i b) a w ∧ Env.Le w G w (G.addB i g) := by
  have hle := Env.addB_le w G i g (h.noblock i hi)
  refine ⟨h.mv (hp := (i, b) :: s.heap) (tg := s.tags) ⟨h.mem.keep, h.mem.le.trans hle, h.mem.fdom, h.mem.fold, ?_, ?_, ?_, ?_, h.mem.notag, h.deep.mv (fun _ h => h) (fun _ _ _ hr => hr) (fun v hv k => k.mv (fun _ _ => rfl) (fun _ _ _ hf => hf) (fun g' hg' j hj => ?_) k.τ)⟩ hle, hle⟩
  · intro j c hj
    simp only [look_cons] at hj
    split at hj
    · rename_i e
      cases hj
      subst e
      exact ⟨g, by simp [Env.addB], .inl hg, hb.le rfl hle, fun _ o => hG o⟩
    · obtain ⟨g', h1, h2, h3, h4⟩ := h.blocks j c hj
      exact ⟨g', hle.φ _ _ h1, h2, h3.le rfl hle, h4⟩
  · intro j hj
    simp only [look_cons] at hj
    split at hj
    · cases hj
    · rename_i e
      simp only [Env.addB]
      rw [if_neg (fun h => e h.symm)]
      exact h.noblock j hj
  · intro j k g' hj hk
    simp only [Env.addB] at hj hk
    split at hj <;> split at hk
    · simp_all
    · simp only [Option.some.injEq] at hj
      subst hj
      exact absurd hk (hφ k)
    · simp only [Option.some.injEq] at hk
      subst hk
      exact absurd hj (hφ j)
    · exact h.inj j k g' hj hk
  · intro t n ht
    obtain ⟨r, hr, hok⟩ := h.tags t n ht
    refine ⟨r, hr, hok.mv hle (fun _ _ _ => rfl) (fun _ _ _ o hf => .inl hf) (fun ho g' hg' j hj => ?_) (fun ho g' hg' t' r' hr' => hok.hτ ho g' hg' t' r' hr')⟩
    simp only [Env.addB] at hj
    split at hj
    · simp only [Option.some.injEq] at hj
      subst hj
      exact hτ t r hr ho hg'
    · exact hok.hφ ho g' hg' j hj
  · simp only [Env.addB] at hj
    split at hj
    · simp only [Option.some.injEq] at hj
      subst hj
      exact hin v hv hg'
    · exact k.φ g' hg' j hj

theorem BlkOk.unf {w : World} {G : Env} {g : Nat} {b : Blk} (h : BlkOk w G g b) : ∀ vs e fr, w.heap[g]? = some (.cells vs e fr) → Pl vs fr := fun vs e fr hg => by
  cases b with
  | var wr cs =>
    obtain ⟨_, _, h1, _⟩ := h
    rw [h1] at hg
    cases hg
    exact .inl rfl
  | rows wr cs =>
    obtain ⟨_, _, h1, _⟩ := h
    rw [h1] at hg
    cases hg
    exact .inl rfl
  | iter s pos =>
    have h1 : w.heap[g]? = _ := h
    rw [h1] at hg
    cases hg
theorem owns_unf {w : World} {base sz n g : Nat} {e : TypeId} {v : Value} {xs : List Value} (h : w.ownsRow base e sz v n xs) (hg : v.ownBlock = some g) : ∀ vs e' fr, w.heap[g]? = some (.cells vs e' fr) → Pl vs fr := fun vs e' fr hh => by
  obtain ⟨_, h1 | ⟨g', cap, cur, rfl, _, h2, _⟩⟩ := h
  · rw [h1.1] at hg
    cases hg
  · cases hg
    rw [h2] at hh
    cases hh
    exact .inl rfl
/-- A block that is laid now, and is a block of one's own. -/
theorem RelG.alloc {C : Ctx} {G : Env} {s : AS} {a : Act} {w : World} (h : RelG C G s a w) {i : Nat} {b : Blk} {o : Obj} (hi : look s.heap i = none) (hb : BlkOk (w.alloc o) G w.heap.size b) : RelG C (G.addB i w.heap.size) (s.blk i b) a (w.alloc o) ∧ Env.Le w G (w.alloc o) (G.addB i w.heap.size) := by
  obtain ⟨h1, h2⟩ := h.grow (G' := G) (w' := w.alloc o) ((Below.refl _ _).alloc (Nat.le_refl _) o) (Unf.one (g := w.heap.size) (fun k hk => (Unf.alloc_ne w o hk)) hb.unf) rfl rfl (fun _ _ h => h) (fun _ _ h => .inl h)
  obtain ⟨h3, h4⟩ := h1.addBlk (i := i) (g := w.heap.size) (b := b) hi h.mem.size (fun o hf => absurd (h.fdom _ _ hf) (by omega)) (fun j hj => absurd (h.blk_lt hj) (by omega)) (fun t r hr ho hx => absurd (h.tag_lt hr ho hx) (by omega)) (fun v hv hg => absurd ((h.deep.get hv).lt hg) (by omega)) hb
  exact ⟨h3, h2.trans h4⟩

/-- The content of a block of one's own is another one. -/
theorem RelG.setBlk {C : Ctx} {G : Env} {s : AS} {a : Act} {w w' : World} (h : RelG C G s a w) {i g : Nat} {b b' : Blk} (hi : look s.heap i = some b) (hg : G.φ i = some g) (hrw : b.rw = true)
    (hos : w'.os = w.os) (htape : w'.tape = w.tape) (hout : w'.output = w.output) (hsz : w'.heap.size = w.heap.size) (hoth : ∀ k, k ≠ g → w'.heap[k]? = w.heap[k]?)
    (hb : Env.Le w G w' G → BlkOk w' G g b') (hrw' : b'.rw = true) : RelG C G (s.blk i b') a w' ∧ Env.Le w G w' G := by
  obtain ⟨g0, h0, hbase, hok, hnF⟩ := h.blocks i b hi
  rw [hg] at h0
  cases h0
  have hnF' := hnF hrw
  have hle : Env.Le w G w' G := ⟨fun _ _ h => h, fun b o hf => cell_heap (hoth b (fun e => hnF' o (e ▸ hf))), fun _ _ h => h, fun t r hr => ⟨r, hr, Nat.le_refl _, fun _ => rfl⟩⟩
  refine ⟨h.mv (hp := (i, b') :: s.heap) (tg := s.tags) ⟨h.mem.keep.one hbase hos htape hout hsz hoth (hb hle).unf, h.mem.le.trans hle, fun b o hf => by rw [hsz]; exact h.fdom b o hf, h.mem.fold, ?_, ?_, h.inj, ?_, h.notag, h.deep.mv (fun _ h => h) (fun _ _ _ hr => hr) (fun v _ k => k.mv (fun g' hg' => hoth g' fun hh => k.φ g' hg' i (hh ▸ hg)) (fun _ _ _ hf => hf) k.φ k.τ)⟩ hle, hle⟩
  · intro j c hj
    simp only [look_cons] at hj
    split at hj
    · rename_i e
      cases hj
      subst e
      exact ⟨g, hg, hbase, hb hle, fun _ o => hnF' o⟩
    · rename_i e
      obtain ⟨g', h1, h2, h3, h4⟩ := h.blocks j c hj
      have hne : g' ≠ g := fun hh => e (h.inj i j g hg (hh ▸ h1))
      exact ⟨g', h1, h2, h3.le (hoth g' hne) hle, h4⟩
  · intro j hj
    simp only [look_cons] at hj
    split at hj
    · cases hj
    · exact h.noblock j hj
  · intro t n ht
    obtain ⟨r, hr, hok⟩ := h.tags t n ht
    exact ⟨r, hr, hok.mv hle (fun ho g' hg' => hoth g' fun hh => hok.hφ ho g' hg' i (hh ▸ hg)) (fun _ _ _ o hf => .inl hf) hok.hφ hok.hτ⟩

/-! ### Tags -/
def Env.setT (G : Env) (t : Nat) (r : TagRec) : Env := { G with τ := fun u => if u = t then some r else G.τ u }

/-- A slice is put under a new tag. -/
theorem RelG.addTag {C : Ctx} {G : Env} {s : AS} {a : Act} {w : World} (h : RelG C G s a w) {t : Nat} {m : Tag} {r : TagRec} (ht : look s.tags t = none) (hn : r.n = m.n) (he : r.e = m.e) (hsz : r.sz = m.sz)
    (hcl : r.o = false → m.cs = none ∧ ∃ A, r.v = .slice A r.n r.n ∧ (A = none → r.n = 0))
    (hr : r.o = true → w.ownsRow 0 r.e r.sz r.v r.n r.xs ∧ (∀ u ∈ r.xs, u.oneCell' = true) ∧
      ∀ g, r.v.ownBlock = some g → (C.w0.heap.size ≤ g ∨ C.L g) ∧ (∀ o, G.F g o → o < r.n * r.sz ∧ m.rw = false) ∧ (∀ i, G.φ i ≠ some g) ∧ (∀ t' r', G.τ t' = some r' → r'.o = true → r'.v.ownBlock ≠ some g) ∧ ∀ v, InnV G s.tags v → v.ownBlock ≠ some g)
    (hdt : ∀ cells, t = DT → m.cs = some (true, cells) → cells = [])
    (hcs : ∀ b cells, m.cs = some (b, cells) → r.o = true ∧ cells.length = r.xs.length ∧ (∀ (i : Nat) (c : AV) (v : Value), cells[i]? = some c → r.xs[i]? = some v → Rep w G false c v) ∧ (b = false → ∀ g, r.v.ownBlock = some g → ∀ o, o < r.n * r.sz → G.F g o)) :
    RelG C (G.setT t r) (s.tag t m) a w ∧ Env.Le w G w (G.setT t r) := by
  have hle : Env.Le w G w (G.setT t r) := ⟨fun _ _ h => h, fun _ _ _ => rfl, fun _ _ h => h, fun u r' hu => by
    have hne : u ≠ t := fun e => by subst e; rw [h.notag u ht] at hu; cases hu
    exact ⟨r', by simp [Env.setT, hne, hu], Nat.le_refl _, fun _ => rfl⟩⟩
  refine ⟨h.mv (hp := s.heap) (tg := (t, m) :: s.tags) ⟨h.mem.keep, h.mem.le.trans hle, h.fdom, h.mem.fold, ?_, h.noblock, h.inj, ?_, ?_, ?_⟩ hle, hle⟩
  · intro j c hj
    obtain ⟨g', h1, h2, h3, h4⟩ := h.blocks j c hj
    exact ⟨g', h1, h2, h3.le rfl hle, h4⟩
  · intro u n hu
    simp only [look_cons] at hu
    split at hu
    · rename_i e
      cases hu
      subst e
      refine ⟨r, by simp [Env.setT], ⟨hn, he, hsz, hcl, fun ho => (hr ho).1, fun ho => (hr ho).2.1, fun ho g hg => ((hr ho).2.2 g hg).1, fun ho g hg => ((hr ho).2.2 g hg).2.1, fun ho g hg => ((hr ho).2.2 g hg).2.2.1, fun ho g hg t' r' hr' ho' hb' => ?_, fun b cells hc => ?_⟩⟩
      · simp only [Env.setT] at hr'
        split at hr'
        · assumption
        · exact absurd hb' (((hr ho).2.2 g hg).2.2.2.1 t' r' hr' ho')
      · obtain ⟨k1, k2, k3, k4⟩ := hcs b cells hc
        exact ⟨k1, k2, fun i c v hi hv => (k3 i c v hi hv).mono hle, k4⟩
    · rename_i e
      obtain ⟨r', h1, hok⟩ := h.tags u n hu
      have hne : u ≠ t := fun hh => e hh.symm
      refine ⟨r', by simp [Env.setT, hne, h1], hok.mv hle (fun _ _ _ => rfl) (fun _ _ _ o hf => .inl hf) hok.hφ (fun ho g hg t' r'' hr'' ho'' hb'' => ?_)⟩
      simp only [Env.setT] at hr''
      split at hr''
      · cases hr''
        exact absurd hg (((hr ho'').2.2 g hb'').2.2.2.1 u r' h1 ho)
      · exact hok.hτ ho g hg t' r'' hr'' ho'' hb''
  · intro u hu
    simp only [look_cons] at hu
    split at hu
    · cases hu
    · rename_i e
      simp only [Env.setT]
      rw [if_neg (fun hh => e hh.symm)]
      exact h.notag u hu
  · intro cells r' hc hr'
    rcases deepC_cons hc with ⟨e, hm⟩ | ⟨e, hc⟩
    · obtain rfl := hdt cells e hm
      exact ⟨fun i v hv => by obtain ⟨c, h1, _⟩ := hv; simp at h1, fun i j v u g hv => by obtain ⟨c, h1, _⟩ := hv; simp at h1⟩
    · have hne : DT ≠ t := fun hh => e hh.symm
      simp only [Env.setT, if_neg hne] at hr'
      obtain ⟨k1, k2⟩ := h.deep cells r' hc hr'
      refine ⟨fun i v hv => ?_, k2⟩
      have k := k1 i v hv
      refine k.mv (fun _ _ => rfl) (fun _ _ _ hf => hf) k.φ (fun g hg t' r'' hr'' ho'' hb'' => ?_)
      simp only [Env.setT] at hr''
      split at hr''
      · cases hr''
        exact ((hr ho'').2.2 g hb'').2.2.2.2 v ⟨cells, r', i, hc, hr', hv⟩ hg
      · exact k.τ g hg t' r'' hr'' ho'' hb''

theorem add_plain (g o : Nat) : (⟨g, 0, none⟩ : Addr).add o = ⟨g, o, none⟩ := by unfold Addr.add; split <;> simp_all
theorem add_spot (ad : Addr) (o : Nat) (h : ad.spot = none) : ad.add o = ⟨ad.block, ad.off + o, none⟩ := by
  obtain ⟨b, f, sp⟩ := ad
  simp only at h
  subst h
  unfold Addr.add
  split <;> simp_all

/-- What a change of a tag's own block adds to what is only read. -/
def Env.upT (G : Env) (t : Nat) (r : TagRec) (fz : Bool) (g : Nat) : Env := { G.setT t r with F := fun b o => G.F b o ∨ (fz = true ∧ b = g ∧ o < r.n * r.sz) }

/-- A tag's slice is appended to in place, or its cells are written. -/
theorem RelG.setTagRoom {C : Ctx} {G : Env} {s : AS} {a : Act} {w w' : World} (h : RelG C G s a w) {t : Nat} {m m' : Tag} {r r' : TagRec} (ht : look s.tags t = some m) (hr : G.τ t = some r) (ho : r.o = true) (ho' : r'.o = true)
    (hn : r.n ≤ r'.n) (hsame : r.n = r'.n → r'.v = r.v) {g : Nat} (hg : r.v.ownBlock = some g) (hos : w'.os = w.os) (htape : w'.tape = w.tape) (hout : w'.output = w.output) (hsz : w'.heap.size = w.heap.size) (hoth : ∀ k, k ≠ g → w'.heap[k]? = w.heap[k]?)
    (hown : w'.ownsRow 0 r'.e r'.sz r'.v r'.n r'.xs) (h1 : ∀ u ∈ r'.xs, u.oneCell' = true) (hblk : r'.v.ownBlock = some g) (hrsz : r'.sz = r.sz) (hys : m.rw = false → ∃ ys, r'.xs = r.xs ++ ys)
    (mn : r'.n = m'.n) (me : r'.e = m'.e) (msz : r'.sz = m'.sz) (fz : Bool) (mrw : m'.rw = true → fz = false ∧ m.rw = true)
    (hcs : Env.Le w G w' (G.upT t r' fz g) → ∀ b cells, m'.cs = some (b, cells) → cells.length = r'.xs.length ∧ (∀ (i : Nat) (c : AV) (v : Value), cells[i]? = some c → r'.xs[i]? = some v → Rep w' (G.upT t r' fz g) false c v) ∧ (b = false → fz = true))
    (hdt : ∀ cells, t = DT → m'.cs = some (true, cells) → (∀ v, Inn C G w v → Inn C (G.upT t r' fz g) w' v) → InnOk C (G.upT t r' fz g) w' cells r'.xs) :
    RelG C (G.upT t r' fz g) (s.tag t m') a w' ∧ Env.Le w G w' (G.upT t r' fz g) := by
  obtain ⟨r0, hr0, hok⟩ := h.tags t m ht
  rw [hr] at hr0
  cases hr0
  have hbase := hok.base ho g hg
  have hglt := ((hok.own ho).lt g hg).2
  have hcell : ∀ b o, G.F b o → w'.cell? ⟨b, o, none⟩ = w.cell? ⟨b, o, none⟩ := by
    intro b o hf
    by_cases hb : b = g
    · subst hb
      obtain ⟨hlt, hrw⟩ := hok.hF ho b hg o hf
      obtain ⟨ys, hys⟩ := hys hrw
      have hol : o < r.xs.length := by rw [(hok.own ho).1]; exact hlt
      have c1 := (hok.own ho).cells hg o r.xs[o] (List.getElem?_eq_getElem hol)
      have c2 := hown.cells hblk o r.xs[o] (by rw [hys, List.getElem?_append_left hol, List.getElem?_eq_getElem hol])
      rw [add_plain] at c1 c2
      rw [c1, c2]
    · exact cell_heap (hoth b hb)
  have hle : Env.Le w G w' (G.upT t r' fz g) :=
    ⟨fun _ _ h => .inl h, hcell, fun _ _ h => h, fun u ru hu => by
      by_cases e : u = t
      · subst e
        rw [hr] at hu
        cases hu
        exact ⟨r', by simp [Env.upT, Env.setT], hn, hsame⟩
      · exact ⟨ru, by simp [Env.upT, Env.setT, e, hu], Nat.le_refl _, fun _ => rfl⟩⟩
  refine ⟨h.mv (hp := s.heap) (tg := (t, m') :: s.tags) ⟨h.mem.keep.one hbase hos htape hout hsz hoth (owns_unf hown hblk), h.mem.le.trans hle, ?_, ?_, ?_, h.noblock, h.inj, ?_, ?_, ?_⟩ hle, hle⟩
  · intro b o hf
    rw [hsz]
    rcases hf with hf | ⟨_, hf, _⟩
    · exact h.fdom b o hf
    · omega
  · intro b o hf hlt
    rcases hf with hf | ⟨_, hf, _⟩
    · exact h.mem.fold b o hf hlt
    · subst hf
      rcases hbase with hb | hb
      · omega
      · exact .inr hb
  · intro j c hj
    obtain ⟨g', h1, h2, h3, h4⟩ := h.blocks j c hj
    have hne : g' ≠ g := fun e => hok.hφ ho g hg j (e ▸ h1)
    refine ⟨g', h1, h2, h3.le (hoth g' hne) hle, fun hw o hf => ?_⟩
    rcases hf with hf | ⟨_, hf, _⟩
    · exact h4 hw o hf
    · exact hne hf
  · intro u k hu
    simp only [look_cons] at hu
    split at hu
    · rename_i e
      cases hu
      subst e
      refine ⟨r', by simp [Env.upT, Env.setT], ⟨mn, me, msz, fun e => (by rw [ho'] at e; cases e), fun _ => hown, fun _ => h1, fun _ g' hg' => ?_, fun _ g' hg' o hf => ?_, fun _ g' hg' => ?_, fun _ g' hg' t' r'' hr'' ho'' hb'' => ?_, fun b cells hc => ?_⟩⟩
      · rw [hblk] at hg'; cases hg'; exact hbase
      · rw [hblk] at hg'
        cases hg'
        have hx : m'.rw = true → False := fun hx => by
          obtain ⟨k1, k2⟩ := mrw hx
          rcases hf with hf | ⟨hf, _⟩
          · have := (hok.hF ho g hg o hf).2
            rw [k2] at this
            cases this
          · rw [k1] at hf; cases hf
        refine ⟨?_, by cases hh : m'.rw; rfl; exact (hx hh).elim⟩
        rcases hf with hf | ⟨_, _, hf⟩
        · have := (hok.hF ho g hg o hf).1
          have : r.n * r.sz ≤ r'.n * r'.sz := by rw [hrsz]; exact Nat.mul_le_mul_right _ hn
          omega
        · exact hf
      · rw [hblk] at hg'; cases hg'; exact hok.hφ ho g hg
      · rw [hblk] at hg'
        cases hg'
        simp only [Env.upT, Env.setT] at hr''
        split at hr''
        · assumption
        · exact hok.hτ ho g hg t' r'' hr'' ho'' hb''
      · obtain ⟨k1, k2, k3⟩ := hcs hle b cells hc
        refine ⟨ho', k1, k2, fun hb g' hg' o hol => ?_⟩
        rw [hblk] at hg'
        cases hg'
        exact .inr ⟨k3 hb, rfl, hol⟩
    · rename_i e
      obtain ⟨ru, h2, hok2⟩ := h.tags u k hu
      have hne : u ≠ t := fun hh => e hh.symm
      have hgne : ru.o = true → ∀ g', ru.v.ownBlock = some g' → g' ≠ g := fun hou g' hg' e' => hne (hok.hτ ho g hg u ru h2 hou (e' ▸ hg'))
      refine ⟨ru, by simp [Env.upT, Env.setT, hne, h2], hok2.mv hle (fun hou g' hg' => hoth g' (hgne hou g' hg')) (fun hou g' hg' o hf => ?_) hok2.hφ (fun hou g' hg' t' r'' hr'' ho'' hb'' => ?_)⟩
      · rcases hf with hf | ⟨_, hf, _⟩
        · exact .inl hf
        · exact absurd hf (hgne hou g' hg')
      · simp only [Env.upT, Env.setT] at hr''
        split at hr''
        · cases hr''
          rw [hblk] at hb''
          exact absurd (Option.some.inj hb'').symm (hgne hou g' hg')
        · exact hok2.hτ hou g' hg' t' r'' hr'' ho'' hb''
  · intro u hu
    simp only [look_cons] at hu
    split at hu
    · cases hu
    · rename_i e
      simp only [Env.upT, Env.setT]
      rw [if_neg (fun hh => e hh.symm)]
      exact h.notag u hu
  · intro cells ru hc hru
    have tr : ∀ v, Inn C G w v → Inn C (G.upT t r' fz g) w' v := by
      intro v k
      have hgne : ∀ g', v.ownBlock = some g' → g' ≠ g := fun g' hg' e' => k.τ g' hg' t r hr ho (e' ▸ hg)
      refine k.mv (fun g' hg' => hoth g' (hgne g' hg')) (fun g' hg' o hf => ?_) k.φ (fun g' hg' t' r'' hr'' ho'' hb'' => ?_)
      · rcases hf with hf | ⟨_, hf, _⟩
        · exact hf
        · exact absurd hf (hgne g' hg')
      · simp only [Env.upT, Env.setT] at hr''
        split at hr''
        · cases hr''
          rw [hblk] at hb''
          exact absurd (Option.some.inj hb'').symm (hgne g' hg')
        · exact k.τ g' hg' t' r'' hr'' ho'' hb''
    rcases deepC_cons hc with ⟨e, hm⟩ | ⟨e, hc⟩
    · subst e
      simp only [Env.upT, Env.setT, if_true, Option.some.injEq] at hru
      subst hru
      exact hdt cells rfl hm tr
    · have hne : DT ≠ t := fun hh => e hh.symm
      simp only [Env.upT, Env.setT, if_neg hne] at hru
      obtain ⟨k1, k2⟩ := h.deep cells ru hc hru
      exact ⟨fun i v hv => tr v (k1 i v hv), k2⟩

/-- A tag's slice is appended to, and lies in a new block. -/
theorem RelG.setTagNew {C : Ctx} {G : Env} {s : AS} {a : Act} {w w' : World} (h : RelG C G s a w) {t : Nat} {m m' : Tag} {r r' : TagRec} (ht : look s.tags t = some m) (hr : G.τ t = some r) (ho' : r'.o = true)
    (hn : r.n < r'.n) (hb : Below w.heap.size w w') (hz : Unf w w') (hlt : w.heap.size < w'.heap.size)
    (hown : w'.ownsRow 0 r'.e r'.sz r'.v r'.n r'.xs) (h1 : ∀ u ∈ r'.xs, u.oneCell' = true) (hblk : r'.v.ownBlock = some w.heap.size)
    (mn : r'.n = m'.n) (me : r'.e = m'.e) (msz : r'.sz = m'.sz) (fz : Bool) (mrw : m'.rw = true → fz = false)
    (hcs : Env.Le w G w' (G.upT t r' fz w.heap.size) → ∀ b cells, m'.cs = some (b, cells) → cells.length = r'.xs.length ∧ (∀ (i : Nat) (c : AV) (v : Value), cells[i]? = some c → r'.xs[i]? = some v → Rep w' (G.upT t r' fz w.heap.size) false c v) ∧ (b = false → fz = true))
    (hdt : ∀ cells, t = DT → m'.cs = some (true, cells) → (∀ v, Inn C G w v → Inn C (G.upT t r' fz w.heap.size) w' v) → InnOk C (G.upT t r' fz w.heap.size) w' cells r'.xs) :
    RelG C (G.upT t r' fz w.heap.size) (s.tag t m') a w' ∧ Env.Le w G w' (G.upT t r' fz w.heap.size) := by
  obtain ⟨h2, hle2⟩ := h.mem.grow (G' := { G with F := fun b o => G.F b o ∨ (fz = true ∧ b = w.heap.size ∧ o < r'.n * r'.sz) }) hb hz rfl rfl (fun _ _ h => .inl h) (fun b o hf => by
    rcases hf with hf | ⟨_, hf, _⟩
    · exact .inl hf
    · exact .inr ⟨by omega, by omega⟩)
  have hle : Env.Le w G w' (G.upT t r' fz w.heap.size) :=
    ⟨hle2.F, hle2.cell, hle2.φ, fun u ru hu => by
      by_cases e : u = t
      · subst e
        rw [hr] at hu
        cases hu
        exact ⟨r', by simp [Env.upT, Env.setT], by omega, fun e => by omega⟩
      · exact ⟨ru, by simp [Env.upT, Env.setT, e, hu], Nat.le_refl _, fun _ => rfl⟩⟩
  refine ⟨h.mv (hp := s.heap) (tg := (t, m') :: s.tags) ⟨h2.keep, h.mem.le.trans hle, h2.fdom, h2.fold, ?_, h2.noblock, h2.inj, ?_, ?_, ?_⟩ hle, hle⟩
  · intro j c hj
    obtain ⟨g', h3, h4, h5, h6⟩ := h.blocks j c hj
    obtain ⟨g2, h7, h8, h9, h10⟩ := h2.blocks j c hj
    rw [h3] at h7
    cases h7
    exact ⟨g', h3, h4, h5.le (hb.block g' h5.lt) hle, h10⟩
  · intro u k hu
    simp only [look_cons] at hu
    split at hu
    · rename_i e
      cases hu
      subst e
      refine ⟨r', by simp [Env.upT, Env.setT], ⟨mn, me, msz, fun e => (by rw [ho'] at e; cases e), fun _ => hown, fun _ => h1, fun _ g' hg' => ?_, fun _ g' hg' o hf => ?_, fun _ g' hg' i hi => ?_, fun _ g' hg' t' r'' hr'' ho'' hb'' => ?_, fun b cells hc => ?_⟩⟩
      · rw [hblk] at hg'; cases hg'; exact .inl h.mem.size
      · rw [hblk] at hg'
        cases hg'
        rcases hf with hf | ⟨hfz, _, hf⟩
        · exact absurd (h.fdom _ _ hf) (by omega)
        · refine ⟨hf, ?_⟩
          cases hh : m'.rw
          · rfl
          · rw [mrw hh] at hfz; cases hfz
      · rw [hblk] at hg'; cases hg'; exact absurd (h.blk_lt hi) (by omega)
      · rw [hblk] at hg'
        cases hg'
        simp only [Env.upT, Env.setT] at hr''
        split at hr''
        · assumption
        · exact absurd (h.tag_lt hr'' ho'' hb'') (by omega)
      · obtain ⟨k1, k2, k3⟩ := hcs hle b cells hc
        refine ⟨ho', k1, k2, fun hb g' hg' o hol => ?_⟩
        rw [hblk] at hg'
        cases hg'
        exact .inr ⟨k3 hb, rfl, hol⟩
    · rename_i e
      obtain ⟨ru, h3, hok⟩ := h.tags u k hu
      have hne : u ≠ t := fun hh => e hh.symm
      refine ⟨ru, by simp only [Env.upT, Env.setT, if_neg hne]; exact h3, hok.mv hle (fun ho g hg => hb.block g ((hok.own ho).lt g hg).2) (fun ho g hg o hf => ?_) hok.hφ (fun ho g' hg' t' r'' hr'' ho'' hb'' => ?_)⟩
      · rcases hf with hf | ⟨_, hf, _⟩
        · exact .inl hf
        · subst hf
          exact absurd (h.tag_lt h3 ho hg) (by omega)
      · simp only [Env.upT, Env.setT] at hr''
        split at hr''
        · cases hr''
          rw [hblk] at hb''
          cases hb''
          exact absurd (h.tag_lt h3 ho hg') (by omega)
        · exact hok.hτ ho g' hg' t' r'' hr'' ho'' hb''
  · intro u hu
    simp only [look_cons] at hu
    split at hu
    · cases hu
    · rename_i e
      simp only [Env.upT, Env.setT]
      rw [if_neg (fun hh => e hh.symm)]
      exact h.notag u hu
  · intro cells ru hc hru
    have tr : ∀ v, Inn C G w v → Inn C (G.upT t r' fz w.heap.size) w' v := by
      intro v k
      refine k.mv (fun g' hg' => hb.block g' (k.lt hg')) (fun g' hg' o hf => ?_) k.φ (fun g' hg' t' r'' hr'' ho'' hb'' => ?_)
      · rcases hf with hf | ⟨_, hf, _⟩
        · exact hf
        · exact absurd (k.lt hg') (by omega)
      · simp only [Env.upT, Env.setT] at hr''
        split at hr''
        · cases hr''
          rw [hblk] at hb''
          cases hb''
          exact absurd (k.lt hg') (by omega)
        · exact k.τ g' hg' t' r'' hr'' ho'' hb''
    rcases deepC_cons hc with ⟨e, hm⟩ | ⟨e, hc⟩
    · subst e
      simp only [Env.upT, Env.setT, if_true, Option.some.injEq] at hru
      subst hru
      exact hdt cells rfl hm tr
    · have hne : DT ≠ t := fun hh => e hh.symm
      simp only [Env.upT, Env.setT, if_neg hne] at hru
      obtain ⟨k1, k2⟩ := h.deep cells ru hc hru
      exact ⟨fun i v hv => tr v (k1 i v hv), k2⟩

/-- A cell of the slice of slices is taken away: nobody knows what it says. -/
theorem RelG.hole {C : Ctx} {G : Env} {s : AS} {a : Act} {w : World} (h : RelG C G s a w) {n : Nat} {e : TypeId} {sz : Nat} {cells : List AV} (ht : look s.tags DT = some ⟨n, e, sz, some (true, cells)⟩) (off : Nat) :
    RelG C G (s.tag DT ⟨n, e, sz, some (true, cells.set off .undef)⟩) a w := by
  obtain ⟨r, hr, hok⟩ := h.tags DT _ ht
  refine h.mv (hp := s.heap) (tg := (DT, ⟨n, e, sz, some (true, cells.set off .undef)⟩) :: s.tags) ⟨h.mem.keep, h.mem.le, h.fdom, h.mem.fold, h.blocks, h.noblock, h.inj, ?_, ?_, ?_⟩ (Env.Le.refl _ _)
  · intro u k hu
    simp only [look_cons] at hu
    split at hu
    · rename_i e'
      cases hu
      subst e'
      refine ⟨r, hr, ⟨hok.hn, hok.he, hok.hsz, fun ho => (by have := (hok.hcs true cells rfl).1; rw [ho] at this; cases this), hok.own, hok.one, hok.base, hok.hF, hok.hφ, hok.hτ, fun b' cells' hc => ?_⟩⟩
      cases hc
      obtain ⟨k1, k2, k3, k4⟩ := hok.hcs true cells rfl
      refine ⟨k1, by simpa using k2, fun i c v hi hv => ?_, fun hb => by cases hb⟩
      rw [List.getElem?_set] at hi
      split at hi
      · split at hi
        · cases hi; exact .undef _ _
        · cases hi
      · exact k3 i c v hi hv
    · exact h.tags u k hu
  · intro u hu
    simp only [look_cons] at hu
    split at hu
    · cases hu
    · exact h.notag u hu
  · intro cells' ru hc hru
    rw [hr] at hru
    cases hru
    rcases deepC_cons hc with ⟨_, hm⟩ | ⟨e', _⟩
    · cases hm
      obtain ⟨k1, k2⟩ := h.deep cells r ⟨_, ht, rfl⟩ hr
      have sub : ∀ i v, InnAt (cells.set off .undef) r.xs i v → InnAt cells r.xs i v := by
        rintro i v ⟨c, h1, h2, h3⟩
        rw [List.getElem?_set] at h1
        split at h1
        · split at h1
          · cases h1; exact absurd rfl h2
          · cases h1
        · exact ⟨c, h1, h2, h3⟩
      exact ⟨fun i v hv => k1 i v (sub i v hv), fun i j v u g a b => k2 i j v u g (sub i v a) (sub j u b)⟩
    · exact absurd rfl e'

/-- A tag is given up. -/
theorem RelG.kill {C : Ctx} {G : Env} {s : AS} {a : Act} {w : World} (h : RelG C G s a w) {t n : Nat} {e : TypeId} {sz : Nat} {cs : Option (Bool × List AV)} (ht : look s.tags t = some ⟨n, e, sz, cs⟩) (hne : t ≠ DT) :
    RelG C (G.setT t ⟨false, .slice (some ⟨0, 0, none⟩) (n + 1) (n + 1), n + 1, e, sz, []⟩) (s.tag t ⟨n + 1, e, sz, none⟩) a w ∧ Env.Le w G w (G.setT t ⟨false, .slice (some ⟨0, 0, none⟩) (n + 1) (n + 1), n + 1, e, sz, []⟩) := by
  obtain ⟨r, hr, hok⟩ := h.tags t _ ht
  have hle : Env.Le w G w (G.setT t ⟨false, .slice (some ⟨0, 0, none⟩) (n + 1) (n + 1), n + 1, e, sz, []⟩) := ⟨fun _ _ h => h, fun _ _ _ => rfl, fun _ _ h => h, fun u r' hu => by
    by_cases e' : u = t
    · subst e'
      rw [hr] at hu
      cases hu
      have := hok.hn
      simp only at this
      exact ⟨⟨false, .slice (some ⟨0, 0, none⟩) (n + 1) (n + 1), n + 1, e, sz, []⟩, by simp [Env.setT], by show r.n ≤ n + 1; omega, fun hh => by exfalso; have : r.n = n + 1 := hh; omega⟩
    · exact ⟨r', by simp [Env.setT, e', hu], Nat.le_refl _, fun _ => rfl⟩⟩
  have sub : ∀ t' r', (G.setT t ⟨false, .slice (some ⟨0, 0, none⟩) (n + 1) (n + 1), n + 1, e, sz, []⟩).τ t' = some r' → r'.o = true → G.τ t' = some r' := by
    intro t' r' hr' ho'
    simp only [Env.setT] at hr'
    split at hr'
    · cases hr'; cases ho'
    · exact hr'
  refine ⟨h.mv (hp := s.heap) (tg := (t, ⟨n + 1, e, sz, none⟩) :: s.tags) ⟨h.mem.keep, h.mem.le.trans hle, h.fdom, h.mem.fold, ?_, h.noblock, h.inj, ?_, ?_, ?_⟩ hle, hle⟩
  · intro j c hj
    obtain ⟨g', h1, h2, h3, h4⟩ := h.blocks j c hj
    exact ⟨g', h1, h2, h3.le rfl hle, h4⟩
  · intro u k hu
    simp only [look_cons] at hu
    split at hu
    · rename_i e'
      cases hu
      subst e'
      exact ⟨⟨false, .slice (some ⟨0, 0, none⟩) (n + 1) (n + 1), n + 1, e, sz, []⟩, by simp [Env.setT], ⟨rfl, rfl, rfl, fun _ => ⟨rfl, _, rfl, fun hA => (by cases hA)⟩, fun ho => (by cases ho), fun ho => (by cases ho), fun ho => (by cases ho), fun ho => (by cases ho), fun ho => (by cases ho), fun ho => (by cases ho), fun b cells hc => (by cases hc)⟩⟩
    · rename_i e'
      obtain ⟨ru, h2, hok2⟩ := h.tags u k hu
      have hne' : u ≠ t := fun hh => e' hh.symm
      exact ⟨ru, by simp [Env.setT, hne', h2], hok2.mv hle (fun _ _ _ => rfl) (fun _ _ _ o hf => .inl hf) hok2.hφ (fun ho g hg t' r' hr' ho' hb' => hok2.hτ ho g hg t' r' (sub t' r' hr' ho') ho' hb')⟩
  · intro u hu
    simp only [look_cons] at hu
    split at hu
    · cases hu
    · rename_i e'
      simp only [Env.setT]
      rw [if_neg (fun hh => e' hh.symm)]
      exact h.notag u hu
  · intro cells ru hc hru
    rcases deepC_cons hc with ⟨e', hm⟩ | ⟨e', hc⟩
    · exact absurd e' hne
    · have hne' : DT ≠ t := fun hh => e' hh.symm
      simp only [Env.setT, if_neg hne'] at hru
      obtain ⟨k1, k2⟩ := h.deep cells ru hc hru
      refine ⟨fun i v hv => ?_, k2⟩
      have k := k1 i v hv
      exact k.mv (fun _ _ => rfl) (fun _ _ _ hf => hf) k.φ (fun g hg t' r' hr' ho' hb' => k.τ g hg t' r' (sub t' r' hr' ho') ho' hb')

/-! ### append -/
section
variable {P : Program} {w : World}
/-- What a source yields, whatever was drawn. -/
def Yields (P : Program) (w : World) (size m : Nat) (x : Value) (news : List Value) : Prop :=
  (Builtin.lenOf x).run P w = .ok m w ∧ (Builtin.lenOf x).run P w.drew = .ok m w.drew ∧ (Builtin.firstCells size m x).run P w = .ok news.toArray w ∧ (Builtin.firstCells size m x).run P w.drew = .ok news.toArray w.drew

theorem yields_slice (size m c : Nat) (A : Option Addr) (news : List Value) (hl : news.length = m * size) (hA : A = none → m = 0) (h : ∀ j u, news[j]? = some u → ∃ ad, A = some ad ∧ w.cell? (ad.add j) = some u) :
    Yields P w size m (.slice A m c) news := by
  cases A with
  | none =>
    have hm := hA rfl
    subst hm
    have hn : news = [] := List.eq_nil_of_length_eq_zero (by simpa using hl)
    subst hn
    refine ⟨rfl, rfl, ?_, ?_⟩ <;> simp [Builtin.firstCells]
  | some ad =>
    have h' : ∀ j u, news[j]? = some u → w.cell? (ad.add j) = some u := fun j u hj => by
      obtain ⟨ad', e, hc⟩ := h j u hj
      cases e
      exact hc
    refine ⟨rfl, rfl, run_firstCells_some (P := P) w size m ad m c news hl h', run_firstCells_some (P := P) w.drew size m ad m c news hl (by simpa using h')⟩

theorem app_room {t xT ty e : TypeId} {d : TypeDesc} {i : TypeInfo} (ht : P.underlying t = some (.slice e)) (hxT : P.underlying xT = some d) (hd : (∃ e', d = .slice e') ∨ d = .string) (hi : P.info? e = some i)
    (g sLen sCap : Nat) (cur : Array Value) (hg : w.heap[g]? = some (.cells cur e (0, 0))) (x : Value) (m : Nat) (news : List Value) (hx : Yields P w i.size m x news) (hl : news.length = m * i.size) (h1 : ∀ u ∈ news, u.oneCell' = true)
    (hroom : sLen + m ≤ sCap) (hfit : sLen * i.size + news.length ≤ cur.size) :
    (Builtin.append_ #[t, xT] ty #[.slice (some ⟨g, 0, none⟩) sLen sCap, x]).run P w =
      .ok (.slice (some ⟨g, 0, none⟩) (sLen + m) sCap) (w.setRow g (cur.toList.take (sLen * i.size) ++ news ++ cur.toList.drop (sLen * i.size + news.length)).toArray) := by
  obtain ⟨hx1, _, hx2, _⟩ := hx
  have hst := run_storeCells_at P g (sLen * i.size) e news 0 cur w hg (by simpa using hfit) h1
  simp only [Nat.add_zero] at hst
  rcases hd with ⟨e', rfl⟩ | rfl <;> simp [Builtin.append_, run_underlying ht, run_underlying hxT, sizeOf, typeInfo, hi, hx1, hroom, hx2, Addr.add_lit, hst]

theorem app_none {t xT ty e : TypeId} {d : TypeDesc} {i : TypeInfo} (ht : P.underlying t = some (.slice e)) (hxT : P.underlying xT = some d) (hd : (∃ e', d = .slice e') ∨ d = .string) (hi : P.info? e = some i)
    (A : Option Addr) (sLen sCap : Nat) (x : Value) (hx : Yields P w i.size 0 x []) (hroom : sLen ≤ sCap) :
    (Builtin.append_ #[t, xT] ty #[.slice A sLen sCap, x]).run P w = .ok (.slice A sLen sCap) w := by
  obtain ⟨hx1, _, hx2, _⟩ := hx
  rcases hd with ⟨e', rfl⟩ | rfl <;> cases A <;> simp [Builtin.append_, run_underlying ht, run_underlying hxT, sizeOf, typeInfo, hi, hx1, hroom, hx2, storeCells]

theorem app_grow {t xT ty e : TypeId} {d : TypeDesc} {i : TypeInfo} {z : Value} (ht : P.underlying t = some (.slice e)) (hxT : P.underlying xT = some d) (hd : (∃ e', d = .slice e') ∨ d = .string) (hi : P.info? e = some i) (hz : i.zero = some z)
    (A : Option Addr) (sLen sCap : Nat) (olds : List Value) (ho : Yields P w i.size sLen (.slice A sLen sCap) olds) (x : Value) (m : Nat) (news : List Value) (hx : Yields P w i.size m x news)
    (hroom : sCap < sLen + m) (hfit : Builtin.nextslicecap (sLen + m) sCap * i.bytes ≤ 281474976710656) (h63 : sLen + m ≤ 9223372036854775807) :
    (Builtin.append_ #[t, xT] ty #[.slice A sLen sCap, x]).run P w =
      .ok (.slice (some ⟨w.heap.size, 0, none⟩) (sLen + m) (grownCap w (sLen + m) sCap e))
        (w.drew.alloc (.cells (olds.toArray ++ news.toArray ++ Builtin.zeroCells z.cells (grownCap w (sLen + m) sCap e - (sLen + m))) e)) := by
  obtain ⟨hx1, _, _, hx2⟩ := hx
  obtain ⟨_, _, _, ho2⟩ := ho
  have hn : ¬ (sLen + m ≤ sCap) := by omega
  have h63' : ¬ (9223372036854775807 < ((sLen : Int) + (m : Int))) := by omega
  have h48' : ¬ (281474976710656 < Builtin.nextslicecap (sLen + m) sCap * i.bytes) := by omega
  rcases hd with ⟨e', rfl⟩ | rfl <;> simp [Builtin.append_, run_underlying ht, run_underlying hxT, sizeOf, typeInfo, zeroValue, hi, hz, hx1, hn, h63', h48', Question.forced, hx2, ho2, newRow, grownCap] <;> rw [← Array.append_assoc, List.append_toArray olds news]
end

end Go.AX
end

section
/- The operations that only compute, and what they come to. -/
set_option linter.unusedVariables false
set_option linter.unusedSimpArgs false
namespace Go.AX
open Go Go.RowKit

inductive SK
  | int (k : IntKind) | bool | str
inductive TK where
  | int (k : IntKind) | bool | str
  | slice (e : TypeId)
  | struct (fs : List (Nat × TypeId))
  | other
structure TI where
  size : Nat
  bytes : Nat
  kind : TK
  zero : List AV
  eq : Option (List SK)
abbrev TT := List (Nat × TI)

def TI.agg (t : TI) : Bool := match t.kind with
  | .struct _ => true
  | _ => false

/-- What a constant says. -/
def zAV : Value → AV
  | .int k n => .int k n
  | .bool b => .bool b
  | .string s => .str s
  | .pointer none => .nilp
  | .slice none 0 0 => .sl (some true) 0 [] .clip
  | .nilFunc => .nilFn
  | .func (.func f) ⟨[]⟩ ⟨[]⟩ => .fn f []
  | _ => .undef
theorem zAV_rep (w : World) (G : Env) (l : Bool) (v : Value) : Rep w G l (zAV v) v := by
  unfold zAV
  split
  · exact .int _ _ _
  · exact .bool _ _
  · exact .str _ _
  · exact .nilp _
  · exact .sl _ _ _ _ _ _ _ (fun _ => undef) (fun b h => by cases h; rfl) (fun h => by omega) (Nat.le_refl _) (fun j x h => by simp at h) (fun j x h => by simp at h) (fun _ => rfl) (fun t h => by cases h)
  · exact .nilFn _
  · exact .fn _ _ [] #[] rfl (fun i c v h => by simp at h)
  · exact .undef _ _

def kindOk (P : Program) : TypeDesc → TK → Prop
  | .int k, .int k' => k = k'
  | .bool, .bool => True
  | .string, .str => True
  | .slice e, .slice e' => e = e'
  | .struct fs, .struct gs => gs = fs.toList.map fun f => (f.offset, f.type)
  | .struct _, .other => False
  | .array _ _, .other => False
  | .int _, .other => True
  | .bool, .other => True
  | .string, .other => True
  | .slice _, .other => True
  | .pointer _, .other => True
  | .func _ _ _, .other => True
  | _, _ => False

def eq1 : SK → AV → AV → Option Bool
  | .int k, .int k1 a, .int k2 b => if k = k1 ∧ k = k2 then some (a == b) else none
  | .bool, .bool a, .bool b => some (a == b)
  | .str, .str a, .str b => some (decide (a = b))
  | _, _, _ => none
def eqL : List SK → List AV → List AV → Option Bool
  | [], [], [] => some true
  | k :: ks, x :: xs, y :: ys => match eq1 k x y, eqL ks xs ys with
    | some a, some b => some (a && b)
    | _, _ => none
  | _, _, _ => none

structure TIok (P : Program) (t : Nat) (ti : TI) : Prop where
  ex : ∃ i d z, P.info? t = some i ∧ P.underlying t = some d ∧ i.size = ti.size ∧ i.bytes = ti.bytes ∧ i.zero = some z ∧ z.cells.size = ti.size ∧ ti.zero = z.cells.toList.map zAV ∧ (∀ v ∈ z.cells, v.oneCell' = true) ∧
    (ti.agg = true ↔ ∃ cs, z = .agg cs) ∧ kindOk P d ti.kind
  eqok : ∀ ks, ti.eq = some ks → ti.agg = true ∧ ∀ (w : World) (xs ys : Array Value) (cx cy : List AV) (b : Bool), xs.toList.map zAV = cx → ys.toList.map zAV = cy → eqL ks cx cy = some b →
    (∀ x y, (eqGuard .eql t x y (.agg xs) (.agg ys)).run P w = .ok () w ∧ (eqGuard .neq t x y (.agg xs) (.agg ys)).run P w = .ok () w) ∧ (Op.equal t (.agg xs) (.agg ys)).run P w = .ok b w
def Γok (P : Program) (Γ : TT) : Prop := ∀ t ti, look Γ t = some ti → TIok P t ti

def AS.ev (s : AS) : Operand → Option AV
  | .tmp t => look s.tmps t
  | .const v => some (zAV v)
  | .func f => some (.fn f [])
  | .global _ => none

theorem RelG.ev {C : Ctx} {G : Env} {s : AS} {a : Act} {w : World} (h : RelG C G s a w) {x : Operand} {v : AV} (hv : s.ev x = some v) : Rep w G true v (a.eval x) := by
  cases x with
  | tmp t =>
    obtain ⟨y, h1, h2⟩ := h.slots t v hv
    have : a.eval (.tmp t) = y := by simp [Act.eval, h1]
    rw [this]
    exact h2
  | const c =>
    simp only [AS.ev, Option.some.injEq] at hv
    subst hv
    exact zAV_rep _ _ _ _
  | global g => cases hv
  | func f =>
    simp only [AS.ev, Option.some.injEq] at hv
    subst hv
    exact .fn _ _ [] #[] rfl (fun i c v h => by simp at h)

/-- All of a list of facts. -/
def All : List Prop → Prop
  | [] => True
  | [p] => p
  | p :: q :: r => p ∧ All (q :: r)
theorem All_cons {p : Prop} {r : List Prop} : All (p :: r) ↔ p ∧ All r := by
  cases r <;> simp [All]
theorem All_append {l r : List Prop} : All (l ++ r) ↔ All l ∧ All r := by
  induction l with
  | nil => simp [All]
  | cons p l ih => rw [List.cons_append, All_cons, All_cons, ih, and_assoc]

abbrev VR := Option (AV × List Prop)

/-- Cells out of a row of cells: a struct's, or one. With a hint: what they are. -/
def cellsAt (ti : TI) (cells : List AV) (off : Nat) : Option AV → VR
  | none => if ti.agg = true then some (.agg ((cells.drop off).take ti.size), [off + ti.size ≤ cells.length]) else match cells.drop off with
    | x :: _ => some (x, [])
    | [] => none
  | some (.agg cs) => match ti.agg, Nat.beq cs.length ti.size with
    | true, true => some (.agg cs, [(cells.drop off).take ti.size = cs])
    | _, _ => none
  | some v => if ti.agg = true then none else some (v, [cells[off]? = some v])

theorem cellsAt_spec {ti : TI} {cells : List AV} {off : Nat} {ann : Option AV} {v : AV} {os : List Prop} (h : cellsAt ti cells off ann = some (v, os)) (ho : All os) :
    (ti.agg = true ∧ ∃ cs, v = .agg cs ∧ cs.length = ti.size ∧ (cells.drop off).take ti.size = cs) ∨ (ti.agg = false ∧ cells[off]? = some v) := by
  have hd : ∀ x r, cells.drop off = x :: r → cells[off]? = some x := by
    intro x r hx
    have := List.getElem?_drop (xs := cells) (i := off) (j := 0)
    rw [hx] at this
    simpa using this.symm
  unfold cellsAt at h
  split at h
  · split at h
    · rename_i ha
      cases h
      simp only [All] at ho
      exact .inl ⟨ha, _, rfl, by rw [List.length_take, List.length_drop]; omega, rfl⟩
    · rename_i ha
      split at h
      · rename_i x r hx
        cases h
        exact .inr ⟨by simpa using ha, hd _ _ hx⟩
      · cases h
  · split at h
    · rename_i ha hb
      cases h
      simp only [All] at ho
      exact .inl ⟨ha, _, rfl, Nat.eq_of_beq_eq_true hb, ho⟩
    · cases h
  · split at h
    · cases h
    · rename_i ha
      cases h
      simp only [All] at ho
      exact .inr ⟨by simpa using ha, ho⟩

def loadA (Γ : TT) (s : AS) (t : TypeId) (p : AV) (ann : Option AV) : VR :=
  match look Γ t with
  | none => none
  | some ti => match p with
    | .rop cells off => cellsAt ti cells off ann
    | .ptr id off => match look s.heap id with
      | some (.var _ cs) => cellsAt ti cs off ann
      | some (.rows _ cs) => cellsAt ti cs off ann
      | _ => none
    | .vptr t n off => match look s.tags t with
      | some ⟨m, _, _, some (_, cells)⟩ => match cellsAt ti cells off ann with
        | some (v, os) => some (v, (n = m) :: os)
        | none => none
      | _ => none
    | _ => none

/-- A row of cells that lies in memory is read. -/
theorem run_load_cells {P : Program} {Γ : TT} {w : World} {G : Env} {l : Bool} {t : TypeId} {ti : TI} (hti : TIok P t ti) (b off0 : Nat) (cells : List AV) (off : Nat) (hlk : ∀ j x, cells[j]? = some x → ∃ v, w.cell? ⟨b, off0 + j, none⟩ = some v ∧ Rep w G l x v ∧ v.oneCell' = true)
    {v : AV} (h : (ti.agg = true ∧ ∃ cs, v = .agg cs ∧ cs.length = ti.size ∧ (cells.drop off).take ti.size = cs) ∨ (ti.agg = false ∧ cells[off]? = some v)) :
    ∃ x, (Instr.loadAt t (.pointer (some ⟨b, off0 + off, none⟩))).run P w = .ok x w ∧ Rep w G l v x := by
  obtain ⟨i, d, z, hi, hd, hsz, hby, hz, hzs, hz0, hz1, hag, hk⟩ := hti.ex
  rcases h with ⟨ha, cs, rfl, hl, hcs⟩ | ⟨ha, hc⟩
  · have hrow : d.isRow = true := by
      unfold TI.agg at ha
      cases hkk : ti.kind <;> rw [hkk] at ha hk <;> first | cases ha | skip
      cases d <;> simp_all [kindOk, TypeDesc.isRow]
    have hget : ∀ j x, cs[j]? = some x → cells[off + j]? = some x := by
      intro j x hj
      rw [← hcs] at hj
      rw [List.getElem?_take] at hj
      split at hj
      · rwa [List.getElem?_drop] at hj
      · cases hj
    have hf : ∀ j, ∃ u : Value, ∀ x, cs[j]? = some x → w.cell? ⟨b, off0 + off + j, none⟩ = some u ∧ Rep w G l x u ∧ u.oneCell' = true := by
      intro j
      cases hj : cs[j]? with
      | none => exact ⟨undef, fun x h => by cases h⟩
      | some x =>
        obtain ⟨v, h1, h2, h3⟩ := hlk (off + j) x (hget j x hj)
        exact ⟨v, fun y hy => by cases hy; rw [Nat.add_assoc]; exact ⟨h1, h2, h3⟩⟩
    obtain ⟨f, hf⟩ := Classical.axiomOfChoice hf
    let us : List Value := (List.range cs.length).map f
    have hus : us.length = cs.length := by simp [us]
    have hu : ∀ j u, us[j]? = some u → ∃ x, cs[j]? = some x ∧ u = f j := by
      intro j u hj
      simp only [us, List.getElem?_map, Option.map_eq_some_iff] at hj
      obtain ⟨k, hk1, rfl⟩ := hj
      have hlt : j < cs.length := by
        rcases Nat.lt_or_ge j cs.length with h | h
        · exact h
        · rw [List.getElem?_eq_none (by simpa using h)] at hk1
          cases hk1
      rw [List.getElem?_range hlt] at hk1
      cases hk1
      exact ⟨cs[j], List.getElem?_eq_getElem hlt, rfl⟩
    refine ⟨.agg us.toArray, ?_, ?_⟩
    · refine run_loadAt_mid (P := P) w b (off0 + off) t us d ?_ hd hrow (by rw [hi]; simp [hus, hl, hsz])
      intro j u hj
      obtain ⟨x, hx, rfl⟩ := hu j u hj
      exact (hf j x hx).1
    · refine .agg _ _ _ (by simp [hus]) (fun j c v hc hv => ?_) (fun v hv => ?_)
      · rw [List.getElem?_toArray] at hv
        obtain ⟨x, hx, rfl⟩ := hu j v hv
        rw [hc] at hx
        cases hx
        exact (hf j c hc).2.1
      · obtain ⟨j, hj, rfl⟩ := List.mem_iff_getElem.1 (List.mem_toArray.1 hv)
        obtain ⟨x, hx, e⟩ := hu j us[j] (List.getElem?_eq_getElem hj)
        rw [e]
        exact (hf j x hx).2.2
  · obtain ⟨u, h1, h2, h3⟩ := hlk off v hc
    refine ⟨u, ?_, h2⟩
    have hrow : (isAgg t).run P w = .ok false w := by
      unfold isAgg
      rw [Sem.run_bind, run_underlying hd w]
      unfold TI.agg at ha
      cases hkk : ti.kind <;> rw [hkk] at ha hk <;> first | cases ha | skip
      all_goals cases d <;> simp_all [kindOk]
    simp [Instr.loadAt, Instr.sureAddr, loadVar, hrow, load, Sem.run, h1]

theorem loadA_sound {P : Program} {Γ : TT} (hΓ : Γok P Γ) {C : Ctx} {G : Env} {s : AS} {a : Act} {w : World} (h : RelG C G s a w) {t : TypeId} {p : AV} {pv : Value} {ann : Option AV} {v : AV} {os : List Prop}
    (hp : Rep w G true p pv) (hl : loadA Γ s t p ann = some (v, os)) (ho : All os) : ∃ x, (Instr.loadAt t pv).run P w = .ok x w ∧ Rep w G true v x := by
  unfold loadA at hl
  split at hl
  · cases hl
  · rename_i ti hti
    have hok' := hΓ t ti hti
    split at hl
    · rename_i cells off
      have hs := cellsAt_spec hl ho
      cases hp with
      | rop _ _ _ ad vs hcell hrep =>
        obtain ⟨x, h1, h2⟩ := run_load_cells (P := P) (Γ := Γ) (w := w) (G := G) (l := true) hok' ad.block ad.off cells off (fun j x hj => ⟨vs j, (hcell j x hj).2.1, (hrep j x hj).up, (hcell j x hj).2.2⟩) hs
        exact ⟨x, h1, h2⟩
    · rename_i id off
      cases hp with
      | ptr _ _ g hg =>
        split at hl
        · rename_i wr cs hb
          have hs := cellsAt_spec hl ho
          obtain ⟨g', hg', hb1, ⟨vs, e, hh, hsz, hr, h1, _⟩, _⟩ := h.blocks id _ hb
          rw [hg] at hg'
          cases hg'
          obtain ⟨x, h3, h4⟩ := run_load_cells (P := P) (Γ := Γ) (w := w) (G := G) (l := true) hok' g 0 cs off (fun j x hj => by
            have hlt : j < vs.size := by rw [hsz]; exact (List.getElem?_eq_some_iff.1 hj).1
            refine ⟨vs[j], by simp [World.cell?, hh, hlt], (hr j x vs[j] hj (Array.getElem?_eq_getElem hlt)).up, h1 _ (Array.getElem_mem hlt)⟩) hs
          exact ⟨x, by simpa using h3, h4⟩
        · rename_i wr cs hb
          have hs := cellsAt_spec hl ho
          obtain ⟨g', hg', hb1, ⟨vs, e, hh, hsz, hr, h1, _⟩, _⟩ := h.blocks id _ hb
          rw [hg] at hg'
          cases hg'
          obtain ⟨x, h3, h4⟩ := run_load_cells (P := P) (Γ := Γ) (w := w) (G := G) (l := true) hok' g 0 cs off (fun j x hj => by
            have hlt : j < vs.size := by rw [hsz]; exact (List.getElem?_eq_some_iff.1 hj).1
            refine ⟨vs[j], by simp [World.cell?, hh, hlt], (hr j x vs[j] hj (Array.getElem?_eq_getElem hlt)).up, h1 _ (Array.getElem_mem hlt)⟩) hs
          exact ⟨x, by simpa using h3, h4⟩
        · cases hl
    · rename_i t n off
      split at hl
      · rename_i m e sz b cells ht
        split at hl
        · rename_i v' os' hca
          cases hl
          obtain ⟨hnm, ho⟩ := All_cons.1 ho
          have hs := cellsAt_spec hca ho
          obtain ⟨r, hr, hok⟩ := h.tags t _ ht
          obtain ⟨hro, hlen, hrep, _⟩ := hok.hcs b cells rfl
          cases hp with
          | vptr _ _ _ _ r' hr' hle hv =>
            rw [hr] at hr'
            cases hr'
            obtain ⟨g, m', c, hrv, hpe⟩ := hv (by rw [hok.hn, hnm])
            subst hpe
            have hg : r.v.ownBlock = some g := by rw [hrv]; rfl
            obtain ⟨x, h3, h4⟩ := run_load_cells (P := P) (Γ := Γ) (w := w) (G := G) (l := true) hok' g 0 cells off (fun j x hj => by
              have hlt : j < r.xs.length := by rw [← hlen]; exact (List.getElem?_eq_some_iff.1 hj).1
              have hc := (hok.own hro).cells hg j r.xs[j] (List.getElem?_eq_getElem hlt)
              rw [add_plain] at hc
              exact ⟨r.xs[j], by simpa using hc, (hrep j x _ hj (List.getElem?_eq_getElem hlt)).up, hok.one hro _ (List.getElem_mem hlt)⟩) hs
            exact ⟨x, by simpa using h3, h4⟩
        · cases hl
      · cases hl
    · cases hl

end Go.AX
end

section
set_option linter.unusedVariables false
set_option linter.unusedSimpArgs false
namespace Go.AX
open Go Go.RowKit

/-- Value of an operation on two whole numbers. -/
def intA (op : BinOp) (k : IntKind) (a b : Int) : VR :=
  match op with
  | .add => some (.int k (k.wrap (a + b)), [])
  | .sub => some (.int k (k.wrap (a - b)), [])
  | .mul => some (.int k (k.wrap (a * b)), [])
  | .quo => some (.int k (k.wrap (a.tdiv b)), [b ≠ 0])
  | .rem => some (.int k (a.tmod b), [b ≠ 0])
  | .and => some (.int k (k.wrap (BitVec.ofInt k.bits a &&& BitVec.ofInt k.bits b).toNat), [])
  | .or => some (.int k (k.wrap (BitVec.ofInt k.bits a ||| BitVec.ofInt k.bits b).toNat), [])
  | .xor => some (.int k (k.wrap (BitVec.ofInt k.bits a ^^^ BitVec.ofInt k.bits b).toNat), [])
  | .eql => some (.bool (decide (a = b)), [])
  | .neq => some (.bool (!decide (a = b)), [])
  | .lss => some (.bool (decide (a < b)), [])
  | .leq => some (.bool (decide (a ≤ b)), [])
  | .gtr => some (.bool (decide (b < a)), [])
  | .geq => some (.bool (decide (b ≤ a)), [])
  | _ => none
theorem intA_sound {P : Program} {op : BinOp} {k : IntKind} {a b : Int} {v : AV} {os : List Prop} (h : intA op k a b = some (v, os)) (ho : All os) (t : TypeId) (w : World) (G : Env) :
    ∃ x, (binOp op t (.int k a) (.int k b)).run P w = .ok x w ∧ Rep w G true v x := by
  cases op <;> simp only [intA] at h <;> cases h
  · exact ⟨_, by simp [binOp, Op.intArith], .int _ _ _⟩
  · exact ⟨_, by simp [binOp, Op.intArith], .int _ _ _⟩
  · exact ⟨_, by simp [binOp, Op.intArith], .int _ _ _⟩
  · exact ⟨.int k (k.wrap (a.tdiv b)), by simp only [All] at ho; simp [binOp, Op.intDiv, ho], .int _ _ _⟩
  · exact ⟨.int k (a.tmod b), by simp only [All] at ho; simp [binOp, Op.intDiv, ho], .int _ _ _⟩
  · exact ⟨_, by simp [binOp, Op.intBits], .int _ _ _⟩
  · exact ⟨_, by simp [binOp, Op.intBits], .int _ _ _⟩
  · exact ⟨_, by simp [binOp, Op.intBits], .int _ _ _⟩
  · refine ⟨.bool (a == b), by simp [binOp, Op.intCmp], ?_⟩
    have : (a == b) = decide (a = b) := by by_cases h : a = b <;> simp [h]
    rw [this]; exact .bool _ _
  · refine ⟨.bool (a != b), by simp [binOp, Op.intCmp], ?_⟩
    have : (a != b) = !decide (a = b) := by by_cases h : a = b <;> simp [h]
    rw [this]; exact .bool _ _
  · exact ⟨.bool (decide (a < b)), by simp [binOp, Op.intCmp], .bool _ _⟩
  · exact ⟨.bool (decide (a ≤ b)), by simp [binOp, Op.intCmp], .bool _ _⟩
  · exact ⟨.bool (decide (b < a)), by simp [binOp, Op.intCmp], .bool _ _⟩
  · exact ⟨.bool (decide (b ≤ a)), by simp [binOp, Op.intCmp], .bool _ _⟩

theorem toList_inj (a b : ByteArray) : (a.toList == b.toList) = decide (a = b) := by
  rw [ByteArray.toList_eq, ByteArray.toList_eq]
  by_cases h : a = b
  · subst h; simp
  · have : a.data.toList ≠ b.data.toList := fun e => h (by
      cases a; cases b
      simp at e
      rw [e])
    have h2 : a.data ≠ b.data := fun e => this (by rw [e])
    simp [h, h2]

def strA (op : BinOp) (a b : ByteArray) : VR :=
  match op with
  | .add => some (.str (a ++ b), [a.size + b.size ≤ 9223372036854775807])
  | .eql => some (.bool (decide (a = b)), [])
  | .neq => some (.bool (!decide (a = b)), [])
  | .lss => some (.bool (Op.bytesLess a.toList b.toList), [])
  | .leq => some (.bool (Op.bytesLess a.toList b.toList || decide (a = b)), [])
  | .gtr => some (.bool (!(Op.bytesLess a.toList b.toList || decide (a = b))), [])
  | .geq => some (.bool (!Op.bytesLess a.toList b.toList), [])
  | _ => none
theorem strA_sound {P : Program} {op : BinOp} {a b : ByteArray} {v : AV} {os : List Prop} (h : strA op a b = some (v, os)) (ho : All os) (t : TypeId) (w : World) (G : Env) :
    ∃ x, (binOp op t (.string a) (.string b)).run P w = .ok x w ∧ Rep w G true v x := by
  have hm : IntKind.i64.max = 9223372036854775807 := rfl
  cases op <;> simp only [strA] at h <;> cases h
  · simp only [All] at ho
    refine ⟨.string (a ++ b), ?_, .str _ _⟩
    have : ¬ (((a.size + b.size : Nat) : Int) > IntKind.i64.max) := by rw [hm]; omega
    simp only [binOp, Op.stringOp, this, if_false]
    rfl
  all_goals (refine ⟨.bool _, ?_, .bool _ _⟩; simp only [binOp, Op.stringOp, ← toList_inj]; rfl)

theorem eqGuard_plain {P : Program} {op : BinOp} {t : TypeId} {x y : Operand} {a b : Value} {w : World} (h1 : a ≠ .nilIface ∨ b ≠ .nilIface) (h2 : ∀ cs, a ≠ .agg cs) : (eqGuard op t x y a b).run P w = .ok () w := by
  cases op <;> first
    | rfl
    | (simp only [eqGuard, Bool.not_true, Bool.false_eq_true, if_false]
       split
       · simp_all
       · exact absurd rfl (h2 _)
       · rfl)

/-- '==', '!=' and the rest. -/
def binA (Γ : TT) (op : BinOp) (t : TypeId) (x y : AV) (ann : Option AV) : VR :=
  match x, y with
  | .int k a, .int k' b => if k = k' then intA op k a b else none
  | .str a, .str b => strA op a b
  | .bool a, .bool b => match look Γ t with
    | some ti => match ti.kind, op with
      | .bool, .eql => some (.bool (a == b), [])
      | .bool, .neq => some (.bool (!(a == b)), [])
      | _, _ => none
    | none => none
  | .agg xs, .agg ys => match look Γ t with
    | some ti => match ti.eq, op with
      | some ks, .eql => match eqL ks xs ys with
        | some b => some (.bool b, [])
        | none => none
      | some ks, .neq => match eqL ks xs ys with
        | some b => some (.bool (!b), [])
        | none => none
      | _, _ => none
    | none => none
  | .sl nl n _ _, .sl (some true) 0 [] _ => match look Γ t with
    | some ti => match ti.kind, op with
      | .slice _, .eql => match nl with
        | some b => some (.bool b, [])
        | none => match ann with
          | some (.bool false) => some (.bool false, [0 < n])
          | _ => none
      | .slice _, .neq => match nl with
        | some b => some (.bool (!b), [])
        | none => match ann with
          | some (.bool true) => some (.bool true, [0 < n])
          | _ => none
      | _, _ => none
    | none => none
  | _, _ => none

theorem eq1_val {k : SK} {w : World} {G : Env} {l : Bool} {x y : AV} {b : Bool} (h : eq1 k x y = some b) {v u : Value} (hv : Rep w G l x v) (hu : Rep w G l y u) : zAV v = x ∧ zAV u = y := by
  cases k <;> cases x <;> cases y <;> simp only [eq1] at h <;> first | (cases h; done) | (cases hv; cases hu; exact ⟨rfl, rfl⟩)
theorem eqL_val {ks : List SK} {w : World} {G : Env} {l : Bool} {xs ys : List AV} {b : Bool} (h : eqL ks xs ys = some b) : ∀ {vs us : List Value}, vs.length = xs.length → us.length = ys.length → (∀ (i : Nat) (c : AV) (v : Value), xs[i]? = some c → vs[i]? = some v → Rep w G l c v) →
    (∀ (i : Nat) (c : AV) (v : Value), ys[i]? = some c → us[i]? = some v → Rep w G l c v) → vs.map zAV = xs ∧ us.map zAV = ys := by
  induction ks generalizing xs ys b with
  | nil =>
    intro vs us h1 h2 h3 h4
    cases xs <;> cases ys <;> simp only [eqL] at h <;> first | cases h | skip
    obtain rfl := List.eq_nil_of_length_eq_zero h1
    obtain rfl := List.eq_nil_of_length_eq_zero h2
    exact ⟨rfl, rfl⟩
  | cons k ks ih =>
    intro vs us h1 h2 h3 h4
    cases xs with
    | nil => cases ys <;> simp [eqL] at h
    | cons x xs =>
      cases ys with
      | nil => simp [eqL] at h
      | cons y ys =>
        cases vs with
        | nil => simp at h1
        | cons v vs =>
          cases us with
          | nil => simp at h2
          | cons u us =>
            simp only [eqL] at h
            split at h
            · rename_i a b ha hb
              obtain ⟨e1, e2⟩ := eq1_val ha (h3 0 x v rfl rfl) (h4 0 y u rfl rfl)
              obtain ⟨e3, e4⟩ := ih hb (by simpa using h1) (by simpa using h2) (fun i c v a b => h3 (i + 1) c v (by simpa using a) (by simpa using b)) (fun i c v a b => h4 (i + 1) c v (by simpa using a) (by simpa using b))
              simp [e1, e2, e3, e4]
            · cases h

theorem equal_bool {P : Program} {t : TypeId} {w : World} (hd : P.underlying t = some .bool) (a b : Bool) : (Op.equal t (.bool a) (.bool b)).run P w = .ok (a == b) w := by
  have : ∀ d, (Op.equalIn (d + 1) t (.bool a) (.bool b)).run P w = .ok (a == b) w := fun d => by simp [Op.equalIn, run_underlying hd]
  exact this 9999
theorem equal_nil {P : Program} {t e : TypeId} {w : World} (hd : P.underlying t = some (.slice e)) (A : Option Addr) (n c m k : Nat) : (Op.equal t (.slice A n c) (.slice none m k)).run P w = .ok A.isNone w := by
  have : ∀ d, (Op.equalIn (d + 1) t (.slice A n c) (.slice none m k)).run P w = .ok A.isNone w := fun d => by cases A <;> simp [Op.equalIn, run_underlying hd]
  exact this 9999
theorem bin_equal {P : Program} {t : TypeId} {x y : Value} {w : World} {b : Bool} (h : (Op.equal t x y).run P w = .ok b w) (hx : (∃ b, x = .bool b) ∨ (∃ A n c, x = .slice A n c) ∨ ∃ cs, x = .agg cs) (hy : (∃ b, y = .bool b) ∨ (∃ A n c, y = .slice A n c) ∨ ∃ cs, y = .agg cs) :
    (binOp .eql t x y).run P w = .ok (.bool b) w ∧ (binOp .neq t x y).run P w = .ok (.bool (!b)) w := by
  rcases hx with ⟨_, rfl⟩ | ⟨_, _, _, rfl⟩ | ⟨_, rfl⟩ <;> rcases hy with ⟨_, rfl⟩ | ⟨_, _, _, rfl⟩ | ⟨_, rfl⟩ <;> exact ⟨by simp [binOp, h, Sem.run_bind], by simp [binOp, h, Sem.run_bind]⟩

theorem binA_sound {P : Program} {Γ : TT} (hΓ : Γok P Γ) {op : BinOp} {t : TypeId} {x y : AV} {ann : Option AV} {v : AV} {os : List Prop} (h : binA Γ op t x y ann = some (v, os)) (ho : All os) {w : World} {G : Env} {ox oy : Operand} {vx vy : Value}
    (hx : Rep w G true x vx) (hy : Rep w G true y vy) : ∃ u, (do eqGuard op t ox oy vx vy; binOp op t vx vy : Sem Value).run P w = .ok u w ∧ Rep w G true v u := by
  unfold binA at h
  split at h
  · cases hx; cases hy
    split at h
    · rename_i k a k' b hk
      subst hk
      obtain ⟨u, h1, h2⟩ := intA_sound (P := P) h ho t w G
      refine ⟨u, ?_, h2⟩
      rw [Sem.run_bind, eqGuard_plain (.inl (by simp)) (by simp)]
      exact h1
    · cases h
  · cases hx; cases hy
    obtain ⟨u, h1, h2⟩ := strA_sound (P := P) h ho t w G
    refine ⟨u, ?_, h2⟩
    rw [Sem.run_bind, eqGuard_plain (.inl (by simp)) (by simp)]
    exact h1
  · cases hx; cases hy
    split at h
    · rename_i ti hti
      obtain ⟨i, d, z, hi, hd, hsz, hby, hz, hzs, hz0, hz1, hag, hk⟩ := (hΓ t ti hti).ex
      split at h
      · rename_i a b _ hkk
        cases h
        have hdb : d = .bool := by rw [hkk] at hk; cases d <;> simp_all [kindOk]
        subst hdb
        refine ⟨_, ?_, .bool _ _⟩
        rw [Sem.run_bind, eqGuard_plain (.inl (by simp)) (by simp)]
        exact (bin_equal (equal_bool hd _ _) (.inl ⟨_, rfl⟩) (.inl ⟨_, rfl⟩)).1
      · rename_i a b _ hkk
        cases h
        have hdb : d = .bool := by rw [hkk] at hk; cases d <;> simp_all [kindOk]
        subst hdb
        refine ⟨_, ?_, .bool _ _⟩
        rw [Sem.run_bind, eqGuard_plain (.inl (by simp)) (by simp)]
        exact (bin_equal (equal_bool hd _ _) (.inl ⟨_, rfl⟩) (.inl ⟨_, rfl⟩)).2
      · cases h
    · cases h
  · rename_i xs ys
    cases hx with
    | agg _ _ vs hl hr h1 =>
      cases hy with
      | agg _ _ us hl' hr' h1' =>
        split at h
        · rename_i ti hti
          have hok := hΓ t ti hti
          split at h
          · rename_i ks hks
            split at h
            · rename_i b hb
              cases h
              obtain ⟨e1, e2⟩ := eqL_val hb (vs := vs.toList) (us := us.toList) (by simpa using hl) (by simpa using hl') (fun i c v a b => hr i c v a (by simpa using b)) (fun i c v a b => hr' i c v a (by simpa using b))
              obtain ⟨_, h2⟩ := hok.eqok ks hks
              obtain ⟨h3, h4⟩ := h2 w vs us xs ys b e1 e2 hb
              refine ⟨_, ?_, .bool _ _⟩
              rw [Sem.run_bind, (h3 ox oy).1]
              exact (bin_equal h4 (.inr (.inr ⟨_, rfl⟩)) (.inr (.inr ⟨_, rfl⟩))).1
            · cases h
          · rename_i ks hks
            split at h
            · rename_i b hb
              cases h
              obtain ⟨e1, e2⟩ := eqL_val hb (vs := vs.toList) (us := us.toList) (by simpa using hl) (by simpa using hl') (fun i c v a b => hr i c v a (by simpa using b)) (fun i c v a b => hr' i c v a (by simpa using b))
              obtain ⟨_, h2⟩ := hok.eqok ks hks
              obtain ⟨h3, h4⟩ := h2 w vs us xs ys b e1 e2 hb
              refine ⟨_, ?_, .bool _ _⟩
              rw [Sem.run_bind, (h3 ox oy).2]
              exact (bin_equal h4 (.inr (.inr ⟨_, rfl⟩)) (.inr (.inr ⟨_, rfl⟩))).2
            · cases h
          · cases h
        · cases h
  · rename_i nl n cells o' o''
    cases hx with
    | sl _ _ _ _ _ A c vs hnl hpos hc hcell hrep hclip hown =>
      cases hy with
      | sl _ _ _ _ _ A' c' vs' hnl' hpos' hc' _ _ _ _ =>
        have hA' : A' = none := by have := hnl' true rfl; simpa using this
        subst hA'
        split at h
        · rename_i ti hti
          obtain ⟨i, d, z, hi, hd, hsz, hby, hz, hzs, hz0, hz1, hag, hk⟩ := (hΓ t ti hti).ex
          have main : ∀ e, ti.kind = .slice e → ∀ b, A.isNone = b → (∃ u, (do eqGuard .eql t ox oy (.slice A n c) (.slice none 0 c'); binOp .eql t (.slice A n c) (.slice none 0 c') : Sem Value).run P w = .ok u w ∧ Rep w G true (.bool b) u) ∧
              (∃ u, (do eqGuard .neq t ox oy (.slice A n c) (.slice none 0 c'); binOp .neq t (.slice A n c) (.slice none 0 c') : Sem Value).run P w = .ok u w ∧ Rep w G true (.bool (!b)) u) := by
            intro e hkk b hb
            have hdb : ∃ e, d = .slice e := by rw [hkk] at hk; cases d <;> simp_all [kindOk]
            obtain ⟨e', rfl⟩ := hdb
            constructor
            · refine ⟨.bool b, ?_, .bool _ _⟩
              rw [Sem.run_bind, eqGuard_plain (.inl (by simp)) (by simp), ← hb]
              exact (bin_equal (equal_nil hd A n c 0 c') (.inr (.inl ⟨_, _, _, rfl⟩)) (.inr (.inl ⟨_, _, _, rfl⟩))).1
            · refine ⟨.bool (!b), ?_, .bool _ _⟩
              rw [Sem.run_bind, eqGuard_plain (.inl (by simp)) (by simp), ← hb]
              exact (bin_equal (equal_nil hd A n c 0 c') (.inr (.inl ⟨_, _, _, rfl⟩)) (.inr (.inl ⟨_, _, _, rfl⟩))).2
          have hposA : 0 < n → A.isNone = false := fun hp => by obtain ⟨ad, e, _⟩ := hpos hp; rw [e]; rfl
          split at h
          · rename_i e _ hkk
            split at h
            · rename_i b
              cases h
              exact (main _ hkk b (hnl b rfl)).1
            · split at h
              · cases h
                simp only [All] at ho
                exact (main _ hkk false (hposA ho)).1
              · cases h
          · rename_i e _ hkk
            split at h
            · rename_i b
              cases h
              exact (main _ hkk b (hnl b rfl)).2
            · split at h
              · cases h
                simp only [All] at ho
                exact (main _ hkk false (hposA ho)).2
              · cases h
          · cases h
        · cases h
  · cases h

end Go.AX
end

section
set_option linter.unusedVariables false
set_option linter.unusedSimpArgs false
namespace Go.AX
open Go Go.RowKit

theorem kind_slice {P : Program} {d : TypeDesc} {e : TypeId} (h : kindOk P d (.slice e)) : d = .slice e := by cases d <;> simp_all [kindOk]
theorem kind_struct {P : Program} {d : TypeDesc} {gs : List (Nat × TypeId)} (h : kindOk P d (.struct gs)) : ∃ fs, d = .struct fs ∧ gs = fs.toList.map fun f => (f.offset, f.type) := by cases d <;> simp_all [kindOk]
theorem kind_int {P : Program} {d : TypeDesc} {k : IntKind} (h : kindOk P d (.int k)) : d = .int k := by cases d <;> simp_all [kindOk]
theorem kind_str {P : Program} {d : TypeDesc} (h : kindOk P d .str) : d = .string := by cases d <;> simp_all [kindOk]

def unA (op : UnOp) (x : AV) : VR :=
  match op, x with
  | .not, .bool b => some (.bool (!b), [])
  | .neg, .int k n => some (.int k (k.wrap (0 - n)), [])
  | _, _ => none
theorem unA_sound {P : Program} {op : UnOp} {x v : AV} {os : List Prop} (h : unA op x = some (v, os)) {w : World} {G : Env} {vx : Value} (hx : Rep w G true x vx) : ∃ u, (Op.unary op vx).run P w = .ok u w ∧ Rep w G true v u := by
  unfold unA at h
  split at h
  · cases h; cases hx; exact ⟨_, rfl, .bool _ _⟩
  · cases h; cases hx; exact ⟨_, by simp [Op.unary, Op.intArith], .int _ _ _⟩
  · cases h

/-! ### Fields -/
def fieldAddrA (Γ : TT) (t : TypeId) (p : AV) (f : Nat) : VR :=
  match look Γ t with
  | some ti => match ti.kind with
    | .struct fs => match fs[f]? with
      | some (off, ft) => match look Γ ft with
        | some fi => match fi.size with
          | 0 => none
          | _ + 1 => match p with
            | .rop cells o => some (.rop cells (o + off), [])
            | .ptr id o => some (.ptr id (o + off), [])
            | _ => none
        | none => none
      | none => none
    | _ => none
  | none => none
theorem fieldAddrA_sound {P : Program} {Γ : TT} (hΓ : Γok P Γ) {t : TypeId} {p v : AV} {f : Nat} {os : List Prop} (h : fieldAddrA Γ t p f = some (v, os)) {w : World} {G : Env} {vp : Value} (hp : Rep w G true p vp) :
    ∃ u, (Instr.fieldAt t vp f).run P w = .ok u w ∧ Rep w G true v u := by
  unfold fieldAddrA at h
  split at h
  · rename_i ti hti
    obtain ⟨i, d, z, hi, hd, hsz, hby, hz, hzs, hz0, hz1, hag, hk⟩ := (hΓ t ti hti).ex
    split at h
    · rename_i fs hfs
      rw [hfs] at hk
      obtain ⟨gs, rfl, rfl⟩ := kind_struct hk
      split at h
      · rename_i off ft hf
        simp only [List.getElem?_map, Option.map_eq_some_iff, Prod.mk.injEq] at hf
        obtain ⟨fd, hfd, rfl, rfl⟩ := hf
        have hfd' : gs[f]? = some fd := by simpa using hfd
        split at h
        · rename_i fi hfi
          obtain ⟨i2, d2, z2, hi2, hd2, hsz2, _⟩ := (hΓ _ fi hfi).ex
          split at h
          · cases h
          · rename_i k hk2
            have hne : i2.size ≠ 0 := by omega
            split at h
            · rename_i cells o
              cases h
              cases hp with
              | rop _ _ _ ad vs hcell hrep =>
                refine ⟨.pointer (some ⟨ad.block, ad.off + (o + fd.offset), none⟩), ?_, .rop _ _ _ ad vs hcell hrep⟩
                simp [Instr.fieldAt, run_underlying hd, hfd', Instr.sureAddr, fieldPlace, sizeOf, typeInfo, hi2, hne, Addr.add]
                by_cases h0 : fd.offset = 0 <;> simp [h0, Nat.add_assoc]
            · rename_i id o
              cases h
              cases hp with
              | ptr _ _ g hg =>
                refine ⟨.pointer (some ⟨g, o + fd.offset, none⟩), ?_, .ptr _ _ _ hg⟩
                simp [Instr.fieldAt, run_underlying hd, hfd', Instr.sureAddr, fieldPlace, sizeOf, typeInfo, hi2, hne, Addr.add]
            · cases h
        · cases h
      · cases h
    · cases h
  · cases h

/-- A part of a struct's cells. -/
theorem part_sound {P : Program} {ti : TI} {t : TypeId} (hok : TIok P t ti) {cells : List AV} {off : Nat} {ann : Option AV} {v : AV} {os : List Prop} (h : cellsAt ti cells off ann = some (v, os)) (ho : All os) {w : World} {G : Env} {l : Bool}
    {vs : Array Value} (hl : vs.size = cells.length) (hr : ∀ (i : Nat) (c : AV) (v : Value), cells[i]? = some c → vs[i]? = some v → Rep w G l c v) (h1 : ∀ v ∈ vs, v.oneCell' = true) :
    ∃ u, (part t vs off).run P w = .ok u w ∧ Rep w G l v u := by
  obtain ⟨i, d, z, hi, hd, hsz, hby, hz, hzs, hz0, hz1, hag, hk⟩ := hok.ex
  rcases cellsAt_spec h ho with ⟨ha, cs, rfl, hcl, hcs⟩ | ⟨ha, hc⟩
  · refine ⟨.agg (vs.extract off (off + ti.size)), ?_, ?_⟩
    · have hagg : (isAgg t).run P w = .ok true w := by
        unfold isAgg
        rw [Sem.run_bind, run_underlying hd w]
        unfold TI.agg at ha
        cases hkk : ti.kind <;> rw [hkk] at ha hk <;> first | cases ha | skip
        cases d <;> simp_all [kindOk]
      simp [part, hagg, sizeOf, typeInfo, hi, hsz]
    · have hlen : cs.length = min ti.size (cells.length - off) := by rw [← hcs]; simp
      refine .agg _ _ _ ?_ ?_ ?_
      · simp; omega
      · intro j c u hj hu
        rw [← hcs, List.getElem?_take] at hj
        split at hj
        · rename_i hlt
          rw [List.getElem?_drop] at hj
          refine hr (off + j) c u hj ?_
          rw [Array.getElem?_extract] at hu
          split at hu
          · exact hu
          · cases hu
        · cases hj
      · intro u hu
        obtain ⟨j, hj, rfl⟩ := Array.mem_iff_getElem.1 hu
        simp only [Array.getElem_extract]
        exact h1 _ (Array.getElem_mem _)
  · have hlt : off < vs.size := by rw [hl]; exact (List.getElem?_eq_some_iff.1 hc).1
    refine ⟨vs[off], ?_, hr off v _ hc (Array.getElem?_eq_getElem hlt)⟩
    have hagg : (isAgg t).run P w = .ok false w := by
      unfold isAgg
      rw [Sem.run_bind, run_underlying hd w]
      unfold TI.agg at ha
      cases hkk : ti.kind <;> rw [hkk] at ha hk <;> first | cases ha | skip
      all_goals cases d <;> simp_all [kindOk]
    simp [part, hagg, hlt]

def fieldA (Γ : TT) (t : TypeId) (x : AV) (f : Nat) (ann : Option AV) : VR :=
  match look Γ t with
  | some ti => match ti.kind with
    | .struct fs => match fs[f]? with
      | some (off, ft) => match look Γ ft with
        | some fi => match x with
          | .agg cs => cellsAt fi cs off ann
          | _ => none
        | none => none
      | none => none
    | _ => none
  | none => none
theorem fieldA_sound {P : Program} {Γ : TT} (hΓ : Γok P Γ) {t : TypeId} {x v : AV} {f : Nat} {ann : Option AV} {os : List Prop} (h : fieldA Γ t x f ann = some (v, os)) (ho : All os) {w : World} {G : Env} {vx : Value} (hx : Rep w G true x vx) :
    ∃ u, (Instr.field t vx f).run P w = .ok u w ∧ Rep w G true v u := by
  unfold fieldA at h
  split at h
  · rename_i ti hti
    obtain ⟨i, d, z, hi, hd, hsz, hby, hz, hzs, hz0, hz1, hag, hk⟩ := (hΓ t ti hti).ex
    split at h
    · rename_i fs hfs
      rw [hfs] at hk
      obtain ⟨gs, rfl, rfl⟩ := kind_struct hk
      split at h
      · rename_i off ft hf
        simp only [List.getElem?_map, Option.map_eq_some_iff, Prod.mk.injEq] at hf
        obtain ⟨fd, hfd, rfl, rfl⟩ := hf
        have hfd' : gs[f]? = some fd := by simpa using hfd
        split at h
        · rename_i fi hfi
          split at h
          · cases hx with
            | agg _ cs vs hl hr h1 =>
              obtain ⟨u, h2, h3⟩ := part_sound (P := P) (hΓ _ fi hfi) h ho hl hr h1
              exact ⟨u, by simp [Instr.field, run_underlying hd, hfd', asAgg, h2], h3⟩
          · cases h
        · cases h
      · cases h
    · cases h
  · cases h

/-! ### Elements -/
def indexAddrA (Γ : TT) (s : AS) (t : TypeId) (x i : AV) : VR :=
  match look Γ t with
  | some ti => match ti.kind with
    | .slice e => match look Γ e with
      | some ei => match x, i with
        | .sl _ n cells _, .int _ j => some (.rop cells (j.toNat * ei.size), [0 ≤ j ∧ j < n ∧ j.toNat * ei.size < cells.length])
        | .row id off n, .int _ j => some (.ptr id (off + j.toNat * ei.size), [0 ≤ j ∧ j < n])
        | .vec t n, .int _ j => match look s.tags t with
          | some ⟨m, _, _, some _⟩ => some (.vptr t n (j.toNat * ei.size), [0 ≤ j ∧ j < n ∧ n = m])
          | _ => none
        | _, _ => none
      | none => none
    | _ => none
  | none => none
theorem indexAddrA_sound {P : Program} {Γ : TT} (hΓ : Γok P Γ) {C : Ctx} {G : Env} {s : AS} {a : Act} {w : World} (hR : RelG C G s a w) {t : TypeId} {x j v : AV} {os : List Prop} (h : indexAddrA Γ s t x j = some (v, os)) (ho : All os) {vx vj : Value} (hx : Rep w G true x vx) (hj : Rep w G true j vj) :
    ∃ u, (Instr.indexAt t vx vj).run P w = .ok u w ∧ Rep w G true v u := by
  unfold indexAddrA at h
  split at h
  · rename_i ti hti
    obtain ⟨i, d, z, hi, hd, hsz, hby, hz, hzs, hz0, hz1, hag, hk⟩ := (hΓ t ti hti).ex
    split at h
    · rename_i e he
      rw [he] at hk
      obtain rfl := kind_slice hk
      split at h
      · rename_i ei hei
        obtain ⟨i2, d2, z2, hi2, hd2, hsz2, _⟩ := (hΓ _ ei hei).ex
        split at h
        · rename_i nl n cells oo k j
          cases h
          cases hj
          simp only [All] at ho
          obtain ⟨h0, h1, h2⟩ := ho
          cases hx with
          | sl _ _ _ _ _ A c vs hnl hpos hc hcell hrep hclip hown =>
            obtain ⟨ad, rfl, hsp⟩ := hpos (by omega)
            refine ⟨.pointer (some ⟨ad.block, ad.off + j.toNat * ei.size, none⟩), ?_, .rop _ _ _ ad vs (fun k x hx => ?_) hrep⟩
            · have := add_spot ad (j.toNat * ei.size) hsp
              simp [Instr.indexAt, asIntOf, run_underlying hd, h0, h1, sizeOf, typeInfo, hi2, hsz2, this]
            · obtain ⟨ad', e', hs', hf, hw, h3⟩ := hcell k x hx
              cases e'
              exact ⟨hf, hw, h3⟩
        · rename_i id off n k j
          cases h
          cases hj
          simp only [All] at ho
          obtain ⟨h0, h1⟩ := ho
          cases hx with
          | row _ _ _ g c hg hc =>
            refine ⟨.pointer (some ⟨g, off + j.toNat * ei.size, none⟩), ?_, .ptr _ _ _ hg⟩
            have := add_spot ⟨g, off, none⟩ (j.toNat * ei.size) rfl
            simp [Instr.indexAt, asIntOf, run_underlying hd, h0, h1, sizeOf, typeInfo, hi2, hsz2, this]
        · rename_i tg n k j
          split at h
          · rename_i m e2 sz2 b hm
            cases h
            cases hj
            simp only [All] at ho
            obtain ⟨h0, h1, h2⟩ := ho
            obtain ⟨r, hr, hok⟩ := hR.tags tg _ hm
            cases hx with
            | vec _ _ A mm c0 r' hr' hle hv =>
              rw [hr] at hr'
              cases hr'
              have hv' := hv (by rw [hok.hn, h2])
              have hro : ∃ g, A = some ⟨g, 0, none⟩ ∧ mm = n := by
                have hro := (hok.hcs b.1 b.2 rfl).1
                have e1 : r.n = n := by rw [hok.hn, h2]
                rcases (hok.own hro).2 with ⟨_, h3⟩ | ⟨g, cap, cur, h3, _⟩
                · rw [e1] at h3; omega
                · rw [e1] at h3
                  have h4 := hv'.symm.trans h3
                  simp only [Value.slice.injEq] at h4
                  exact ⟨g, h4.1, h4.2.1⟩
              obtain ⟨g, rfl, rfl⟩ := hro
              refine ⟨.pointer (some ⟨g, j.toNat * ei.size, none⟩), ?_, .vptr _ _ _ _ r hr hle (fun _ => ⟨g, _, _, hv', rfl⟩)⟩
              have := add_spot ⟨g, 0, none⟩ (j.toNat * ei.size) rfl
              simp [Instr.indexAt, asIntOf, run_underlying hd, h0, h1, sizeOf, typeInfo, hi2, hsz2, this]
          · cases h
        · cases h
      · cases h
    · cases h
  · cases h

def byteAt (s : ByteArray) (i : Int) : Int := ((s[i.toNat]?).getD 0).toNat
def indexA (Γ : TT) (t : TypeId) (x i : AV) : VR :=
  match look Γ t with
  | some ti => match ti.kind with
    | .str => match x, i with
      | .str s, .int _ j => some (.int .u8 (byteAt s j), [0 ≤ j ∧ j < s.size])
      | _, _ => none
    | _ => none
  | none => none
theorem indexA_sound {P : Program} {Γ : TT} (hΓ : Γok P Γ) {t : TypeId} {x j v : AV} {os : List Prop} (h : indexA Γ t x j = some (v, os)) (ho : All os) {w : World} {G : Env} {vx vj : Value} (hx : Rep w G true x vx) (hj : Rep w G true j vj) :
    ∃ u, (Instr.index t vx vj).run P w = .ok u w ∧ Rep w G true v u := by
  unfold indexA at h
  split at h
  · rename_i ti hti
    obtain ⟨i, d, z, hi, hd, hsz, hby, hz, hzs, hz0, hz1, hag, hk⟩ := (hΓ t ti hti).ex
    split at h
    · rename_i he
      rw [he] at hk
      obtain rfl := kind_str hk
      split at h
      · rename_i s k j
        cases h
        cases hj
        cases hx
        simp only [All] at ho
        obtain ⟨h0, h1⟩ := ho
        have hlt : j.toNat < s.size := by omega
        refine ⟨.int .u8 (byteAt s j), ?_, .int _ _ _⟩
        simp [Instr.index, asIntOf, run_underlying hd, h0, byteAt, hlt]
      · cases h
    · cases h
  · cases h

def extractA (x : AV) (ix : Nat) : VR :=
  match x with
  | .tup vs => match vs[ix]? with
    | some v => some (v, [])
    | none => none
  | _ => none
theorem extractA_sound {P : Program} {x v : AV} {ix : Nat} {os : List Prop} (h : extractA x ix = some (v, os)) {w : World} {G : Env} {vx : Value} (hx : Rep w G true x vx) : ∃ u, (Instr.extract vx ix).run P w = .ok u w ∧ Rep w G true v u := by
  unfold extractA at h
  split at h
  · split at h
    · rename_i v' hv
      cases h
      cases hx with
      | tup _ cs vs hl hr =>
        have hlt : ix < vs.size := by rw [hl]; exact (List.getElem?_eq_some_iff.1 hv).1
        exact ⟨vs[ix], by simp [Instr.extract, hlt], hr ix _ _ hv (Array.getElem?_eq_getElem hlt)⟩
    · cases h
  · cases h

end Go.AX
end

section
set_option linter.unusedVariables false
set_option linter.unusedSimpArgs false
namespace Go.AX
open Go Go.RowKit

/-! ### A struct that is built -/
def cellsOf : AV → List AV
  | .agg cs => cs
  | v => [v]
def splice (cells : List AV) (off : Nat) (vs : List AV) : List AV := cells.take off ++ (vs ++ cells.drop (off + vs.length))
theorem splice_length {cells : List AV} {off : Nat} {vs : List AV} (h : off + vs.length ≤ cells.length) : (splice cells off vs).length = cells.length := by simp [splice]; omega
theorem splice_get {cells : List AV} {off : Nat} {vs : List AV} (h : off + vs.length ≤ cells.length) (k : Nat) : (splice cells off vs)[k]? = if off ≤ k ∧ k < off + vs.length then vs[k - off]? else cells[k]? := by
  simp only [splice]
  split
  · rename_i hk
    rw [List.getElem?_append_right (by simp; omega), List.getElem?_append_left (by simp; omega)]
    simp
    congr 1
    omega
  · rename_i hk
    by_cases h1 : k < off
    · rw [List.getElem?_append_left (by simp; omega), List.getElem?_take]
      simp [h1]
    · rw [List.getElem?_append_right (by simp; omega), List.getElem?_append_right (by simp; omega), List.getElem?_drop]
      simp
      congr 1
      omega

def Pw (w : World) (G : Env) (l : Bool) (cs : List AV) (vs : Array Value) : Prop :=
  vs.size = cs.length ∧ (∀ (i : Nat) (c : AV) (v : Value), cs[i]? = some c → vs[i]? = some v → Rep w G l c v) ∧ ∀ v ∈ vs, v.oneCell' = true

theorem fold_set (off : Nat) : ∀ (ws : List Value) (k : Nat) (cells : Array Value), off + k + ws.length ≤ cells.size →
    ((ws.zipIdx k).foldl (fun cs (p : Value × Nat) => cs.setIfInBounds (off + p.2) p.1) cells).size = cells.size ∧
    ∀ i, ((ws.zipIdx k).foldl (fun cs (p : Value × Nat) => cs.setIfInBounds (off + p.2) p.1) cells)[i]? = if off + k ≤ i ∧ i < off + k + ws.length then ws[i - off - k]? else cells[i]?
  | [], k, cells, _ => by
    refine ⟨rfl, fun i => ?_⟩
    simp
    intro h1 h2
    omega
  | x :: ws, k, cells, h => by
    simp only [List.length_cons] at h
    obtain ⟨h1, h2⟩ := fold_set off ws (k + 1) (cells.setIfInBounds (off + k) x) (by simp; omega)
    simp only [List.zipIdx_cons, List.foldl_cons]
    refine ⟨by simpa using h1, fun i => ?_⟩
    rw [h2 i]
    simp only [Array.getElem?_setIfInBounds, List.length_cons]
    by_cases e : i = off + k
    · subst e
      have : off + k < cells.size := by omega
      simp [this]
      intro; omega
    · by_cases h3 : off + (k + 1) ≤ i ∧ i < off + (k + 1) + ws.length
      · rw [if_pos h3, if_pos (by omega)]
        have : i - off - k = (i - off - (k + 1)) + 1 := by omega
        rw [this, List.getElem?_cons_succ]
      · have h4 : ¬ (off + k ≤ i ∧ i < off + k + (ws.length + 1)) := by omega
        simp only [h3, h4, if_false]
        rw [if_neg (fun hh => e hh.symm)]

theorem Pw.splice {w : World} {G : Env} {l : Bool} {cs : List AV} {vs : Array Value} (h : Pw w G l cs vs) {off : Nat} {xs : List AV} {us : Array Value} (hu : Pw w G l xs us) (hl : off + xs.length ≤ cs.length) :
    Pw w G l (AX.splice cs off xs) (us.zipIdx.foldl (fun cs (p : Value × Nat) => cs.setIfInBounds (off + p.2) p.1) vs) := by
  obtain ⟨h1, h2, h3⟩ := h
  obtain ⟨u1, u2, u3⟩ := hu
  have hul : us.toList.length = xs.length := by simpa using u1
  obtain ⟨f1, f2⟩ := fold_set off us.toList 0 vs (by rw [h1, Nat.add_zero, hul]; exact hl)
  have e : us.zipIdx.foldl (fun cs (p : Value × Nat) => cs.setIfInBounds (off + p.2) p.1) vs = (us.toList.zipIdx 0).foldl (fun cs (p : Value × Nat) => cs.setIfInBounds (off + p.2) p.1) vs := by
    rw [← Array.foldl_toList]
    congr 1
    simp [Array.toList_zipIdx]
  rw [e]
  refine ⟨by rw [f1, h1, splice_length hl], ?_, ?_⟩
  · intro i c v hc hv
    rw [f2] at hv
    rw [splice_get hl] at hc
    simp only [Nat.add_zero, hul, Nat.sub_zero] at hv
    split at hc
    · rename_i hk
      rw [if_pos hk] at hv
      exact u2 (i - off) c v hc (by simpa using hv)
    · rename_i hk
      rw [if_neg hk] at hv
      exact h2 i c v hc hv
  · intro v hv
    obtain ⟨i, hi, rfl⟩ := Array.mem_iff_getElem.1 hv
    have h5 := f2 i
    rw [Array.getElem?_eq_getElem hi] at h5
    split at h5
    · exact u3 _ (Array.mem_toList_iff.1 (List.mem_of_getElem? h5.symm))
    · exact h3 _ (Array.mem_of_getElem? h5.symm)

theorem one_pw {w : World} {G : Env} {l : Bool} {v : AV} {u : Value} (h : Rep w G l v u) (hu : u.cells = #[u]) (h1 : u.oneCell' = true) : Pw w G l [v] u.cells := by
  rw [hu]
  refine ⟨rfl, fun i c x hc hx => ?_, fun x hx => ?_⟩
  · match i, hc, hx with
    | 0, hc, hx =>
      simp at hc hx
      subst hc; subst hx
      exact h
    | n + 1, hc, hx => simp at hc
  · simp at hx
    subst hx
    exact h1
theorem cellsOf_pw {w : World} {G : Env} {l : Bool} {v : AV} {u : Value} (h : Rep w G l v u) (h2 : ∀ vs, v ≠ .tup vs) (h3 : v ≠ .undef) : Pw w G l (cellsOf v) u.cells := by
  have hh := h
  cases h with
  | agg _ cs vs hl hr h1' => exact ⟨hl, hr, h1'⟩
  | undef => exact absurd rfl h3
  | tup => exact absurd rfl (h2 _)
  | _ => exact one_pw hh rfl rfl

/-- What may be stored, built in, or laid. -/
def AV.real : AV → Bool
  | .tup _ => false
  | .undef => false
  | _ => true
theorem real_pw {w : World} {G : Env} {l : Bool} {v : AV} {u : Value} (h : Rep w G l v u) (hr : v.real = true) : Pw w G l (cellsOf v) u.cells :=
  cellsOf_pw h (fun vs e => by subst e; cases hr) (fun e => by subst e; cases hr)

def fillB (fs : List (Nat × Nat)) (cells : List AV) : List (Nat × AV) → Option (List AV)
  | [] => some cells
  | (i, v) :: rest => match fs[i]?, v.real with
    | some (off, size), true => match Nat.beq (cellsOf v).length size, Nat.ble (off + size) cells.length with
      | true, true => fillB fs (splice cells off (cellsOf v)) rest
      | _, _ => none
    | _, _ => none

theorem fill_sound {w : World} {G : Env} {l : Bool} {fs : List (Nat × Nat)} {place : Nat → Option (Nat × Nat)} (hp : ∀ i p, fs[i]? = some p → place i = some p) : ∀ {xs : List (Nat × AV)} {us : List (Nat × Value)} {cs cs' : List AV} {vs : Array Value},
    fillB fs cs xs = some cs' → xs.length = us.length → (∀ (i : Nat) (p : Nat × AV) (q : Nat × Value), xs[i]? = some p → us[i]? = some q → p.1 = q.1 ∧ Rep w G l p.2 q.2) → Pw w G l cs vs → ∃ vs', Instr.fill place vs us = some vs' ∧ Pw w G l cs' vs'
  | [], us, cs, cs', vs, h, hl, hr, hv => by
    obtain rfl := List.eq_nil_of_length_eq_zero hl.symm
    cases h
    exact ⟨vs, rfl, hv⟩
  | (i, x) :: xs, us, cs, cs', vs, h, hl, hr, hv => by
    cases us with
    | nil => simp at hl
    | cons q us =>
      obtain ⟨j, u⟩ := q
      obtain ⟨e, hx⟩ := hr 0 _ _ rfl rfl
      simp only at e hx
      subst e
      simp only [fillB] at h
      split at h
      · rename_i off size hf hreal
        split at h
        · rename_i h1 h2
          have e1 := Nat.eq_of_beq_eq_true h1
          have e2 := Nat.le_of_ble_eq_true h2
          have hpu := real_pw hx hreal
          have hsz : u.cells.size = size := by rw [hpu.1]; exact e1
          obtain ⟨vs', h3, h4⟩ := fill_sound hp h (by simpa using hl) (fun k p q a b => hr (k + 1) p q (by simpa using a) (by simpa using b)) (hv.splice hpu (by omega))
          refine ⟨vs', ?_, h4⟩
          simp only [Instr.fill, hp _ _ hf]
          rw [if_neg (by
            have := hv.1
            simp only [ne_eq, Bool.or_eq_true, decide_eq_true_eq]
            omega)]
          exact h3
        · cases h
      · cases h

def fieldSizes (Γ : TT) : List (Nat × TypeId) → Option (List (Nat × Nat))
  | [] => some []
  | (off, t) :: r => match look Γ t, fieldSizes Γ r with
    | some ti, some l => some ((off, ti.size) :: l)
    | _, _ => none

def evParts (s : AS) : List (Nat × Operand) → Option (List (Nat × AV))
  | [] => some []
  | (i, x) :: r => match s.ev x, evParts s r with
    | some v, some l => some ((i, v) :: l)
    | _, _ => none
theorem evParts_sound {C : Ctx} {G : Env} {s : AS} {a : Act} {w : World} (h : RelG C G s a w) : ∀ {ps : List (Nat × Operand)} {xs : List (Nat × AV)}, evParts s ps = some xs → xs.length = ps.length ∧
    ∀ (i : Nat) (p : Nat × AV) (q : Nat × Value), xs[i]? = some p → (ps.map fun (i, x) => (i, a.eval x))[i]? = some q → p.1 = q.1 ∧ Rep w G true p.2 q.2
  | [], xs, hx => by cases hx; exact ⟨rfl, fun i p q hp => by simp at hp⟩
  | (j, x) :: ps, xs, hx => by
    simp only [evParts] at hx
    split at hx
    · rename_i v l hv hl
      cases hx
      obtain ⟨h1, h2⟩ := evParts_sound h hl
      refine ⟨by simp [h1], fun i p q hp hq => ?_⟩
      match i, hp, hq with
      | 0, hp, hq =>
        simp at hp hq
        subst hp; subst hq
        exact ⟨rfl, h.ev hv⟩
      | n + 1, hp, hq => exact h2 n p q (by simpa using hp) (by simpa using hq)
    · cases hx

def buildA (Γ : TT) (s : AS) (t : TypeId) (ps : Array (Nat × Operand)) : VR :=
  match look Γ t with
  | some ti => match ti.kind with
    | .struct fs => match fieldSizes Γ fs, evParts s ps.toList with
      | some zs, some xs => match fillB zs ti.zero xs with
        | some cs => some (.agg cs, [])
        | none => none
      | _, _ => none
    | _ => none
  | none => none

theorem fieldSizes_sound {P : Program} {Γ : TT} (hΓ : Γok P Γ) (w : World) : ∀ {fs : List Field} {zs : List (Nat × Nat)}, fieldSizes Γ (fs.map fun f => (f.offset, f.type)) = some zs →
    (fs.mapM fun f => (do pure (f.offset, ← sizeOf f.type) : Sem (Nat × Nat))).run P w = .ok zs w
  | [], zs, h => by cases h; rfl
  | f :: fs, zs, h => by
    simp only [List.map_cons, fieldSizes] at h
    split at h
    · rename_i ti l hti hl
      cases h
      obtain ⟨i2, d2, z2, hi2, hd2, hsz2, _⟩ := (hΓ _ ti hti).ex
      have ih := fieldSizes_sound hΓ w hl
      have hs : (sizeOf f.type).run P w = .ok ti.size w := by simp [sizeOf, typeInfo, hi2, hsz2]
      rw [List.mapM_cons]
      simp only [Sem.run_bind, hs, Result.andThen_ok, Sem.run_pure, ih]
    · cases h


theorem pw_zero (w : World) (G : Env) (l : Bool) (z : Value) (h1 : ∀ v ∈ z.cells, v.oneCell' = true) : Pw w G l (z.cells.toList.map zAV) z.cells := by
  refine ⟨by simp, fun i c v hc hv => ?_, h1⟩
  simp only [List.getElem?_map, Option.map_eq_some_iff] at hc
  obtain ⟨u, hu, rfl⟩ := hc
  have : z.cells[i]? = some u := by simpa using hu
  rw [this] at hv
  cases hv
  exact zAV_rep _ _ _ _

theorem buildA_sound {P : Program} {Γ : TT} (hΓ : Γok P Γ) {C : Ctx} {G : Env} {s : AS} {a : Act} {w : World} (h : RelG C G s a w) {t : TypeId} {ps : Array (Nat × Operand)} {v : AV} {os : List Prop} (hb : buildA Γ s t ps = some (v, os)) :
    ∃ u, (Instr.build t (ps.map fun (i, x) => (i, a.eval x))).run P w = .ok u w ∧ Rep w G true v u := by
  unfold buildA at hb
  split at hb
  · rename_i ti hti
    obtain ⟨i, d, z, hi, hd, hsz, hby, hz, hzs, hz0, hz1, hag, hk⟩ := (hΓ t ti hti).ex
    split at hb
    · rename_i fs hfs
      rw [hfs] at hk
      obtain ⟨gs, rfl, rfl⟩ := kind_struct hk
      split at hb
      · rename_i zs xs hzs' hxs
        split at hb
        · rename_i cs hcs
          cases hb
          have hm := fieldSizes_sound hΓ w hzs'
          have hm2 : (gs.mapM fun f => (do pure (f.offset, ← sizeOf f.type) : Sem (Nat × Nat))).run P w = .ok zs.toArray w := by
            rw [Array.mapM_eq_mapM_toList]
            rw [map_eq_pure_bind, Sem.run_bind, hm]
            rfl
          obtain ⟨hl, hr⟩ := evParts_sound h hxs
          rw [hz0] at hcs
          obtain ⟨vs', h2, h3⟩ := fill_sound (w := w) (G := G) (l := true) (place := (zs.toArray[·]?)) (fun i p hp => by simpa using hp) hcs (us := ps.toList.map fun (i, x) => (i, a.eval x)) (by simp [hl]) hr (pw_zero w G true z hz1)
          refine ⟨.agg vs', ?_, .agg _ _ _ h3.1 h3.2.1 h3.2.2⟩
          have hz' : (zeroValue t).run P w = .ok z w := by simp [zeroValue, typeInfo, hi, hz]
          simp only [Instr.build, Sem.run_bind, hz', Result.andThen_ok, Sem.run_pure, run_underlying hd, hm2, Array.toList_map, h2]
        · cases hb
      · cases hb
    · cases hb
  · cases hb

/-! ### Cuts -/
def boundA : Option AV → Nat → Option Int
  | none, d => some d
  | some (.int _ i), _ => some i
  | _, _ => none
def sliceA (Γ : TT) (t : TypeId) (x : AV) (lo hi mx : Option AV) : VR :=
  match x with
  | .str s => match look Γ t with
    | some ti => match ti.kind, mx with
      | .str, none => match boundA lo 0, boundA hi s.size with
        | some l, some h => some (.str (s.extract l.toNat h.toNat), [0 ≤ l ∧ l ≤ h ∧ h ≤ s.size])
        | _, _ => none
      | _, _ => none
    | none => none
  | .sl nl n cells o => match look Γ t with
    | some ti => match ti.kind with
      | .slice e => match look Γ e with
        | some ei => match mx with
          | none => match boundA lo 0, boundA hi n with
            | some l, some h => some (.sl none (h.toNat - l.toNat) ((cells.drop (l.toNat * ei.size)).take ((h.toNat - l.toNat) * ei.size)) .no, [0 ≤ l ∧ l ≤ h ∧ h ≤ n])
            | _, _ => none
          | some (.int _ 0) => match lo, hi with
            | some (.int _ 0), some (.int _ 0) => some (.sl nl 0 [] .clip, [])
            | none, some (.int _ 0) => some (.sl nl 0 [] .clip, [])
            | _, _ => none
          | _ => none
        | none => none
      | _ => none
    | none => none
  | _ => none

theorem bound_run {P : Program} {w : World} {k : IntKind} {i : Int} {y : Nat} {code : BoundsCode} (h0 : 0 ≤ i) (h1 : i ≤ y) : (Instr.sliceBound (.int k i) y code).run P w = .ok i.toNat w := by
  simp [Instr.sliceBound, asIntOf, h0, h1]

inductive RepO (w : World) (G : Env) : Option AV → Option Value → Prop
  | none : RepO w G none none
  | some {v : AV} {u : Value} (h : Rep w G true v u) : RepO w G (some v) (some u)
theorem bounds_run {P : Program} {w : World} {G : Env} {lo hi : Option AV} {vlo vhi : Option Value} (hlo : RepO w G lo vlo) (hhi : RepO w G hi vhi) {l h : Int} {isS : Bool} {len cap : Nat} (el : boundA lo 0 = some l) (eh : boundA hi len = some h) (h0 : 0 ≤ l) (h1 : l ≤ h) (h2 : h ≤ cap) :
    (Instr.sliceBounds isS len cap vlo vhi none).run P w = .ok (l.toNat, h.toNat, cap) w := by
  have hh0 : 0 ≤ h := by omega
  have H : (∃ u, vhi = some u ∧ ∀ c, (Instr.sliceBound u cap c).run P w = .ok h.toNat w) ∨ (vhi = none ∧ h.toNat = len) := by
    cases hhi with
    | none =>
      simp only [boundA, Option.some.injEq] at eh
      subst eh
      exact .inr ⟨rfl, rfl⟩
    | some hv =>
      rename_i v u
      cases v <;> simp only [boundA] at eh <;> cases eh
      cases hv
      exact .inl ⟨_, rfl, fun c => bound_run hh0 h2⟩
  have L : (∃ u, vlo = some u ∧ ∀ c, (Instr.sliceBound u h.toNat c).run P w = .ok l.toNat w) ∨ (vlo = none ∧ l.toNat = 0) := by
    cases hlo with
    | none =>
      simp only [boundA, Option.some.injEq] at el
      subst el
      exact .inr ⟨rfl, rfl⟩
    | some hv =>
      rename_i v u
      cases v <;> simp only [boundA] at el <;> cases el
      cases hv
      exact .inl ⟨_, rfl, fun c => bound_run h0 (by omega)⟩
  rcases H with ⟨u, rfl, hu⟩ | ⟨rfl, hu⟩ <;> rcases L with ⟨v, rfl, hv⟩ | ⟨rfl, hv⟩
  · simp [Instr.sliceBounds, hu, hv]
  · simp [Instr.sliceBounds, hu, hv]
  · rw [hu] at hv ⊢
    simp [Instr.sliceBounds, hv]
  · rw [hu, hv]
    simp [Instr.sliceBounds]

theorem sliceA_sound {P : Program} {Γ : TT} (hΓ : Γok P Γ) {t : TypeId} {x v : AV} {lo hi mx : Option AV} {os : List Prop} (hs : sliceA Γ t x lo hi mx = some (v, os)) (ho : All os) {w : World} {G : Env} {vx : Value} {vlo vhi vmx : Option Value}
    (hx : Rep w G true x vx) (hlo : RepO w G lo vlo) (hhi : RepO w G hi vhi) (hmx : RepO w G mx vmx) : ∃ u, (Instr.sliceAt t vx vlo vhi vmx).run P w = .ok u w ∧ Rep w G true v u := by
  unfold sliceA at hs
  split at hs
  · rename_i s
    cases hx
    split at hs
    · rename_i ti hti
      obtain ⟨i, d, z, hi', hd, hsz, hby, hz, hzs, hz0, hz1, hag, hk⟩ := (hΓ t ti hti).ex
      split at hs
      · rename_i he
        rw [he] at hk
        obtain rfl := kind_str hk
        cases hmx
        split at hs
        · rename_i l h el eh
          cases hs
          simp only [All] at ho
          obtain ⟨h0, h1, h2⟩ := ho
          refine ⟨_, ?_, .str _ _⟩
          simp [Instr.sliceAt, run_underlying hd, Instr.slice, bounds_run (isS := false) hlo hhi el eh h0 h1 h2]
        · cases hs
      · cases hs
    · cases hs
  · rename_i nl n cells o
    cases hx with
    | sl _ _ _ _ _ A c vs hnl hpos hc hcell hrep hclip hown =>
      split at hs
      · rename_i ti hti
        obtain ⟨i, d, z, hi', hd, hsz, hby, hz, hzs, hz0, hz1, hag, hk⟩ := (hΓ t ti hti).ex
        split at hs
        · rename_i e he
          rw [he] at hk
          obtain rfl := kind_slice hk
          split at hs
          · rename_i ei hei
            obtain ⟨i2, d2, z2, hi2, hd2, hsz2, _⟩ := (hΓ _ ei hei).ex
            have hszr : (sizeOf e).run P w = .ok ei.size w := by simp [sizeOf, typeInfo, hi2, hsz2]
            split at hs
            · cases hmx
              split at hs
              · rename_i l h el eh
                cases hs
                simp only [All] at ho
                obtain ⟨h0, h1, h2⟩ := ho
                refine ⟨.slice (if c = l.toNat then A else A.map (·.add (l.toNat * ei.size))) (h.toNat - l.toNat) (c - l.toNat), ?_, ?_⟩
                · simp [Instr.sliceAt, run_underlying hd, Instr.slice, bounds_run (isS := true) (cap := c) hlo hhi el eh h0 h1 (by omega), hszr]
                · refine .sl _ _ _ _ _ _ _ (fun j => vs (l.toNat * ei.size + j)) (fun b hb => by cases hb) ?_ (by omega) ?_ ?_ (fun h => by cases h) (fun t h => by cases h)
                  · intro hp
                    rw [if_neg (by omega)]
                    obtain ⟨ad, rfl, hsp⟩ := hpos (by omega)
                    exact ⟨ad.add (l.toNat * ei.size), rfl, by rw [add_spot _ _ hsp]⟩
                  · intro j x hj
                    rw [List.getElem?_take] at hj
                    split at hj
                    · rename_i hlt
                      rw [List.getElem?_drop] at hj
                      obtain ⟨ad, rfl, hsp, hf, hw, h3⟩ := hcell _ x hj
                      have hne : h.toNat - l.toNat ≠ 0 := by
                        intro e0
                        rw [e0] at hlt
                        omega
                      rw [if_neg (by omega)]
                      refine ⟨ad.add (l.toNat * ei.size), rfl, by rw [add_spot _ _ hsp], ?_, ?_, h3⟩
                      · rw [add_spot _ _ hsp]
                        simpa [Nat.add_assoc] using hf
                      · rw [add_spot _ _ hsp]
                        simpa [Nat.add_assoc] using hw
                    · cases hj
                  · intro j x hj
                    rw [List.getElem?_take] at hj
                    split at hj
                    · rw [List.getElem?_drop] at hj
                      exact hrep _ x hj
                    · cases hj
              · cases hs
            · have hm0 : ∀ k, vmx = some (.int k 0) → (vlo = some (.int .i64 0) ∨ (∃ k', vlo = some (.int k' 0)) ∨ vlo = none) → (∃ k', vhi = some (.int k' 0)) →
                  ∃ u, (Instr.sliceAt t (.slice A n c) vlo vhi vmx).run P w = .ok u w ∧ Rep w G true (.sl nl 0 [] .clip) u := by
                intro k e1 e2 e3
                obtain ⟨k', rfl⟩ := e3
                subst e1
                refine ⟨.slice A 0 0, ?_, .sl _ _ _ _ _ _ _ vs hnl (fun h => by omega) (Nat.le_refl _) (fun j x h => by simp at h) (fun j x h => by simp at h) (fun _ => rfl) (fun t h => by cases h)⟩
                rcases e2 with rfl | ⟨k2, rfl⟩ | rfl <;> simp [Instr.sliceAt, run_underlying hd, Instr.slice, Instr.sliceBounds, Instr.sliceBound, asIntOf, hszr]
              split at hs
              · cases hs
                cases hmx with | some hm =>
                cases hlo with | some hl =>
                cases hhi with | some hh =>
                cases hm; cases hl; cases hh
                exact hm0 _ rfl (.inr (.inl ⟨_, rfl⟩)) ⟨_, rfl⟩
              · cases hs
                cases hmx with | some hm =>
                cases hlo
                cases hhi with | some hh =>
                cases hm; cases hh
                exact hm0 _ rfl (.inr (.inr rfl)) ⟨_, rfl⟩
              · cases hs
            · cases hs
          · cases hs
        · cases hs
      · cases hs
  · cases hs

end Go.AX
end

section
set_option linter.unusedVariables false
set_option linter.unusedSimpArgs false
namespace Go.AX
open Go Go.RowKit

/-! ### Trees -/
def Own.tree : Own → Own
  | .own _ => .no
  | o => o
mutual
def tree : AV → Option AV
  | .int k n => some (.int k n)
  | .bool b => some (.bool b)
  | .str s => some (.str s)
  | .nilFn => some .nilFn
  | .nilp => some .nilp
  | .sl nl n cells o => some (.sl none n cells .no)
  | .rop cells off => some (.rop cells off)
  | .agg cs => match treeL cs with
    | some ds => some (.agg ds)
    | none => none
  | .tup cs => match treeL cs with
    | some ds => some (.tup ds)
    | none => none
  | .fn f cs => match treeL cs with
    | some ds => some (.fn f ds)
    | none => none
  | .undef => none
  | .ptr _ _ => none
  | .row _ _ _ => none
  | .vec _ _ => none
  | .vptr _ _ _ => none
def treeL : List AV → Option (List AV)
  | [] => some []
  | x :: xs => match tree x, treeL xs with
    | some y, some ys => some (y :: ys)
    | _, _ => none
end

theorem treeL_get : ∀ {xs ys : List AV}, treeL xs = some ys → ys.length = xs.length ∧ ∀ (i : Nat) (y : AV), ys[i]? = some y → ∃ x : AV, xs[i]? = some x ∧ tree x = some y
  | [], ys, h => by simp only [treeL] at h; cases h; exact ⟨rfl, fun i y h => by simp at h⟩
  | x :: xs, ys, h => by
    simp only [treeL] at h
    split at h
    · rename_i y' ys' h1 h2
      cases h
      obtain ⟨h3, h4⟩ := treeL_get h2
      refine ⟨by simp [h3], fun i y hy => ?_⟩
      match i, hy with
      | 0, hy =>
        simp at hy
        subst hy
        exact ⟨x, rfl, h1⟩
      | n + 1, hy => simpa using h4 n y (by simpa using hy)
    · cases h

theorem tree_real {x y : AV} (h : tree x = some y) (hr : x.real = true) : y.real = true := by
  cases x <;> simp only [tree] at h <;> first | (cases h; rfl) | (split at h <;> cases h <;> first | rfl | cases hr) | cases h
theorem tree_sound {w : World} {G : Env} {l : Bool} {x : AV} {v : Value} (h : Rep w G l x v) : ∀ {y : AV}, tree x = some y → Rep w G false y v := by
  have lists : ∀ (cs : List AV) (vs : Array Value) (ds : List AV), vs.size = cs.length → treeL cs = some ds → (∀ (i : Nat) (c : AV) (v : Value), cs[i]? = some c → vs[i]? = some v → ∀ {y : AV}, tree c = some y → Rep w G false y v) →
      vs.size = ds.length ∧ ∀ (i : Nat) (c : AV) (v : Value), ds[i]? = some c → vs[i]? = some v → Rep w G false c v := by
    intro cs vs ds hl hd ih
    obtain ⟨h1, h2⟩ := treeL_get hd
    refine ⟨by rw [h1]; exact hl, fun i c v hc hv => ?_⟩
    obtain ⟨x, hx, ht⟩ := h2 i c hc
    exact ih i x v hx hv ht
  induction h with
  | undef l v => intro y hy; simp [tree] at hy
  | int l k n => intro y hy; simp only [tree] at hy; cases hy; exact .int _ _ _
  | bool l b => intro y hy; simp only [tree] at hy; cases hy; exact .bool _ _
  | str l s => intro y hy; simp only [tree] at hy; cases hy; exact .str _ _
  | agg l cs vs hl h h1 ih =>
    intro y hy
    simp only [tree] at hy
    split at hy
    · rename_i ds hd
      cases hy
      obtain ⟨h2, h3⟩ := lists cs vs ds hl hd ih
      exact .agg _ _ _ h2 h3 h1
    · cases hy
  | tup l cs vs hl h ih =>
    intro y hy
    simp only [tree] at hy
    split at hy
    · rename_i ds hd
      cases hy
      obtain ⟨h2, h3⟩ := lists cs vs ds hl hd ih
      exact .tup _ _ _ h2 h3
    · cases hy
  | fn l f cs vs hl h ih =>
    intro y hy
    simp only [tree] at hy
    split at hy
    · rename_i ds hd
      cases hy
      obtain ⟨h2, h3⟩ := lists cs vs ds hl hd ih
      exact .fn _ _ _ _ h2 h3
    · cases hy
  | nilFn l => intro y hy; simp only [tree] at hy; cases hy; exact .nilFn _
  | sl l nl n cells o A c vs hnl hpos hc hcell hrep hclip hown ih =>
    intro y hy
    simp only [tree] at hy
    cases hy
    exact .sl _ _ _ _ _ _ _ vs (fun b hb => by cases hb) hpos hc hcell hrep (fun e => by cases e) (fun t e => by cases e)
  | rop l cells off ad vs hcell hrep ih => intro y hy; simp only [tree] at hy; cases hy; exact .rop _ _ _ _ vs hcell hrep
  | nilp l => intro y hy; simp only [tree] at hy; cases hy; exact .nilp _
  | ptr id off g h => intro y hy; simp [tree] at hy
  | row id off n g c h hc => intro y hy; simp [tree] at hy
  | vec t n A m c r h hle hv => intro y hy; simp [tree] at hy
  | vptr t n off p r h hle hv => intro y hy; simp [tree] at hy

/-- As it stands within a row. -/
def zn : AV → AV
  | .sl _ n cells _ => .sl none n cells .no
  | x => x
theorem zn_rep {w : World} {G : Env} {l : Bool} {x : AV} {v : Value} (h : Rep w G l x v) : Rep w G l (zn x) v := by
  have hh := h
  cases h with
  | sl _ nl n cells o A c vs hnl hpos hc hcell hrep hclip hown => exact .sl _ _ _ _ _ _ _ vs (fun b hb => by cases hb) hpos hc hcell hrep (fun e => by cases e) (fun t e => by cases e)
  | _ => exact hh
end Go.AX
end
