/- The operations that only compute, and what they come to. -/
import Derived.Test.YtbedjjckfmhdfaaAxB
set_option linter.unusedVariables false
set_option linter.unusedSimpArgs false
namespace Go.AX
open Go Go.RowKit

inductive SK
  | int (k : IntKind) | bool | str
inductive TK where
  | int (k : IntKind) | bool | str
  | slice (e : TypeId)
  | struct (fs : List (Nat × TypeId))
  | other
structure TI where
  size : Nat
  bytes : Nat
  kind : TK
  zero : List AV
  eq : Option (List SK)
abbrev TT := List (Nat × TI)

def TI.agg (t : TI) : Bool := match t.kind with
  | .struct _ => true
  | _ => false

/-- What a constant says. -/
def zAV : Value → AV
  | .int k n => .int k n
  | .bool b => .bool b
  | .string s => .str s
  | .pointer none => .nilp
  | .slice none 0 0 => .sl (some true) 0 [] .clip
  | .nilFunc => .nilFn
  | .func (.func f) ⟨[]⟩ ⟨[]⟩ => .fn f []
  | _ => .undef
theorem zAV_rep (w : World) (G : Env) (l : Bool) (v : Value) : Rep w G l (zAV v) v := by
  unfold zAV
  split
  · exact .int _ _ _
  · exact .bool _ _
  · exact .str _ _
  · exact .nilp _
  · exact .sl _ _ _ _ _ _ _ (fun _ => undef) (fun b h => by cases h; rfl) (fun h => by omega) (Nat.le_refl _) (fun j x h => by simp at h) (fun j x h => by simp at h) (fun _ => rfl) (fun t h => by cases h)
  · exact .nilFn _
  · exact .fn _ _ [] #[] rfl (fun i c v h => by simp at h)
  · exact .undef _ _

def kindOk (P : Program) : TypeDesc → TK → Prop
  | .int k, .int k' => k = k'
  | .bool, .bool => True
  | .string, .str => True
  | .slice e, .slice e' => e = e'
  | .struct fs, .struct gs => gs = fs.toList.map fun f => (f.offset, f.type)
  | .struct _, .other => False
  | .array _ _, .other => False
  | .int _, .other => True
  | .bool, .other => True
  | .string, .other => True
  | .slice _, .other => True
  | .pointer _, .other => True
  | .func _ _ _, .other => True
  | _, _ => False

/-- '==' at a type whose values are rows of scalars. -/
def skVal : SK → Value → Option AV
  | .int k, .int k' n => if k = k' then some (.int k n) else none
  | .bool, .bool b => some (.bool b)
  | .str, .string s => some (.str s)
  | _, _ => none
def eq1 : SK → AV → AV → Option Bool
  | .int k, .int k1 a, .int k2 b => if k = k1 ∧ k = k2 then some (a == b) else none
  | .bool, .bool a, .bool b => some (a == b)
  | .str, .str a, .str b => some (decide (a = b))
  | _, _, _ => none
def eqL : List SK → List AV → List AV → Option Bool
  | [], [], [] => some true
  | k :: ks, x :: xs, y :: ys => match eq1 k x y, eqL ks xs ys with
    | some a, some b => some (a && b)
    | _, _ => none
  | _, _, _ => none

structure TIok (P : Program) (t : Nat) (ti : TI) : Prop where
  ex : ∃ i d z, P.info? t = some i ∧ P.underlying t = some d ∧ i.size = ti.size ∧ i.bytes = ti.bytes ∧ i.zero = some z ∧ z.cells.size = ti.size ∧ ti.zero = z.cells.toList.map zAV ∧ (∀ v ∈ z.cells, v.oneCell' = true) ∧
    (ti.agg = true ↔ ∃ cs, z = .agg cs) ∧ kindOk P d ti.kind
  eqok : ∀ ks, ti.eq = some ks → ti.agg = true ∧ ∀ (w : World) (xs ys : Array Value) (cx cy : List AV) (b : Bool), xs.toList.map zAV = cx → ys.toList.map zAV = cy → eqL ks cx cy = some b →
    (∀ x y, (eqGuard .eql t x y (.agg xs) (.agg ys)).run P w = .ok () w ∧ (eqGuard .neq t x y (.agg xs) (.agg ys)).run P w = .ok () w) ∧ (Op.equal t (.agg xs) (.agg ys)).run P w = .ok b w
def Γok (P : Program) (Γ : TT) : Prop := ∀ t ti, look Γ t = some ti → TIok P t ti

def AS.ev (s : AS) : Operand → Option AV
  | .tmp t => look s.tmps t
  | .const v => some (zAV v)
  | .func f => some (.fn f [])
  | .global _ => none

theorem RelG.ev {C : Ctx} {G : Env} {s : AS} {a : Act} {w : World} (h : RelG C G s a w) {x : Operand} {v : AV} (hv : s.ev x = some v) : Rep w G true v (a.eval x) := by
  cases x with
  | tmp t =>
    obtain ⟨y, h1, h2⟩ := h.slots t v hv
    have : a.eval (.tmp t) = y := by simp [Act.eval, h1]
    rw [this]
    exact h2
  | const c =>
    simp only [AS.ev, Option.some.injEq] at hv
    subst hv
    exact zAV_rep _ _ _ _
  | global g => cases hv
  | func f =>
    simp only [AS.ev, Option.some.injEq] at hv
    subst hv
    exact .fn _ _ [] #[] rfl (fun i c v h => by simp at h)

/-- All of a list of facts. -/
def All : List Prop → Prop
  | [] => True
  | [p] => p
  | p :: q :: r => p ∧ All (q :: r)
theorem All_cons {p : Prop} {r : List Prop} : All (p :: r) ↔ p ∧ All r := by
  cases r <;> simp [All]
theorem All_append {l r : List Prop} : All (l ++ r) ↔ All l ∧ All r := by
  induction l with
  | nil => simp [All]
  | cons p l ih => rw [List.cons_append, All_cons, All_cons, ih, and_assoc]

abbrev VR := Option (AV × List Prop)

/-- Cells out of a row of cells: a struct's, or one. With a hint: what they are. -/
def cellsAt (ti : TI) (cells : List AV) (off : Nat) : Option AV → VR
  | none => if ti.agg = true then some (.agg ((cells.drop off).take ti.size), [off + ti.size ≤ cells.length]) else match cells.drop off with
    | x :: _ => some (x, [])
    | [] => none
  | some (.agg cs) => match ti.agg, Nat.beq cs.length ti.size with
    | true, true => some (.agg cs, [(cells.drop off).take ti.size = cs])
    | _, _ => none
  | some v => if ti.agg = true then none else some (v, [cells[off]? = some v])

theorem cellsAt_spec {ti : TI} {cells : List AV} {off : Nat} {ann : Option AV} {v : AV} {os : List Prop} (h : cellsAt ti cells off ann = some (v, os)) (ho : All os) :
    (ti.agg = true ∧ ∃ cs, v = .agg cs ∧ cs.length = ti.size ∧ (cells.drop off).take ti.size = cs) ∨ (ti.agg = false ∧ cells[off]? = some v) := by
  have hd : ∀ x r, cells.drop off = x :: r → cells[off]? = some x := by
    intro x r hx
    have := List.getElem?_drop (xs := cells) (i := off) (j := 0)
    rw [hx] at this
    simpa using this.symm
  unfold cellsAt at h
  split at h
  · split at h
    · rename_i ha
      cases h
      simp only [All] at ho
      exact .inl ⟨ha, _, rfl, by rw [List.length_take, List.length_drop]; omega, rfl⟩
    · rename_i ha
      split at h
      · rename_i x r hx
        cases h
        exact .inr ⟨by simpa using ha, hd _ _ hx⟩
      · cases h
  · split at h
    · rename_i ha hb
      cases h
      simp only [All] at ho
      exact .inl ⟨ha, _, rfl, Nat.eq_of_beq_eq_true hb, ho⟩
    · cases h
  · split at h
    · cases h
    · rename_i ha
      cases h
      simp only [All] at ho
      exact .inr ⟨by simpa using ha, ho⟩

def loadA (Γ : TT) (s : AS) (t : TypeId) (p : AV) (ann : Option AV) : VR :=
  match look Γ t with
  | none => none
  | some ti => match p with
    | .rop cells off => cellsAt ti cells off ann
    | .ptr id off => match look s.heap id with
      | some (.var _ cs) => cellsAt ti cs off ann
      | some (.rows _ cs) => cellsAt ti cs off ann
      | _ => none
    | _ => none

/-- A row of cells that lies in memory is read. -/
theorem run_load_cells {P : Program} {Γ : TT} {w : World} {G : Env} {l : Bool} {t : TypeId} {ti : TI} (hti : TIok P t ti) (b off0 : Nat) (cells : List AV) (off : Nat) (hlk : ∀ j x, cells[j]? = some x → ∃ v, w.cell? ⟨b, off0 + j, none⟩ = some v ∧ Rep w G l x v ∧ v.oneCell' = true)
    {v : AV} (h : (ti.agg = true ∧ ∃ cs, v = .agg cs ∧ cs.length = ti.size ∧ (cells.drop off).take ti.size = cs) ∨ (ti.agg = false ∧ cells[off]? = some v)) :
    ∃ x, (Instr.loadAt t (.pointer (some ⟨b, off0 + off, none⟩))).run P w = .ok x w ∧ Rep w G l v x := by
  obtain ⟨i, d, z, hi, hd, hsz, hby, hz, hzs, hz0, hz1, hag, hk⟩ := hti.ex
  rcases h with ⟨ha, cs, rfl, hl, hcs⟩ | ⟨ha, hc⟩
  · have hrow : d.isRow = true := by
      unfold TI.agg at ha
      cases hkk : ti.kind <;> rw [hkk] at ha hk <;> first | cases ha | skip
      cases d <;> simp_all [kindOk, TypeDesc.isRow]
    have hget : ∀ j x, cs[j]? = some x → cells[off + j]? = some x := by
      intro j x hj
      rw [← hcs] at hj
      rw [List.getElem?_take] at hj
      split at hj
      · rwa [List.getElem?_drop] at hj
      · cases hj
    have hf : ∀ j, ∃ u : Value, ∀ x, cs[j]? = some x → w.cell? ⟨b, off0 + off + j, none⟩ = some u ∧ Rep w G l x u ∧ u.oneCell' = true := by
      intro j
      cases hj : cs[j]? with
      | none => exact ⟨undef, fun x h => by cases h⟩
      | some x =>
        obtain ⟨v, h1, h2, h3⟩ := hlk (off + j) x (hget j x hj)
        exact ⟨v, fun y hy => by cases hy; rw [Nat.add_assoc]; exact ⟨h1, h2, h3⟩⟩
    obtain ⟨f, hf⟩ := Classical.axiomOfChoice hf
    let us : List Value := (List.range cs.length).map f
    have hus : us.length = cs.length := by simp [us]
    have hu : ∀ j u, us[j]? = some u → ∃ x, cs[j]? = some x ∧ u = f j := by
      intro j u hj
      simp only [us, List.getElem?_map, Option.map_eq_some_iff] at hj
      obtain ⟨k, hk1, rfl⟩ := hj
      have hlt : j < cs.length := by
        rcases Nat.lt_or_ge j cs.length with h | h
        · exact h
        · rw [List.getElem?_eq_none (by simpa using h)] at hk1
          cases hk1
      rw [List.getElem?_range hlt] at hk1
      cases hk1
      exact ⟨cs[j], List.getElem?_eq_getElem hlt, rfl⟩
    refine ⟨.agg us.toArray, ?_, ?_⟩
    · refine run_loadAt_mid (P := P) w b (off0 + off) t us d ?_ hd hrow (by rw [hi]; simp [hus, hl, hsz])
      intro j u hj
      obtain ⟨x, hx, rfl⟩ := hu j u hj
      exact (hf j x hx).1
    · refine .agg _ _ _ (by simp [hus]) (fun j c v hc hv => ?_) (fun v hv => ?_)
      · rw [List.getElem?_toArray] at hv
        obtain ⟨x, hx, rfl⟩ := hu j v hv
        rw [hc] at hx
        cases hx
        exact (hf j c hc).2.1
      · obtain ⟨j, hj, rfl⟩ := List.mem_iff_getElem.1 (List.mem_toArray.1 hv)
        obtain ⟨x, hx, e⟩ := hu j us[j] (List.getElem?_eq_getElem hj)
        rw [e]
        exact (hf j x hx).2.2
  · obtain ⟨u, h1, h2, h3⟩ := hlk off v hc
    refine ⟨u, ?_, h2⟩
    have hrow : (isAgg t).run P w = .ok false w := by
      unfold isAgg
      rw [Sem.run_bind, run_underlying hd w]
      unfold TI.agg at ha
      cases hkk : ti.kind <;> rw [hkk] at ha hk <;> first | cases ha | skip
      all_goals cases d <;> simp_all [kindOk]
    simp [Instr.loadAt, Instr.sureAddr, loadVar, hrow, load, Sem.run, h1]

theorem loadA_sound {P : Program} {Γ : TT} (hΓ : Γok P Γ) {C : Ctx} {G : Env} {s : AS} {a : Act} {w : World} (h : RelG C G s a w) {t : TypeId} {p : AV} {pv : Value} {ann : Option AV} {v : AV} {os : List Prop}
    (hp : Rep w G true p pv) (hl : loadA Γ s t p ann = some (v, os)) (ho : All os) : ∃ x, (Instr.loadAt t pv).run P w = .ok x w ∧ Rep w G true v x := by
  unfold loadA at hl
  split at hl
  · cases hl
  · rename_i ti hti
    have hok := hΓ t ti hti
    split at hl
    · rename_i cells off
      have hs := cellsAt_spec hl ho
      cases hp with
      | rop _ _ _ ad vs hcell hrep =>
        obtain ⟨x, h1, h2⟩ := run_load_cells (P := P) (Γ := Γ) (w := w) (G := G) (l := true) hok ad.block ad.off cells off (fun j x hj => ⟨vs j, (hcell j x hj).2.1, (hrep j x hj).up, (hcell j x hj).2.2⟩) hs
        exact ⟨x, h1, h2⟩
    · rename_i id off
      cases hp with
      | ptr _ _ g hg =>
        split at hl
        · rename_i wr cs hb
          have hs := cellsAt_spec hl ho
          obtain ⟨g', hg', hb1, ⟨vs, e, hh, hsz, hr, h1, _⟩, _⟩ := h.blocks id _ hb
          rw [hg] at hg'
          cases hg'
          obtain ⟨x, h3, h4⟩ := run_load_cells (P := P) (Γ := Γ) (w := w) (G := G) (l := true) hok g 0 cs off (fun j x hj => by
            have hlt : j < vs.size := by rw [hsz]; exact (List.getElem?_eq_some_iff.1 hj).1
            refine ⟨vs[j], by simp [World.cell?, hh, hlt], (hr j x vs[j] hj (Array.getElem?_eq_getElem hlt)).up, h1 _ (Array.getElem_mem hlt)⟩) hs
          exact ⟨x, by simpa using h3, h4⟩
        · rename_i wr cs hb
          have hs := cellsAt_spec hl ho
          obtain ⟨g', hg', hb1, ⟨vs, e, hh, hsz, hr, h1, _⟩, _⟩ := h.blocks id _ hb
          rw [hg] at hg'
          cases hg'
          obtain ⟨x, h3, h4⟩ := run_load_cells (P := P) (Γ := Γ) (w := w) (G := G) (l := true) hok g 0 cs off (fun j x hj => by
            have hlt : j < vs.size := by rw [hsz]; exact (List.getElem?_eq_some_iff.1 hj).1
            refine ⟨vs[j], by simp [World.cell?, hh, hlt], (hr j x vs[j] hj (Array.getElem?_eq_getElem hlt)).up, h1 _ (Array.getElem_mem hlt)⟩) hs
          exact ⟨x, by simpa using h3, h4⟩
        · cases hl
    · cases hl

end Go.AX
