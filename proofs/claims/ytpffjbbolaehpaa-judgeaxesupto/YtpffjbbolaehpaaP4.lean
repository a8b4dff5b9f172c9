import Derived.Test.YtpffjbbolaehpaaP3
import Derived.ChangeSame
import Derived.ProofKit
import Derived.ChangeArms
import Derived.Carry
import Derived.Deep.Slices
section
set_option linter.unusedVariables false
set_option linter.unusedSimpArgs false
namespace Go.AX
open Go Go.RowKit

/-! ### A region whose order is drawn -/
def edges (o : Oper) : List Nat := (o.after.toList.filter fun e => Region.binds .any e).map (·.on)
def addAll (l : List Nat) : List Nat → List Nat
  | [] => l
  | x :: r => match among l x with
    | true => addAll l r
    | false => addAll (x :: l) r
def ancOf (tab : List (Nat × List Nat)) : List Nat → List Nat
  | [] => []
  | e :: r => addAll (ancOf tab r) (e :: (look tab e).getD [])
def ancTab : List Oper → Nat → List (Nat × List Nat) → List (Nat × List Nat)
  | [], _, tab => tab
  | o :: r, i, tab => ancTab r (i + 1) ((i, ancOf tab (edges o)) :: tab)

abbrev Keys := List Nat × List Nat × List Nat
def Dl.keys (δ : Dl) : Keys := (δ.t.map (·.1), δ.h.map (·.1), δ.g.map (·.1))
def deltaOf (s s' : AS) : Dl := ⟨s'.tmps.take (s'.tmps.length - s.tmps.length), s'.heap.take (s'.heap.length - s.heap.length), s'.tags.take (s'.tags.length - s.tags.length)⟩
theorem deltaOf_plus (s : AS) (δ : Dl) : deltaOf s (s.plus δ) = δ := by simp [deltaOf, AS.plus]
def remK {α : Type} (r : List Nat) : List (Nat × α) → List (Nat × α)
  | [] => []
  | (i, v) :: l => match among r i with
    | true => remK r l
    | false => (i, v) :: remK r l
theorem look_remK {α : Type} {r : List Nat} : ∀ {l : List (Nat × α)} {k : Nat}, look (remK r l) k = if among r k = true then none else look l k
  | [], k => by simp [remK, look]
  | (i, v) :: l, k => by
    simp only [remK]
    split
    · rename_i h
      rw [look_remK, look_cons]
      by_cases hk : among r k = true
      · simp [hk]
      · have hne : i ≠ k := fun e => hk (by rw [← e]; exact h)
        simp [hk, hne]
    · rename_i h
      rw [look_cons, look_cons, look_remK]
      split
      · rename_i e
        subst e
        rw [if_neg (by rw [h]; decide)]
      · rfl
def remS (R : Keys) (s : AS) : AS := ⟨remK R.1 s.tmps, remK R.2.1 s.heap, remK R.2.2 s.tags⟩
/-- The state behind those operations that are done: the latest first. -/
def SLr (s : AS) (D : Nat → Bool) : List (Nat × Dl) → AS
  | [] => s
  | (j, δ) :: r => match D j with
    | true => (SLr s D r).plus δ
    | false => SLr s D r

/-- Two states that say the same. -/
structure Same (s t : AS) : Prop where
  tmps : ∀ i, look s.tmps i = look t.tmps i
  heap : ∀ i, look s.heap i = look t.heap i
  tags : ∀ i, look s.tags i = look t.tags i
theorem RelG.same {C : Ctx} {G : Env} {s t : AS} {a : Act} {w : World} (h : RelG C G s a w) (k : Same s t) : RelG C G t a w :=
  ⟨h.defers, h.size, fun i v hv => h.slots i v (by rw [k.tmps]; exact hv), ⟨h.mem.keep, h.mem.le, h.mem.fdom, h.mem.fold, fun i b hb => h.mem.blocks i b (by rw [k.heap]; exact hb), fun i hi => h.mem.noblock i (by rw [k.heap]; exact hi), h.mem.inj, fun i b hb => h.mem.tags i b (by rw [k.tags]; exact hb), fun i hi => h.mem.notag i (by rw [k.tags]; exact hi)⟩⟩

theorem among_map {α : Type} {l : List (Nat × α)} {k : Nat} : isS (look l k) = true → k ∈ l.map (·.1) := by
  intro h
  induction l with
  | nil => cases h
  | cons x l ih =>
    obtain ⟨j, v⟩ := x
    rw [look_cons] at h
    split at h
    · rename_i e; subst e; simp
    · simp [ih h]
theorem among_mem {l : List Nat} {k : Nat} : among l k = true ↔ k ∈ l := by
  unfold among
  rw [List.any_eq_true]
  constructor
  · rintro ⟨x, hx, hb⟩
    rw [Nat.eq_of_beq_eq_true hb]; exact hx
  · intro h
    exact ⟨k, h, by simp⟩

section
variable (s0 : AS)
/-- What is done more names none of what is asked. -/
theorem SLr_more {D B : Nat → Bool} : ∀ {l : List (Nat × Dl)}, (∀ j, B j = true → D j = true) → ∀ k,
    ((∀ j δ, (j, δ) ∈ l → D j = true → B j = false → look δ.t k = none) → look (SLr s0 D l).tmps k = look (SLr s0 B l).tmps k) ∧
    ((∀ j δ, (j, δ) ∈ l → D j = true → B j = false → look δ.h k = none) → look (SLr s0 D l).heap k = look (SLr s0 B l).heap k) ∧
    ((∀ j δ, (j, δ) ∈ l → D j = true → B j = false → look δ.g k = none) → look (SLr s0 D l).tags k = look (SLr s0 B l).tags k)
  | [], hBD, k => ⟨fun _ => rfl, fun _ => rfl, fun _ => rfl⟩
  | (j, δ) :: r, hBD, k => by
    obtain ⟨h1, h2, h3⟩ := SLr_more (l := r) hBD k
    cases hD : D j with
    | false =>
      have hB : B j = false := by cases hb : B j; rfl; rw [hBD j hb] at hD; cases hD
      simp only [SLr, hD, hB]
      exact ⟨fun h => h1 fun i δ hi => h i δ (List.mem_cons_of_mem _ hi), fun h => h2 fun i δ hi => h i δ (List.mem_cons_of_mem _ hi), fun h => h3 fun i δ hi => h i δ (List.mem_cons_of_mem _ hi)⟩
    | true =>
      cases hB : B j with
      | true =>
        simp only [SLr, hD, hB, AS.plus, look_append]
        refine ⟨fun h => ?_, fun h => ?_, fun h => ?_⟩
        · rw [h1 fun i δ hi => h i δ (List.mem_cons_of_mem _ hi)]
        · rw [h2 fun i δ hi => h i δ (List.mem_cons_of_mem _ hi)]
        · rw [h3 fun i δ hi => h i δ (List.mem_cons_of_mem _ hi)]
      | false =>
        simp only [SLr, hD, hB, AS.plus, look_append]
        refine ⟨fun h => ?_, fun h => ?_, fun h => ?_⟩
        · rw [h j δ (by simp) hD hB, Option.none_or]; exact h1 fun i δ hi => h i δ (List.mem_cons_of_mem _ hi)
        · rw [h j δ (by simp) hD hB, Option.none_or]; exact h2 fun i δ hi => h i δ (List.mem_cons_of_mem _ hi)
        · rw [h j δ (by simp) hD hB, Option.none_or]; exact h3 fun i δ hi => h i δ (List.mem_cons_of_mem _ hi)

theorem SLr_congr {D B : Nat → Bool} : ∀ {l : List (Nat × Dl)}, (∀ j δ, (j, δ) ∈ l → D j = B j) → SLr s0 D l = SLr s0 B l
  | [], h => rfl
  | (j, δ) :: r, h => by
    simp only [SLr, h j δ (by simp), SLr_congr fun i δ' hi => h i δ' (List.mem_cons_of_mem _ hi)]

theorem or_swap {α : Type} {a b c : Option α} (h : a = none ∨ b = none) : a.or (b.or c) = b.or (a.or c) := by
  rcases h with h | h <;> subst h <;> simp
/-- One more is done. -/
theorem SLr_add {D : Nat → Bool} {i : Nat} {δ : Dl} (hi : D i = false) : ∀ {later earlier : List (Nat × Dl)}, (∀ j ε, (j, ε) ∈ later → j ≠ i) → (∀ j ε, (j, ε) ∈ earlier → j ≠ i) →
    (∀ j ε, (j, ε) ∈ later → D j = true → ∀ k, (look ε.t k = none ∨ look δ.t k = none) ∧ (look ε.h k = none ∨ look δ.h k = none) ∧ (look ε.g k = none ∨ look δ.g k = none)) →
    Same ((SLr s0 D (later ++ (i, δ) :: earlier)).plus δ) (SLr s0 (fun j => D j || Nat.beq j i) (later ++ (i, δ) :: earlier))
  | [], earlier, h1, h2, h3 => by
    have e : SLr s0 (fun j => D j || Nat.beq j i) earlier = SLr s0 D earlier := SLr_congr s0 fun j ε hj => by
      have : Nat.beq j i = false := by
        cases hb : Nat.beq j i
        · rfl
        · exact absurd (Nat.eq_of_beq_eq_true hb) (h2 j ε hj)
      simp [this]
    simp only [List.nil_append, SLr, hi, Nat.beq_refl, Bool.or_true, e]
    exact ⟨fun _ => rfl, fun _ => rfl, fun _ => rfl⟩
  | (j, ε) :: later, earlier, h1, h2, h3 => by
    have ih := SLr_add (δ := δ) hi (later := later) (earlier := earlier) (fun j ε hj => h1 j ε (List.mem_cons_of_mem _ hj)) h2 (fun j ε hj => h3 j ε (List.mem_cons_of_mem _ hj))
    have hb : Nat.beq j i = false := by
      cases hb : Nat.beq j i
      · rfl
      · exact absurd (Nat.eq_of_beq_eq_true hb) (h1 j ε (by simp))
    simp only [List.cons_append, SLr, hb, Bool.or_false]
    cases hD : D j with
    | false => exact ih
    | true =>
      have hd := h3 j ε (by simp) hD
      refine ⟨fun k => ?_, fun k => ?_, fun k => ?_⟩
      · have := ih.tmps k
        simp only [AS.plus, look_append] at this ⊢
        rw [← this, or_swap]
        rcases (hd k).1 with h | h
        · exact .inr h
        · exact .inl h
      · have := ih.heap k
        simp only [AS.plus, look_append] at this ⊢
        rw [← this, or_swap]
        rcases (hd k).2.1 with h | h
        · exact .inr h
        · exact .inl h
      · have := ih.tags k
        simp only [AS.plus, look_append] at this ⊢
        rw [← this, or_swap]
        rcases (hd k).2.2 with h | h
        · exact .inr h
        · exact .inl h
end

/-- The keys that each operation names, in a run in the order of the text. -/
def roughs (P : Program) (Γ : TT) (nt : Nat) (ann : List (Nat × Ann)) (ops : Array Oper) : List Oper → Nat → AS → List (Nat × Keys) → List (Nat × Keys)
  | [], _, _, acc => acc
  | o :: r, i, s, acc => match oper1 P Γ nt ann ops s o with
    | some (s', _) => roughs P Γ nt ann ops r (i + 1) s' ((i, (deltaOf s s').keys) :: acc)
    | none => acc
/-- The keys of those that may come ahead of or behind one. -/
def others (At : List (Nat × List Nat)) (i : Nat) : List (Nat × Keys) → Keys
  | [] => ([], [], [])
  | (j, K) :: r => match Nat.beq i j || (among ((look At i).getD []) j || among ((look At j).getD []) i) with
    | true => others At i r
    | false => (K.1 ++ (others At i r).1, K.2.1 ++ (others At i r).2.1, K.2.2 ++ (others At i r).2.2)
def drawGo (P : Program) (Γ : TT) (nt : Nat) (ann : List (Nat × Ann)) (ops : Array Oper) (s0 : AS) (A : Nat → List Nat) (R : Nat → Keys) : List Oper → Nat → List (Nat × Dl) → List Prop → Option (List (Nat × Dl) × List Prop)
  | [], _, l, os => some (l, os)
  | o :: r, i, l, os => match oper1 P Γ nt ann ops (remS (R i) (SLr s0 (among (A i)) l)) o with
    | some (s', os') => drawGo P Γ nt ann ops s0 A R r (i + 1) ((i, deltaOf (remS (R i) (SLr s0 (among (A i)) l)) s') :: l) (os ++ os')
    | none => none
def allIn {α : Type} (r : List Nat) : List (Nat × α) → Bool
  | [] => true
  | (k, _) :: l => among r k && allIn r l
def noneIn {α : Type} (r : List Nat) : List (Nat × α) → Bool
  | [] => true
  | (k, _) :: l => !among r k && noneIn r l
theorem allIn_look {α : Type} {r : List Nat} : ∀ {l : List (Nat × α)} {k : Nat}, allIn r l = true → isS (look l k) = true → among r k = true
  | [], k, h, hk => by cases hk
  | (j, v) :: l, k, h, hk => by
    simp only [allIn, Bool.and_eq_true] at h
    rw [look_cons] at hk
    split at hk
    · rename_i e; subst e; exact h.1
    · exact allIn_look h.2 hk
theorem noneIn_look {α : Type} {r : List Nat} : ∀ {l : List (Nat × α)} {k : Nat}, noneIn r l = true → isS (look l k) = true → among r k = false
  | [], k, h, hk => by cases hk
  | (j, v) :: l, k, h, hk => by
    simp only [noneIn, Bool.and_eq_true, Bool.not_eq_true'] at h
    rw [look_cons] at hk
    split at hk
    · rename_i e; subst e; exact h.1
    · exact noneIn_look h.2 hk
def Dl.inR (R : Keys) (δ : Dl) : Bool := allIn R.1 δ.t && (allIn R.2.1 δ.h && allIn R.2.2 δ.g)
def Dl.outR (R : Keys) (δ : Dl) : Bool := noneIn R.1 δ.t && (noneIn R.2.1 δ.h && noneIn R.2.2 δ.g)
def ltAll (i : Nat) : List Nat → Bool
  | [] => true
  | j :: r => Nat.blt j i && ltAll i r
def viaE (A : Nat → List Nat) (es : List Nat) : List Nat → Bool
  | [] => true
  | j :: r => (among es j || es.any fun e => among (A e) j) && viaE A es r
def pairOk (A : Nat → List Nat) (R : Nat → Keys) (i : Nat) : List (Nat × Dl) → Bool
  | [] => true
  | (j, ε) :: l => (match Nat.beq i j with
    | true => ε.outR (R i)
    | false => among (A i) j || (among (A j) i || ε.inR (R i))) && pairOk A R i l
def drawOk (A : Nat → List Nat) (R : Nat → Keys) (l : List (Nat × Dl)) : List Oper → Nat → Bool
  | [], _ => true
  | o :: r, i => ltAll i (edges o) && (ltAll i (A i) && (viaE A (edges o) (A i) && (pairOk A R i l && drawOk A R l r (i + 1))))

def draw (P : Program) (Γ : TT) (nt : Nat) (ann : List (Nat × Ann)) (ops : Array Oper) (s : AS) : Option (AS × List Prop) :=
  let At := ancTab ops.toList 0 []
  let rg := roughs P Γ nt (filterM ann) ops ops.toList 0 s []
  let A : Nat → List Nat := fun i => (look At i).getD []
  let R : Nat → Keys := fun i => others At i rg
  match drawGo P Γ nt (filterM ann) ops s A R ops.toList 0 [] [] with
  | some (l, os) => match drawOk A R l ops.toList 0 with
    | true => some (SLr s (fun _ => true) l, os)
    | false => none
  | none => none

theorem drawGo_spec {P : Program} {Γ : TT} {nt : Nat} {ann : List (Nat × Ann)} (hN : ∀ i a, look ann i = some a → isM a = false) {ops : Array Oper} {s0 : AS} {A : Nat → List Nat} {R : Nat → Keys} : ∀ {l : List Oper} {k : Nat} {ds ds' : List (Nat × Dl)} {os os' : List Prop}, drawGo P Γ nt ann ops s0 A R l k ds os = some (ds', os') → (∀ j δ, (j, δ) ∈ ds → j < k) →
    (∃ pre, ds' = pre ++ ds ∧ ∀ j δ, (j, δ) ∈ pre → k ≤ j ∧ j < k + l.length) ∧ (All os' → All os) ∧ ∀ m o, l[m]? = some o → ∃ δ later earlier osi, ds' = later ++ (k + m, δ) :: earlier ∧ (∀ j ε, (j, ε) ∈ later → k + m < j) ∧ (∀ j ε, (j, ε) ∈ earlier → j < k + m) ∧
      (∀ t, Ext (remS (R (k + m)) (SLr s0 (among (A (k + m))) earlier)) t → Fresh δ (remS (R (k + m)) (SLr s0 (among (A (k + m))) earlier)) t → oper1 P Γ nt ann ops t o = some (t.plus δ, osi)) ∧ (All os' → All osi)
  | [], k, ds, ds', os, os', h, hk => by
    cases h
    exact ⟨⟨[], rfl, fun j δ hj => by simp at hj⟩, id, fun m o ho => by simp at ho⟩
  | o :: l, k, ds, ds', os, os', h, hk => by
    simp only [drawGo] at h
    split at h
    · rename_i s' os1 h1
      obtain ⟨δ, e, hm⟩ := oper1_mono P Γ nt hN ops o _ s' os1 h1
      subst e
      rw [deltaOf_plus] at h
      obtain ⟨⟨pre, e1, hpre⟩, h2, h3⟩ := drawGo_spec hN h (fun j ε hj => by
        rcases List.mem_cons.1 hj with hj | hj
        · cases hj; omega
        · have := hk j ε hj; omega)
      refine ⟨⟨pre ++ [(k, δ)], by rw [e1]; simp, fun j ε hj => ?_⟩, fun ho => (All_append.1 (h2 ho)).1, fun m o' ho' => ?_⟩
      · rw [List.length_cons]
        rcases List.mem_append.1 hj with hj | hj
        · have := hpre j ε hj; omega
        · simp at hj; omega
      · match m, ho' with
        | 0, ho' =>
          simp at ho'
          subst ho'
          refine ⟨δ, pre, ds, os1, e1, fun j ε hj => ?_, fun j ε hj => ?_, hm, fun ho => (All_append.1 (h2 ho)).2⟩
          · have := hpre j ε hj; omega
          · have := hk j ε hj; omega
        | m + 1, ho' =>
          obtain ⟨δ', later, earlier, osi, a1, a2, a3, a4, a5⟩ := h3 m o' (by simpa using ho')
          have e2 : k + 1 + m = k + (m + 1) := by omega
          rw [e2] at a1 a2 a3 a4
          exact ⟨δ', later, earlier, osi, a1, a2, a3, a4, a5⟩
    · cases h

theorem drawOk_spec {A : Nat → List Nat} {R : Nat → Keys} {ds : List (Nat × Dl)} : ∀ {l : List Oper} {k : Nat}, drawOk A R ds l k = true → ∀ m o, l[m]? = some o → ltAll (k + m) (edges o) = true ∧ ltAll (k + m) (A (k + m)) = true ∧ viaE A (edges o) (A (k + m)) = true ∧ pairOk A R (k + m) ds = true
  | [], k, h, m, o, ho => by simp at ho
  | o' :: l, k, h, m, o, ho => by
    simp only [drawOk, Bool.and_eq_true] at h
    obtain ⟨h1, h2, h3, h4, h5⟩ := h
    match m, ho with
    | 0, ho =>
      simp at ho
      subst ho
      exact ⟨h1, h2, h3, h4⟩
    | m + 1, ho =>
      have := drawOk_spec h5 m o (by simpa using ho)
      have e2 : k + 1 + m = k + (m + 1) := by omega
      rw [e2] at this
      exact this
theorem ltAll_mem {i : Nat} : ∀ {l : List Nat}, ltAll i l = true → ∀ j ∈ l, j < i
  | [], h, j, hj => by simp at hj
  | x :: l, h, j, hj => by
    simp only [ltAll, Bool.and_eq_true] at h
    rcases List.mem_cons.1 hj with rfl | hj
    · exact Nat.le_of_ble_eq_true h.1
    · exact ltAll_mem h.2 j hj
theorem viaE_mem {A : Nat → List Nat} {es : List Nat} : ∀ {l : List Nat}, viaE A es l = true → ∀ j ∈ l, j ∈ es ∨ ∃ e ∈ es, j ∈ A e
  | [], h, j, hj => by simp at hj
  | x :: l, h, j, hj => by
    simp only [viaE, Bool.and_eq_true, Bool.or_eq_true, List.any_eq_true] at h
    rcases List.mem_cons.1 hj with rfl | hj
    · rcases h.1 with h1 | ⟨e, he, h1⟩
      · exact .inl (among_mem.1 h1)
      · exact .inr ⟨e, he, among_mem.1 h1⟩
    · exact viaE_mem h.2 j hj
theorem pairOk_mem {A : Nat → List Nat} {R : Nat → Keys} {i : Nat} : ∀ {l : List (Nat × Dl)}, pairOk A R i l = true → ∀ j ε, (j, ε) ∈ l → (i = j → ε.outR (R i) = true) ∧ (i ≠ j → j ∉ A i → i ∉ A j → ε.inR (R i) = true)
  | [], h, j, ε, hj => by simp at hj
  | (x, δ) :: l, h, j, ε, hj => by
    simp only [pairOk, Bool.and_eq_true] at h
    rcases List.mem_cons.1 hj with e | hj
    · cases e
      have h1 := h.1
      split at h1
      · rename_i hb
        have := Nat.eq_of_beq_eq_true hb
        subst this
        exact ⟨fun _ => h1, fun hn => absurd rfl hn⟩
      · rename_i hb
        refine ⟨fun e => ?_, fun _ a1 a2 => ?_⟩
        · subst e
          rw [Nat.beq_refl] at hb
          cases hb
        · simp only [Bool.or_eq_true] at h1
          rcases h1 with h1 | h1 | h1
          · exact absurd (among_mem.1 h1) a1
          · exact absurd (among_mem.1 h1) a2
          · exact h1
    · exact pairOk_mem h.2 j ε hj

theorem inR_none {R : Keys} {δ : Dl} (h : δ.inR R = true) (k : Nat) : (among R.1 k = false → look δ.t k = none) ∧ (among R.2.1 k = false → look δ.h k = none) ∧ (among R.2.2 k = false → look δ.g k = none) := by
  simp only [Dl.inR, Bool.and_eq_true] at h
  refine ⟨fun hk => isS_none fun hs => ?_, fun hk => isS_none fun hs => ?_, fun hk => isS_none fun hs => ?_⟩
  · have := allIn_look h.1 hs; rw [hk] at this; cases this
  · have := allIn_look h.2.1 hs; rw [hk] at this; cases this
  · have := allIn_look h.2.2 hs; rw [hk] at this; cases this
theorem outR_not {R : Keys} {δ : Dl} (h : δ.outR R = true) (k : Nat) : (isS (look δ.t k) = true → among R.1 k = false) ∧ (isS (look δ.h k) = true → among R.2.1 k = false) ∧ (isS (look δ.g k) = true → among R.2.2 k = false) := by
  simp only [Dl.outR, Bool.and_eq_true] at h
  exact ⟨noneIn_look h.1, noneIn_look h.2.1, noneIn_look h.2.2⟩

theorem filter_lt {p q : Nat → Bool} : ∀ {l : List Nat}, (∀ x, q x = true → p x = true) → ∀ {i : Nat}, i ∈ l → p i = true → q i = false → (l.filter q).length < (l.filter p).length
  | [], h, i, hi, hp, hq => by simp at hi
  | x :: l, h, i, hi, hp, hq => by
    have hle : ∀ l : List Nat, (l.filter q).length ≤ (l.filter p).length := by
      intro l
      induction l with
      | nil => simp
      | cons y l ih =>
        simp only [List.filter_cons]
        cases hqy : q y with
        | true => rw [h y hqy]; simp; omega
        | false =>
          cases hpy : p y
          · simpa using ih
          · simp; omega
    simp only [List.filter_cons]
    rcases List.mem_cons.1 hi with rfl | hi
    · rw [hp, hq]
      have := hle l
      simp
      omega
    · have ih := filter_lt (l := l) h hi hp hq
      cases hqy : q x with
      | true => rw [h x hqy]; simp; omega
      | false =>
        cases hpy : p x
        · simpa using ih
        · simp; omega

/-- Every order leaves the state of the text's order. -/
theorem draw_any {P : Program} {Γ : TT} (hΓ : Γok P Γ) {C : Ctx} {ann : List (Nat × Ann)} (hN : ∀ i a, look ann i = some a → isM a = false) {ops : Array Oper} {s0 : AS} {A : Nat → List Nat} {R : Nat → Keys} {ds : List (Nat × Dl)} {os : List Prop}
    (hgo : drawGo P Γ C.nt ann ops s0 A R ops.toList 0 [] [] = some (ds, os)) (hok : drawOk A R ds ops.toList 0 = true) (ho : All os) {E : Exit → Act → World → Prop}
    (hE : ∀ G a w, RelG C G (SLr s0 (fun _ => true) ds) a w → E .normal a w) :
    ∀ (fuel : Nat) (listed : Array Bool) (G : Env) (a : Act) (w : World), listed.size = ops.size → (∀ i, listed.getD i false = true → ∀ j ∈ A i, listed.getD j false = true) →
      ((List.range ops.size).filter fun i => !listed.getD i false).length ≤ fuel → RelG C G (SLr s0 (fun i => listed.getD i false) ds) a w → wpAny P .any ops E fuel listed a w := by
  obtain ⟨⟨pre, e0, hpre⟩, _, hspec⟩ := drawGo_spec hN hgo (fun j δ hj => by simp at hj)
  have hidx : ∀ j ε, (j, ε) ∈ ds → j < ops.size := by
    intro j ε hj
    rw [e0, List.append_nil] at hj
    have := (hpre j ε hj).2
    simpa using this
  have hspec' : ∀ i o, ops[i]? = some o → ∃ δ later earlier osi, ds = later ++ (i, δ) :: earlier ∧ (∀ j ε, (j, ε) ∈ later → i < j) ∧ (∀ j ε, (j, ε) ∈ earlier → j < i) ∧
      (∀ t, Ext (remS (R i) (SLr s0 (among (A i)) earlier)) t → Fresh δ (remS (R i) (SLr s0 (among (A i)) earlier)) t → oper1 P Γ C.nt ann ops t o = some (t.plus δ, osi)) ∧ All osi := by
    intro i o hio
    obtain ⟨δ, later, earlier, osi, a1, a2, a3, a4, a5⟩ := hspec i o (by simpa using hio)
    rw [Nat.zero_add] at a1 a2 a3 a4
    exact ⟨δ, later, earlier, osi, a1, a2, a3, a4, a5 ho⟩
  have hchk : ∀ i o, ops[i]? = some o → ltAll i (edges o) = true ∧ ltAll i (A i) = true ∧ viaE A (edges o) (A i) = true ∧ pairOk A R i ds = true := by
    intro i o hio
    have := drawOk_spec hok i o (by simpa using hio)
    rwa [Nat.zero_add] at this
  -- who is listed, and what an operation that may come up needs
  have done : ∀ (listed : Array Bool), listed.size = ops.size → Region.ready .any ops listed = [] → ∀ i, i < ops.size → listed.getD i false = true := by
    intro listed hsz hr i
    induction i using Nat.strongRecOn with
    | ind i ih =>
      intro hi
      cases hl : listed.getD i false with
      | true => rfl
      | false =>
        exfalso
        have hio : ops[i]? = some ops[i] := Array.getElem?_eq_getElem hi
        have hmem : i ∈ Region.ready .any ops listed := by
          rw [mem_ready]
          refine ⟨?_, _, hio, fun e he hb => ?_⟩
          · simp only [Array.getD_eq_getD_getElem?] at hl ⊢
            rw [Array.getElem?_eq_getElem (by omega)] at hl ⊢
            exact hl
          · have hlt := ltAll_mem (hchk i _ hio).1 e.on (by
              simp only [edges, List.mem_map, List.mem_filter]
              exact ⟨e, ⟨by simpa using he, hb⟩, rfl⟩)
            exact ih e.on hlt (by omega)
        rw [hr] at hmem
        cases hmem
  intro fuel
  induction fuel with
  | zero =>
    intro listed G a w hsz hcl hcnt hR
    have hall : ∀ i, i < ops.size → listed.getD i false = true := by
      intro i hi
      cases hl : listed.getD i false with
      | true => rfl
      | false =>
        exfalso
        have : i ∈ (List.range ops.size).filter fun i => !listed.getD i false := by
          rw [List.mem_filter]
          exact ⟨List.mem_range.2 hi, by rw [hl]; rfl⟩
        have := List.length_pos_of_mem this
        omega
    refine ⟨?_, hE G a w ?_⟩
    · rw [List.eq_nil_iff_forall_not_mem]
      intro i hi
      obtain ⟨h0, o, hio, _⟩ := mem_ready.1 hi
      have hlt : i < ops.size := (Array.getElem?_eq_some_iff.1 hio).1
      have := hall i hlt
      simp only [Array.getD_eq_getD_getElem?] at this h0
      rw [Array.getElem?_eq_getElem (by omega)] at this h0
      simp only [Option.getD_some] at this h0
      rw [this] at h0
      cases h0
    · have : SLr s0 (fun i => listed.getD i false) ds = SLr s0 (fun _ => true) ds := SLr_congr s0 fun j δ hj => hall j (hidx j δ hj)
      rw [← this]
      exact hR
  | succ fuel ih =>
    intro listed G a w hsz hcl hcnt hR
    refine ⟨fun hr => ?_, fun i hi => ?_⟩
    · refine hE G a w ?_
      have : SLr s0 (fun i => listed.getD i false) ds = SLr s0 (fun _ => true) ds := SLr_congr s0 fun j δ hj => done listed hsz hr j (hidx j δ hj)
      rw [← this]
      exact hR
    · obtain ⟨h0, o, hio, hafter⟩ := mem_ready.1 hi
      have hilt : i < ops.size := (Array.getElem?_eq_some_iff.1 hio).1
      have hDi : listed.getD i false = false := by
        simp only [Array.getD_eq_getD_getElem?] at h0 ⊢
        rw [Array.getElem?_eq_getElem (by omega)] at h0 ⊢
        exact h0
      obtain ⟨δ, later, earlier, osi, e, hl, he, hmono, hosi⟩ := hspec' i o hio
      obtain ⟨c1, c2, c3, c4⟩ := hchk i o hio
      have hedge : ∀ x ∈ edges o, listed.getD x false = true := by
        intro x hx
        simp only [edges, List.mem_map, List.mem_filter] at hx
        obtain ⟨ed, ⟨h1, h2⟩, rfl⟩ := hx
        exact hafter ed (by simpa using h1) h2
      have hA : ∀ j ∈ A i, listed.getD j false = true := by
        intro j hj
        rcases viaE_mem c3 j hj with h1 | ⟨x, hx, h1⟩
        · exact hedge j h1
        · exact hcl x (hedge x hx) j h1
      have hnA : ∀ j, listed.getD j false = true → i ∉ A j := fun j hj hm => by
        have := hcl j hj i hm
        rw [hDi] at this
        cases this
      have hiA : among (A i) i = false := by
        cases hb : among (A i) i
        · rfl
        · have := ltAll_mem c2 i (among_mem.1 hb); omega
      have hcut : SLr s0 (among (A i)) ds = SLr s0 (among (A i)) earlier := by
        rw [e]
        have : ∀ later : List (Nat × Dl), (∀ j ε, (j, ε) ∈ later → i < j) → SLr s0 (among (A i)) (later ++ (i, δ) :: earlier) = SLr s0 (among (A i)) earlier := by
          intro later
          induction later with
          | nil => intro _; simp only [List.nil_append, SLr, hiA]
          | cons x later ih2 =>
            intro h
            obtain ⟨j, ε⟩ := x
            have hj : among (A i) j = false := by
              cases hb : among (A i) j
              · rfl
              · have := ltAll_mem c2 j (among_mem.1 hb)
                have := h j ε (by simp)
                omega
            simp only [List.cons_append, SLr, hj]
            exact ih2 fun j ε hj => h j ε (List.mem_cons_of_mem _ hj)
        exact this later hl
      have hother : ∀ j ε, (j, ε) ∈ ds → listed.getD j false = true → among (A i) j = false → ε.inR (R i) = true := by
        intro j ε hj hD hB
        have hne : i ≠ j := fun e2 => by subst e2; rw [hDi] at hD; cases hD
        exact (pairOk_mem c4 j ε hj).2 hne (fun hm => by rw [among_mem.2 hm] at hB; cases hB) (hnA j hD)
      have hBD : ∀ j, among (A i) j = true → listed.getD j false = true := fun j hj => hA j (among_mem.1 hj)
      have hk : ∀ k, (among (R i).1 k = false → look (SLr s0 (fun i => listed.getD i false) ds).tmps k = look (SLr s0 (among (A i)) earlier).tmps k) ∧
          (among (R i).2.1 k = false → look (SLr s0 (fun i => listed.getD i false) ds).heap k = look (SLr s0 (among (A i)) earlier).heap k) ∧
          (among (R i).2.2 k = false → look (SLr s0 (fun i => listed.getD i false) ds).tags k = look (SLr s0 (among (A i)) earlier).tags k) := by
        intro k
        obtain ⟨m1, m2, m3⟩ := SLr_more s0 (D := fun i => listed.getD i false) (B := among (A i)) (l := ds) hBD k
        rw [hcut] at m1 m2 m3
        exact ⟨fun hr => m1 fun j ε hj hD hB => (inR_none (hother j ε hj hD hB) k).1 hr, fun hr => m2 fun j ε hj hD hB => (inR_none (hother j ε hj hD hB) k).2.1 hr, fun hr => m3 fun j ε hj hD hB => (inR_none (hother j ε hj hD hB) k).2.2 hr⟩
      have hext : Ext (remS (R i) (SLr s0 (among (A i)) earlier)) (SLr s0 (fun i => listed.getD i false) ds) := by
        refine ⟨fun k v hv => ?_, fun k v hv => ?_, fun k v hv => ?_⟩
        · simp only [remS, look_remK] at hv
          split at hv
          · cases hv
          · rename_i hn; rw [(hk k).1 (by simpa using hn)]; exact hv
        · simp only [remS, look_remK] at hv
          split at hv
          · cases hv
          · rename_i hn; rw [(hk k).2.1 (by simpa using hn)]; exact hv
        · simp only [remS, look_remK] at hv
          split at hv
          · cases hv
          · rename_i hn; rw [(hk k).2.2 (by simpa using hn)]; exact hv
      have hout : δ.outR (R i) = true := (pairOk_mem c4 i δ (by rw [e]; simp)).1 rfl
      have hfresh : Fresh δ (remS (R i) (SLr s0 (among (A i)) earlier)) (SLr s0 (fun i => listed.getD i false) ds) := by
        refine ⟨fun k hs hn => ?_, fun k hs hn => ?_⟩
        · have hr := (outR_not hout k).2.1 hs
          rw [(hk k).2.1 hr]
          simp only [remS, look_remK] at hn
          rw [if_neg (by rw [hr]; decide)] at hn
          exact hn
        · have hr := (outR_not hout k).2.2 hs
          rw [(hk k).2.2 hr]
          simp only [remS, look_remK] at hn
          rw [if_neg (by rw [hr]; decide)] at hn
          exact hn
      have hstep := hmono _ hext hfresh
      have hset : ∀ j, (listed.setIfInBounds i true).getD j false = (listed.getD j false || Nat.beq j i) := by
        intro j
        by_cases hji : j = i
        · subst hji
          simp [Array.getElem?_setIfInBounds, show j < listed.size by omega]
        · rw [getD_set_ne false (Ne.symm hji)]
          have : Nat.beq j i = false := by
            cases hb : Nat.beq j i
            · rfl
            · exact absurd (Nat.eq_of_beq_eq_true hb) hji
          rw [this, Bool.or_false]
      have key := oper1_sound (Q := E) (K := wpAny P .any ops E fuel (listed.setIfInBounds i true)) hΓ hR hstep hosi (fun G' a' w' h' => by
        refine ih (listed.setIfInBounds i true) G' a' w' (by simpa using hsz) (fun x hx j hj => ?_) ?_ ?_
        · rw [hset] at hx ⊢
          simp only [Bool.or_eq_true] at hx ⊢
          rcases hx with hx | hx
          · exact .inl (hcl x hx j hj)
          · have := Nat.eq_of_beq_eq_true hx
            subst this
            exact .inl (hA j hj)
        · have := filter_lt (p := fun i => !listed.getD i false) (q := fun j => !(listed.setIfInBounds i true).getD j false) (l := List.range ops.size) (fun x hx => by
            simp only [hset, Bool.not_or, Bool.and_eq_true] at hx
            exact hx.1) (i := i) (List.mem_range.2 hilt) (by simp only [hDi]; rfl) (by simp only [hset, Nat.beq_refl, Bool.or_true]; rfl)
          omega
        · have hsame := SLr_add s0 (D := fun i => listed.getD i false) (i := i) (δ := δ) hDi (later := later) (earlier := earlier) (fun j ε hj => by have := hl j ε hj; omega) (fun j ε hj => by have := he j ε hj; omega) (fun j ε hj hD k => by
            have hjd : (j, ε) ∈ ds := by rw [e]; exact List.mem_append_left _ hj
            have hji : among (A i) j = false := by
              cases hb : among (A i) j
              · rfl
              · have := ltAll_mem c2 j (among_mem.1 hb)
                have := hl j ε hj
                omega
            have hin := hother j ε hjd hD hji
            obtain ⟨n1, n2, n3⟩ := inR_none hin k
            obtain ⟨o1, o2, o3⟩ := outR_not hout k
            refine ⟨?_, ?_, ?_⟩
            · cases hd : look δ.t k with
              | none => exact .inr rfl
              | some v => exact .inl (n1 (o1 (by rw [hd]; rfl)))
            · cases hd : look δ.h k with
              | none => exact .inr rfl
              | some v => exact .inl (n2 (o2 (by rw [hd]; rfl)))
            · cases hd : look δ.g k with
              | none => exact .inr rfl
              | some v => exact .inl (n3 (o3 (by rw [hd]; rfl))))
          rw [← e] at hsame
          have hcg : SLr s0 (fun j => (listed.setIfInBounds i true).getD j false) ds = SLr s0 (fun j => listed.getD j false || Nat.beq j i) ds := SLr_congr s0 fun j ε _ => hset j
          rw [hcg]
          exact h'.same hsame)
      unfold wpOp
      rw [hio]
      simp only
      split at key
      · rename_i hw
        rw [if_pos hw]
        exact .inl key
      · rename_i hw
        rw [if_neg hw]
        exact key

theorem draw_sound {P : Program} {Γ : TT} (hΓ : Γok P Γ) {C : Ctx} {ann : List (Nat × Ann)} {ops : Array Oper} {s s' : AS} {os : List Prop} (hd : draw P Γ C.nt ann ops s = some (s', os)) (ho : All os) {E : Exit → Act → World → Prop} (hE : ∀ G a w, RelG C G s' a w → E .normal a w)
    {G : Env} {a : Act} {w : World} (h : RelG C G s a w) : wpAny P .any ops E ops.size (Array.replicate ops.size false) a { w with drawn := w.drawn + 1 } := by
  simp only [draw] at hd
  split at hd
  · rename_i l os1 h1
    split at hd
    · rename_i hok
      cases hd
      have hfalse : ∀ i, (Array.replicate ops.size false).getD i false = false := by
        intro i
        simp only [Array.getD_eq_getD_getElem?, Array.getElem?_replicate]
        split <;> rfl
      refine draw_any hΓ (fun i a ha => filterM_look ha) h1 hok ho hE ops.size _ G a _ (by simp) (fun i hi => by rw [hfalse] at hi; cases hi) (Nat.le_trans (List.length_filter_le _ _) (by simp)) ?_
      have e : SLr s (fun i => (Array.replicate ops.size false).getD i false) l = s := by
        have : ∀ l : List (Nat × Dl), SLr s (fun i => (Array.replicate ops.size false).getD i false) l = s := by
          intro l
          induction l with
          | nil => rfl
          | cons x l ih =>
            obtain ⟨j, δ⟩ := x
            simp only [SLr, hfalse] at ih ⊢
            exact ih
        exact this l
      rw [e]
      exact h.drew
    · cases hd
  · cases hd
end Go.AX
end

section
set_option linter.unusedVariables false
set_option linter.unusedSimpArgs false
namespace Go.AX
open Go Go.RowKit

def fbody (f : Func) : Code := f.body.getD .skip
/-- The loops of a text, each as what is to be done at its head. -/
def heads : Code → List Item → List (List Item)
  | .seq a b, k => heads a (.code b :: k) ++ heads b k
  | .cond _ t e, k => heads t k ++ heads e k
  | .block id c, k => heads c (.inBlock id :: k)
  | .loop c, k => (.code c :: .inLoop c :: k) :: heads c (.inLoop c :: k)
  | .scope c, k => heads c (.inScope c :: k)
  | _, _ => []
/-- The regions of a text, each with what is to be done from there on. -/
def regs : Code → List Item → List (Nat × List Item)
  | .seq a b, k => regs a (.code b :: k) ++ regs b k
  | .cond _ t e, k => regs t k ++ regs e k
  | .block id c, k => regs c (.inBlock id :: k)
  | .loop c, k => regs c (.inLoop c :: k)
  | .scope c, k => regs c (.inScope c :: k)
  | .region id ops d, k => [(id, .code (.region id ops d) :: k)]
  | _, _ => []
def pr (f : Func) (id : Nat) : List Item := (look (regs (fbody f) []) id).getD []
def pt (f : Func) (i : Nat) : List Item := (heads (fbody f) []).getD i []
def p0 (f : Func) : List Item := [.code (fbody f)]

/-- How a function ends: with a result; or, where memory is lent, with that memory and a result. -/
inductive Fin
  | pure (zs : List Nat) (res : AV)
  | mem (zs : List Nat) (M : MemS) (res : AV)
def retF (Γ : TT) (s : AS) (rs : List ResultVar) : Fin → Option (List Prop)
  | .pure zs res => retP Γ zs s rs res
  | .mem zs M res => retPM Γ zs s rs M res
def EndsA (Γ : TT) (F : Fin) (f : Func) (s : AS) : Prop := ∃ os, retF Γ s f.results.toList F = some os ∧ All os
theorem Ctr.mk {P : Program} {Γ : TT} (hΓ : Γok P Γ) {f : FuncId} {fn : Func} (hf : P.funcs[f]? = some fn) (hb : fn.body = some (fbody fn)) (hcall : ∀ vs w, (callFunc f vs).run P w = .ok (.enter f vs) w) (zs : List Nat) {args : List AV} {res : AV} (hl : Nat.ble args.length fn.ntmps = true)
    (h : HT P fn.ntmps (p0 fn) (st0 args) (EndsA Γ (.pure zs res) fn)) : Ctr P f args res :=
  Ctr.of hΓ hf hb hcall zs (Nat.le_of_ble_eq_true hl) h
theorem CtrM.mk {P : Program} {Γ : TT} (hΓ : Γok P Γ) {f : FuncId} {fn : Func} (hf : P.funcs[f]? = some fn) (hb : fn.body = some (fbody fn)) (hcall : ∀ vs w, (callFunc f vs).run P w = .ok (.enter f vs) w) (zs : List Nat) {M M' : MemS} {args : List AV} {res : AV} (hl : Nat.ble args.length fn.ntmps = true)
    (hk : keysIn M'.heap M.heap = true) (ht : keysIn M'.tags M.tags = true)
    (h : HT P fn.ntmps (p0 fn) (stM args M) (EndsA Γ (.mem zs M' res) fn)) : CtrM P f M args M' res :=
  CtrM.of hΓ hf hb hcall zs (Nat.le_of_ble_eq_true hl) hk ht h

/-- Arguments of which more is known. -/
theorem Ctr.args {P : Program} {f : FuncId} {xs ys : List AV} {res : AV} (h : Ctr P f xs res) {os : List Prop} (hl : leL ys xs = some os) (ho : All os) : Ctr P f ys res := by
  refine ⟨h.1, fun w F vs hF ha => h.2 w F vs hF ?_⟩
  obtain ⟨h1, h2⟩ := leL_get hl ho
  refine ⟨by rw [← h1]; exact ha.1, fun i c v hc hv => ?_⟩
  have hlt : i < ys.length := by rw [h1]; exact (List.getElem?_eq_some_iff.1 hc).1
  obtain ⟨os', h3, h4⟩ := h2 i ys[i] c (List.getElem?_eq_getElem hlt) hc
  exact leP_rep (ha.2 i ys[i] v (List.getElem?_eq_getElem hlt) hv) h3 h4

theorem i64_wrap {i : Int} (h0 : -9223372036854775808 ≤ i) (h : i ≤ 9223372036854775807) : IntKind.i64.wrap i = i := IntWalk.i64_in _ (by omega)
theorem i32_wrap {i : Int} (h0 : -2147483648 ≤ i) (h : i ≤ 2147483647) : IntKind.i32.wrap i = i := by
  unfold IntKind.wrap
  simp [IntKind.bits, IntKind.signed]
  omega
end Go.AX
end

section
set_option linter.unusedVariables false
set_option linter.unusedSimpArgs false
namespace Go.AX
open Go Go.RowKit

/-! ### All ways through a text at once -/
/-- What is left to be shown, as a tree of ways. -/
inductive PT
  | tt
  | bad (why i : Nat)
  | ob (p : Prop) (r : PT)
  | split (b : Bool) (t f : PT)
  | or (a b : PT)
  | head (todo : List Item) (s : AS)

def PT.holds (P : Program) (nt : Nat) (Q : AS → Prop) : PT → Prop
  | .tt => True
  | .bad _ _ => False
  | .ob p r => p ∧ r.holds P nt Q
  | .split b t f => (b = true → t.holds P nt Q) ∧ (b = false → f.holds P nt Q)
  | .or a b => a.holds P nt Q ∨ b.holds P nt Q
  | .head todo s => HT P nt todo s Q

def obL : List Prop → PT → PT
  | [], r => r
  | p :: l, r => .ob p (obL l r)
theorem obL_holds {P : Program} {nt : Nat} {Q : AS → Prop} : ∀ {l : List Prop} {r : PT}, (obL l r).holds P nt Q → All l ∧ r.holds P nt Q
  | [], r, h => ⟨trivial, h⟩
  | p :: l, r, h => by
    obtain ⟨h1, h2⟩ := obL_holds (l := l) h.2
    exact ⟨All_cons.2 ⟨h.1, h1⟩, h2⟩

def idsT (s : AS) : List (Nat × AV) → Bool
  | [] => true
  | (_, v) :: r => idsOk s v && idsT s r
/-- What was lent is kept. -/
def bigIn {α : Type} (ks : List Nat) : List (Nat × α) → Bool
  | [] => true
  | (i, _) :: r => (Nat.blt i 1000000 || among ks i) && bigIn ks r
theorem bigIn_look {α : Type} {ks : List Nat} : ∀ {l : List (Nat × α)} {i : Nat}, bigIn ks l = true → isS (look l i) = true → 1000000 ≤ i → among ks i = true
  | [], i, h, hi, hb => by cases hi
  | (j, v) :: l, i, h, hi, hb => by
    simp only [bigIn, Bool.and_eq_true, Bool.or_eq_true] at h
    rw [look_cons] at hi
    split at hi
    · rename_i e
      subst e
      rcases h.1 with h1 | h1
      · have : j + 1 ≤ 1000000 := Nat.le_of_ble_eq_true h1
        omega
      · exact h1
    · exact bigIn_look h.2 hi hb
theorem pickK_keep {α : Type} {l : List (Nat × α)} : ∀ {ks : List Nat} {i : Nat}, among ks i = true → isS (look l i) = true → isS (look (pickK ks l) i) = true
  | [], i, h, hi => by cases h
  | k :: ks, i, h, hi => by
    have h : (Nat.beq i k || among ks i) = true := h
    simp only [Bool.or_eq_true] at h
    simp only [pickK]
    rcases h with h | h
    · have := Nat.eq_of_beq_eq_true h
      subst this
      obtain ⟨v, hv⟩ := isS_some hi
      rw [hv]
      simp [look_cons, isS]
    · split
      · rw [look_cons]
        split
        · rfl
        · exact pickK_keep h hi
      · exact pickK_keep h hi
def prune (ls hs gs : List Nat) (s : AS) : Option AS :=
  let s' : AS := ⟨pickK ls s.tmps, pickK hs s.heap, pickK gs s.tags⟩
  match idsT s' s'.tmps, idsH s' s'.heap, bigIn hs s.heap && bigIn gs s.tags with
  | true, true, true => some s'
  | _, _, _ => none

theorem idsT_look {s : AS} : ∀ {l : List (Nat × AV)} {i : Nat} {v : AV}, idsT s l = true → look l i = some v → idsOk s v = true
  | [], i, v, h, hl => by simp [look] at hl
  | (j, u) :: r, i, v, h, hl => by
    simp only [idsT, Bool.and_eq_true] at h
    rw [look_cons] at hl
    split at hl
    · cases hl; exact h.1
    · exact idsT_look h.2 hl
theorem RelG.prune {C : Ctx} {G : Env} {s s' : AS} {a : Act} {w : World} (h : RelG C G s a w) {ls hs gs : List Nat} (hp : AX.prune ls hs gs s = some s') : RelG C (G.cut s') s' a w := by
  simp only [AX.prune] at hp
  split at hp
  · rename_i i1 i2 i3
    cases hp
    simp only [Bool.and_eq_true] at i3
    refine ⟨h.defers, h.size, fun i v hv => ?_, ⟨h.mem.keep, ⟨h.mem.le.F, h.mem.le.cell, fun i g hg => ?_, fun t r hr => ?_⟩, h.mem.fdom, h.mem.fold, fun i b hb => ?_, fun i hi => ?_, fun i j g hi hj => h.inj i j g (cut_φ hi).1 (cut_φ hj).1, fun t n ht => ?_, fun t ht => ?_⟩⟩
    · obtain ⟨x, hx, hr⟩ := h.slots i v (pickK_look hv)
      exact ⟨x, hx, idsOk_rep hr (idsT_look i1 hv)⟩
    · have h1 := h.mem.le.φ i g hg
      have hbig : 1000000 ≤ i := by
        rcases Nat.lt_or_ge i 1000000 with h2 | h2
        · rw [C.dom0 i h2] at hg; cases hg
        · exact h2
      have hs1 : isS (look s.heap i) = true := by
        cases hl : look s.heap i with
        | none => rw [h.noblock i hl] at h1; cases h1
        | some b => rfl
      have := pickK_keep (bigIn_look i3.1 hs1 hbig) hs1
      simp [Env.cut, this, h1]
    · obtain ⟨r', h1, h2⟩ := h.mem.le.τ t r hr
      have hbig : 1000000 ≤ t := by
        rcases Nat.lt_or_ge t 1000000 with h2 | h2
        · rw [C.domτ t h2] at hr; cases hr
        · exact h2
      have hs1 : isS (look s.tags t) = true := by
        cases hl : look s.tags t with
        | none => rw [h.notag t hl] at h1; cases h1
        | some b => rfl
      have := pickK_keep (bigIn_look i3.2 hs1 hbig) hs1
      exact ⟨r', by simp [Env.cut, this, h1], h2⟩
    · obtain ⟨g, hg, hbase, hok, hnF⟩ := h.blocks i b (pickK_look hb)
      exact ⟨g, by simp [Env.cut, hb, isS, hg], hbase, hok.cut (idsH_look i2 hb), hnF⟩
    · simp only [Env.cut]
      rw [hi]
      rfl
    · obtain ⟨r, hr, hok⟩ := h.tags t n (pickK_look ht)
      refine ⟨r, by simp [Env.cut, ht, isS, hr], ⟨hok.hn, hok.he, hok.hsz, hok.clip, hok.own, hok.one, hok.base, hok.hF, fun ho g hg i hi => hok.hφ ho g hg i (cut_φ hi).1, fun ho g hg t' r' hr' => hok.hτ ho g hg t' r' (cut_τ hr').1, fun b cells hc => ?_⟩⟩
      obtain ⟨k1, k2, k3, k4⟩ := hok.hcs b cells hc
      exact ⟨k1, k2, fun i c v hi hv => (k3 i c v hi hv).tree (fun b o hf => hf), k4⟩
    · simp only [Env.cut]
      rw [ht]
      rfl
  · cases hp

/-- The parts of a walk: hints, the slots where ways part, what is kept at a loop's head, what is frozen at the end, the result. -/
structure Hd where
  ls : List Nat
  hs : List Nat
  gs : List Nat
  tg : List (Nat × Nat × TypeId × Nat)
  cv : List (Bool × Nat × Nat × Nat × TypeId × Nat)
structure Wk where
  ann : List (Nat × Ann)
  sp : List Nat
  hd : List (Nat × Hd)
  dsp : List (Nat × List (List (Nat × Bool)))
  fin : Fin

/-- The number of a text's first region. -/
def rid : Code → Nat
  | .region id _ _ => id
  | .seq a _ => rid a
  | .block _ c => rid c
  | .loop c => rid c
  | .scope c => rid c
  | .cond _ t _ => rid t
  | _ => 0

/-- A slice whose capacity is its length comes under a tag. -/
def retag1 (s : AS) (x : Nat × Nat × TypeId × Nat) : Option AS :=
  match look s.tmps x.1 with
  | some (.sl _ n cells .clip) => match look s.tags x.2.1 with
    | none => some ((s.tag x.2.1 ⟨n, x.2.2.1, x.2.2.2, none⟩).put x.1 (.sl none n cells (.own x.2.1)))
    | some _ => none
  | some (.sl _ n cells (.own t)) => some (s.put x.1 (.sl none n cells (.own t)))
  | _ => some s
def retag (s : AS) : List (Nat × Nat × TypeId × Nat) → Option AS
  | [] => some s
  | x :: r => match retag1 s x with
    | some s1 => retag s1 r
    | none => none
def headAt (W : Wk) (key : Nat) (s : AS) : Option AS :=
  match look W.hd key with
  | some h => match retag s h.tg with
    | some s1 => match convAll s1 h.cv with
      | some s2 => prune h.ls h.hs h.gs s2
      | none => none
    | none => none
  | none => none
def atHead (W : Wk) (c : Code) (s : AS) : Option AS := headAt W (rid c) s

theorem put_at {C : Ctx} {G : Env} {s : AS} {a : Act} {w : World} (h : RelG C G s a w) {d : Nat} {u : AV} {y : Value} (hy : a.tmps[d]? = some y) (hu : Rep w G true u y) : RelG C G (s.put d u) a w := by
  refine ⟨h.defers, h.size, fun i x hx => ?_, h.mem⟩
  simp only [AS.put, look_cons] at hx
  split at hx
  · rename_i e
    cases hx
    subst e
    exact ⟨y, hy, hu⟩
  · exact h.slots i x hx

theorem retag1_sound {C : Ctx} {G : Env} {s s' : AS} {a : Act} {w : World} (h : RelG C G s a w) {x : Nat × Nat × TypeId × Nat} (hs : retag1 s x = some s') : ∃ G', RelG C G' s' a w := by
  unfold retag1 at hs
  split at hs
  · rename_i nl n cells hv
    split at hs
    · rename_i ht
      cases hs
      obtain ⟨y, hy, hr⟩ := h.slots x.1 _ hv
      cases hr with
      | sl _ _ _ _ _ A c vs hnl hpos hc hcell hrep hclip hown =>
        have hcn := hclip rfl
        subst hcn
        have hA : A = none → c = 0 := fun hA => by
          rcases Nat.eq_zero_or_pos c with h0 | h0
          · exact h0
          · obtain ⟨ad, e, _⟩ := hpos h0
            rw [hA] at e
            cases e
        obtain ⟨h1, hle⟩ := h.addTag (t := x.2.1) (m := ⟨c, x.2.2.1, x.2.2.2, none⟩) (r := ⟨false, .slice A c c, c, x.2.2.1, x.2.2.2, []⟩) ht rfl rfl rfl (fun _ => ⟨rfl, A, rfl, hA⟩) (fun e => by cases e) (fun b cs hc => by cases hc)
        refine ⟨_, put_at h1 hy (.sl _ _ _ _ _ A c vs (fun b e => by cases e) hpos hc (fun j z hz => ?_) (fun j z hz => (hrep j z hz).mono hle) (fun e => by cases e) (fun t e => ?_))⟩
        · obtain ⟨ad, h2, h3, h4, h5, h6⟩ := hcell j z hz
          exact ⟨ad, h2, h3, hle.F _ _ h4, h5, h6⟩
        · cases e
          exact ⟨rfl, ⟨false, .slice A c c, c, x.2.2.1, x.2.2.2, []⟩, by simp [Env.setT], Nat.le_refl _, fun _ => rfl⟩
    · cases hs
  · rename_i nl n cells t hv
    cases hs
    obtain ⟨y, hy, hr⟩ := h.slots x.1 _ hv
    refine ⟨G, put_at h hy ?_⟩
    cases hr with
    | sl _ _ _ _ _ A c vs hnl hpos hc hcell hrep hclip hown => exact .sl _ _ _ _ _ A c vs (fun b e => by cases e) hpos hc hcell hrep (fun e => by cases e) hown
  · cases hs
    exact ⟨G, h⟩
theorem retag_sound {C : Ctx} {a : Act} {w : World} : ∀ {l : List (Nat × Nat × TypeId × Nat)} {G : Env} {s s' : AS}, RelG C G s a w → retag s l = some s' → ∃ G', RelG C G' s' a w
  | [], G, s, s', h, hs => by cases hs; exact ⟨G, h⟩
  | x :: r, G, s, s', h, hs => by
    simp only [retag] at hs
    split at hs
    · rename_i s1 h1
      obtain ⟨G1, h2⟩ := retag1_sound h h1
      exact retag_sound h2 hs
    · cases hs
theorem headAt_sound {C : Ctx} {G : Env} {s s' : AS} {a : Act} {w : World} (h : RelG C G s a w) {W : Wk} {key : Nat} (hs : headAt W key s = some s') : ∃ G', RelG C G' s' a w := by
  unfold headAt at hs
  split at hs
  · split at hs
    · rename_i s1 h1
      obtain ⟨G1, h2⟩ := retag_sound h h1
      split at hs
      · rename_i s2 h3
        obtain ⟨G2, h4, _⟩ := convAll_sound h2 h3
        exact ⟨_, h4.prune hs⟩
      · cases hs
    · cases hs
  · cases hs
theorem HT.headAt {P : Program} {nt : Nat} {todo : List Item} {s s' : AS} {Q : AS → Prop} (h : HT P nt todo s' Q) {W : Wk} {key : Nat} (hp : AX.headAt W key s = some s') (hne : todo ≠ []) : HT P nt todo s Q := by
  cases todo with
  | nil => exact absurd rfl hne
  | cons x r =>
    intro C G a w hnt hR
    obtain ⟨G', h'⟩ := headAt_sound hR hp
    exact h C G' a w hnt h'

def splitK (sp : List Nat) (d : Option Nat) (s : AS) (K : AS → PT) : PT :=
  match d with
  | some d => match among sp d with
    | true => match look s.tmps d with
      | some (.bool e) => .split e (K (s.put d (.bool true))) (K (s.put d (.bool false)))
      | _ => K s
    | false => K s
  | none => K s
def walkIdx (P : Program) (Γ : TT) (nt : Nat) (W : Wk) (ops : Array Oper) : List Nat → AS → (AS → PT) → PT
  | [], s, K => K s
  | i :: rest, s, K => match ops[i]? with
    | none => .bad 1 i
    | some o => match oper1 P Γ nt W.ann ops s o with
      | some (s', os) => obL os (splitK W.sp o.dst s' fun s'' => walkIdx P Γ nt W ops rest s'' K)
      | none => .bad 2 (o.dst.getD i)

/-- The hints of one way through a drawn region. -/
def scAnn : List (Nat × Bool) → List (Nat × Ann)
  | [] => []
  | (d, b) :: r => (2000000 + d, .val (.bool b)) :: scAnn r
def drawPT (P : Program) (Γ : TT) (nt : Nat) (ann : List (Nat × Ann)) (id : Nat) (ops : Array Oper) (s : AS) (K : AS → PT) : List (List (Nat × Bool)) → PT
  | [] => match draw P Γ nt ann ops s with
    | some (s', os) => obL os (K s')
    | none => .bad 20 id
  | [sc] => match draw P Γ nt (scAnn sc ++ ann) ops s with
    | some (s', os) => obL os (K s')
    | none => .bad 21 id
  | sc :: r => .or (match draw P Γ nt (scAnn sc ++ ann) ops s with
    | some (s', os) => obL os (K s')
    | none => .bad 22 id) (drawPT P Γ nt ann id ops s K r)

def walk (P : Program) (Γ : TT) (f : Func) (W : Wk) : Nat → List Item → AS → PT
  | 0, _, _ => .bad 0 0
  | _ + 1, [], s => match retF Γ s f.results.toList W.fin with
    | some os => obL os .tt
    | none => .bad 3 0
  | k + 1, x :: r, s => match x with
    | .code .ret => match retF Γ s f.results.toList W.fin with
      | some os => obL os .tt
      | none => .bad 4 0
    | .code .skip => walk P Γ f W k r s
    | .code (.label _) => walk P Γ f W k r s
    | .inBlock _ => walk P Γ f W k r s
    | .code (.seq a b) => walk P Γ f W k (.code a :: .code b :: r) s
    | .code (.cond c t e) => match s.ev c with
      | some (.bool true) => walk P Γ f W k (.code t :: r) s
      | some (.bool false) => walk P Γ f W k (.code e :: r) s
      | _ => .bad 5 0
    | .code (.block id body) => walk P Γ f W k (.code body :: .inBlock id :: r) s
    | .code (.loop body) => match atHead W body s with
      | some s' => .head (.code body :: .inLoop body :: r) s'
      | none => .bad 6 0
    | .inLoop body => match atHead W body s with
      | some s' => .head (.code body :: .inLoop body :: r) s'
      | none => .bad 7 0
    | .code (.exit id) => match exitTo id r with
      | some r' => walk P Γ f W k r' s
      | none => .bad 8 0
    | .code (.region id ops d) => match headAt W (7000000 + id) s with
      | some s' => .head (.code (.region id ops d) :: r) s'
      | none => match d with
        | false => walkIdx P Γ f.ntmps W ops (List.range ops.size) s (walk P Γ f W k r)
        | true => drawPT P Γ f.ntmps W.ann id ops s (walk P Γ f W k r) ((look W.dsp id).getD [])
    | _ => .bad 9 0

theorem put_same {C : Ctx} {G : Env} {s : AS} {a : Act} {w : World} (h : RelG C G s a w) {d : Nat} {v u : AV} (hd : look s.tmps d = some v) (hu : v = u) : RelG C G (s.put d u) a w := by
  refine ⟨h.defers, h.size, fun i x hx => ?_, h.mem⟩
  simp only [AS.put, look_cons] at hx
  split at hx
  · rename_i e
    cases hx
    subst e
    subst hu
    exact h.slots d v hd
  · exact h.slots i x hx

theorem splitK_sound {P : Program} {nt : Nat} {Q : AS → Prop} {C : Ctx} {G : Env} {s : AS} {a : Act} {w : World} (h : RelG C G s a w) {sp : List Nat} {d : Option Nat} {K : AS → PT} (hs : (splitK sp d s K).holds P nt Q) : ∃ s', RelG C G s' a w ∧ (K s').holds P nt Q := by
  unfold splitK at hs
  split at hs
  · rename_i d
    split at hs
    · split at hs
      · rename_i e he
        cases e with
        | true => exact ⟨_, put_same h he rfl, hs.1 rfl⟩
        | false => exact ⟨_, put_same h he rfl, hs.2 rfl⟩
      · exact ⟨s, h, hs⟩
    · exact ⟨s, h, hs⟩
  · exact ⟨s, h, hs⟩

theorem walkIdx_sound {P : Program} {Γ : TT} (hΓ : Γok P Γ) {C : Ctx} {W : Wk} {ops : Array Oper} {Q : AS → Prop} {E : Exit → Act → World → Prop} {K : AS → PT} (hK : ∀ G s a w, RelG C G s a w → (K s).holds P C.nt Q → E .normal a w) :
    ∀ {l : List Nat} {G : Env} {s : AS} {a : Act} {w : World}, RelG C G s a w → (walkIdx P Γ C.nt W ops l s K).holds P C.nt Q → wpOps P ops E l a w
  | [], G, s, a, w, h, hs => hK G s a w h hs
  | i :: rest, G, s, a, w, h, hs => by
    simp only [walkIdx] at hs
    split at hs
    · exact hs.elim
    · rename_i o hoi
      split at hs
      · rename_i s1 os1 h1
        obtain ⟨ho, hs⟩ := obL_holds hs
        have key := oper1_sound (Q := E) (K := wpOps P ops E rest) hΓ h h1 ho (fun G' a' w' h' => by
          obtain ⟨s2, h2, h3⟩ := splitK_sound h' hs
          exact walkIdx_sound hΓ hK h2 h3)
        simp only [wpOps, hoi]
        split at key
        · rename_i hw
          rw [if_pos hw]
          exact .inl key
        · rename_i hw
          rw [if_neg hw]
          exact key
      · exact hs.elim

theorem drawPT_sound {P : Program} {Γ : TT} (hΓ : Γok P Γ) {C : Ctx} {ann : List (Nat × Ann)} {id : Nat} {ops : Array Oper} {Q : AS → Prop} {E : Exit → Act → World → Prop} {K : AS → PT} (hK : ∀ G s a w, RelG C G s a w → (K s).holds P C.nt Q → E .normal a w) {G : Env} {s : AS} {a : Act} {w : World} (h : RelG C G s a w) :
    ∀ {sc : List (List (Nat × Bool))}, (drawPT P Γ C.nt ann id ops s K sc).holds P C.nt Q → wpAny P .any ops E ops.size (Array.replicate ops.size false) a { w with drawn := w.drawn + 1 } := by
  have one : ∀ (ann : List (Nat × Ann)) (x : Nat), (match draw P Γ C.nt ann ops s with | some (s', os) => obL os (K s') | none => .bad x id : PT).holds P C.nt Q → wpAny P .any ops E ops.size (Array.replicate ops.size false) a { w with drawn := w.drawn + 1 } := by
    intro ann x hs
    split at hs
    · rename_i s' os hd
      obtain ⟨ho, hs⟩ := obL_holds hs
      exact draw_sound hΓ hd ho (fun G' a' w' h' => hK G' s' a' w' h' hs) h
    · exact hs.elim
  intro sc
  induction sc with
  | nil => exact one _ _
  | cons x r ih =>
    cases r with
    | nil => exact one _ _
    | cons y r =>
      intro hs
      rcases hs with hs | hs
      · exact one _ _ hs
      · exact ih hs
theorem TW.draw {P : Program} (hm : P.follows .mixedOrders = true) {id : Nat} {ops : Array Oper} {k : List Item} {R : Act → World → Prop} {a : Act} {w : World} (h : wpAny P .any ops (fun e a w => e = .normal ∧ TW P k R a w) ops.size (Array.replicate ops.size false) a { w with drawn := w.drawn + 1 }) : TW P (.code (.region id ops true) :: k) R a w := by
  intro b cs
  have h2 := TW.ops (wpAny_sound ops.size (w.tape w.drawn (.order b.fn id)) _ a _ h) b cs
  obtain ⟨a', w', t, h3, h4⟩ := h2
  refine ⟨a', w', t, h3, .head step_region_draw ?_⟩
  simp only [Region.schedule, hm, Bool.true_or, if_true]
  exact h4

theorem walk_sound {P : Program} {Γ : TT} (hΓ : Γok P Γ) (hm : P.follows .mixedOrders = true) {f : Func} {W : Wk} : ∀ {k : Nat} {todo : List Item} {s : AS}, (walk P Γ f W k todo s).holds P f.ntmps (EndsA Γ W.fin f) → HT P f.ntmps todo s (EndsA Γ W.fin f) := by
  intro k
  induction k with
  | zero => intro todo s h; exact h.elim
  | succ k ih =>
    intro todo s h
    cases todo with
    | nil =>
      simp only [walk] at h
      split at h
      · rename_i os hos
        exact ⟨os, hos, (obL_holds h).1⟩
      · exact h.elim
    | cons x r =>
      simp only [walk] at h
      split at h
      · split at h
        · rename_i os hos
          exact fun C G a w hnt hR b cs => ⟨a, w, .code .ret :: r, ⟨s, G, ⟨os, hos, (obL_holds h).1⟩, hR⟩, .one step_ret⟩
        · exact h.elim
      · exact fun C G a w hnt hR => TW.step (fun b cs => step_skip) ((ih h).tw C G a w hnt hR)
      · exact fun C G a w hnt hR => TW.step (fun b cs => step_label) ((ih h).tw C G a w hnt hR)
      · exact fun C G a w hnt hR => TW.step (fun b cs => step_inBlock) ((ih h).tw C G a w hnt hR)
      · exact fun C G a w hnt hR => TW.step (fun b cs => step_seq) ((ih h).tw C G a w hnt hR)
      · rename_i c t e
        split at h
        · rename_i hc
          intro C G a w hnt hR
          have hv := hR.ev hc
          generalize hcv : a.eval c = cv at hv
          cases hv
          exact TW.step (todo' := .code t :: r) (fun b cs => by rw [step_cond hcv, if_pos rfl]) ((ih h).tw C G a w hnt hR)
        · rename_i hc
          intro C G a w hnt hR
          have hv := hR.ev hc
          generalize hcv : a.eval c = cv at hv
          cases hv
          exact TW.step (todo' := .code e :: r) (fun b cs => by rw [step_cond hcv, if_neg (by decide)]) ((ih h).tw C G a w hnt hR)
        · exact h.elim
      · exact fun C G a w hnt hR => TW.step (fun b cs => step_block) ((ih h).tw C G a w hnt hR)
      · split at h
        · rename_i s' hp
          exact fun C G a w hnt hR => TW.step (fun b cs => step_loop) ((HT.headAt h hp (by simp)).tw C G a w hnt hR)
        · exact h.elim
      · split at h
        · rename_i s' hp
          exact fun C G a w hnt hR => TW.step (fun b cs => step_inLoop) ((HT.headAt h hp (by simp)).tw C G a w hnt hR)
        · exact h.elim
      · split at h
        · rename_i r' hr'
          exact fun C G a w hnt hR => TW.step (fun b cs => step_exit hr') ((ih h).tw C G a w hnt hR)
        · exact h.elim
      · rename_i id ops d
        split at h
        · rename_i s' hp
          exact fun C G a w hnt hR => (HT.headAt h hp (by simp)).tw C G a w hnt hR
        · cases d with
          | false =>
            intro C G a w hnt hR
            refine TW.step (fun b cs => step_region) (TW.ops ?_)
            rw [← hnt] at h
            exact walkIdx_sound (E := fun e a w => e = .normal ∧ TW P r (fun a' w' => ∃ s' G', EndsA Γ W.fin f s' ∧ RelG C G' s' a' w') a w) hΓ (fun G s a w h1 h2 => ⟨rfl, (ih (by rw [hnt] at h2; exact h2)).tw C G a w hnt h1⟩) hR h
          | true =>
            intro C G a w hnt hR
            refine TW.draw hm ?_
            rw [← hnt] at h
            exact drawPT_sound (E := fun e a w => e = .normal ∧ TW P r (fun a' w' => ∃ s' G', EndsA Γ W.fin f s' ∧ RelG C G' s' a' w') a w) hΓ (fun G s a w h1 h2 => ⟨rfl, (ih (by rw [hnt] at h2; exact h2)).tw C G a w hnt h1⟩) hR h
      · exact h.elim

/-- The walk's tree, written out, is what is to be shown. -/
theorem HT.walk {P : Program} {Γ : TT} (hΓ : Γok P Γ) (hm : P.follows .mixedOrders = true) {f : Func} (W : Wk) (k : Nat) {todo : List Item} {s : AS} {T : PT} (h : AX.walk P Γ f W k todo s = T) (hT : T.holds P f.ntmps (EndsA Γ W.fin f)) : HT P f.ntmps todo s (EndsA Γ W.fin f) :=
  walk_sound hΓ hm (k := k) (by rw [h]; exact hT)
end Go.AX
end

section
set_option linter.unusedVariables false
set_option linter.unusedSimpArgs false
namespace Go.AX
open Go Go.RowKit Go.WideShapes Go.ChangeShapes

/-! ### From a contract to a statement -/
theorem Ctr.calls {P : Program} {f : FuncId} {args : List AV} {b : Bool} (h : Ctr P f args (.bool b)) {w : World} {F : Nat → Nat → Prop} {vs : Array Value} (hF : ∀ b o, F b o → b < w.heap.size) (ha : Args w F args vs) :
    Calls P f vs w fun e w' => e = .returned (.bool b) ∧ Below w.heap.size w w' := by
  refine (h.2 w F vs hF ha).mono fun e w' hh => ?_
  obtain ⟨v, rs, rfl, hr⟩ := hh
  have := hr.rep
  cases this
  exact ⟨rfl, hr.below⟩

theorem args_nil (w : World) (F : Nat → Nat → Prop) : Args w F [] #[] := ⟨rfl, fun i c v h => by simp at h⟩
theorem args_cons {w : World} {F : Nat → Nat → Prop} {x : AV} {v : Value} {xs : List AV} {vs : List Value} (h : Rep w (envF F) false x v) (hs : Args w F xs vs.toArray) : Args w F (x :: xs) (v :: vs).toArray := by
  refine ⟨by simpa using hs.1, fun i c u hc hu => ?_⟩
  match i, hc, hu with
  | 0, hc, hu =>
    simp at hc hu
    subst hc; subst hu
    exact h
  | n + 1, hc, hu => exact hs.2 n c u (by simpa using hc) (by simpa using hu)

section
variable {H : Type} {enc : TypeId × Value → H} {P : Program}
theorem post_of_below {f : Func} {s : ChangeSpec} {apart fresh handsOn again : Bool} {W W' : World} {args : Array Value} {v : Value} {ds gs : List (DataW H)} {before pa pv : List MemPlace}
    (hW : DataW.Whole enc P f.params.toList s.vars apart W args.toList ds gs before)
    (hres : ∀ (b : Nat) (sp : Nat → Bool) (hd : Bool), DataW.TrodAll enc P W' b sp hd f.resultTypes.toList (v.resultList f.resultTypes.size) (s.fn H (ds ++ gs)).results [])
    (hargs : ∀ sp : Nat → Bool, (∀ p ∈ before, sp p.block = true) → DataW.TrodAll enc P W' 0 sp true f.params.toList args.toList (s.fn H (ds ++ gs)).args pa)
    (hvars : ∀ sp : Nat → Bool, (∀ p ∈ before, sp p.block = true) → DataW.TrodVars enc P W' sp s.vars (s.fn H (ds ++ gs)).vars pv)
    (hps : before = pa ++ pv) (hb : Below W.heap.size W W')
    (hok : ∀ (j : Nat) (t : TypeId) (r : Value), f.resultTypes[j]? = some t → (v.resultList f.resultTypes.size)[j]? = some r → Value.okWide P W' .any 0 t r) :
    s.post enc P f apart fresh handsOn again W args v W' := by
  have hlt : ∀ p ∈ before, p.block < W.heap.size := fun p hp => hW.lt p hp
  have hold : ∀ p ∈ before, (fun b => decide (b < W.heap.size)) p.block = true := fun p hp => by simpa using hlt p hp
  refine ⟨ds, gs, before, [], pa, pv, hW, hres _ _ _, hargs _ hold, hvars _ hold, World.keptBut_mono (fun p hp => ⟨hp, ?_⟩) (hb.frame (· ∈ before)), fun _ => ?_⟩
  · rw [hps, List.mem_append] at hp
    exact Or.inr hp
  · obtain ⟨_, _, _, _, _, hz, hn⟩ := hW
    refine ⟨hok, _, _, ([] ++ pa) ++ pv, ⟨[] ++ pa, pv, trodAll_append (hargs _ (fun _ _ => rfl)) (hres _ _ _), hvars _ (fun _ _ => rfl), rfl, ?_, ?_⟩, ?_⟩
    · intro b off hp
      have hin : MemPlace.cell b off ∈ before := by rw [hps]; simpa using hp
      rw [hb.frozen (hlt _ hin)]
      exact hz b off hin
    · intro ha
      have := hn ha
      rw [hps] at this
      simpa using this
    · intro p hp _
      rw [hps]
      simpa using hp
end
end Go.AX
end

section
set_option linter.unusedVariables false
set_option linter.unusedSimpArgs false
namespace Go.AX
open Go Go.RowKit Go.WideShapes Go.ChangeShapes

/-! ### What is handed in, opened -/
def Reps (w : World) (F : Nat → Nat → Prop) (l : List AV) (cs : List Value) : Prop :=
  l.length = cs.length ∧ ∀ (i : Nat) (c : AV) (v : Value), l[i]? = some c → cs[i]? = some v → Rep w (envF F) false c v ∧ v.oneCell' = true
theorem Reps.nil {w : World} {F : Nat → Nat → Prop} : Reps w F [] [] := ⟨rfl, fun i c v h => by simp at h⟩
theorem Reps.one {w : World} {F : Nat → Nat → Prop} {c : AV} {v : Value} (h : Rep w (envF F) false c v) (h1 : v.oneCell' = true) : Reps w F [c] [v] := by
  refine ⟨rfl, fun i c' v' hc hv => ?_⟩
  match i, hc, hv with
  | 0, hc, hv =>
    simp at hc hv
    subst hc; subst hv
    exact ⟨h, h1⟩
  | i + 1, hc, hv => simp at hc
theorem Reps.append {w : World} {F : Nat → Nat → Prop} {a b : List AV} {cs ds : List Value} (h : Reps w F a cs) (k : Reps w F b ds) : Reps w F (a ++ b) (cs ++ ds) := by
  refine ⟨by simp [h.1, k.1], fun i c v hc hv => ?_⟩
  by_cases hi : i < a.length
  · rw [List.getElem?_append_left hi] at hc
    rw [List.getElem?_append_left (by rw [← h.1]; exact hi)] at hv
    exact h.2 i c v hc hv
  · rw [List.getElem?_append_right (by omega)] at hc
    rw [List.getElem?_append_right (by rw [← h.1]; omega), ← h.1] at hv
    exact k.2 _ c v hc hv
theorem Reps.agg {w : World} {F : Nat → Nat → Prop} {a : List AV} {vs : Array Value} (h : Reps w F a vs.toList) : Rep w (envF F) false (.agg a) (.agg vs) := by
  refine .agg _ _ _ (by simpa using h.1.symm) (fun i c v hc hv => (h.2 i c v hc (by simpa using hv)).1) (fun v hv => ?_)
  obtain ⟨i, hi, rfl⟩ := List.getElem_of_mem (Array.mem_def.1 hv)
  have hi' : i < a.length := by rw [h.1]; exact hi
  exact (h.2 i a[i] _ (List.getElem?_eq_getElem hi') (List.getElem?_eq_getElem hi)).2

/-- How much a reading holds: what a part holds, the whole holds. -/
structure Meas {H : Type} (m : DataW H → Nat) : Prop where
  sl : ∀ es sp x, x ∈ es → m x ≤ m (.slice es sp)
  len : ∀ es sp, es.length ≤ m (.slice es sp)
  ag : ∀ es x, x ∈ es → m x ≤ m (.agg es)
  str : ∀ b, b.length ≤ m (.lit (.string b))

section
variable {H : Type} {enc : TypeId × Value → H} {P : Program} {w : World} {base : Nat} {spare : Nat → Bool} {held : Bool}
/-- The cells that there are. -/
def heldAt (w : World) (b o : Nat) : Prop := ∃ v, w.cell? ⟨b, o, none⟩ = some v
theorem heldAt_lt {w : World} : ∀ b o, heldAt w b o → b < w.heap.size := by
  intro b o ⟨v, h⟩
  have := World.cells?_block (w := w) (base := 0) (a := ⟨b, o, none⟩) (n := 1) (cs := [v]) (Go.ChangeShapes.cells?_of (Nat.zero_le _) rfl (fun i hi => by
    have : i = 0 := by omega
    subst this
    simpa using h)) (by omega)
  exact this
theorem flat_get' {α : Type} {f : α → List AV} {k : Nat} (hk : ∀ a, (f a).length = k) : ∀ (l : List α) (i j : Nat), j < k → (l.flatMap f)[i * k + j]? = l[i]?.bind fun a => (f a)[j]?
  | [], i, j, hj => by simp
  | a :: l, 0, j, hj => by
    rw [List.flatMap_cons, List.getElem?_append_left (by rw [hk]; omega)]
    simp
  | a :: l, i + 1, j, hj => by
    have e : (i + 1) * k + j = k + (i * k + j) := by rw [Nat.add_mul, Nat.one_mul]; omega
    rw [List.flatMap_cons, List.getElem?_append_right (by rw [hk, e]; omega), hk, e, Nat.add_sub_cancel_left, flat_get' hk l i j hj]
    simp
theorem flat_len' {α : Type} {f : α → List AV} {k : Nat} (hk : ∀ a, (f a).length = k) : ∀ (l : List α), (l.flatMap f).length = l.length * k
  | [] => by simp
  | a :: l => by rw [List.flatMap_cons, List.length_append, flat_len' hk l, hk, List.length_cons, Nat.add_mul, Nat.one_mul, Nat.add_comm]
theorem add_at {a : Addr} {i j : Nat} {v : Value} (h : w.cell? ((a.add i).add j) = some v) : w.cell? ⟨a.block, a.off + (i + j), none⟩ = some v := by
  have hs := World.cell?_spot h
  rw [Go.Deep.add_add] at h hs
  unfold Addr.add at h hs
  split at h
  · rename_i h0
    rw [if_pos h0] at hs
    obtain ⟨b, o, s⟩ := a
    simp only at hs
    subst hs
    simpa [h0] using h
  · exact h
theorem open_list {T : Type} (f : T → List AV) (ok : T → Prop) {k : Nat} (hk : ∀ a, (f a).length = k) (hp : 0 < k) {t e : TypeId} (hc : P.cellsOf e = k) (ht : P.underlying t = some (.slice e)) {m : DataW H → Nat} (hm : Meas m) {B n : Nat}
    (hel : ∀ n', n' < n → ∀ (cs : List Value) (x : DataW H × List MemPlace), DataW.trod enc P w base spare held n' e cs = some x → m x.1 ≤ B → ∃ a, Reps w (heldAt w) (f a) cs ∧ ok a)
    {cs : List Value} {x : DataW H × List MemPlace} (h : DataW.trod enc P w base spare held n t cs = some x) (hx : m x.1 ≤ B) :
    ∃ l : List T, Reps w (heldAt w) [.sl none l.length (l.flatMap f) .no] cs ∧ l.length ≤ B ∧ ∀ a ∈ l, ok a := by
  rcases DataW.trod_slice ht h with ⟨rfl, rfl⟩ | ⟨a, len, cap, elems, rest, n', hn, rfl, rfl, hb, hl, hcap, hlen, hel2, hsp, hns⟩
  · refine ⟨[], .one (.sl _ _ _ _ _ none 0 (fun _ => .nilFunc) (fun _ h => by cases h) (fun h => by simp at h) (Nat.le_refl _) (fun j x h => by simp at h) (fun j x h => by simp at h) (fun h => by cases h) (fun t h => by cases h)) rfl, Nat.zero_le _, fun a ha => by cases ha⟩
  have hel3 : ∀ i : _root_.Fin len, ∃ a' : T, ∃ cs', w.cells? base (a.add (i * k)) k = some cs' ∧ Reps w (heldAt w) (f a') cs' ∧ ok a' := by
    intro i
    have h1 := hel2 i i.2
    rw [hc, List.getElem?_eq_getElem (by rw [hlen]; exact i.2)] at h1
    obtain ⟨cs', h2, h3⟩ := Option.bind_eq_some_iff.1 h1
    obtain ⟨a', h4, h5⟩ := hel n' (by omega) cs' _ h3 (Nat.le_trans (hm.sl _ _ _ (List.mem_map.2 ⟨_, List.getElem_mem _, rfl⟩)) hx)
    exact ⟨a', cs', h2, h4, h5⟩
  let l : List T := List.ofFn fun i : _root_.Fin len => Classical.choose (hel3 i)
  have hll : l.length = len := by simp [l]
  have hlg : ∀ i (hi : i < len), l[i]? = some (Classical.choose (hel3 ⟨i, hi⟩)) := by
    intro i hi
    rw [List.getElem?_eq_getElem (by rw [hll]; exact hi)]
    simp [l]
  refine ⟨l, ?_, ?_, ?_⟩
  · have hcell : ∀ (j : Nat) (x : AV), (l.flatMap f)[j]? = some x → ∃ v, w.cell? ⟨a.block, a.off + j, none⟩ = some v ∧ a.spot = none ∧ Rep w (envF (heldAt w)) false x v ∧ v.oneCell' = true := by
      intro j x hj
      have hj1 : j < len * k := by
        rcases Nat.lt_or_ge j (len * k) with h1 | h1
        · exact h1
        · rw [List.getElem?_eq_none (by rw [flat_len' hk, hll]; exact h1)] at hj
          cases hj
      have hd : j / k < len := Nat.div_lt_of_lt_mul (by rw [Nat.mul_comm]; exact hj1)
      have hr : j % k < k := Nat.mod_lt _ hp
      have hjj : j = j / k * k + j % k := by rw [Nat.mul_comm]; exact (Nat.div_add_mod j k).symm
      obtain ⟨cs', h1, h2, h3⟩ := Classical.choose_spec (hel3 ⟨j / k, hd⟩)
      obtain ⟨hb1, hl1, hc1⟩ := World.cells?_some h1
      have h0 := hc1 0 hp
      rw [hjj, flat_get' hk l _ _ hr, hlg _ hd] at hj
      simp only [Option.bind_some] at hj
      have hv : cs'[j % k]? = some cs'[j % k] := List.getElem?_eq_getElem (by omega)
      have h4 := hc1 (j % k) hr
      rw [hv] at h4
      have h5 := add_at h4
      have hs : a.spot = none := by
        obtain ⟨cs0, g1, _, _⟩ := Classical.choose_spec (hel3 ⟨0, Nat.lt_of_le_of_lt (Nat.zero_le _) hd⟩)
        obtain ⟨_, gl, gc⟩ := World.cells?_some g1
        have g0 := gc 0 hp
        rw [List.getElem?_eq_getElem (by omega)] at g0
        simpa [Addr.add] using World.cell?_spot g0
      refine ⟨_, ?_, hs, h2.2 _ _ _ hj hv⟩
      have e2 : a.off + j = a.off + (j / k * k + j % k) := by rw [← hjj]
      rw [e2]
      exact h5
    have e : Value.slice (some a) len cap = .slice (some a) l.length cap := by rw [hll]
    rw [e]
    refine .one (.sl false none l.length (l.flatMap f) .no (some a) cap (fun j => (w.cell? ⟨a.block, a.off + j, none⟩).getD .nilFunc) (fun _ h => by cases h) (fun h => ?_) (by rw [hll]; exact hl) (fun j x h => ?_) (fun j x h => ?_) (fun h => by cases h) (fun t h => by cases h)) rfl
    · rw [hll] at h
      refine ⟨a, rfl, ?_⟩
      obtain ⟨cs0, g1, _, _⟩ := Classical.choose_spec (hel3 ⟨0, h⟩)
      obtain ⟨_, gl, gc⟩ := World.cells?_some g1
      have g0 := gc 0 hp
      rw [List.getElem?_eq_getElem (by omega)] at g0
      simpa [Addr.add] using World.cell?_spot g0
    · obtain ⟨v, h1, h2, h3, h4⟩ := hcell j x h
      exact ⟨a, rfl, h2, ⟨v, h1⟩, by rw [h1]; rfl, by rw [h1]; exact h4⟩
    · obtain ⟨v, h1, h2, h3, h4⟩ := hcell j x h
      rw [h1]
      exact h3
  · have := hm.len (elems.map (·.1)) (rest.map (·.1))
    simp only [List.length_map] at this
    have hx' : m (.slice (elems.map (·.1)) (rest.map (·.1))) ≤ B := hx
    omega
  · intro a' ha
    obtain ⟨i, hi, rfl⟩ := List.getElem_of_mem ha
    have hi' : i < len := by rw [← hll]; exact hi
    obtain ⟨cs', h1, h2, h3⟩ := Classical.choose_spec (hel3 ⟨i, hi'⟩)
    have h4 := hlg i hi'
    rw [List.getElem?_eq_getElem hi] at h4
    rw [Option.some.inj h4]
    exact h3
end
end Go.AX
end
