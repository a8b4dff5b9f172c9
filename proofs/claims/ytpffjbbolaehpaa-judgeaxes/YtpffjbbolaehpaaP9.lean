import Derived.Test.YtpffjbbolaehpaaP8
section
set_option linter.unusedVariables false
set_option linter.unusedSimpArgs false
namespace Go.Proofs.Ytpffjbbolaehpaa
open Go Go.AX

/-! ### A tree's nodes by their places -/
/-- How many nodes lie ahead of a place. -/
def nu (l : List Ev) (x : Nat) : Nat := (nodF l x 0).length
theorem nu_zero (l : List Ev) : nu l 0 = 0 := rfl
theorem nodF_one (l : List Ev) (x : Nat) : nodF l 1 x = if (l.getD x ev0).kind = 3 then [] else [(x : Int)] := by simp only [nodF]
theorem nu_succ (l : List Ev) (x : Nat) : nu l (x + 1) = nu l x + if (l.getD x ev0).kind = 3 then 0 else 1 := by
  unfold nu
  rw [nodF_add, Nat.zero_add, List.length_append, nodF_one]
  split <;> simp
theorem nu_open {l : List Ev} {x : Nat} (h : (l.getD x ev0).kind ≠ 3) : nu l (x + 1) = nu l x + 1 := by rw [nu_succ, if_neg h]
theorem nu_close {l : List Ev} {x : Nat} (h : (l.getD x ev0).kind = 3) : nu l (x + 1) = nu l x := by rw [nu_succ, if_pos h]; rfl
theorem nu_mono (l : List Ev) : ∀ {x y : Nat}, x ≤ y → nu l x ≤ nu l y := by
  intro x y h
  obtain ⟨d, rfl⟩ := Nat.exists_eq_add_of_le h
  induction d with
  | zero => exact Nat.le_refl _
  | succ d ih =>
    have := ih (by omega)
    have h2 := nu_succ l (x + d)
    have e : x + (d + 1) = x + d + 1 := rfl
    rw [e, h2]
    omega
theorem nu_lt {l : List Ev} {x y : Nat} (h : x < y) (hk : (l.getD x ev0).kind ≠ 3) : nu l x < nu l y := by
  have := nu_mono l (show x + 1 ≤ y from h)
  rw [nu_open hk] at this
  omega
theorem nu_inj {l : List Ev} {x y : Nat} (hx : (l.getD x ev0).kind ≠ 3) (hy : (l.getD y ev0).kind ≠ 3) (h : nu l x = nu l y) : x = y := by
  rcases Nat.lt_trichotomy x y with h1 | h1 | h1
  · have := nu_lt h1 hx; omega
  · exact h1
  · have := nu_lt h1 hy; omega
theorem nodJ_at {l : List Ev} {x : Nat} (h : x < l.length) (hk : (l.getD x ev0).kind ≠ 3) : nu l x < (nodJ l).length ∧ (nodJ l).getD (nu l x) 0 = x := by
  have e : nodJ l = nodF l x 0 ++ ((x : Int) :: nodF l (l.length - (x + 1)) (x + 1)) := by
    have e1 : l.length = x + ((l.length - (x + 1)) + 1) := by omega
    rw [nodJ]
    conv => lhs; rw [e1]
    rw [nodF_add, Nat.zero_add]
    congr 1
    simp only [nodF]
    rw [if_neg hk]
  rw [e]
  unfold nu
  refine ⟨by simp, ?_⟩
  rw [List.getD_eq_getElem?_getD, List.getElem?_append_right (Nat.le_refl _)]
  simp
theorem nodF_in (l : List Ev) : ∀ d i k, k < (nodF l d i).length → ∃ x, i ≤ x ∧ x < i + d ∧ (l.getD x ev0).kind ≠ 3 ∧ (nodF l d i).getD k 0 = x := by
  intro d
  induction d with
  | zero => intro i k h; simp [nodF] at h
  | succ d ih =>
    intro i k h
    simp only [nodF] at h ⊢
    split at h
    · rename_i hk
      rw [if_pos hk]
      obtain ⟨x, a, b, c, e⟩ := ih (i + 1) k h
      exact ⟨x, by omega, by omega, c, e⟩
    · rename_i hk
      rw [if_neg hk]
      cases k with
      | zero => exact ⟨i, by omega, by omega, hk, rfl⟩
      | succ k =>
        obtain ⟨x, a, b, c, e⟩ := ih (i + 1) k (by simpa using h)
        exact ⟨x, by omega, by omega, c, e⟩
theorem nodF_sorted (l : List Ev) : ∀ d i, (nodF l d i).Pairwise (· < ·) := by
  intro d
  induction d with
  | zero => intro i; simp [nodF]
  | succ d ih =>
    intro i
    simp only [nodF]
    split
    · exact ih (i + 1)
    · refine List.Pairwise.cons (fun y hy => ?_) (ih (i + 1))
      obtain ⟨k, hk, rfl⟩ := List.getElem_of_mem hy
      obtain ⟨x, a, b, c, e⟩ := nodF_in l d (i + 1) k hk
      rw [List.getD_eq_getElem?_getD, List.getElem?_eq_getElem hk] at e
      simp only [Option.getD_some] at e
      omega
theorem nodJ_in {l : List Ev} {k : Nat} (h : k < (nodJ l).length) : ∃ x, x < l.length ∧ (l.getD x ev0).kind ≠ 3 ∧ (nodJ l).getD k 0 = x ∧ nu l x = k := by
  obtain ⟨x, a, b, c, e⟩ := nodF_in l l.length 0 k h
  have hx : x < l.length := by omega
  obtain ⟨h1, h2⟩ := nodJ_at hx c
  refine ⟨x, hx, c, e, ?_⟩
  have hp := List.pairwise_iff_getElem.1 (nodF_sorted l l.length 0)
  have e1 : (nodJ l)[nu l x] = (x : Int) := by
    rw [List.getD_eq_getElem?_getD, List.getElem?_eq_getElem h1] at h2
    simpa using h2
  have e2 : (nodJ l)[k] = (x : Int) := by
    have : (nodJ l).getD k 0 = x := e
    rw [List.getD_eq_getElem?_getD, List.getElem?_eq_getElem h] at this
    simpa using this
  rcases Nat.lt_trichotomy (nu l x) k with h3 | h3 | h3
  · have := hp _ _ h1 h h3
    have h4 : (nodJ l)[nu l x] < (nodJ l)[k] := this
    omega
  · exact h3
  · have := hp _ _ h h1 h3
    have h4 : (nodJ l)[k] < (nodJ l)[nu l x] := this
    omega
/-- The number at a place; below 0: none. -/
def numV (l : List Ev) (x : Nat) : Int := if (l.getD x ev0).kind = 3 then -1 else nu l x
def fstV (l : List Ev) (x : Nat) : Int := if (l.getD x ev0).kind = 1 then numV l (x + 1) else -1
theorem getD_app_lt {α : Type} (a b : List α) (i : Nat) (d : α) (h : i < a.length) : (a ++ b).getD i d = a.getD i d := by
  rw [List.getD_eq_getElem?_getD, List.getElem?_append_left h, ← List.getD_eq_getElem?_getD]
theorem getD_app_at {α : Type} (a : List α) (x : α) (i : Nat) (d : α) (h : i = a.length) : (a ++ [x]).getD i d = x := by
  subst h
  rw [List.getD_eq_getElem?_getD, List.getElem?_append_right (Nat.le_refl _)]
  simp
theorem nod_kind {l : List Ev} {i : Nat} {t : Tr} {j : Nat} (h : Nod l i t j) : (l.getD i ev0).kind ≠ 3 := by
  cases h with
  | text h hk => omega
  | elem ks e h hk hks he hke => omega
theorem link_fst (S : Pln) (n a m : Nat) (la : Int) (k : Nat) (hn : n < S.fst.length) : (S.link n a la m).fst.getD k 0 = if k = n ∧ m = 0 then (a : Int) else S.fst.getD k 0 := by
  simp only [Pln.link]
  by_cases hm : m = 0
  · rw [if_pos hm, getD_set _ _ _ _ _ hn]
    simp [hm]
  · rw [if_neg hm, if_neg (fun h => hm h.2)]
theorem link_nxt (S : Pln) (n a m : Nat) (la : Nat) (k : Nat) (hn : m ≠ 0 → la < S.nxt.length) : (S.link n a la m).nxt.getD k 0 = if k = la ∧ m ≠ 0 then (a : Int) else S.nxt.getD k 0 := by
  simp only [Pln.link]
  by_cases hm : m = 0
  · rw [if_pos hm, if_neg (fun h => h.2 hm)]
  · rw [if_neg hm, Int.toNat_natCast, getD_set _ _ _ _ _ (hn hm)]
    simp [hm]
theorem link_nxt0 (S : Pln) (n a : Nat) (la : Int) : (S.link n a la 0).nxt = S.nxt := rfl
theorem link_tr (S : Pln) (n a m : Nat) (la : Int) : (S.link n a la m).tr = S.tr := rfl
/-- What a plan says of a node. -/
structure Says (l : List Ev) (S : Pln) (x : Nat) (t : Tr) (e : Nat) (nx : Int) : Prop where
  nod : Nod l x t e
  tr : S.tr.getD (nu l x) tr0 = t
  fst : S.fst.getD (nu l x) 0 = fstV l x
  nxt : S.nxt.getD (nu l x) 0 = nx
mutual
theorem visit_says {l : List Ev} {i j : Nat} (t : Tr) (h : Nod l i t j) (p : Int) (S : Pln) (hg : S.Good (nu l i)) :
    (visitS t p S).Good (nu l j) ∧
    (∀ k, k < nu l i → (visitS t p S).fst.getD k 0 = S.fst.getD k 0 ∧ (visitS t p S).nxt.getD k 0 = S.nxt.getD k 0 ∧ (visitS t p S).tr.getD k tr0 = S.tr.getD k tr0) ∧
    Says l (visitS t p S) i t j (-1) ∧
    ∀ x, i < x → x < j → (l.getD x ev0).kind ≠ 3 → ∃ t' e, e < j ∧ Says l (visitS t p S) x t' e (numV l e) := by
  match t, h with
  | _, .text i h hk =>
    have hk3 : (l.getD i ev0).kind ≠ 3 := by omega
    have hp := hg.push (.mk true (l.getD i ev0).text nm0 [] []) p
    simp only [visitS]
    refine ⟨by rw [nu_open hk3]; exact hp, fun k hk' => ?_, ⟨.text i h hk, ?_, ?_, ?_⟩, fun x h1 h2 => by omega⟩
    · simp only [Pln.push]
      exact ⟨getD_app_lt _ _ _ _ (by rw [hg.fst]; exact hk'), getD_app_lt _ _ _ _ (by rw [hg.nxt]; exact hk'), getD_app_lt _ _ _ _ (by rw [hg.tr]; exact hk')⟩
    · exact getD_app_at _ _ _ _ hg.tr.symm
    · rw [fstV, if_neg (by omega)]
      exact getD_app_at _ _ _ _ hg.fst.symm
    · exact getD_app_at _ _ _ _ hg.nxt.symm
  | .mk _ _ _ _ ks, .elem i _ e h hk hks he hke =>
    have hk3 : (l.getD i ev0).kind ≠ 3 := by omega
    have hp := hg.push (.mk false ⟨#[]⟩ (l.getD i ev0).nm (l.getD i ev0).attrs ks) p
    rw [← nu_open hk3] at hp
    have hlt : nu l i < nu l (i + 1) := by rw [nu_open hk3]; omega
    obtain ⟨g1, g2, g3⟩ := kids_says ks hks hke (nu l i) 0 (-1) _ hp hlt (fun h => absurd rfl h)
    simp only [visitS]
    rw [hg.tr]
    refine ⟨by rw [nu_close hke]; exact g1, fun k hk' => ?_, ⟨.elem i ks e h hk hks he hke, ?_, ?_, ?_⟩, fun x h1 h2 h3 => ?_⟩
    · obtain ⟨a, b, c⟩ := g2 k (by omega)
      rw [a, b, c, if_neg (by omega), if_neg (by simp)]
      simp only [Pln.push]
      exact ⟨getD_app_lt _ _ _ _ (by rw [hg.fst]; exact hk'), getD_app_lt _ _ _ _ (by rw [hg.nxt]; exact hk'), getD_app_lt _ _ _ _ (by rw [hg.tr]; exact hk')⟩
    · rw [(g2 (nu l i) hlt).2.2]
      exact getD_app_at _ _ _ _ hg.tr.symm
    · rw [(g2 (nu l i) hlt).1, fstV, if_pos hk, numV]
      cases hks with
      | nil =>
        rw [if_neg (by simp), if_pos hke]
        exact getD_app_at _ _ _ _ hg.fst.symm
      | cons _ t i1 r _ h1 h2 =>
        rw [if_pos (by simp), if_neg (nod_kind h1)]
    · rw [(g2 (nu l i) hlt).2.1, if_neg (by simp)]
      exact getD_app_at _ _ _ _ hg.nxt.symm
    · have hx : x ≠ e := fun hx => by subst hx; exact h3 hke
      obtain ⟨t', e', a, b⟩ := g3 x (by omega) (by omega) h3
      exact ⟨t', e', by omega, b⟩
theorem kids_says {l : List Ev} {i j : Nat} (r : List Tr) (h : Nods l i r j) (hj : (l.getD j ev0).kind = 3) (n m : Nat) (la : Int) (S : Pln) (hg : S.Good (nu l i)) (hn : n < nu l i) (hla : m ≠ 0 → ∃ b : Nat, la = b ∧ b < nu l i) :
    (kidsS r n m la S).Good (nu l j) ∧
    (∀ k, k < nu l i → (kidsS r n m la S).fst.getD k 0 = (if k = n ∧ m = 0 ∧ r ≠ [] then (nu l i : Int) else S.fst.getD k 0) ∧ (kidsS r n m la S).nxt.getD k 0 = (if (k : Int) = la ∧ m ≠ 0 ∧ r ≠ [] then (nu l i : Int) else S.nxt.getD k 0) ∧ (kidsS r n m la S).tr.getD k tr0 = S.tr.getD k tr0) ∧
    ∀ x, i ≤ x → x < j → (l.getD x ev0).kind ≠ 3 → ∃ t' e, e ≤ j ∧ Says l (kidsS r n m la S) x t' e (numV l e) := by
  match r, h with
  | [], .nil _ =>
    simp only [kidsS]
    exact ⟨hg, fun k hk => ⟨by simp, by simp, by simp⟩, fun x h1 h2 => by omega⟩
  | t :: r, .cons _ _ i1 _ _ h1 h2 =>
    have hk1 := nod_kind h1
    have l1 := nod_le h1
    have l2 := nods_le h2
    obtain ⟨g1, g2, g3, g4⟩ := visit_says t h1 n S hg
    have hS : S.tr.length = nu l i := hg.tr
    have hlt : nu l i < nu l i1 := nu_lt l1.1 hk1
    simp only [kidsS]
    rw [hS]
    have hL := g1.link n (nu l i) la m
    obtain ⟨q1, q2, q3⟩ := kids_says r h2 hj n (m + 1) (nu l i : Nat) _ hL (by omega) (fun _ => ⟨_, rfl, hlt⟩)
    have lnf : ∀ k, ((visitS t n S).link n (nu l i) la m).fst.getD k 0 = if k = n ∧ m = 0 then ((nu l i : Nat) : Int) else (visitS t n S).fst.getD k 0 := fun k => link_fst _ _ _ _ _ _ (by rw [g1.fst]; omega)
    have ln : ∀ k, ((visitS t n S).link n (nu l i) la m).nxt.getD k 0 = if (k : Int) = la ∧ m ≠ 0 then ((nu l i : Nat) : Int) else (visitS t n S).nxt.getD k 0 := by
      intro k
      by_cases hm : m = 0
      · subst hm
        rw [link_nxt0, if_neg (by simp)]
      · obtain ⟨b, rfl, hb⟩ := hla hm
        rw [link_nxt _ _ _ _ _ _ (fun _ => by rw [g1.nxt]; omega)]
        by_cases e : k = b
        · subst e; simp [hm]
        · rw [if_neg (fun h => e h.1), if_neg (fun h => e (by omega))]
    refine ⟨q1, fun k hk => ?_, fun x hx1 hx2 hx3 => ?_⟩
    · obtain ⟨a, b, c⟩ := q2 k (by omega)
      obtain ⟨a', b', c'⟩ := g2 k hk
      rw [if_neg (fun h => by omega), lnf, a'] at a
      rw [if_neg (fun h => by have := h.1; omega), ln, b'] at b
      rw [link_tr, c'] at c
      rw [a, b, c]
      simp
    · rcases Nat.lt_or_ge x i1 with hx4 | hx4
      · have hxl : nu l x < nu l i1 := nu_lt hx4 hx3
        have hxg : nu l i ≤ nu l x := nu_mono l hx1
        obtain ⟨a, b, c⟩ := q2 (nu l x) hxl
        have hx5 : ¬ (nu l x = n ∧ m = 0) := by omega
        have hx6 : ¬ (((nu l x : Nat) : Int) = la ∧ m ≠ 0) := fun h => by
          obtain ⟨b, h1, h2⟩ := hla h.2
          omega
        rw [if_neg (by simp), lnf, if_neg hx5] at a
        rw [ln, if_neg hx6] at b
        rw [link_tr] at c
        rcases Nat.eq_or_lt_of_le hx1 with hxi | hxi
        · subst hxi
          refine ⟨t, i1, l2, g3.nod, by rw [c]; exact g3.tr, by rw [a]; exact g3.fst, ?_⟩
          rw [b, g3.nxt, numV]
          cases h2 with
          | nil => rw [if_neg (by simp), if_pos hj]
          | cons _ t2 i2 r2 _ k1 k2 => rw [if_pos ⟨rfl, by simp, by simp⟩, if_neg (nod_kind k1)]
        · obtain ⟨t', e, he, hs⟩ := g4 x hxi hx4 hx3
          refine ⟨t', e, by omega, hs.nod, by rw [c]; exact hs.tr, by rw [a]; exact hs.fst, ?_⟩
          have hne := nu_lt hxi hk1
          rw [b, if_neg (fun h => by omega), hs.nxt]
      · exact q3 x hx4 hx2 hx3
end
/-- What the plan of a document's tree says of each node. -/
theorem doc_says {l : List Ev} (T : Tr) (hT : Nod l 0 T l.length) : (visitS T (-1) pln0).Good (nodJ l).length ∧ ∀ k, k < (nodJ l).length → ∃ x t e, x < l.length ∧ (nodJ l).getD k 0 = x ∧ nu l x = k ∧ (l.getD x ev0).kind ≠ 3 ∧ (x ≠ 0 → e < l.length) ∧ Says l (visitS T (-1) pln0) x t e (if k = 0 then -1 else numV l e) := by
  obtain ⟨g1, g2, g3, g4⟩ := visit_says T hT (-1) pln0 ⟨rfl, rfl, rfl, rfl, rfl⟩
  refine ⟨g1, fun k hk => ?_⟩
  obtain ⟨x, a, b, c, d⟩ := nodJ_in hk
  rcases Nat.eq_zero_or_pos x with h0 | h0
  · subst h0
    have hk0 : k = 0 := by rw [← d]; rfl
    exact ⟨0, T, l.length, a, c, d, b, fun h => absurd rfl h, by rw [if_pos hk0]; exact g3⟩
  · have hk0 : k ≠ 0 := by
      have := nu_lt h0 (nod_kind hT)
      rw [nu_zero] at this
      omega
    obtain ⟨t, e, he, hs⟩ := g4 x h0 a b
    exact ⟨x, t, e, a, c, d, b, fun _ => he, by rw [if_neg hk0]; exact hs⟩
end Go.Proofs.Ytpffjbbolaehpaa
end

section
set_option linter.unusedVariables false
set_option linter.unusedSimpArgs false
namespace Go.Proofs.Ytpffjbbolaehpaa
open Go Go.AX

/-! ### A place is one node's -/
mutual
theorem nod_fun {l : List Ev} {i : Nat} {t : Tr} {j : Nat} (h : Nod l i t j) : ∀ t' j', Nod l i t' j' → t = t' ∧ j = j' := by
  intro t' j' h'
  match t, j, h with
  | _, _, .text i h hk =>
    cases h' with
    | text _ _ _ => exact ⟨rfl, rfl⟩
    | elem _ _ _ _ hk' _ _ _ => omega
  | .mk _ _ _ _ ks, _, .elem i _ e h hk hks he hke =>
    cases h' with
    | text _ _ hk' => omega
    | elem _ ks' e' _ _ hks' he' hke' =>
      obtain ⟨a, b⟩ := nods_fun hks hke ks' e' hks' hke'
      rw [a, b]
      exact ⟨rfl, rfl⟩
theorem nods_fun {l : List Ev} {i : Nat} {r : List Tr} {e : Nat} (h : Nods l i r e) (hke : (l.getD e ev0).kind = 3) : ∀ r' e', Nods l i r' e' → (l.getD e' ev0).kind = 3 → r = r' ∧ e = e' := by
  intro r' e' h' hke'
  match r, e, h with
  | _, _, .nil i =>
    cases h' with
    | nil => exact ⟨rfl, rfl⟩
    | cons _ t j r _ h1 h2 => exact absurd hke (nod_kind h1)
  | t :: r, _, .cons i _ j _ e h1 h2 =>
    cases h' with
    | nil => exact absurd hke' (nod_kind h1)
    | cons _ t2 j2 r2 _ k1 k2 =>
      obtain ⟨a, b⟩ := nod_fun h1 t2 j2 k1
      subst a; subst b
      obtain ⟨c, d⟩ := nods_fun h2 hke r2 e' k2 hke'
      rw [c, d]
      exact ⟨rfl, rfl⟩
end
theorem nodF_len (l : List Ev) : ∀ d i, (nodF l d i).length ≤ d := by
  intro d
  induction d with
  | zero => intro i; simp [nodF]
  | succ d ih =>
    intro i
    have := ih (i + 1)
    simp only [nodF]
    split
    · omega
    · simp only [List.length_cons]; omega
theorem nod_small {l : List Ev} (hd : Doc l) (T : Tr) (hT : Nod l 0 T l.length) : cntT T ≤ 1000000 := by
  have h1 := nod_cnt T hT
  have h2 := nodF_len l (l.length - 0) 0
  have h3 := hd.len.2
  omega
end Go.Proofs.Ytpffjbbolaehpaa
end

section
set_option linter.unusedVariables false
set_option linter.unusedSimpArgs false
namespace Go.Proofs.Ytpffjbbolaehpaa
open Go Go.AX

/-! ### A path is a relation from one node -/
inductive Star (R : Nat → Nat → Prop) : Nat → Nat → Prop
  | refl (k : Nat) : Star R k k
  | step (k i j : Nat) (h : Star R k i) (h2 : R i j) : Star R k j
theorem Star.cl {R : Nat → Nat → Prop} {Q : Nat → Prop} (hQ : ∀ i j, Q i → R i j → Q j) {k j : Nat} (h : Star R k j) (h0 : Q k) : Q j := by
  induction h with
  | refl => exact h0
  | step i j h1 h2 ih => exact hQ i j ih h2
theorem Star.head {R : Nat → Nat → Prop} {i k j : Nat} (h7 : R i k) (h4 : Star R k j) : Star R i j := by
  induction h4 with
  | refl => exact .step _ _ _ (.refl _) h7
  | step i' j' h8 h9 ih2 => exact .step _ _ _ ih2 h9
def RlW (P : Pln) : List Flt → Nat → Prop
  | [], k => True
  | f :: _, k => holdsJ P f k = true
mutual
def Rl (P : Pln) : Pth → Nat → Nat → Prop
  | .mk op sub test, k, j =>
    if op = 1 then k = j
    else if op = 2 then P.fst.getD k 0 = j
    else if op = 3 then P.nxt.getD k 0 = j
    else if op = 4 then RlSeq P sub k j
    else if op = 5 then RlAlt P sub k j
    else if op = 6 then RlStar P sub k j
    else if op = 7 then k = j ∧ RlW P test k
    else False
def RlSeq (P : Pln) : List Pth → Nat → Nat → Prop
  | [], k, j => k = j
  | p :: r, k, j => ∃ i, Rl P p k i ∧ RlSeq P r i j
def RlAlt (P : Pln) : List Pth → Nat → Nat → Prop
  | [], k, j => False
  | p :: r, k, j => Rl P p k j ∨ RlAlt P r k j
def RlStar (P : Pln) : List Pth → Nat → Nat → Prop
  | [], k, j => k = j
  | p :: _, k, j => Star (Rl P p) k j
end
theorem getD_out {α : Type} (l : List α) (i : Nat) (d : α) (h : l.length ≤ i) : l.getD i d = d := by
  rw [List.getD_eq_getElem?_getD, List.getElem?_eq_none h]; rfl
theorem lt_of_getD {S : List Bool} {k : Nat} (h : S.getD k false = true) : k < S.length := by
  rcases Nat.lt_or_ge k S.length with h1 | h1
  · exact h1
  · rw [getD_out _ _ _ h1] at h; cases h
theorem noneL_get (n k : Nat) : (noneL n).getD k false = false := by
  rcases Nat.lt_or_ge k n with h | h
  · simp [noneL, List.getD_eq_getElem?_getD, h]
  · exact getD_out _ _ _ (by rw [noneL_len]; exact h)
theorem orZ_iff (a b : List Bool) (h : a.length = b.length) (j : Nat) : (orZ a b).getD j false = true ↔ a.getD j false = true ∨ b.getD j false = true := by
  rcases Nat.lt_or_ge j a.length with h1 | h1
  · rw [orZ_get a b j h1 (by omega)]; simp
  · rw [getD_out (orZ a b) _ _ (by rw [orZ_len _ _ h]; omega), getD_out a _ _ h1, getD_out b _ _ (by omega)]; simp
theorem stepF_iff (to : List Int) (S : List Bool) (N : Nat) (hto : ∀ j, j < N → to.getD j 0 < N) (hS : S.length = N) : ∀ d i out, i + d = N → out.length = N → ∀ j, (stepF to S d i out).getD j false = true ↔ out.getD j false = true ∨ ∃ k, i ≤ k ∧ S.getD k false = true ∧ to.getD k 0 = (j : Int) := by
  intro d
  induction d with
  | zero =>
    intro i out h ho j
    simp only [stepF]
    refine ⟨fun h => .inl h, fun h => h.elim id fun ⟨k, h1, h2, h3⟩ => ?_⟩
    have := lt_of_getD h2
    omega
  | succ d ih =>
    intro i out h ho j
    simp only [stepF]
    have hi : i < N := by omega
    by_cases hc : S.getD i false = true ∧ 0 ≤ to.getD i 0
    · have hlt := hto i hi
      rw [if_pos (by simp only [hc.1, Bool.true_and]; exact decide_eq_true hc.2), ih (i + 1) _ (by omega) (by simp [ho]) j, getD_set _ _ _ _ _ (by omega)]
      constructor
      · rintro (h1 | ⟨k, h1, h2, h3⟩)
        · split at h1
          · exact .inr ⟨i, Nat.le_refl _, hc.1, by omega⟩
          · exact .inl h1
        · exact .inr ⟨k, by omega, h2, h3⟩
      · rintro (h1 | ⟨k, h1, h2, h3⟩)
        · left; split
          · rfl
          · exact h1
        · rcases Nat.eq_or_lt_of_le h1 with h4 | h4
          · left; subst h4; rw [if_pos (by omega)]
          · exact .inr ⟨k, h4, h2, h3⟩
    · rw [if_neg (by simp only [Bool.and_eq_true, decide_eq_true_eq]; exact hc), ih (i + 1) _ (by omega) ho j]
      constructor
      · rintro (h1 | ⟨k, h1, h2, h3⟩)
        · exact .inl h1
        · exact .inr ⟨k, by omega, h2, h3⟩
      · rintro (h1 | ⟨k, h1, h2, h3⟩)
        · exact .inl h1
        · rcases Nat.eq_or_lt_of_le h1 with h4 | h4
          · exfalso; subst h4; exact hc ⟨h2, by omega⟩
          · exact .inr ⟨k, h4, h2, h3⟩
theorem starF_iff (f : List Bool → List Bool) (N : Nat) (hl : ∀ s, s.length = N → (f s).length = N) (R : Nat → Nat → Prop) (hf : ∀ s, s.length = N → ∀ j, (f s).getD j false = true ↔ ∃ k, s.getD k false = true ∧ R k j) : ∀ d s, s.length = N → cntF s < d → ∀ j, (starF f d s).getD j false = true ↔ ∃ k, s.getD k false = true ∧ Star R k j := by
  intro d
  induction d with
  | zero => intro s hs h; omega
  | succ d ih =>
    intro s hs h j
    have hle := hl s hs
    simp only [starF]
    split
    · rename_i he
      refine ⟨fun h1 => ⟨j, h1, .refl _⟩, fun ⟨k, h1, h2⟩ => ?_⟩
      refine h2.cl (Q := fun k => s.getD k false = true) (fun i j h5 h4 => ?_) h1
      have h6 : (orZ s (f s)).getD j false = true := (orZ_iff _ _ (by omega) j).2 (.inr ((hf s hs j).2 ⟨i, h5, h4⟩))
      rwa [he] at h6
    · rename_i hne
      have h2 := (cntF_or s (f s) (by omega)).2 hne
      rw [ih _ (by rw [orZ_len _ _ (by omega), hle]) (by omega) j]
      constructor
      · rintro ⟨k, h3, h4⟩
        rcases (orZ_iff _ _ (by omega) k).1 h3 with h5 | h5
        · exact ⟨k, h5, h4⟩
        · obtain ⟨i, h6, h7⟩ := (hf s hs k).1 h5
          exact ⟨i, h6, Star.head h7 h4⟩
      · rintro ⟨k, h3, h4⟩
        exact ⟨k, (orZ_iff _ _ (by omega) k).2 (.inl h3), h4⟩
mutual
theorem leads_iff (P : Pln) (N : Nat) (hP : PW P N) (p : Pth) (S : List Bool) (hS : S.length = N) (j : Nat) : (leadsJ P p S).getD j false = true ↔ ∃ k, S.getD k false = true ∧ Rl P p k j := by
  match p with
  | .mk op sub test =>
    simp only [leadsJ, Rl]
    by_cases h1 : op = 1
    · simp only [if_pos h1]
      exact ⟨fun h => ⟨j, h, rfl⟩, fun ⟨k, h, e⟩ => e ▸ h⟩
    simp only [if_neg h1]
    by_cases h2 : op = 2
    · simp only [if_pos h2]
      rw [stepF_iff P.fst S N hP.fok hS _ 0 _ (by omega) (by rw [noneL_len, hS]), noneL_get]
      simp
    simp only [if_neg h2]
    by_cases h3 : op = 3
    · simp only [if_pos h3]
      rw [stepF_iff P.nxt S N hP.nok hS _ 0 _ (by omega) (by rw [noneL_len, hS]), noneL_get]
      simp
    simp only [if_neg h3]
    by_cases h4 : op = 4
    · simp only [if_pos h4]
      exact seq_iff P N hP sub S hS j
    simp only [if_neg h4]
    by_cases h5 : op = 5
    · simp only [if_pos h5]
      rw [alt_iff P N hP sub S _ hS (by rw [noneL_len, hS]) j, noneL_get]
      simp
    simp only [if_neg h5]
    by_cases h6 : op = 6
    · simp only [if_pos h6]
      exact star_iff P N hP sub S hS j
    simp only [if_neg h6]
    by_cases h7 : op = 7
    · simp only [if_pos h7]
      cases test with
      | nil => simp only [whereJ, RlW]; exact ⟨fun h => ⟨j, h, rfl, trivial⟩, fun ⟨k, h, e, _⟩ => e ▸ h⟩
      | cons f r =>
        simp only [whereJ, RlW]
        rcases Nat.lt_or_ge j S.length with hj | hj
        · rw [whereF_get _ _ _ hj, Bool.and_eq_true]
          exact ⟨fun h => ⟨j, h.1, rfl, h.2⟩, fun ⟨k, h, e, g⟩ => by subst e; exact ⟨h, g⟩⟩
        · rw [getD_out _ _ _ (by rw [whereF_len]; exact hj)]
          exact ⟨fun h => Bool.noConfusion h, fun ⟨k, h, e, g⟩ => absurd (lt_of_getD h) (by omega)⟩
    · simp only [if_neg h7, noneL_get]
      simp
theorem seq_iff (P : Pln) (N : Nat) (hP : PW P N) (r : List Pth) (S : List Bool) (hS : S.length = N) (j : Nat) : (seqJ P r S).getD j false = true ↔ ∃ k, S.getD k false = true ∧ RlSeq P r k j := by
  match r with
  | [] => simp only [seqJ, RlSeq]; exact ⟨fun h => ⟨j, h, rfl⟩, fun ⟨k, h, e⟩ => e ▸ h⟩
  | p :: r =>
    simp only [seqJ, RlSeq]
    rw [seq_iff P N hP r _ (leads_len P N p S hS) j]
    constructor
    · rintro ⟨k, h1, h2⟩
      obtain ⟨i, h3, h4⟩ := (leads_iff P N hP p S hS k).1 h1
      exact ⟨i, h3, k, h4, h2⟩
    · rintro ⟨k, h1, i, h2, h3⟩
      exact ⟨i, (leads_iff P N hP p S hS i).2 ⟨k, h1, h2⟩, h3⟩
theorem alt_iff (P : Pln) (N : Nat) (hP : PW P N) (r : List Pth) (S out : List Bool) (hS : S.length = N) (ho : out.length = N) (j : Nat) : (altJ P r S out).getD j false = true ↔ out.getD j false = true ∨ ∃ k, S.getD k false = true ∧ RlAlt P r k j := by
  match r with
  | [] => simp [altJ, RlAlt]
  | p :: r =>
    have hle := leads_len P N p S hS
    simp only [altJ, RlAlt]
    rw [alt_iff P N hP r S _ hS (by rw [orZ_len _ _ (by omega), hle]) j, orZ_iff _ _ (by omega), leads_iff P N hP p S hS j]
    constructor
    · rintro ((h | ⟨k, h1, h2⟩) | ⟨k, h1, h2⟩)
      · exact .inl h
      · exact .inr ⟨k, h1, .inl h2⟩
      · exact .inr ⟨k, h1, .inr h2⟩
    · rintro (h | ⟨k, h1, h2 | h2⟩)
      · exact .inl (.inl h)
      · exact .inl (.inr ⟨k, h1, h2⟩)
      · exact .inr ⟨k, h1, h2⟩
theorem star_iff (P : Pln) (N : Nat) (hP : PW P N) (r : List Pth) (S : List Bool) (hS : S.length = N) (j : Nat) : (starJ P r S).getD j false = true ↔ ∃ k, S.getD k false = true ∧ RlStar P r k j := by
  match r with
  | [] => simp only [starJ, RlStar]; exact ⟨fun h => ⟨j, h, rfl⟩, fun ⟨k, h, e⟩ => e ▸ h⟩
  | p :: r =>
    simp only [starJ, RlStar]
    exact starF_iff (leadsJ P p) N (fun s hs => leads_len P N p s hs) (Rl P p) (fun s hs j => leads_iff P N hP p s hs j) _ S hS (Nat.lt_succ_of_le (cntF_le S)) j
end
/-! ### Lists of nodes -/
structure LS (N : Nat) (Q : Nat → Prop) (a : List Int) : Prop where
  mem : ∀ v : Int, v ∈ a ↔ ∃ k : Nat, v = k ∧ k < N ∧ Q k
  nd : a.Nodup
theorem nodup_le : ∀ (N : Nat) (a : List Int), a.Nodup → (∀ v ∈ a, 0 ≤ v ∧ v < N) → a.length ≤ N := by
  intro N
  induction N with
  | zero =>
    intro a _ h
    cases a with
    | nil => exact Nat.le_refl _
    | cons x r => have := h x List.mem_cons_self; omega
  | succ N ih =>
    intro a hn h
    by_cases hm : (N : Int) ∈ a
    · have h1 := ih (a.erase N) (hn.erase _) fun v hv => by
        have := (hn.mem_erase_iff).1 hv
        have h2 := h v this.2
        have h3 := this.1
        omega
      rw [List.length_erase_of_mem hm] at h1
      omega
    · have h1 := ih a hn fun v hv => by
        have h2 := h v hv
        have h3 : v ≠ N := fun e => hm (e ▸ hv)
        omega
      omega
theorem LS.le {N : Nat} {Q : Nat → Prop} {a : List Int} (h : LS N Q a) : a.length ≤ N :=
  nodup_le N a h.nd fun v hv => by
    obtain ⟨k, rfl, hk, _⟩ := (h.mem v).1 hv
    omega
theorem LS.congr {N : Nat} {Q Q' : Nat → Prop} {a : List Int} (h : LS N Q a) (e : ∀ k, k < N → (Q k ↔ Q' k)) : LS N Q' a :=
  ⟨fun v => by
    rw [h.mem]
    exact ⟨fun ⟨k, h1, h2, h3⟩ => ⟨k, h1, h2, (e k h2).1 h3⟩, fun ⟨k, h1, h2, h3⟩ => ⟨k, h1, h2, (e k h2).2 h3⟩⟩, h.nd⟩
theorem LS.at {N : Nat} {Q : Nat → Prop} {a : List Int} (h : LS N Q a) {i : Nat} (hi : i < a.length) : ∃ k : Nat, a.getD i 0 = k ∧ k < N ∧ Q k := (h.mem _).1 (getD_mem a i 0 hi)
theorem LS.one {N : Nat} {k : Nat} (h : k < N) : LS N (fun j => j = k) [(k : Int)] :=
  ⟨fun v => by
    simp only [List.mem_singleton]
    exact ⟨fun e => ⟨k, e, h, rfl⟩, fun ⟨j, e, _, e2⟩ => by rw [e, e2]⟩, by simp⟩
theorem LS.nil {N : Nat} : LS N (fun _ => False) [] := ⟨fun v => by simp, by simp⟩
/-- What is not there yet is added. -/
def addA (out : List Int) : List Int → List Int
  | [] => out
  | v :: m => if v ∈ out then addA out m else addA (out ++ [v]) m
theorem addA_mem : ∀ (m out : List Int) (v : Int), v ∈ addA out m ↔ v ∈ out ∨ v ∈ m := by
  intro m
  induction m with
  | nil => intro out v; simp [addA]
  | cons w m ih =>
    intro out v
    simp only [addA]
    split
    · rename_i hw
      rw [ih, List.mem_cons]
      exact ⟨fun h => h.elim .inl fun h => .inr (.inr h), fun h => h.elim .inl fun h => h.elim (fun e => .inl (e ▸ hw)) .inr⟩
    · rw [ih, List.mem_append, List.mem_singleton, List.mem_cons]
      exact or_assoc
theorem addA_nd : ∀ (m out : List Int), out.Nodup → (addA out m).Nodup := by
  intro m
  induction m with
  | nil => intro out h; simpa [addA] using h
  | cons w m ih =>
    intro out h
    simp only [addA]
    split
    · exact ih out h
    · rename_i hw
      refine ih _ (List.nodup_append.2 ⟨h, by simp, fun a ha b hb => ?_⟩)
      rw [List.mem_singleton] at hb
      intro e
      exact hw (hb ▸ e ▸ ha)
theorem LS.add {N : Nat} {Q Q' : Nat → Prop} {out m : List Int} (h : LS N Q out) (h' : LS N Q' m) : LS N (fun k => Q k ∨ Q' k) (addA out m) :=
  ⟨fun v => by
    rw [addA_mem, h.mem, h'.mem]
    constructor
    · rintro (⟨k, a, b, c⟩ | ⟨k, a, b, c⟩)
      · exact ⟨k, a, b, .inl c⟩
      · exact ⟨k, a, b, .inr c⟩
    · rintro ⟨k, a, b, c | c⟩
      · exact .inl ⟨k, a, b, c⟩
      · exact .inr ⟨k, a, b, c⟩, addA_nd m out h.nd⟩
/-- A step from each of a list's nodes. -/
def stepA (g : Int → List Int) (a : List Int) : List Int := a.flatMap g
theorem LS.step {N : Nat} {Q : Nat → Prop} {a : List Int} (h : LS N Q a) (to : Nat → Int) (g : Int → List Int) (hg : ∀ k : Nat, k < N → g k = if 0 ≤ to k then [to k] else []) (hr : ∀ k, k < N → to k < N) (hi : ∀ k k', k < N → k' < N → 0 ≤ to k → to k = to k' → k = k') : LS N (fun j => ∃ k, k < N ∧ Q k ∧ to k = j) (stepA g a) := by
  constructor
  · intro v
    unfold stepA
    rw [List.mem_flatMap]
    constructor
    · rintro ⟨w, h1, h2⟩
      obtain ⟨k, rfl, h3, h4⟩ := (h.mem w).1 h1
      rw [hg k h3] at h2
      split at h2
      · rename_i h5
        rw [List.mem_singleton] at h2
        have := hr k h3
        refine ⟨(to k).toNat, by omega, by omega, k, h3, h4, by omega⟩
      · simp at h2
    · rintro ⟨j, rfl, h1, k, h2, h3, h4⟩
      refine ⟨k, (h.mem _).2 ⟨k, rfl, h2, h3⟩, ?_⟩
      rw [hg k h2, if_pos (by omega), h4]
      simp
  · have key : ∀ l : List Int, l.Nodup → (∀ v ∈ l, ∃ k : Nat, v = k ∧ k < N) → (l.flatMap g).Nodup := by
      intro l
      induction l with
      | nil => intro _ _; simp
      | cons x r ih =>
        intro hn hm
        obtain ⟨hx, hr'⟩ := List.nodup_cons.1 hn
        rw [List.flatMap_cons]
        obtain ⟨k, rfl, hk⟩ := hm x List.mem_cons_self
        refine List.nodup_append.2 ⟨?_, ih hr' fun v hv => hm v (List.mem_cons_of_mem _ hv), fun a ha b hb e => ?_⟩
        · rw [hg k hk]; split <;> simp
        · subst e
          rw [List.mem_flatMap] at hb
          obtain ⟨w, h1, h2⟩ := hb
          obtain ⟨k', rfl, hk'⟩ := hm w (List.mem_cons_of_mem _ h1)
          rw [hg k hk] at ha
          rw [hg k' hk'] at h2
          split at ha
          · split at h2
            · rw [List.mem_singleton] at ha h2
              have := hi k k' hk hk' (by assumption) (by rw [← ha, h2])
              subst this
              exact hx h1
            · simp at h2
          · simp at ha
    exact key a h.nd fun v hv => by
      obtain ⟨k, e, hk, _⟩ := (h.mem v).1 hv
      exact ⟨k, e, hk⟩
end Go.Proofs.Ytpffjbbolaehpaa
end

section
set_option linter.unusedVariables false
set_option linter.unusedSimpArgs false
namespace Go.Proofs.Ytpffjbbolaehpaa
open Go Go.AX

/-! ### Axes -/
mutual
def wT : Tr → Nat
  | .mk b _ _ _ ks => match b with
    | true => 1
    | false => 2 + wL ks
def wL : List Tr → Nat
  | [] => 0
  | t :: r => wT t + wL r
end
def starts : List Tr → Nat → List Nat
  | [], _ => []
  | t :: r, i => i :: starts r (i + wT t)
mutual
theorem nod_w {l : List Ev} {i : Nat} {t : Tr} {j : Nat} (h : Nod l i t j) : j = i + wT t := by
  match t, j, h with
  | _, _, .text i h hk => simp [wT]
  | .mk _ _ _ _ ks, _, .elem i _ e h hk hks he hke =>
    have := nods_w hks
    simp only [wT]
    omega
theorem nods_w {l : List Ev} {i : Nat} {r : List Tr} {j : Nat} (h : Nods l i r j) : j = i + wL r := by
  match r, j, h with
  | _, _, .nil i => simp [wL]
  | t :: r, _, .cons i _ j _ e h1 h2 =>
    have h3 := nod_w h1
    have h4 := nods_w h2
    simp only [wL]
    omega
end
theorem starts_mem {l : List Ev} : ∀ {r : List Tr} {i j y : Nat}, Nods l i r j → y ∈ starts r i → i ≤ y ∧ y < j ∧ (l.getD y ev0).kind ≠ 3 ∧ ∃ t, t ∈ r ∧ Nod l y t (y + wT t) := by
  intro r
  induction r with
  | nil => intro i j y h hy; simp [starts] at hy
  | cons t r ih =>
    intro i j y h hy
    cases h with
    | cons _ _ i1 _ _ h1 h2 =>
      have hw := nod_w h1
      have hle := nod_le h1
      have hle2 := nods_le h2
      simp only [starts, List.mem_cons] at hy
      rcases hy with rfl | hy
      · exact ⟨Nat.le_refl _, by omega, nod_kind h1, t, List.mem_cons_self, by rw [← hw]; exact h1⟩
      · rw [← hw] at hy
        obtain ⟨a, b, c, t', ht, hn⟩ := ih h2 hy
        exact ⟨by omega, b, c, t', List.mem_cons_of_mem _ ht, hn⟩
mutual
theorem nod_in {l : List Ev} {i : Nat} {t : Tr} {j : Nat} (h : Nod l i t j) (y : Nat) (h1 : i < y) (h2 : y < j) (hk : (l.getD y ev0).kind ≠ 3) : ∃ t' e, Nod l y t' e ∧ e < j := by
  match t, j, h with
  | _, _, .text i h hk' => omega
  | .mk _ _ _ _ ks, _, .elem i _ e h hk' hks he hke =>
    have hy : y ≠ e := fun e1 => hk (e1 ▸ hke)
    obtain ⟨t', e', a, b⟩ := nods_in hks y (by omega) (by omega) hk
    exact ⟨t', e', a, by omega⟩
theorem nods_in {l : List Ev} {i : Nat} {r : List Tr} {j : Nat} (h : Nods l i r j) (y : Nat) (h1 : i ≤ y) (h2 : y < j) (hk : (l.getD y ev0).kind ≠ 3) : ∃ t' e, Nod l y t' e ∧ e ≤ j := by
  match r, j, h with
  | _, _, .nil i => omega
  | t :: r, _, .cons i _ i1 _ e g1 g2 =>
    have hle := nods_le g2
    rcases Nat.lt_or_ge y i1 with h3 | h3
    · rcases Nat.eq_or_lt_of_le h1 with h4 | h4
      · subst h4
        exact ⟨t, i1, g1, hle⟩
      · obtain ⟨t', e', a, b⟩ := nod_in g1 y h4 h3 hk
        exact ⟨t', e', a, by omega⟩
    · exact nods_in g2 y h3 h2 hk
end
mutual
theorem nod_par {l : List Ev} {i : Nat} {t : Tr} {j : Nat} (h : Nod l i t j) (y : Nat) (h1 : i < y) (h2 : y < j) (hk : (l.getD y ev0).kind ≠ 3) : ∃ x t' e, Nod l x t' e ∧ y ∈ starts t'.kids (x + 1) := by
  match t, j, h with
  | _, _, .text i h hk' => omega
  | .mk _ _ _ _ ks, _, .elem i _ e h hk' hks he hke =>
    have hy : y ≠ e := fun e1 => hk (e1 ▸ hke)
    rcases nods_par hks y (by omega) (by omega) hk with h3 | h3
    · exact ⟨i, _, _, .elem i ks e h hk' hks he hke, h3⟩
    · exact h3
theorem nods_par {l : List Ev} {i : Nat} {r : List Tr} {j : Nat} (h : Nods l i r j) (y : Nat) (h1 : i ≤ y) (h2 : y < j) (hk : (l.getD y ev0).kind ≠ 3) : y ∈ starts r i ∨ ∃ x t' e, Nod l x t' e ∧ y ∈ starts t'.kids (x + 1) := by
  match r, j, h with
  | _, _, .nil i => omega
  | t :: r, _, .cons i _ i1 _ e g1 g2 =>
    have hw := nod_w g1
    simp only [starts, List.mem_cons]
    rw [← hw]
    rcases Nat.lt_or_ge y i1 with h3 | h3
    · rcases Nat.eq_or_lt_of_le h1 with h4 | h4
      · exact .inl (.inl h4.symm)
      · exact .inr (nod_par g1 y h4 h3 hk)
    · rcases nods_par g2 y h3 h2 hk with h4 | h4
      · exact .inl (.inr h4)
      · exact .inr h4
end
theorem starts_suffix {l : List Ev} : ∀ {r : List Tr} {i j x : Nat}, Nods l i r j → x ∈ starts r i → ∃ t r', Nods l x (t :: r') j ∧ ∀ y, y ∈ starts (t :: r') x ↔ y ∈ starts r i ∧ x ≤ y := by
  intro r
  induction r with
  | nil => intro i j x h hx; simp [starts] at hx
  | cons t r ih =>
    intro i j x h hx
    have h' := h
    cases h with
    | cons _ _ i1 _ _ h1 h2 =>
      have hw := nod_w h1
      have hle := nod_le h1
      simp only [starts, List.mem_cons] at hx
      rw [← hw] at hx
      rcases hx with rfl | hx
      · refine ⟨t, r, h', fun y => ⟨fun hy => ⟨hy, (starts_mem h' hy).1⟩, fun hy => hy.1⟩⟩
      · obtain ⟨t', r', g1, g2⟩ := ih h2 hx
        have hx1 := (starts_mem h2 hx).1
        refine ⟨t', r', g1, fun y => ?_⟩
        rw [g2 y]
        simp only [starts, List.mem_cons]
        rw [← hw]
        exact ⟨fun ⟨a, b⟩ => ⟨.inr a, b⟩, fun ⟨a, b⟩ => ⟨a.resolve_left (fun e => by omega), b⟩⟩
/-- What the plan of a document says, by places. -/
structure Tre (l : List Ev) (P : Pln) : Prop where
  k0 : (l.getD 0 ev0).kind ≠ 3
  fst : ∀ y t e, Nod l y t e → P.fst.getD (nu l y) 0 = fstV l y
  nxt : ∀ y t e, 0 < y → Nod l y t e → P.nxt.getD (nu l y) 0 = numV l e
  nx0 : P.nxt.getD 0 0 = -1
  rt : ∃ t e, Nod l 0 t e
  nd : ∀ y, 0 < y → y < l.length → (l.getD y ev0).kind ≠ 3 → ∃ t e, Nod l y t e ∧ ∃ x t' e', Nod l x t' e' ∧ y ∈ starts t'.kids (x + 1)
theorem nu_pos {l : List Ev} (h0 : (l.getD 0 ev0).kind ≠ 3) {y : Nat} (hy : 0 < y) : 0 < nu l y := by
  have := nu_lt hy h0
  rw [nu_zero] at this
  exact this
theorem tre_of {l : List Ev} (T : Tr) (hT : Nod l 0 T l.length) (P : Pln) (hP : P = visitS T (-1) pln0) : Tre l P := by
  obtain ⟨hg, hs⟩ := doc_says T hT
  rw [← hP] at hg hs
  have key : ∀ y t e, Nod l y t e → P.fst.getD (nu l y) 0 = fstV l y ∧ P.nxt.getD (nu l y) 0 = if nu l y = 0 then -1 else numV l e := by
    intro y t e h
    have hy : y < l.length := by have := nod_le h; omega
    obtain ⟨h1, h2⟩ := nodJ_at hy (nod_kind h)
    obtain ⟨x, t', e', a, b, c, d, _, s⟩ := hs (nu l y) h1
    have hx := nu_inj d (nod_kind h) c
    subst hx
    have := (nod_fun s.nod t e h).2
    subst this
    exact ⟨s.fst, s.nxt⟩
  refine ⟨nod_kind hT, fun y t e h => (key y t e h).1, fun y t e h0 h => ?_, ?_, ⟨T, _, hT⟩, fun y h0 hy hk => ?_⟩
  · have := (key y t e h).2
    rw [if_neg (by have := nu_pos (nod_kind hT) h0; omega)] at this
    exact this
  · have := (key 0 T _ hT).2
    rw [nu_zero, if_pos rfl] at this
    exact this
  · obtain ⟨t, e, h1, _⟩ := nod_in hT y h0 hy hk
    exact ⟨t, e, h1, nod_par hT y h0 hy hk⟩
def NR (P : Pln) (k m : Nat) : Prop := P.nxt.getD k 0 = (m : Int)
def FR (P : Pln) (k m : Nat) : Prop := P.fst.getD k 0 = (m : Int)
def FNR (P : Pln) (k m : Nat) : Prop := FR P k m ∨ NR P k m
theorem star_head {R : Nat → Nat → Prop} {k m : Nat} : Star R k m ↔ k = m ∨ ∃ b, R k b ∧ Star R b m := by
  constructor
  · intro h
    induction h with
    | refl => exact .inl rfl
    | step i j h1 h2 ih =>
      rcases ih with e | ⟨b, h3, h4⟩
      · subst e; exact .inr ⟨j, h2, .refl _⟩
      · exact .inr ⟨b, h3, .step _ _ _ h4 h2⟩
  · rintro (e | ⟨b, h1, h2⟩)
    · subst e; exact .refl _
    · exact Star.head h1 h2
theorem numV_iff {l : List Ev} {x m : Nat} : numV l x = (m : Int) ↔ (l.getD x ev0).kind ≠ 3 ∧ m = nu l x := by
  unfold numV
  split
  · rename_i h
    exact ⟨fun h1 => by omega, fun h1 => absurd h h1.1⟩
  · rename_i h
    exact ⟨fun h1 => ⟨h, by omega⟩, fun h1 => by omega⟩
theorem star_starts {l : List Ev} {P : Pln} (hT : Tre l P) : ∀ (r : List Tr) {i j : Nat} {t : Tr}, Nods l i (t :: r) j → (l.getD j ev0).kind = 3 → 0 < i → ∀ m, Star (NR P) (nu l i) m ↔ ∃ y, y ∈ starts (t :: r) i ∧ m = nu l y := by
  intro r
  induction r with
  | nil =>
    intro i j t h hj hi m
    cases h with
    | cons _ _ i1 _ _ h1 h2 =>
      cases h2 with
      | nil =>
        rw [star_head]
        simp only [starts, List.mem_singleton]
        constructor
        · rintro (e | ⟨b, h3, _⟩)
          · exact ⟨i, rfl, e.symm⟩
          · unfold NR at h3
            rw [hT.nxt i t j hi h1, numV_iff] at h3
            exact absurd hj h3.1
        · rintro ⟨y, rfl, e⟩
          exact .inl e.symm
  | cons t2 r ih =>
    intro i j t h hj hi m
    cases h with
    | cons _ _ i1 _ _ h1 h2 =>
      have hw := nod_w h1
      have hle := nod_le h1
      have ih' := ih h2 hj (by omega) m
      have hk2 : (l.getD i1 ev0).kind ≠ 3 := by
        cases h2 with
        | cons _ _ i2 _ _ g1 _ => exact nod_kind g1
      rw [star_head]
      have e1 : starts (t :: t2 :: r) i = i :: starts (t2 :: r) i1 := by
        conv => lhs; rw [starts, ← hw]
      rw [e1]
      simp only [List.mem_cons]
      constructor
      · rintro (e | ⟨b, h3, h4⟩)
        · exact ⟨i, .inl rfl, e.symm⟩
        · unfold NR at h3
          rw [hT.nxt i t i1 hi h1, numV_iff] at h3
          rw [h3.2] at h4
          obtain ⟨y, hy, e⟩ := ih'.1 h4
          exact ⟨y, .inr (by simpa [starts] using hy), e⟩
      · rintro ⟨y, rfl | hy, e⟩
        · exact .inl e.symm
        · refine .inr ⟨nu l i1, ?_, ih'.2 ⟨y, by simpa [starts] using hy, e⟩⟩
          unfold NR
          rw [hT.nxt i t i1 hi h1, numV_iff]
          exact ⟨hk2, rfl⟩
/-- The children. -/
theorem child_iff {l : List Ev} {P : Pln} (hT : Tre l P) {x e : Nat} {t : Tr} (h : Nod l x t e) (m : Nat) : (∃ b, FR P (nu l x) b ∧ Star (NR P) b m) ↔ ∃ y, y ∈ starts t.kids (x + 1) ∧ m = nu l y := by
  have hf := hT.fst x t e h
  unfold FR
  rw [hf, fstV]
  cases h with
  | text _ h hk =>
    rw [if_neg (by omega)]
    simp only [Tr.kids, starts]
    exact ⟨fun ⟨b, h1, _⟩ => by omega, fun ⟨y, hy, _⟩ => by simp at hy⟩
  | elem _ ks e h hk hks he hke =>
    rw [if_pos hk]
    simp only [Tr.kids]
    cases hks with
    | nil =>
      simp only [starts]
      exact ⟨fun ⟨b, h1, _⟩ => absurd hke (numV_iff.1 h1).1, fun ⟨y, hy, _⟩ => by simp at hy⟩
    | cons _ t2 i1 r _ h1 h2 =>
      have key := star_starts hT r (.cons _ _ _ _ _ h1 h2) hke (Nat.succ_pos x) m
      constructor
      · rintro ⟨b, h3, h4⟩
        rw [(numV_iff.1 h3).2] at h4
        exact key.1 h4
      · intro h3
        exact ⟨nu l (x + 1), numV_iff.2 ⟨nod_kind h1, rfl⟩, key.2 h3⟩
mutual
theorem nod_reach {l : List Ev} {P : Pln} (hT : Tre l P) {i : Nat} {t : Tr} {j : Nat} (h : Nod l i t j) (y : Nat) (h1 : i ≤ y) (h2 : y < j) (hk : (l.getD y ev0).kind ≠ 3) : Star (FNR P) (nu l i) (nu l y) := by
  match t, j, h with
  | _, _, .text i h hk' =>
    have : y = i := by omega
    subst this
    exact .refl _
  | .mk _ _ _ _ ks, _, .elem i _ e h hk' hks he hke =>
    rcases Nat.eq_or_lt_of_le h1 with h3 | h3
    · subst h3; exact .refl _
    · have hy : y ≠ e := fun e1 => hk (e1 ▸ hke)
      have hf := hT.fst i _ _ (.elem i ks e h hk' hks he hke)
      rw [fstV, if_pos hk'] at hf
      have hk1 : (l.getD (i + 1) ev0).kind ≠ 3 := by
        cases hks with
        | nil => omega
        | cons _ t2 i1 r _ g1 g2 => exact nod_kind g1
      exact Star.head (.inl (by unfold FR; rw [hf]; exact numV_iff.2 ⟨hk1, rfl⟩)) (nods_reach hT hks (Nat.succ_pos i) y (by omega) (by omega) hk)
theorem nods_reach {l : List Ev} {P : Pln} (hT : Tre l P) {i : Nat} {r : List Tr} {j : Nat} (h : Nods l i r j) (hi : 0 < i) (y : Nat) (h1 : i ≤ y) (h2 : y < j) (hk : (l.getD y ev0).kind ≠ 3) : Star (FNR P) (nu l i) (nu l y) := by
  match r, j, h with
  | _, _, .nil i => omega
  | t :: r, _, .cons i _ i1 _ e g1 g2 =>
    have hle := nod_le g1
    rcases Nat.lt_or_ge y i1 with h3 | h3
    · exact nod_reach hT g1 y h1 h3 hk
    · have hk1 : (l.getD i1 ev0).kind ≠ 3 := by
        cases g2 with
        | nil => omega
        | cons _ t2 i2 r2 _ k1 k2 => exact nod_kind k1
      exact Star.head (.inr (by unfold NR; rw [hT.nxt i t i1 hi g1]; exact numV_iff.2 ⟨hk1, rfl⟩)) (nods_reach hT g2 (by omega) y h3 h2 hk)
end
/-- The descendants. -/
theorem desc_iff {l : List Ev} {P : Pln} (hT : Tre l P) {x e : Nat} {t : Tr} (h : Nod l x t e) (m : Nat) : (∃ b, FR P (nu l x) b ∧ Star (FNR P) b m) ↔ ∃ y, x < y ∧ y < e ∧ (l.getD y ev0).kind ≠ 3 ∧ m = nu l y := by
  have hf := hT.fst x t e h
  have h' := h
  unfold FR
  rw [hf, fstV]
  cases h with
  | text _ h hk =>
    rw [if_neg (by omega)]
    exact ⟨fun ⟨b, h1, _⟩ => by omega, fun ⟨y, h1, h2, _⟩ => by omega⟩
  | elem _ ks e h hk hks he hke =>
    rw [if_pos hk]
    constructor
    · rintro ⟨b, h1, h2⟩
      obtain ⟨k1, rfl⟩ := numV_iff.1 h1
      have hle := nods_le hks
      have hne : x + 1 ≠ e := fun e1 => k1 (e1 ▸ hke)
      refine h2.cl (Q := fun k => ∃ y, x < y ∧ y < e + 1 ∧ (l.getD y ev0).kind ≠ 3 ∧ k = nu l y) (fun a b ha hab => ?_) ⟨x + 1, by omega, by omega, k1, rfl⟩
      obtain ⟨y, y1, y2, y3, rfl⟩ := ha
      have hye : y ≠ e := fun e1 => y3 (e1 ▸ hke)
      obtain ⟨t', e', n1, n2⟩ := nods_in hks y (by omega) (by omega) y3
      rcases hab with hab | hab
      · unfold FR at hab
        rw [hT.fst y t' e' n1, fstV] at hab
        split at hab
        · obtain ⟨k2, rfl⟩ := numV_iff.1 hab
          have : y + 1 ≠ e + 1 := by omega
          exact ⟨y + 1, by omega, by omega, k2, rfl⟩
        · omega
      · unfold NR at hab
        rw [hT.nxt y t' e' (by omega) n1] at hab
        obtain ⟨k2, rfl⟩ := numV_iff.1 hab
        have := nod_le n1
        exact ⟨e', by omega, by omega, k2, rfl⟩
    · rintro ⟨y, y1, y2, y3, rfl⟩
      have hye : y ≠ e := fun e1 => y3 (e1 ▸ hke)
      have hk1 : (l.getD (x + 1) ev0).kind ≠ 3 := by
        cases hks with
        | nil => omega
        | cons _ t2 i1 r _ g1 g2 => exact nod_kind g1
      exact ⟨nu l (x + 1), numV_iff.2 ⟨hk1, rfl⟩, nods_reach hT hks (Nat.succ_pos x) y (by omega) (by omega) y3⟩
/-- The siblings behind. -/
theorem sib_of {l : List Ev} {P : Pln} (hT : Tre l P) {x z e : Nat} {t : Tr} (h : Nod l z t e) (hx : x ∈ starts t.kids (z + 1)) (m : Nat) : (∃ b, NR P (nu l x) b ∧ Star (NR P) b m) ↔ ∃ y, y ∈ starts t.kids (z + 1) ∧ x < y ∧ m = nu l y := by
  cases h with
  | text _ h hk => simp [Tr.kids, starts] at hx
  | elem _ ks e h hk hks he hke =>
    simp only [Tr.kids] at hx ⊢
    have hxz := (starts_mem hks hx).1
    obtain ⟨t, r, g1, g2⟩ := starts_suffix hks hx
    unfold NR
    cases g1 with
    | cons _ _ i1 _ _ h1 h2 =>
      have hw := nod_w h1
      have hle := nod_le h1
      rw [hT.nxt x t i1 (by omega) h1]
      have e1 : ∀ y, y ∈ starts r i1 ↔ y ∈ starts ks (z + 1) ∧ x < y := by
        intro y
        have := g2 y
        simp only [starts, List.mem_cons] at this
        rw [← hw] at this
        constructor
        · intro hy
          have h3 := (starts_mem h2 hy).1
          exact ⟨(this.1 (.inr hy)).1, by omega⟩
        · rintro ⟨hy, hlt⟩
          exact (this.2 ⟨hy, by omega⟩).resolve_left (by omega)
      have e2 : (∃ y, y ∈ starts ks (z + 1) ∧ x < y ∧ m = nu l y) ↔ ∃ y, y ∈ starts r i1 ∧ m = nu l y :=
        ⟨fun ⟨y, a, b, c⟩ => ⟨y, (e1 y).2 ⟨a, b⟩, c⟩, fun ⟨y, a, c⟩ => ⟨y, ((e1 y).1 a).1, ((e1 y).1 a).2, c⟩⟩
      rw [e2]
      cases r with
      | nil =>
        cases h2 with
        | nil => exact ⟨fun ⟨b, h3, _⟩ => absurd hke (numV_iff.1 h3).1, fun ⟨y, hy, _⟩ => by simp [starts] at hy⟩
      | cons t2 r2 =>
        have hk1 : (l.getD i1 ev0).kind ≠ 3 := by
          cases h2 with
          | cons _ _ i2 _ _ k1 k2 => exact nod_kind k1
        have key := star_starts hT r2 h2 hke (by omega) m
        constructor
        · rintro ⟨b, h3, h4⟩
          rw [(numV_iff.1 h3).2] at h4
          exact key.1 h4
        · intro h3
          exact ⟨nu l i1, numV_iff.2 ⟨hk1, rfl⟩, key.2 h3⟩
end Go.Proofs.Ytpffjbbolaehpaa
end

section
set_option linter.unusedVariables false
set_option linter.unusedSimpArgs false
set_option maxRecDepth 100000
namespace Go.Proofs.Ytpffjbbolaehpaa
open Go Go.AX

def pWh (f : Flt) : Pth := .mk 7 [] [f]
def pF : Pth := .mk 2 [] []
def pN : Pth := .mk 3 [] []
def pS : Pth := .mk 1 [] []
def pNs : Pth := .mk 6 [pN] []
def pFNs : Pth := .mk 6 [.mk 5 [pF, pN] []] []
def pDn : Pth := .mk 4 [pF, pFNs] []
def pAx (f : Flt) : Nat → Pth
  | 0 => .mk 4 [pF, pNs, pWh f] []
  | 1 => .mk 4 [pDn, pWh f] []
  | 2 => .mk 4 [pN, pNs, pWh f] []
  | 3 => .mk 4 [.mk 5 [pS, pDn] [], pWh f] []
  | _ => pWh f

theorem where_ctr  : Ctr Try.prog 34 [.agg (fltL fB)] (.agg (pthL (pWh fB))) :=
  Ctr.mk Γ_ok Try.func34 (by kernel_rfl) Try.call34 [] (by kernel_rfl) (HT.walk Γ_ok mo_ok (⟨([] ++ []), sp34, [], [], .pure [] (.agg (pthL (pWh fB)))⟩ : Wk) 4000 (T := .ob ((6 : Nat) ≤ (6 : Nat)) (.ob ((7 : Int) = (7 : Int)) (.ob ((0 : Nat) = (0 : Nat)) (.ob (([] : List AV) = []) (.ob ((1 : Nat) = (1 : Nat)) (.ob ([AV.int .i64 (1 : Int), AV.str fB.nm.sp, AV.str fB.nm.lo, AV.str fB.val, AV.sl none (0 : Nat) [] .no, AV.sl none (0 : Nat) [] .no] = [AV.int .i64 (1 : Int), AV.str nm0.sp, AV.str nm0.lo, AV.str (ByteArray.mk #[]), AV.sl none (0 : Nat) [] .no, AV.sl none (0 : Nat) [] .no]) (.tt))))))) (by kernel_rfl) (by
    simp only [PT.holds, true_implies, Bool.false_eq_true, Bool.true_eq_false, false_implies, true_and, and_true]
    (repeat' first | exact rfl | omega | refine And.intro ?_ ?_)))
theorem axis0  : Ctr Try.prog 19 [.str (ByteArray.mk #[99, 104, 105, 108, 100]), .agg (fltL fB)] (.tup [.agg (pthL (pAx fB 0)), .bool true]) :=
  Ctr.mk Γ_ok Try.func19 (by kernel_rfl) Try.call19 [] (by kernel_rfl) (HT.walk Γ_ok mo_ok (⟨([(31, .call [] (.agg (pthL (pWh fB)))), (37, .call [] (.agg (pthL (pWh fB)))), (44, .call [] (.agg (pthL (pWh fB)))), (54, .call [] (.agg (pthL (pWh fB)))), (62, .call [] (.agg (pthL (pWh fB))))] ++ []), sp19, [], [], .pure [] (.tup [.agg (pthL (pAx fB 0)), .bool true])⟩ : Wk) 4000 (T := .ob ((3 : Nat) ≤ (3 : Nat)) (.ob ((3 : Nat) ≤ (3 : Nat)) (.ob ((3 : Nat) ≤ (3 : Nat)) (.ob ((3 : Nat) ≤ (3 : Nat)) (.ob ((3 : Nat) ≤ (3 : Nat)) (.split (false) (.ob ((6 : Nat) ≤ (6 : Nat)) (.ob (Ctr Try.prog 34 [AV.agg [AV.int .i64 (1 : Int), AV.str fB.nm.sp, AV.str fB.nm.lo, AV.str fB.val, AV.sl none (0 : Nat) [] .no, AV.sl none (0 : Nat) [] .no]] (AV.agg [AV.int .i64 (7 : Int), AV.sl none (0 : Nat) [] .no, AV.sl none (1 : Nat) [AV.int .i64 (1 : Int), AV.str nm0.sp, AV.str nm0.lo, AV.str (ByteArray.mk #[]), AV.sl none (0 : Nat) [] .no, AV.sl none (0 : Nat) [] .no] .no])) (.ob ((7 : Int) = (4 : Int)) (.ob ((0 : Nat) = (3 : Nat)) (.ob (([] : List AV) = [AV.int .i64 (2 : Int), AV.sl none (0 : Nat) [] .no, AV.sl none (0 : Nat) [] .no, AV.int .i64 (6 : Int), AV.sl none (1 : Nat) [AV.int .i64 (3 : Int), AV.sl none (0 : Nat) [] .no, AV.sl none (0 : Nat) [] .no] .no, AV.sl none (0 : Nat) [] .no, AV.int .i64 (7 : Int), AV.sl none (0 : Nat) [] .no, AV.sl none (1 : Nat) [AV.int .i64 (1 : Int), AV.str nm0.sp, AV.str nm0.lo, AV.str (ByteArray.mk #[]), AV.sl none (0 : Nat) [] .no, AV.sl none (0 : Nat) [] .no] .no]) (.ob ((1 : Nat) = (0 : Nat)) (.ob ([AV.int .i64 (1 : Int), AV.str nm0.sp, AV.str nm0.lo, AV.str (ByteArray.mk #[]), AV.sl none (0 : Nat) [] .no, AV.sl none (0 : Nat) [] .no] = []) (.ob (true = true) (.tt))))))))) (.split (true) (.ob ((3 : Nat) ≤ (3 : Nat)) (.ob ((3 : Nat) ≤ (3 : Nat)) (.ob ((6 : Nat) ≤ (6 : Nat)) (.ob (Ctr Try.prog 34 [AV.agg [AV.int .i64 (1 : Int), AV.str fB.nm.sp, AV.str fB.nm.lo, AV.str fB.val, AV.sl none (0 : Nat) [] .no, AV.sl none (0 : Nat) [] .no]] (AV.agg [AV.int .i64 (7 : Int), AV.sl none (0 : Nat) [] .no, AV.sl none (1 : Nat) [AV.int .i64 (1 : Int), AV.str nm0.sp, AV.str nm0.lo, AV.str (ByteArray.mk #[]), AV.sl none (0 : Nat) [] .no, AV.sl none (0 : Nat) [] .no] .no])) (.ob ((4 : Int) = (4 : Int)) (.ob ((3 : Nat) = (3 : Nat)) (.ob ([AV.int .i64 (2 : Int), AV.sl none (0 : Nat) [] .no, AV.sl none (0 : Nat) [] .no, AV.int .i64 (6 : Int), AV.sl none (1 : Nat) [AV.int .i64 (3 : Int), AV.sl none (0 : Nat) [] .no, AV.sl none (0 : Nat) [] .no] .no, AV.sl none (0 : Nat) [] .no, AV.int .i64 (7 : Int), AV.sl none (0 : Nat) [] .no, AV.sl none (1 : Nat) [AV.int .i64 (1 : Int), AV.str nm0.sp, AV.str nm0.lo, AV.str (ByteArray.mk #[]), AV.sl none (0 : Nat) [] .no, AV.sl none (0 : Nat) [] .no] .no] = [AV.int .i64 (2 : Int), AV.sl none (0 : Nat) [] .no, AV.sl none (0 : Nat) [] .no, AV.int .i64 (6 : Int), AV.sl none (1 : Nat) [AV.int .i64 (3 : Int), AV.sl none (0 : Nat) [] .no, AV.sl none (0 : Nat) [] .no] .no, AV.sl none (0 : Nat) [] .no, AV.int .i64 (7 : Int), AV.sl none (0 : Nat) [] .no, AV.sl none (1 : Nat) [AV.int .i64 (1 : Int), AV.str nm0.sp, AV.str nm0.lo, AV.str (ByteArray.mk #[]), AV.sl none (0 : Nat) [] .no, AV.sl none (0 : Nat) [] .no] .no]) (.ob ((0 : Nat) = (0 : Nat)) (.ob (([] : List AV) = []) (.ob (true = true) (.tt))))))))))) (.split (false) (.ob ((3 : Nat) ≤ (3 : Nat)) (.ob ((6 : Nat) ≤ (6 : Nat)) (.ob (Ctr Try.prog 34 [AV.agg [AV.int .i64 (1 : Int), AV.str fB.nm.sp, AV.str fB.nm.lo, AV.str fB.val, AV.sl none (0 : Nat) [] .no, AV.sl none (0 : Nat) [] .no]] (AV.agg [AV.int .i64 (7 : Int), AV.sl none (0 : Nat) [] .no, AV.sl none (1 : Nat) [AV.int .i64 (1 : Int), AV.str nm0.sp, AV.str nm0.lo, AV.str (ByteArray.mk #[]), AV.sl none (0 : Nat) [] .no, AV.sl none (0 : Nat) [] .no] .no])) (.ob ((4 : Int) = (4 : Int)) (.ob ((2 : Nat) = (3 : Nat)) (.ob ([AV.int .i64 (4 : Int), AV.sl none (2 : Nat) [AV.int .i64 (2 : Int), AV.sl none (0 : Nat) [] .no, AV.sl none (0 : Nat) [] .no, AV.int .i64 (6 : Int), AV.sl none (1 : Nat) [AV.int .i64 (5 : Int), AV.sl none (2 : Nat) [AV.int .i64 (2 : Int), AV.sl none (0 : Nat) [] .no, AV.sl none (0 : Nat) [] .no, AV.int .i64 (3 : Int), AV.sl none (0 : Nat) [] .no, AV.sl none (0 : Nat) [] .no] .no, AV.sl none (0 : Nat) [] .no] .no, AV.sl none (0 : Nat) [] .no] .no, AV.sl none (0 : Nat) [] .no, AV.int .i64 (7 : Int), AV.sl none (0 : Nat) [] .no, AV.sl none (1 : Nat) [AV.int .i64 (1 : Int), AV.str nm0.sp, AV.str nm0.lo, AV.str (ByteArray.mk #[]), AV.sl none (0 : Nat) [] .no, AV.sl none (0 : Nat) [] .no] .no] = [AV.int .i64 (2 : Int), AV.sl none (0 : Nat) [] .no, AV.sl none (0 : Nat) [] .no, AV.int .i64 (6 : Int), AV.sl none (1 : Nat) [AV.int .i64 (3 : Int), AV.sl none (0 : Nat) [] .no, AV.sl none (0 : Nat) [] .no] .no, AV.sl none (0 : Nat) [] .no, AV.int .i64 (7 : Int), AV.sl none (0 : Nat) [] .no, AV.sl none (1 : Nat) [AV.int .i64 (1 : Int), AV.str nm0.sp, AV.str nm0.lo, AV.str (ByteArray.mk #[]), AV.sl none (0 : Nat) [] .no, AV.sl none (0 : Nat) [] .no] .no]) (.ob ((0 : Nat) = (0 : Nat)) (.ob (([] : List AV) = []) (.ob (true = true) (.tt)))))))))) (.split (false) (.ob ((3 : Nat) ≤ (3 : Nat)) (.ob ((3 : Nat) ≤ (3 : Nat)) (.ob ((6 : Nat) ≤ (6 : Nat)) (.ob (Ctr Try.prog 34 [AV.agg [AV.int .i64 (1 : Int), AV.str fB.nm.sp, AV.str fB.nm.lo, AV.str fB.val, AV.sl none (0 : Nat) [] .no, AV.sl none (0 : Nat) [] .no]] (AV.agg [AV.int .i64 (7 : Int), AV.sl none (0 : Nat) [] .no, AV.sl none (1 : Nat) [AV.int .i64 (1 : Int), AV.str nm0.sp, AV.str nm0.lo, AV.str (ByteArray.mk #[]), AV.sl none (0 : Nat) [] .no, AV.sl none (0 : Nat) [] .no] .no])) (.ob ((4 : Int) = (4 : Int)) (.ob ((2 : Nat) = (3 : Nat)) (.ob ([AV.int .i64 (5 : Int), AV.sl none (2 : Nat) [AV.int .i64 (1 : Int), AV.sl none (0 : Nat) [] .no, AV.sl none (0 : Nat) [] .no, AV.int .i64 (4 : Int), AV.sl none (2 : Nat) [AV.int .i64 (2 : Int), AV.sl none (0 : Nat) [] .no, AV.sl none (0 : Nat) [] .no, AV.int .i64 (6 : Int), AV.sl none (1 : Nat) [AV.int .i64 (5 : Int), AV.sl none (2 : Nat) [AV.int .i64 (2 : Int), AV.sl none (0 : Nat) [] .no, AV.sl none (0 : Nat) [] .no, AV.int .i64 (3 : Int), AV.sl none (0 : Nat) [] .no, AV.sl none (0 : Nat) [] .no] .no, AV.sl none (0 : Nat) [] .no] .no, AV.sl none (0 : Nat) [] .no] .no, AV.sl none (0 : Nat) [] .no] .no, AV.sl none (0 : Nat) [] .no, AV.int .i64 (7 : Int), AV.sl none (0 : Nat) [] .no, AV.sl none (1 : Nat) [AV.int .i64 (1 : Int), AV.str nm0.sp, AV.str nm0.lo, AV.str (ByteArray.mk #[]), AV.sl none (0 : Nat) [] .no, AV.sl none (0 : Nat) [] .no] .no] = [AV.int .i64 (2 : Int), AV.sl none (0 : Nat) [] .no, AV.sl none (0 : Nat) [] .no, AV.int .i64 (6 : Int), AV.sl none (1 : Nat) [AV.int .i64 (3 : Int), AV.sl none (0 : Nat) [] .no, AV.sl none (0 : Nat) [] .no] .no, AV.sl none (0 : Nat) [] .no, AV.int .i64 (7 : Int), AV.sl none (0 : Nat) [] .no, AV.sl none (1 : Nat) [AV.int .i64 (1 : Int), AV.str nm0.sp, AV.str nm0.lo, AV.str (ByteArray.mk #[]), AV.sl none (0 : Nat) [] .no, AV.sl none (0 : Nat) [] .no] .no]) (.ob ((0 : Nat) = (0 : Nat)) (.ob (([] : List AV) = []) (.ob (true = true) (.tt))))))))))) (.split (false) (.ob ((3 : Nat) ≤ (3 : Nat)) (.ob ((3 : Nat) ≤ (3 : Nat)) (.ob ((6 : Nat) ≤ (6 : Nat)) (.ob (Ctr Try.prog 34 [AV.agg [AV.int .i64 (1 : Int), AV.str fB.nm.sp, AV.str fB.nm.lo, AV.str fB.val, AV.sl none (0 : Nat) [] .no, AV.sl none (0 : Nat) [] .no]] (AV.agg [AV.int .i64 (7 : Int), AV.sl none (0 : Nat) [] .no, AV.sl none (1 : Nat) [AV.int .i64 (1 : Int), AV.str nm0.sp, AV.str nm0.lo, AV.str (ByteArray.mk #[]), AV.sl none (0 : Nat) [] .no, AV.sl none (0 : Nat) [] .no] .no])) (.ob ((4 : Int) = (4 : Int)) (.ob ((3 : Nat) = (3 : Nat)) (.ob ([AV.int .i64 (3 : Int), AV.sl none (0 : Nat) [] .no, AV.sl none (0 : Nat) [] .no, AV.int .i64 (6 : Int), AV.sl none (1 : Nat) [AV.int .i64 (3 : Int), AV.sl none (0 : Nat) [] .no, AV.sl none (0 : Nat) [] .no] .no, AV.sl none (0 : Nat) [] .no, AV.int .i64 (7 : Int), AV.sl none (0 : Nat) [] .no, AV.sl none (1 : Nat) [AV.int .i64 (1 : Int), AV.str nm0.sp, AV.str nm0.lo, AV.str (ByteArray.mk #[]), AV.sl none (0 : Nat) [] .no, AV.sl none (0 : Nat) [] .no] .no] = [AV.int .i64 (2 : Int), AV.sl none (0 : Nat) [] .no, AV.sl none (0 : Nat) [] .no, AV.int .i64 (6 : Int), AV.sl none (1 : Nat) [AV.int .i64 (3 : Int), AV.sl none (0 : Nat) [] .no, AV.sl none (0 : Nat) [] .no] .no, AV.sl none (0 : Nat) [] .no, AV.int .i64 (7 : Int), AV.sl none (0 : Nat) [] .no, AV.sl none (1 : Nat) [AV.int .i64 (1 : Int), AV.str nm0.sp, AV.str nm0.lo, AV.str (ByteArray.mk #[]), AV.sl none (0 : Nat) [] .no, AV.sl none (0 : Nat) [] .no] .no]) (.ob ((0 : Nat) = (0 : Nat)) (.ob (([] : List AV) = []) (.ob (true = true) (.tt))))))))))) (.ob ((0 : Int) = (4 : Int)) (.ob ((0 : Nat) = (3 : Nat)) (.ob (([] : List AV) = [AV.int .i64 (2 : Int), AV.sl none (0 : Nat) [] .no, AV.sl none (0 : Nat) [] .no, AV.int .i64 (6 : Int), AV.sl none (1 : Nat) [AV.int .i64 (3 : Int), AV.sl none (0 : Nat) [] .no, AV.sl none (0 : Nat) [] .no] .no, AV.sl none (0 : Nat) [] .no, AV.int .i64 (7 : Int), AV.sl none (0 : Nat) [] .no, AV.sl none (1 : Nat) [AV.int .i64 (1 : Int), AV.str nm0.sp, AV.str nm0.lo, AV.str (ByteArray.mk #[]), AV.sl none (0 : Nat) [] .no, AV.sl none (0 : Nat) [] .no] .no]) (.ob ((0 : Nat) = (0 : Nat)) (.ob (([] : List AV) = []) (.ob (false = true) (.tt))))))))))))))))) (by kernel_rfl) (by
    simp only [PT.holds, true_implies, Bool.false_eq_true, Bool.true_eq_false, false_implies, true_and, and_true]
    (repeat' first | exact rfl | exact where_ctr | omega | refine And.intro ?_ ?_)))
theorem axis1  : Ctr Try.prog 19 [.str (ByteArray.mk #[100, 101, 115, 99, 101, 110, 100, 97, 110, 116]), .agg (fltL fB)] (.tup [.agg (pthL (pAx fB 1)), .bool true]) :=
  Ctr.mk Γ_ok Try.func19 (by kernel_rfl) Try.call19 [] (by kernel_rfl) (HT.walk Γ_ok mo_ok (⟨([(31, .call [] (.agg (pthL (pWh fB)))), (37, .call [] (.agg (pthL (pWh fB)))), (44, .call [] (.agg (pthL (pWh fB)))), (54, .call [] (.agg (pthL (pWh fB)))), (62, .call [] (.agg (pthL (pWh fB))))] ++ []), sp19, [], [], .pure [] (.tup [.agg (pthL (pAx fB 1)), .bool true])⟩ : Wk) 4000 (T := .ob ((3 : Nat) ≤ (3 : Nat)) (.ob ((3 : Nat) ≤ (3 : Nat)) (.ob ((3 : Nat) ≤ (3 : Nat)) (.ob ((3 : Nat) ≤ (3 : Nat)) (.ob ((3 : Nat) ≤ (3 : Nat)) (.split (false) (.ob ((6 : Nat) ≤ (6 : Nat)) (.ob (Ctr Try.prog 34 [AV.agg [AV.int .i64 (1 : Int), AV.str fB.nm.sp, AV.str fB.nm.lo, AV.str fB.val, AV.sl none (0 : Nat) [] .no, AV.sl none (0 : Nat) [] .no]] (AV.agg [AV.int .i64 (7 : Int), AV.sl none (0 : Nat) [] .no, AV.sl none (1 : Nat) [AV.int .i64 (1 : Int), AV.str nm0.sp, AV.str nm0.lo, AV.str (ByteArray.mk #[]), AV.sl none (0 : Nat) [] .no, AV.sl none (0 : Nat) [] .no] .no])) (.ob ((7 : Int) = (4 : Int)) (.ob ((0 : Nat) = (2 : Nat)) (.ob (([] : List AV) = [AV.int .i64 (4 : Int), AV.sl none (2 : Nat) [AV.int .i64 (2 : Int), AV.sl none (0 : Nat) [] .no, AV.sl none (0 : Nat) [] .no, AV.int .i64 (6 : Int), AV.sl none (1 : Nat) [AV.int .i64 (5 : Int), AV.sl none (2 : Nat) [AV.int .i64 (2 : Int), AV.sl none (0 : Nat) [] .no, AV.sl none (0 : Nat) [] .no, AV.int .i64 (3 : Int), AV.sl none (0 : Nat) [] .no, AV.sl none (0 : Nat) [] .no] .no, AV.sl none (0 : Nat) [] .no] .no, AV.sl none (0 : Nat) [] .no] .no, AV.sl none (0 : Nat) [] .no, AV.int .i64 (7 : Int), AV.sl none (0 : Nat) [] .no, AV.sl none (1 : Nat) [AV.int .i64 (1 : Int), AV.str nm0.sp, AV.str nm0.lo, AV.str (ByteArray.mk #[]), AV.sl none (0 : Nat) [] .no, AV.sl none (0 : Nat) [] .no] .no]) (.ob ((1 : Nat) = (0 : Nat)) (.ob ([AV.int .i64 (1 : Int), AV.str nm0.sp, AV.str nm0.lo, AV.str (ByteArray.mk #[]), AV.sl none (0 : Nat) [] .no, AV.sl none (0 : Nat) [] .no] = []) (.ob (true = true) (.tt))))))))) (.split (false) (.ob ((3 : Nat) ≤ (3 : Nat)) (.ob ((3 : Nat) ≤ (3 : Nat)) (.ob ((6 : Nat) ≤ (6 : Nat)) (.ob (Ctr Try.prog 34 [AV.agg [AV.int .i64 (1 : Int), AV.str fB.nm.sp, AV.str fB.nm.lo, AV.str fB.val, AV.sl none (0 : Nat) [] .no, AV.sl none (0 : Nat) [] .no]] (AV.agg [AV.int .i64 (7 : Int), AV.sl none (0 : Nat) [] .no, AV.sl none (1 : Nat) [AV.int .i64 (1 : Int), AV.str nm0.sp, AV.str nm0.lo, AV.str (ByteArray.mk #[]), AV.sl none (0 : Nat) [] .no, AV.sl none (0 : Nat) [] .no] .no])) (.ob ((4 : Int) = (4 : Int)) (.ob ((3 : Nat) = (2 : Nat)) (.ob ([AV.int .i64 (2 : Int), AV.sl none (0 : Nat) [] .no, AV.sl none (0 : Nat) [] .no, AV.int .i64 (6 : Int), AV.sl none (1 : Nat) [AV.int .i64 (3 : Int), AV.sl none (0 : Nat) [] .no, AV.sl none (0 : Nat) [] .no] .no, AV.sl none (0 : Nat) [] .no, AV.int .i64 (7 : Int), AV.sl none (0 : Nat) [] .no, AV.sl none (1 : Nat) [AV.int .i64 (1 : Int), AV.str nm0.sp, AV.str nm0.lo, AV.str (ByteArray.mk #[]), AV.sl none (0 : Nat) [] .no, AV.sl none (0 : Nat) [] .no] .no] = [AV.int .i64 (4 : Int), AV.sl none (2 : Nat) [AV.int .i64 (2 : Int), AV.sl none (0 : Nat) [] .no, AV.sl none (0 : Nat) [] .no, AV.int .i64 (6 : Int), AV.sl none (1 : Nat) [AV.int .i64 (5 : Int), AV.sl none (2 : Nat) [AV.int .i64 (2 : Int), AV.sl none (0 : Nat) [] .no, AV.sl none (0 : Nat) [] .no, AV.int .i64 (3 : Int), AV.sl none (0 : Nat) [] .no, AV.sl none (0 : Nat) [] .no] .no, AV.sl none (0 : Nat) [] .no] .no, AV.sl none (0 : Nat) [] .no] .no, AV.sl none (0 : Nat) [] .no, AV.int .i64 (7 : Int), AV.sl none (0 : Nat) [] .no, AV.sl none (1 : Nat) [AV.int .i64 (1 : Int), AV.str nm0.sp, AV.str nm0.lo, AV.str (ByteArray.mk #[]), AV.sl none (0 : Nat) [] .no, AV.sl none (0 : Nat) [] .no] .no]) (.ob ((0 : Nat) = (0 : Nat)) (.ob (([] : List AV) = []) (.ob (true = true) (.tt))))))))))) (.split (true) (.ob ((3 : Nat) ≤ (3 : Nat)) (.ob ((6 : Nat) ≤ (6 : Nat)) (.ob (Ctr Try.prog 34 [AV.agg [AV.int .i64 (1 : Int), AV.str fB.nm.sp, AV.str fB.nm.lo, AV.str fB.val, AV.sl none (0 : Nat) [] .no, AV.sl none (0 : Nat) [] .no]] (AV.agg [AV.int .i64 (7 : Int), AV.sl none (0 : Nat) [] .no, AV.sl none (1 : Nat) [AV.int .i64 (1 : Int), AV.str nm0.sp, AV.str nm0.lo, AV.str (ByteArray.mk #[]), AV.sl none (0 : Nat) [] .no, AV.sl none (0 : Nat) [] .no] .no])) (.ob ((4 : Int) = (4 : Int)) (.ob ((2 : Nat) = (2 : Nat)) (.ob ([AV.int .i64 (4 : Int), AV.sl none (2 : Nat) [AV.int .i64 (2 : Int), AV.sl none (0 : Nat) [] .no, AV.sl none (0 : Nat) [] .no, AV.int .i64 (6 : Int), AV.sl none (1 : Nat) [AV.int .i64 (5 : Int), AV.sl none (2 : Nat) [AV.int .i64 (2 : Int), AV.sl none (0 : Nat) [] .no, AV.sl none (0 : Nat) [] .no, AV.int .i64 (3 : Int), AV.sl none (0 : Nat) [] .no, AV.sl none (0 : Nat) [] .no] .no, AV.sl none (0 : Nat) [] .no] .no, AV.sl none (0 : Nat) [] .no] .no, AV.sl none (0 : Nat) [] .no, AV.int .i64 (7 : Int), AV.sl none (0 : Nat) [] .no, AV.sl none (1 : Nat) [AV.int .i64 (1 : Int), AV.str nm0.sp, AV.str nm0.lo, AV.str (ByteArray.mk #[]), AV.sl none (0 : Nat) [] .no, AV.sl none (0 : Nat) [] .no] .no] = [AV.int .i64 (4 : Int), AV.sl none (2 : Nat) [AV.int .i64 (2 : Int), AV.sl none (0 : Nat) [] .no, AV.sl none (0 : Nat) [] .no, AV.int .i64 (6 : Int), AV.sl none (1 : Nat) [AV.int .i64 (5 : Int), AV.sl none (2 : Nat) [AV.int .i64 (2 : Int), AV.sl none (0 : Nat) [] .no, AV.sl none (0 : Nat) [] .no, AV.int .i64 (3 : Int), AV.sl none (0 : Nat) [] .no, AV.sl none (0 : Nat) [] .no] .no, AV.sl none (0 : Nat) [] .no] .no, AV.sl none (0 : Nat) [] .no] .no, AV.sl none (0 : Nat) [] .no, AV.int .i64 (7 : Int), AV.sl none (0 : Nat) [] .no, AV.sl none (1 : Nat) [AV.int .i64 (1 : Int), AV.str nm0.sp, AV.str nm0.lo, AV.str (ByteArray.mk #[]), AV.sl none (0 : Nat) [] .no, AV.sl none (0 : Nat) [] .no] .no]) (.ob ((0 : Nat) = (0 : Nat)) (.ob (([] : List AV) = []) (.ob (true = true) (.tt)))))))))) (.split (false) (.ob ((3 : Nat) ≤ (3 : Nat)) (.ob ((3 : Nat) ≤ (3 : Nat)) (.ob ((6 : Nat) ≤ (6 : Nat)) (.ob (Ctr Try.prog 34 [AV.agg [AV.int .i64 (1 : Int), AV.str fB.nm.sp, AV.str fB.nm.lo, AV.str fB.val, AV.sl none (0 : Nat) [] .no, AV.sl none (0 : Nat) [] .no]] (AV.agg [AV.int .i64 (7 : Int), AV.sl none (0 : Nat) [] .no, AV.sl none (1 : Nat) [AV.int .i64 (1 : Int), AV.str nm0.sp, AV.str nm0.lo, AV.str (ByteArray.mk #[]), AV.sl none (0 : Nat) [] .no, AV.sl none (0 : Nat) [] .no] .no])) (.ob ((4 : Int) = (4 : Int)) (.ob ((2 : Nat) = (2 : Nat)) (.ob ([AV.int .i64 (5 : Int), AV.sl none (2 : Nat) [AV.int .i64 (1 : Int), AV.sl none (0 : Nat) [] .no, AV.sl none (0 : Nat) [] .no, AV.int .i64 (4 : Int), AV.sl none (2 : Nat) [AV.int .i64 (2 : Int), AV.sl none (0 : Nat) [] .no, AV.sl none (0 : Nat) [] .no, AV.int .i64 (6 : Int), AV.sl none (1 : Nat) [AV.int .i64 (5 : Int), AV.sl none (2 : Nat) [AV.int .i64 (2 : Int), AV.sl none (0 : Nat) [] .no, AV.sl none (0 : Nat) [] .no, AV.int .i64 (3 : Int), AV.sl none (0 : Nat) [] .no, AV.sl none (0 : Nat) [] .no] .no, AV.sl none (0 : Nat) [] .no] .no, AV.sl none (0 : Nat) [] .no] .no, AV.sl none (0 : Nat) [] .no] .no, AV.sl none (0 : Nat) [] .no, AV.int .i64 (7 : Int), AV.sl none (0 : Nat) [] .no, AV.sl none (1 : Nat) [AV.int .i64 (1 : Int), AV.str nm0.sp, AV.str nm0.lo, AV.str (ByteArray.mk #[]), AV.sl none (0 : Nat) [] .no, AV.sl none (0 : Nat) [] .no] .no] = [AV.int .i64 (4 : Int), AV.sl none (2 : Nat) [AV.int .i64 (2 : Int), AV.sl none (0 : Nat) [] .no, AV.sl none (0 : Nat) [] .no, AV.int .i64 (6 : Int), AV.sl none (1 : Nat) [AV.int .i64 (5 : Int), AV.sl none (2 : Nat) [AV.int .i64 (2 : Int), AV.sl none (0 : Nat) [] .no, AV.sl none (0 : Nat) [] .no, AV.int .i64 (3 : Int), AV.sl none (0 : Nat) [] .no, AV.sl none (0 : Nat) [] .no] .no, AV.sl none (0 : Nat) [] .no] .no, AV.sl none (0 : Nat) [] .no] .no, AV.sl none (0 : Nat) [] .no, AV.int .i64 (7 : Int), AV.sl none (0 : Nat) [] .no, AV.sl none (1 : Nat) [AV.int .i64 (1 : Int), AV.str nm0.sp, AV.str nm0.lo, AV.str (ByteArray.mk #[]), AV.sl none (0 : Nat) [] .no, AV.sl none (0 : Nat) [] .no] .no]) (.ob ((0 : Nat) = (0 : Nat)) (.ob (([] : List AV) = []) (.ob (true = true) (.tt))))))))))) (.split (false) (.ob ((3 : Nat) ≤ (3 : Nat)) (.ob ((3 : Nat) ≤ (3 : Nat)) (.ob ((6 : Nat) ≤ (6 : Nat)) (.ob (Ctr Try.prog 34 [AV.agg [AV.int .i64 (1 : Int), AV.str fB.nm.sp, AV.str fB.nm.lo, AV.str fB.val, AV.sl none (0 : Nat) [] .no, AV.sl none (0 : Nat) [] .no]] (AV.agg [AV.int .i64 (7 : Int), AV.sl none (0 : Nat) [] .no, AV.sl none (1 : Nat) [AV.int .i64 (1 : Int), AV.str nm0.sp, AV.str nm0.lo, AV.str (ByteArray.mk #[]), AV.sl none (0 : Nat) [] .no, AV.sl none (0 : Nat) [] .no] .no])) (.ob ((4 : Int) = (4 : Int)) (.ob ((3 : Nat) = (2 : Nat)) (.ob ([AV.int .i64 (3 : Int), AV.sl none (0 : Nat) [] .no, AV.sl none (0 : Nat) [] .no, AV.int .i64 (6 : Int), AV.sl none (1 : Nat) [AV.int .i64 (3 : Int), AV.sl none (0 : Nat) [] .no, AV.sl none (0 : Nat) [] .no] .no, AV.sl none (0 : Nat) [] .no, AV.int .i64 (7 : Int), AV.sl none (0 : Nat) [] .no, AV.sl none (1 : Nat) [AV.int .i64 (1 : Int), AV.str nm0.sp, AV.str nm0.lo, AV.str (ByteArray.mk #[]), AV.sl none (0 : Nat) [] .no, AV.sl none (0 : Nat) [] .no] .no] = [AV.int .i64 (4 : Int), AV.sl none (2 : Nat) [AV.int .i64 (2 : Int), AV.sl none (0 : Nat) [] .no, AV.sl none (0 : Nat) [] .no, AV.int .i64 (6 : Int), AV.sl none (1 : Nat) [AV.int .i64 (5 : Int), AV.sl none (2 : Nat) [AV.int .i64 (2 : Int), AV.sl none (0 : Nat) [] .no, AV.sl none (0 : Nat) [] .no, AV.int .i64 (3 : Int), AV.sl none (0 : Nat) [] .no, AV.sl none (0 : Nat) [] .no] .no, AV.sl none (0 : Nat) [] .no] .no, AV.sl none (0 : Nat) [] .no] .no, AV.sl none (0 : Nat) [] .no, AV.int .i64 (7 : Int), AV.sl none (0 : Nat) [] .no, AV.sl none (1 : Nat) [AV.int .i64 (1 : Int), AV.str nm0.sp, AV.str nm0.lo, AV.str (ByteArray.mk #[]), AV.sl none (0 : Nat) [] .no, AV.sl none (0 : Nat) [] .no] .no]) (.ob ((0 : Nat) = (0 : Nat)) (.ob (([] : List AV) = []) (.ob (true = true) (.tt))))))))))) (.ob ((0 : Int) = (4 : Int)) (.ob ((0 : Nat) = (2 : Nat)) (.ob (([] : List AV) = [AV.int .i64 (4 : Int), AV.sl none (2 : Nat) [AV.int .i64 (2 : Int), AV.sl none (0 : Nat) [] .no, AV.sl none (0 : Nat) [] .no, AV.int .i64 (6 : Int), AV.sl none (1 : Nat) [AV.int .i64 (5 : Int), AV.sl none (2 : Nat) [AV.int .i64 (2 : Int), AV.sl none (0 : Nat) [] .no, AV.sl none (0 : Nat) [] .no, AV.int .i64 (3 : Int), AV.sl none (0 : Nat) [] .no, AV.sl none (0 : Nat) [] .no] .no, AV.sl none (0 : Nat) [] .no] .no, AV.sl none (0 : Nat) [] .no] .no, AV.sl none (0 : Nat) [] .no, AV.int .i64 (7 : Int), AV.sl none (0 : Nat) [] .no, AV.sl none (1 : Nat) [AV.int .i64 (1 : Int), AV.str nm0.sp, AV.str nm0.lo, AV.str (ByteArray.mk #[]), AV.sl none (0 : Nat) [] .no, AV.sl none (0 : Nat) [] .no] .no]) (.ob ((0 : Nat) = (0 : Nat)) (.ob (([] : List AV) = []) (.ob (false = true) (.tt))))))))))))))))) (by kernel_rfl) (by
    simp only [PT.holds, true_implies, Bool.false_eq_true, Bool.true_eq_false, false_implies, true_and, and_true]
    (repeat' first | exact rfl | exact where_ctr | omega | refine And.intro ?_ ?_)))
theorem axis2  : Ctr Try.prog 19 [.str (ByteArray.mk #[102, 111, 108, 108, 111, 119, 105, 110, 103, 45, 115, 105, 98, 108, 105, 110, 103]), .agg (fltL fB)] (.tup [.agg (pthL (pAx fB 2)), .bool true]) :=
  Ctr.mk Γ_ok Try.func19 (by kernel_rfl) Try.call19 [] (by kernel_rfl) (HT.walk Γ_ok mo_ok (⟨([(31, .call [] (.agg (pthL (pWh fB)))), (37, .call [] (.agg (pthL (pWh fB)))), (44, .call [] (.agg (pthL (pWh fB)))), (54, .call [] (.agg (pthL (pWh fB)))), (62, .call [] (.agg (pthL (pWh fB))))] ++ []), sp19, [], [], .pure [] (.tup [.agg (pthL (pAx fB 2)), .bool true])⟩ : Wk) 4000 (T := .ob ((3 : Nat) ≤ (3 : Nat)) (.ob ((3 : Nat) ≤ (3 : Nat)) (.ob ((3 : Nat) ≤ (3 : Nat)) (.ob ((3 : Nat) ≤ (3 : Nat)) (.ob ((3 : Nat) ≤ (3 : Nat)) (.split (false) (.ob ((6 : Nat) ≤ (6 : Nat)) (.ob (Ctr Try.prog 34 [AV.agg [AV.int .i64 (1 : Int), AV.str fB.nm.sp, AV.str fB.nm.lo, AV.str fB.val, AV.sl none (0 : Nat) [] .no, AV.sl none (0 : Nat) [] .no]] (AV.agg [AV.int .i64 (7 : Int), AV.sl none (0 : Nat) [] .no, AV.sl none (1 : Nat) [AV.int .i64 (1 : Int), AV.str nm0.sp, AV.str nm0.lo, AV.str (ByteArray.mk #[]), AV.sl none (0 : Nat) [] .no, AV.sl none (0 : Nat) [] .no] .no])) (.ob ((7 : Int) = (4 : Int)) (.ob ((0 : Nat) = (3 : Nat)) (.ob (([] : List AV) = [AV.int .i64 (3 : Int), AV.sl none (0 : Nat) [] .no, AV.sl none (0 : Nat) [] .no, AV.int .i64 (6 : Int), AV.sl none (1 : Nat) [AV.int .i64 (3 : Int), AV.sl none (0 : Nat) [] .no, AV.sl none (0 : Nat) [] .no] .no, AV.sl none (0 : Nat) [] .no, AV.int .i64 (7 : Int), AV.sl none (0 : Nat) [] .no, AV.sl none (1 : Nat) [AV.int .i64 (1 : Int), AV.str nm0.sp, AV.str nm0.lo, AV.str (ByteArray.mk #[]), AV.sl none (0 : Nat) [] .no, AV.sl none (0 : Nat) [] .no] .no]) (.ob ((1 : Nat) = (0 : Nat)) (.ob ([AV.int .i64 (1 : Int), AV.str nm0.sp, AV.str nm0.lo, AV.str (ByteArray.mk #[]), AV.sl none (0 : Nat) [] .no, AV.sl none (0 : Nat) [] .no] = []) (.ob (true = true) (.tt))))))))) (.split (false) (.ob ((3 : Nat) ≤ (3 : Nat)) (.ob ((3 : Nat) ≤ (3 : Nat)) (.ob ((6 : Nat) ≤ (6 : Nat)) (.ob (Ctr Try.prog 34 [AV.agg [AV.int .i64 (1 : Int), AV.str fB.nm.sp, AV.str fB.nm.lo, AV.str fB.val, AV.sl none (0 : Nat) [] .no, AV.sl none (0 : Nat) [] .no]] (AV.agg [AV.int .i64 (7 : Int), AV.sl none (0 : Nat) [] .no, AV.sl none (1 : Nat) [AV.int .i64 (1 : Int), AV.str nm0.sp, AV.str nm0.lo, AV.str (ByteArray.mk #[]), AV.sl none (0 : Nat) [] .no, AV.sl none (0 : Nat) [] .no] .no])) (.ob ((4 : Int) = (4 : Int)) (.ob ((3 : Nat) = (3 : Nat)) (.ob ([AV.int .i64 (2 : Int), AV.sl none (0 : Nat) [] .no, AV.sl none (0 : Nat) [] .no, AV.int .i64 (6 : Int), AV.sl none (1 : Nat) [AV.int .i64 (3 : Int), AV.sl none (0 : Nat) [] .no, AV.sl none (0 : Nat) [] .no] .no, AV.sl none (0 : Nat) [] .no, AV.int .i64 (7 : Int), AV.sl none (0 : Nat) [] .no, AV.sl none (1 : Nat) [AV.int .i64 (1 : Int), AV.str nm0.sp, AV.str nm0.lo, AV.str (ByteArray.mk #[]), AV.sl none (0 : Nat) [] .no, AV.sl none (0 : Nat) [] .no] .no] = [AV.int .i64 (3 : Int), AV.sl none (0 : Nat) [] .no, AV.sl none (0 : Nat) [] .no, AV.int .i64 (6 : Int), AV.sl none (1 : Nat) [AV.int .i64 (3 : Int), AV.sl none (0 : Nat) [] .no, AV.sl none (0 : Nat) [] .no] .no, AV.sl none (0 : Nat) [] .no, AV.int .i64 (7 : Int), AV.sl none (0 : Nat) [] .no, AV.sl none (1 : Nat) [AV.int .i64 (1 : Int), AV.str nm0.sp, AV.str nm0.lo, AV.str (ByteArray.mk #[]), AV.sl none (0 : Nat) [] .no, AV.sl none (0 : Nat) [] .no] .no]) (.ob ((0 : Nat) = (0 : Nat)) (.ob (([] : List AV) = []) (.ob (true = true) (.tt))))))))))) (.split (false) (.ob ((3 : Nat) ≤ (3 : Nat)) (.ob ((6 : Nat) ≤ (6 : Nat)) (.ob (Ctr Try.prog 34 [AV.agg [AV.int .i64 (1 : Int), AV.str fB.nm.sp, AV.str fB.nm.lo, AV.str fB.val, AV.sl none (0 : Nat) [] .no, AV.sl none (0 : Nat) [] .no]] (AV.agg [AV.int .i64 (7 : Int), AV.sl none (0 : Nat) [] .no, AV.sl none (1 : Nat) [AV.int .i64 (1 : Int), AV.str nm0.sp, AV.str nm0.lo, AV.str (ByteArray.mk #[]), AV.sl none (0 : Nat) [] .no, AV.sl none (0 : Nat) [] .no] .no])) (.ob ((4 : Int) = (4 : Int)) (.ob ((2 : Nat) = (3 : Nat)) (.ob ([AV.int .i64 (4 : Int), AV.sl none (2 : Nat) [AV.int .i64 (2 : Int), AV.sl none (0 : Nat) [] .no, AV.sl none (0 : Nat) [] .no, AV.int .i64 (6 : Int), AV.sl none (1 : Nat) [AV.int .i64 (5 : Int), AV.sl none (2 : Nat) [AV.int .i64 (2 : Int), AV.sl none (0 : Nat) [] .no, AV.sl none (0 : Nat) [] .no, AV.int .i64 (3 : Int), AV.sl none (0 : Nat) [] .no, AV.sl none (0 : Nat) [] .no] .no, AV.sl none (0 : Nat) [] .no] .no, AV.sl none (0 : Nat) [] .no] .no, AV.sl none (0 : Nat) [] .no, AV.int .i64 (7 : Int), AV.sl none (0 : Nat) [] .no, AV.sl none (1 : Nat) [AV.int .i64 (1 : Int), AV.str nm0.sp, AV.str nm0.lo, AV.str (ByteArray.mk #[]), AV.sl none (0 : Nat) [] .no, AV.sl none (0 : Nat) [] .no] .no] = [AV.int .i64 (3 : Int), AV.sl none (0 : Nat) [] .no, AV.sl none (0 : Nat) [] .no, AV.int .i64 (6 : Int), AV.sl none (1 : Nat) [AV.int .i64 (3 : Int), AV.sl none (0 : Nat) [] .no, AV.sl none (0 : Nat) [] .no] .no, AV.sl none (0 : Nat) [] .no, AV.int .i64 (7 : Int), AV.sl none (0 : Nat) [] .no, AV.sl none (1 : Nat) [AV.int .i64 (1 : Int), AV.str nm0.sp, AV.str nm0.lo, AV.str (ByteArray.mk #[]), AV.sl none (0 : Nat) [] .no, AV.sl none (0 : Nat) [] .no] .no]) (.ob ((0 : Nat) = (0 : Nat)) (.ob (([] : List AV) = []) (.ob (true = true) (.tt)))))))))) (.split (false) (.ob ((3 : Nat) ≤ (3 : Nat)) (.ob ((3 : Nat) ≤ (3 : Nat)) (.ob ((6 : Nat) ≤ (6 : Nat)) (.ob (Ctr Try.prog 34 [AV.agg [AV.int .i64 (1 : Int), AV.str fB.nm.sp, AV.str fB.nm.lo, AV.str fB.val, AV.sl none (0 : Nat) [] .no, AV.sl none (0 : Nat) [] .no]] (AV.agg [AV.int .i64 (7 : Int), AV.sl none (0 : Nat) [] .no, AV.sl none (1 : Nat) [AV.int .i64 (1 : Int), AV.str nm0.sp, AV.str nm0.lo, AV.str (ByteArray.mk #[]), AV.sl none (0 : Nat) [] .no, AV.sl none (0 : Nat) [] .no] .no])) (.ob ((4 : Int) = (4 : Int)) (.ob ((2 : Nat) = (3 : Nat)) (.ob ([AV.int .i64 (5 : Int), AV.sl none (2 : Nat) [AV.int .i64 (1 : Int), AV.sl none (0 : Nat) [] .no, AV.sl none (0 : Nat) [] .no, AV.int .i64 (4 : Int), AV.sl none (2 : Nat) [AV.int .i64 (2 : Int), AV.sl none (0 : Nat) [] .no, AV.sl none (0 : Nat) [] .no, AV.int .i64 (6 : Int), AV.sl none (1 : Nat) [AV.int .i64 (5 : Int), AV.sl none (2 : Nat) [AV.int .i64 (2 : Int), AV.sl none (0 : Nat) [] .no, AV.sl none (0 : Nat) [] .no, AV.int .i64 (3 : Int), AV.sl none (0 : Nat) [] .no, AV.sl none (0 : Nat) [] .no] .no, AV.sl none (0 : Nat) [] .no] .no, AV.sl none (0 : Nat) [] .no] .no, AV.sl none (0 : Nat) [] .no] .no, AV.sl none (0 : Nat) [] .no, AV.int .i64 (7 : Int), AV.sl none (0 : Nat) [] .no, AV.sl none (1 : Nat) [AV.int .i64 (1 : Int), AV.str nm0.sp, AV.str nm0.lo, AV.str (ByteArray.mk #[]), AV.sl none (0 : Nat) [] .no, AV.sl none (0 : Nat) [] .no] .no] = [AV.int .i64 (3 : Int), AV.sl none (0 : Nat) [] .no, AV.sl none (0 : Nat) [] .no, AV.int .i64 (6 : Int), AV.sl none (1 : Nat) [AV.int .i64 (3 : Int), AV.sl none (0 : Nat) [] .no, AV.sl none (0 : Nat) [] .no] .no, AV.sl none (0 : Nat) [] .no, AV.int .i64 (7 : Int), AV.sl none (0 : Nat) [] .no, AV.sl none (1 : Nat) [AV.int .i64 (1 : Int), AV.str nm0.sp, AV.str nm0.lo, AV.str (ByteArray.mk #[]), AV.sl none (0 : Nat) [] .no, AV.sl none (0 : Nat) [] .no] .no]) (.ob ((0 : Nat) = (0 : Nat)) (.ob (([] : List AV) = []) (.ob (true = true) (.tt))))))))))) (.split (true) (.ob ((3 : Nat) ≤ (3 : Nat)) (.ob ((3 : Nat) ≤ (3 : Nat)) (.ob ((6 : Nat) ≤ (6 : Nat)) (.ob (Ctr Try.prog 34 [AV.agg [AV.int .i64 (1 : Int), AV.str fB.nm.sp, AV.str fB.nm.lo, AV.str fB.val, AV.sl none (0 : Nat) [] .no, AV.sl none (0 : Nat) [] .no]] (AV.agg [AV.int .i64 (7 : Int), AV.sl none (0 : Nat) [] .no, AV.sl none (1 : Nat) [AV.int .i64 (1 : Int), AV.str nm0.sp, AV.str nm0.lo, AV.str (ByteArray.mk #[]), AV.sl none (0 : Nat) [] .no, AV.sl none (0 : Nat) [] .no] .no])) (.ob ((4 : Int) = (4 : Int)) (.ob ((3 : Nat) = (3 : Nat)) (.ob ([AV.int .i64 (3 : Int), AV.sl none (0 : Nat) [] .no, AV.sl none (0 : Nat) [] .no, AV.int .i64 (6 : Int), AV.sl none (1 : Nat) [AV.int .i64 (3 : Int), AV.sl none (0 : Nat) [] .no, AV.sl none (0 : Nat) [] .no] .no, AV.sl none (0 : Nat) [] .no, AV.int .i64 (7 : Int), AV.sl none (0 : Nat) [] .no, AV.sl none (1 : Nat) [AV.int .i64 (1 : Int), AV.str nm0.sp, AV.str nm0.lo, AV.str (ByteArray.mk #[]), AV.sl none (0 : Nat) [] .no, AV.sl none (0 : Nat) [] .no] .no] = [AV.int .i64 (3 : Int), AV.sl none (0 : Nat) [] .no, AV.sl none (0 : Nat) [] .no, AV.int .i64 (6 : Int), AV.sl none (1 : Nat) [AV.int .i64 (3 : Int), AV.sl none (0 : Nat) [] .no, AV.sl none (0 : Nat) [] .no] .no, AV.sl none (0 : Nat) [] .no, AV.int .i64 (7 : Int), AV.sl none (0 : Nat) [] .no, AV.sl none (1 : Nat) [AV.int .i64 (1 : Int), AV.str nm0.sp, AV.str nm0.lo, AV.str (ByteArray.mk #[]), AV.sl none (0 : Nat) [] .no, AV.sl none (0 : Nat) [] .no] .no]) (.ob ((0 : Nat) = (0 : Nat)) (.ob (([] : List AV) = []) (.ob (true = true) (.tt))))))))))) (.ob ((0 : Int) = (4 : Int)) (.ob ((0 : Nat) = (3 : Nat)) (.ob (([] : List AV) = [AV.int .i64 (3 : Int), AV.sl none (0 : Nat) [] .no, AV.sl none (0 : Nat) [] .no, AV.int .i64 (6 : Int), AV.sl none (1 : Nat) [AV.int .i64 (3 : Int), AV.sl none (0 : Nat) [] .no, AV.sl none (0 : Nat) [] .no] .no, AV.sl none (0 : Nat) [] .no, AV.int .i64 (7 : Int), AV.sl none (0 : Nat) [] .no, AV.sl none (1 : Nat) [AV.int .i64 (1 : Int), AV.str nm0.sp, AV.str nm0.lo, AV.str (ByteArray.mk #[]), AV.sl none (0 : Nat) [] .no, AV.sl none (0 : Nat) [] .no] .no]) (.ob ((0 : Nat) = (0 : Nat)) (.ob (([] : List AV) = []) (.ob (false = true) (.tt))))))))))))))))) (by kernel_rfl) (by
    simp only [PT.holds, true_implies, Bool.false_eq_true, Bool.true_eq_false, false_implies, true_and, and_true]
    (repeat' first | exact rfl | exact where_ctr | omega | refine And.intro ?_ ?_)))
theorem axis3  : Ctr Try.prog 19 [.str (ByteArray.mk #[100, 101, 115, 99, 101, 110, 100, 97, 110, 116, 45, 111, 114, 45, 115, 101, 108, 102]), .agg (fltL fB)] (.tup [.agg (pthL (pAx fB 3)), .bool true]) :=
  Ctr.mk Γ_ok Try.func19 (by kernel_rfl) Try.call19 [] (by kernel_rfl) (HT.walk Γ_ok mo_ok (⟨([(31, .call [] (.agg (pthL (pWh fB)))), (37, .call [] (.agg (pthL (pWh fB)))), (44, .call [] (.agg (pthL (pWh fB)))), (54, .call [] (.agg (pthL (pWh fB)))), (62, .call [] (.agg (pthL (pWh fB))))] ++ []), sp19, [], [], .pure [] (.tup [.agg (pthL (pAx fB 3)), .bool true])⟩ : Wk) 4000 (T := .ob ((3 : Nat) ≤ (3 : Nat)) (.ob ((3 : Nat) ≤ (3 : Nat)) (.ob ((3 : Nat) ≤ (3 : Nat)) (.ob ((3 : Nat) ≤ (3 : Nat)) (.ob ((3 : Nat) ≤ (3 : Nat)) (.split (false) (.ob ((6 : Nat) ≤ (6 : Nat)) (.ob (Ctr Try.prog 34 [AV.agg [AV.int .i64 (1 : Int), AV.str fB.nm.sp, AV.str fB.nm.lo, AV.str fB.val, AV.sl none (0 : Nat) [] .no, AV.sl none (0 : Nat) [] .no]] (AV.agg [AV.int .i64 (7 : Int), AV.sl none (0 : Nat) [] .no, AV.sl none (1 : Nat) [AV.int .i64 (1 : Int), AV.str nm0.sp, AV.str nm0.lo, AV.str (ByteArray.mk #[]), AV.sl none (0 : Nat) [] .no, AV.sl none (0 : Nat) [] .no] .no])) (.ob ((7 : Int) = (4 : Int)) (.ob ((0 : Nat) = (2 : Nat)) (.ob (([] : List AV) = [AV.int .i64 (5 : Int), AV.sl none (2 : Nat) [AV.int .i64 (1 : Int), AV.sl none (0 : Nat) [] .no, AV.sl none (0 : Nat) [] .no, AV.int .i64 (4 : Int), AV.sl none (2 : Nat) [AV.int .i64 (2 : Int), AV.sl none (0 : Nat) [] .no, AV.sl none (0 : Nat) [] .no, AV.int .i64 (6 : Int), AV.sl none (1 : Nat) [AV.int .i64 (5 : Int), AV.sl none (2 : Nat) [AV.int .i64 (2 : Int), AV.sl none (0 : Nat) [] .no, AV.sl none (0 : Nat) [] .no, AV.int .i64 (3 : Int), AV.sl none (0 : Nat) [] .no, AV.sl none (0 : Nat) [] .no] .no, AV.sl none (0 : Nat) [] .no] .no, AV.sl none (0 : Nat) [] .no] .no, AV.sl none (0 : Nat) [] .no] .no, AV.sl none (0 : Nat) [] .no, AV.int .i64 (7 : Int), AV.sl none (0 : Nat) [] .no, AV.sl none (1 : Nat) [AV.int .i64 (1 : Int), AV.str nm0.sp, AV.str nm0.lo, AV.str (ByteArray.mk #[]), AV.sl none (0 : Nat) [] .no, AV.sl none (0 : Nat) [] .no] .no]) (.ob ((1 : Nat) = (0 : Nat)) (.ob ([AV.int .i64 (1 : Int), AV.str nm0.sp, AV.str nm0.lo, AV.str (ByteArray.mk #[]), AV.sl none (0 : Nat) [] .no, AV.sl none (0 : Nat) [] .no] = []) (.ob (true = true) (.tt))))))))) (.split (false) (.ob ((3 : Nat) ≤ (3 : Nat)) (.ob ((3 : Nat) ≤ (3 : Nat)) (.ob ((6 : Nat) ≤ (6 : Nat)) (.ob (Ctr Try.prog 34 [AV.agg [AV.int .i64 (1 : Int), AV.str fB.nm.sp, AV.str fB.nm.lo, AV.str fB.val, AV.sl none (0 : Nat) [] .no, AV.sl none (0 : Nat) [] .no]] (AV.agg [AV.int .i64 (7 : Int), AV.sl none (0 : Nat) [] .no, AV.sl none (1 : Nat) [AV.int .i64 (1 : Int), AV.str nm0.sp, AV.str nm0.lo, AV.str (ByteArray.mk #[]), AV.sl none (0 : Nat) [] .no, AV.sl none (0 : Nat) [] .no] .no])) (.ob ((4 : Int) = (4 : Int)) (.ob ((3 : Nat) = (2 : Nat)) (.ob ([AV.int .i64 (2 : Int), AV.sl none (0 : Nat) [] .no, AV.sl none (0 : Nat) [] .no, AV.int .i64 (6 : Int), AV.sl none (1 : Nat) [AV.int .i64 (3 : Int), AV.sl none (0 : Nat) [] .no, AV.sl none (0 : Nat) [] .no] .no, AV.sl none (0 : Nat) [] .no, AV.int .i64 (7 : Int), AV.sl none (0 : Nat) [] .no, AV.sl none (1 : Nat) [AV.int .i64 (1 : Int), AV.str nm0.sp, AV.str nm0.lo, AV.str (ByteArray.mk #[]), AV.sl none (0 : Nat) [] .no, AV.sl none (0 : Nat) [] .no] .no] = [AV.int .i64 (5 : Int), AV.sl none (2 : Nat) [AV.int .i64 (1 : Int), AV.sl none (0 : Nat) [] .no, AV.sl none (0 : Nat) [] .no, AV.int .i64 (4 : Int), AV.sl none (2 : Nat) [AV.int .i64 (2 : Int), AV.sl none (0 : Nat) [] .no, AV.sl none (0 : Nat) [] .no, AV.int .i64 (6 : Int), AV.sl none (1 : Nat) [AV.int .i64 (5 : Int), AV.sl none (2 : Nat) [AV.int .i64 (2 : Int), AV.sl none (0 : Nat) [] .no, AV.sl none (0 : Nat) [] .no, AV.int .i64 (3 : Int), AV.sl none (0 : Nat) [] .no, AV.sl none (0 : Nat) [] .no] .no, AV.sl none (0 : Nat) [] .no] .no, AV.sl none (0 : Nat) [] .no] .no, AV.sl none (0 : Nat) [] .no] .no, AV.sl none (0 : Nat) [] .no, AV.int .i64 (7 : Int), AV.sl none (0 : Nat) [] .no, AV.sl none (1 : Nat) [AV.int .i64 (1 : Int), AV.str nm0.sp, AV.str nm0.lo, AV.str (ByteArray.mk #[]), AV.sl none (0 : Nat) [] .no, AV.sl none (0 : Nat) [] .no] .no]) (.ob ((0 : Nat) = (0 : Nat)) (.ob (([] : List AV) = []) (.ob (true = true) (.tt))))))))))) (.split (false) (.ob ((3 : Nat) ≤ (3 : Nat)) (.ob ((6 : Nat) ≤ (6 : Nat)) (.ob (Ctr Try.prog 34 [AV.agg [AV.int .i64 (1 : Int), AV.str fB.nm.sp, AV.str fB.nm.lo, AV.str fB.val, AV.sl none (0 : Nat) [] .no, AV.sl none (0 : Nat) [] .no]] (AV.agg [AV.int .i64 (7 : Int), AV.sl none (0 : Nat) [] .no, AV.sl none (1 : Nat) [AV.int .i64 (1 : Int), AV.str nm0.sp, AV.str nm0.lo, AV.str (ByteArray.mk #[]), AV.sl none (0 : Nat) [] .no, AV.sl none (0 : Nat) [] .no] .no])) (.ob ((4 : Int) = (4 : Int)) (.ob ((2 : Nat) = (2 : Nat)) (.ob ([AV.int .i64 (4 : Int), AV.sl none (2 : Nat) [AV.int .i64 (2 : Int), AV.sl none (0 : Nat) [] .no, AV.sl none (0 : Nat) [] .no, AV.int .i64 (6 : Int), AV.sl none (1 : Nat) [AV.int .i64 (5 : Int), AV.sl none (2 : Nat) [AV.int .i64 (2 : Int), AV.sl none (0 : Nat) [] .no, AV.sl none (0 : Nat) [] .no, AV.int .i64 (3 : Int), AV.sl none (0 : Nat) [] .no, AV.sl none (0 : Nat) [] .no] .no, AV.sl none (0 : Nat) [] .no] .no, AV.sl none (0 : Nat) [] .no] .no, AV.sl none (0 : Nat) [] .no, AV.int .i64 (7 : Int), AV.sl none (0 : Nat) [] .no, AV.sl none (1 : Nat) [AV.int .i64 (1 : Int), AV.str nm0.sp, AV.str nm0.lo, AV.str (ByteArray.mk #[]), AV.sl none (0 : Nat) [] .no, AV.sl none (0 : Nat) [] .no] .no] = [AV.int .i64 (5 : Int), AV.sl none (2 : Nat) [AV.int .i64 (1 : Int), AV.sl none (0 : Nat) [] .no, AV.sl none (0 : Nat) [] .no, AV.int .i64 (4 : Int), AV.sl none (2 : Nat) [AV.int .i64 (2 : Int), AV.sl none (0 : Nat) [] .no, AV.sl none (0 : Nat) [] .no, AV.int .i64 (6 : Int), AV.sl none (1 : Nat) [AV.int .i64 (5 : Int), AV.sl none (2 : Nat) [AV.int .i64 (2 : Int), AV.sl none (0 : Nat) [] .no, AV.sl none (0 : Nat) [] .no, AV.int .i64 (3 : Int), AV.sl none (0 : Nat) [] .no, AV.sl none (0 : Nat) [] .no] .no, AV.sl none (0 : Nat) [] .no] .no, AV.sl none (0 : Nat) [] .no] .no, AV.sl none (0 : Nat) [] .no] .no, AV.sl none (0 : Nat) [] .no, AV.int .i64 (7 : Int), AV.sl none (0 : Nat) [] .no, AV.sl none (1 : Nat) [AV.int .i64 (1 : Int), AV.str nm0.sp, AV.str nm0.lo, AV.str (ByteArray.mk #[]), AV.sl none (0 : Nat) [] .no, AV.sl none (0 : Nat) [] .no] .no]) (.ob ((0 : Nat) = (0 : Nat)) (.ob (([] : List AV) = []) (.ob (true = true) (.tt)))))))))) (.split (true) (.ob ((3 : Nat) ≤ (3 : Nat)) (.ob ((3 : Nat) ≤ (3 : Nat)) (.ob ((6 : Nat) ≤ (6 : Nat)) (.ob (Ctr Try.prog 34 [AV.agg [AV.int .i64 (1 : Int), AV.str fB.nm.sp, AV.str fB.nm.lo, AV.str fB.val, AV.sl none (0 : Nat) [] .no, AV.sl none (0 : Nat) [] .no]] (AV.agg [AV.int .i64 (7 : Int), AV.sl none (0 : Nat) [] .no, AV.sl none (1 : Nat) [AV.int .i64 (1 : Int), AV.str nm0.sp, AV.str nm0.lo, AV.str (ByteArray.mk #[]), AV.sl none (0 : Nat) [] .no, AV.sl none (0 : Nat) [] .no] .no])) (.ob ((4 : Int) = (4 : Int)) (.ob ((2 : Nat) = (2 : Nat)) (.ob ([AV.int .i64 (5 : Int), AV.sl none (2 : Nat) [AV.int .i64 (1 : Int), AV.sl none (0 : Nat) [] .no, AV.sl none (0 : Nat) [] .no, AV.int .i64 (4 : Int), AV.sl none (2 : Nat) [AV.int .i64 (2 : Int), AV.sl none (0 : Nat) [] .no, AV.sl none (0 : Nat) [] .no, AV.int .i64 (6 : Int), AV.sl none (1 : Nat) [AV.int .i64 (5 : Int), AV.sl none (2 : Nat) [AV.int .i64 (2 : Int), AV.sl none (0 : Nat) [] .no, AV.sl none (0 : Nat) [] .no, AV.int .i64 (3 : Int), AV.sl none (0 : Nat) [] .no, AV.sl none (0 : Nat) [] .no] .no, AV.sl none (0 : Nat) [] .no] .no, AV.sl none (0 : Nat) [] .no] .no, AV.sl none (0 : Nat) [] .no] .no, AV.sl none (0 : Nat) [] .no, AV.int .i64 (7 : Int), AV.sl none (0 : Nat) [] .no, AV.sl none (1 : Nat) [AV.int .i64 (1 : Int), AV.str nm0.sp, AV.str nm0.lo, AV.str (ByteArray.mk #[]), AV.sl none (0 : Nat) [] .no, AV.sl none (0 : Nat) [] .no] .no] = [AV.int .i64 (5 : Int), AV.sl none (2 : Nat) [AV.int .i64 (1 : Int), AV.sl none (0 : Nat) [] .no, AV.sl none (0 : Nat) [] .no, AV.int .i64 (4 : Int), AV.sl none (2 : Nat) [AV.int .i64 (2 : Int), AV.sl none (0 : Nat) [] .no, AV.sl none (0 : Nat) [] .no, AV.int .i64 (6 : Int), AV.sl none (1 : Nat) [AV.int .i64 (5 : Int), AV.sl none (2 : Nat) [AV.int .i64 (2 : Int), AV.sl none (0 : Nat) [] .no, AV.sl none (0 : Nat) [] .no, AV.int .i64 (3 : Int), AV.sl none (0 : Nat) [] .no, AV.sl none (0 : Nat) [] .no] .no, AV.sl none (0 : Nat) [] .no] .no, AV.sl none (0 : Nat) [] .no] .no, AV.sl none (0 : Nat) [] .no] .no, AV.sl none (0 : Nat) [] .no, AV.int .i64 (7 : Int), AV.sl none (0 : Nat) [] .no, AV.sl none (1 : Nat) [AV.int .i64 (1 : Int), AV.str nm0.sp, AV.str nm0.lo, AV.str (ByteArray.mk #[]), AV.sl none (0 : Nat) [] .no, AV.sl none (0 : Nat) [] .no] .no]) (.ob ((0 : Nat) = (0 : Nat)) (.ob (([] : List AV) = []) (.ob (true = true) (.tt))))))))))) (.split (false) (.ob ((3 : Nat) ≤ (3 : Nat)) (.ob ((3 : Nat) ≤ (3 : Nat)) (.ob ((6 : Nat) ≤ (6 : Nat)) (.ob (Ctr Try.prog 34 [AV.agg [AV.int .i64 (1 : Int), AV.str fB.nm.sp, AV.str fB.nm.lo, AV.str fB.val, AV.sl none (0 : Nat) [] .no, AV.sl none (0 : Nat) [] .no]] (AV.agg [AV.int .i64 (7 : Int), AV.sl none (0 : Nat) [] .no, AV.sl none (1 : Nat) [AV.int .i64 (1 : Int), AV.str nm0.sp, AV.str nm0.lo, AV.str (ByteArray.mk #[]), AV.sl none (0 : Nat) [] .no, AV.sl none (0 : Nat) [] .no] .no])) (.ob ((4 : Int) = (4 : Int)) (.ob ((3 : Nat) = (2 : Nat)) (.ob ([AV.int .i64 (3 : Int), AV.sl none (0 : Nat) [] .no, AV.sl none (0 : Nat) [] .no, AV.int .i64 (6 : Int), AV.sl none (1 : Nat) [AV.int .i64 (3 : Int), AV.sl none (0 : Nat) [] .no, AV.sl none (0 : Nat) [] .no] .no, AV.sl none (0 : Nat) [] .no, AV.int .i64 (7 : Int), AV.sl none (0 : Nat) [] .no, AV.sl none (1 : Nat) [AV.int .i64 (1 : Int), AV.str nm0.sp, AV.str nm0.lo, AV.str (ByteArray.mk #[]), AV.sl none (0 : Nat) [] .no, AV.sl none (0 : Nat) [] .no] .no] = [AV.int .i64 (5 : Int), AV.sl none (2 : Nat) [AV.int .i64 (1 : Int), AV.sl none (0 : Nat) [] .no, AV.sl none (0 : Nat) [] .no, AV.int .i64 (4 : Int), AV.sl none (2 : Nat) [AV.int .i64 (2 : Int), AV.sl none (0 : Nat) [] .no, AV.sl none (0 : Nat) [] .no, AV.int .i64 (6 : Int), AV.sl none (1 : Nat) [AV.int .i64 (5 : Int), AV.sl none (2 : Nat) [AV.int .i64 (2 : Int), AV.sl none (0 : Nat) [] .no, AV.sl none (0 : Nat) [] .no, AV.int .i64 (3 : Int), AV.sl none (0 : Nat) [] .no, AV.sl none (0 : Nat) [] .no] .no, AV.sl none (0 : Nat) [] .no] .no, AV.sl none (0 : Nat) [] .no] .no, AV.sl none (0 : Nat) [] .no] .no, AV.sl none (0 : Nat) [] .no, AV.int .i64 (7 : Int), AV.sl none (0 : Nat) [] .no, AV.sl none (1 : Nat) [AV.int .i64 (1 : Int), AV.str nm0.sp, AV.str nm0.lo, AV.str (ByteArray.mk #[]), AV.sl none (0 : Nat) [] .no, AV.sl none (0 : Nat) [] .no] .no]) (.ob ((0 : Nat) = (0 : Nat)) (.ob (([] : List AV) = []) (.ob (true = true) (.tt))))))))))) (.ob ((0 : Int) = (4 : Int)) (.ob ((0 : Nat) = (2 : Nat)) (.ob (([] : List AV) = [AV.int .i64 (5 : Int), AV.sl none (2 : Nat) [AV.int .i64 (1 : Int), AV.sl none (0 : Nat) [] .no, AV.sl none (0 : Nat) [] .no, AV.int .i64 (4 : Int), AV.sl none (2 : Nat) [AV.int .i64 (2 : Int), AV.sl none (0 : Nat) [] .no, AV.sl none (0 : Nat) [] .no, AV.int .i64 (6 : Int), AV.sl none (1 : Nat) [AV.int .i64 (5 : Int), AV.sl none (2 : Nat) [AV.int .i64 (2 : Int), AV.sl none (0 : Nat) [] .no, AV.sl none (0 : Nat) [] .no, AV.int .i64 (3 : Int), AV.sl none (0 : Nat) [] .no, AV.sl none (0 : Nat) [] .no] .no, AV.sl none (0 : Nat) [] .no] .no, AV.sl none (0 : Nat) [] .no] .no, AV.sl none (0 : Nat) [] .no] .no, AV.sl none (0 : Nat) [] .no, AV.int .i64 (7 : Int), AV.sl none (0 : Nat) [] .no, AV.sl none (1 : Nat) [AV.int .i64 (1 : Int), AV.str nm0.sp, AV.str nm0.lo, AV.str (ByteArray.mk #[]), AV.sl none (0 : Nat) [] .no, AV.sl none (0 : Nat) [] .no] .no]) (.ob ((0 : Nat) = (0 : Nat)) (.ob (([] : List AV) = []) (.ob (false = true) (.tt))))))))))))))))) (by kernel_rfl) (by
    simp only [PT.holds, true_implies, Bool.false_eq_true, Bool.true_eq_false, false_implies, true_and, and_true]
    (repeat' first | exact rfl | exact where_ctr | omega | refine And.intro ?_ ?_)))
theorem axis4  : Ctr Try.prog 19 [.str (ByteArray.mk #[115, 101, 108, 102]), .agg (fltL fB)] (.tup [.agg (pthL (pAx fB 4)), .bool true]) :=
  Ctr.mk Γ_ok Try.func19 (by kernel_rfl) Try.call19 [] (by kernel_rfl) (HT.walk Γ_ok mo_ok (⟨([(31, .call [] (.agg (pthL (pWh fB)))), (37, .call [] (.agg (pthL (pWh fB)))), (44, .call [] (.agg (pthL (pWh fB)))), (54, .call [] (.agg (pthL (pWh fB)))), (62, .call [] (.agg (pthL (pWh fB))))] ++ []), sp19, [], [], .pure [] (.tup [.agg (pthL (pAx fB 4)), .bool true])⟩ : Wk) 4000 (T := .ob ((3 : Nat) ≤ (3 : Nat)) (.ob ((3 : Nat) ≤ (3 : Nat)) (.ob ((3 : Nat) ≤ (3 : Nat)) (.ob ((3 : Nat) ≤ (3 : Nat)) (.ob ((3 : Nat) ≤ (3 : Nat)) (.split (true) (.ob ((6 : Nat) ≤ (6 : Nat)) (.ob (Ctr Try.prog 34 [AV.agg [AV.int .i64 (1 : Int), AV.str fB.nm.sp, AV.str fB.nm.lo, AV.str fB.val, AV.sl none (0 : Nat) [] .no, AV.sl none (0 : Nat) [] .no]] (AV.agg [AV.int .i64 (7 : Int), AV.sl none (0 : Nat) [] .no, AV.sl none (1 : Nat) [AV.int .i64 (1 : Int), AV.str nm0.sp, AV.str nm0.lo, AV.str (ByteArray.mk #[]), AV.sl none (0 : Nat) [] .no, AV.sl none (0 : Nat) [] .no] .no])) (.ob ((7 : Int) = (7 : Int)) (.ob ((0 : Nat) = (0 : Nat)) (.ob (([] : List AV) = []) (.ob ((1 : Nat) = (1 : Nat)) (.ob ([AV.int .i64 (1 : Int), AV.str nm0.sp, AV.str nm0.lo, AV.str (ByteArray.mk #[]), AV.sl none (0 : Nat) [] .no, AV.sl none (0 : Nat) [] .no] = [AV.int .i64 (1 : Int), AV.str nm0.sp, AV.str nm0.lo, AV.str (ByteArray.mk #[]), AV.sl none (0 : Nat) [] .no, AV.sl none (0 : Nat) [] .no]) (.ob (true = true) (.tt))))))))) (.split (false) (.ob ((3 : Nat) ≤ (3 : Nat)) (.ob ((3 : Nat) ≤ (3 : Nat)) (.ob ((6 : Nat) ≤ (6 : Nat)) (.ob (Ctr Try.prog 34 [AV.agg [AV.int .i64 (1 : Int), AV.str fB.nm.sp, AV.str fB.nm.lo, AV.str fB.val, AV.sl none (0 : Nat) [] .no, AV.sl none (0 : Nat) [] .no]] (AV.agg [AV.int .i64 (7 : Int), AV.sl none (0 : Nat) [] .no, AV.sl none (1 : Nat) [AV.int .i64 (1 : Int), AV.str nm0.sp, AV.str nm0.lo, AV.str (ByteArray.mk #[]), AV.sl none (0 : Nat) [] .no, AV.sl none (0 : Nat) [] .no] .no])) (.ob ((4 : Int) = (7 : Int)) (.ob ((3 : Nat) = (0 : Nat)) (.ob ([AV.int .i64 (2 : Int), AV.sl none (0 : Nat) [] .no, AV.sl none (0 : Nat) [] .no, AV.int .i64 (6 : Int), AV.sl none (1 : Nat) [AV.int .i64 (3 : Int), AV.sl none (0 : Nat) [] .no, AV.sl none (0 : Nat) [] .no] .no, AV.sl none (0 : Nat) [] .no, AV.int .i64 (7 : Int), AV.sl none (0 : Nat) [] .no, AV.sl none (1 : Nat) [AV.int .i64 (1 : Int), AV.str nm0.sp, AV.str nm0.lo, AV.str (ByteArray.mk #[]), AV.sl none (0 : Nat) [] .no, AV.sl none (0 : Nat) [] .no] .no] = []) (.ob ((0 : Nat) = (1 : Nat)) (.ob (([] : List AV) = [AV.int .i64 (1 : Int), AV.str nm0.sp, AV.str nm0.lo, AV.str (ByteArray.mk #[]), AV.sl none (0 : Nat) [] .no, AV.sl none (0 : Nat) [] .no]) (.ob (true = true) (.tt))))))))))) (.split (false) (.ob ((3 : Nat) ≤ (3 : Nat)) (.ob ((6 : Nat) ≤ (6 : Nat)) (.ob (Ctr Try.prog 34 [AV.agg [AV.int .i64 (1 : Int), AV.str fB.nm.sp, AV.str fB.nm.lo, AV.str fB.val, AV.sl none (0 : Nat) [] .no, AV.sl none (0 : Nat) [] .no]] (AV.agg [AV.int .i64 (7 : Int), AV.sl none (0 : Nat) [] .no, AV.sl none (1 : Nat) [AV.int .i64 (1 : Int), AV.str nm0.sp, AV.str nm0.lo, AV.str (ByteArray.mk #[]), AV.sl none (0 : Nat) [] .no, AV.sl none (0 : Nat) [] .no] .no])) (.ob ((4 : Int) = (7 : Int)) (.ob ((2 : Nat) = (0 : Nat)) (.ob ([AV.int .i64 (4 : Int), AV.sl none (2 : Nat) [AV.int .i64 (2 : Int), AV.sl none (0 : Nat) [] .no, AV.sl none (0 : Nat) [] .no, AV.int .i64 (6 : Int), AV.sl none (1 : Nat) [AV.int .i64 (5 : Int), AV.sl none (2 : Nat) [AV.int .i64 (2 : Int), AV.sl none (0 : Nat) [] .no, AV.sl none (0 : Nat) [] .no, AV.int .i64 (3 : Int), AV.sl none (0 : Nat) [] .no, AV.sl none (0 : Nat) [] .no] .no, AV.sl none (0 : Nat) [] .no] .no, AV.sl none (0 : Nat) [] .no] .no, AV.sl none (0 : Nat) [] .no, AV.int .i64 (7 : Int), AV.sl none (0 : Nat) [] .no, AV.sl none (1 : Nat) [AV.int .i64 (1 : Int), AV.str nm0.sp, AV.str nm0.lo, AV.str (ByteArray.mk #[]), AV.sl none (0 : Nat) [] .no, AV.sl none (0 : Nat) [] .no] .no] = []) (.ob ((0 : Nat) = (1 : Nat)) (.ob (([] : List AV) = [AV.int .i64 (1 : Int), AV.str nm0.sp, AV.str nm0.lo, AV.str (ByteArray.mk #[]), AV.sl none (0 : Nat) [] .no, AV.sl none (0 : Nat) [] .no]) (.ob (true = true) (.tt)))))))))) (.split (false) (.ob ((3 : Nat) ≤ (3 : Nat)) (.ob ((3 : Nat) ≤ (3 : Nat)) (.ob ((6 : Nat) ≤ (6 : Nat)) (.ob (Ctr Try.prog 34 [AV.agg [AV.int .i64 (1 : Int), AV.str fB.nm.sp, AV.str fB.nm.lo, AV.str fB.val, AV.sl none (0 : Nat) [] .no, AV.sl none (0 : Nat) [] .no]] (AV.agg [AV.int .i64 (7 : Int), AV.sl none (0 : Nat) [] .no, AV.sl none (1 : Nat) [AV.int .i64 (1 : Int), AV.str nm0.sp, AV.str nm0.lo, AV.str (ByteArray.mk #[]), AV.sl none (0 : Nat) [] .no, AV.sl none (0 : Nat) [] .no] .no])) (.ob ((4 : Int) = (7 : Int)) (.ob ((2 : Nat) = (0 : Nat)) (.ob ([AV.int .i64 (5 : Int), AV.sl none (2 : Nat) [AV.int .i64 (1 : Int), AV.sl none (0 : Nat) [] .no, AV.sl none (0 : Nat) [] .no, AV.int .i64 (4 : Int), AV.sl none (2 : Nat) [AV.int .i64 (2 : Int), AV.sl none (0 : Nat) [] .no, AV.sl none (0 : Nat) [] .no, AV.int .i64 (6 : Int), AV.sl none (1 : Nat) [AV.int .i64 (5 : Int), AV.sl none (2 : Nat) [AV.int .i64 (2 : Int), AV.sl none (0 : Nat) [] .no, AV.sl none (0 : Nat) [] .no, AV.int .i64 (3 : Int), AV.sl none (0 : Nat) [] .no, AV.sl none (0 : Nat) [] .no] .no, AV.sl none (0 : Nat) [] .no] .no, AV.sl none (0 : Nat) [] .no] .no, AV.sl none (0 : Nat) [] .no] .no, AV.sl none (0 : Nat) [] .no, AV.int .i64 (7 : Int), AV.sl none (0 : Nat) [] .no, AV.sl none (1 : Nat) [AV.int .i64 (1 : Int), AV.str nm0.sp, AV.str nm0.lo, AV.str (ByteArray.mk #[]), AV.sl none (0 : Nat) [] .no, AV.sl none (0 : Nat) [] .no] .no] = []) (.ob ((0 : Nat) = (1 : Nat)) (.ob (([] : List AV) = [AV.int .i64 (1 : Int), AV.str nm0.sp, AV.str nm0.lo, AV.str (ByteArray.mk #[]), AV.sl none (0 : Nat) [] .no, AV.sl none (0 : Nat) [] .no]) (.ob (true = true) (.tt))))))))))) (.split (false) (.ob ((3 : Nat) ≤ (3 : Nat)) (.ob ((3 : Nat) ≤ (3 : Nat)) (.ob ((6 : Nat) ≤ (6 : Nat)) (.ob (Ctr Try.prog 34 [AV.agg [AV.int .i64 (1 : Int), AV.str fB.nm.sp, AV.str fB.nm.lo, AV.str fB.val, AV.sl none (0 : Nat) [] .no, AV.sl none (0 : Nat) [] .no]] (AV.agg [AV.int .i64 (7 : Int), AV.sl none (0 : Nat) [] .no, AV.sl none (1 : Nat) [AV.int .i64 (1 : Int), AV.str nm0.sp, AV.str nm0.lo, AV.str (ByteArray.mk #[]), AV.sl none (0 : Nat) [] .no, AV.sl none (0 : Nat) [] .no] .no])) (.ob ((4 : Int) = (7 : Int)) (.ob ((3 : Nat) = (0 : Nat)) (.ob ([AV.int .i64 (3 : Int), AV.sl none (0 : Nat) [] .no, AV.sl none (0 : Nat) [] .no, AV.int .i64 (6 : Int), AV.sl none (1 : Nat) [AV.int .i64 (3 : Int), AV.sl none (0 : Nat) [] .no, AV.sl none (0 : Nat) [] .no] .no, AV.sl none (0 : Nat) [] .no, AV.int .i64 (7 : Int), AV.sl none (0 : Nat) [] .no, AV.sl none (1 : Nat) [AV.int .i64 (1 : Int), AV.str nm0.sp, AV.str nm0.lo, AV.str (ByteArray.mk #[]), AV.sl none (0 : Nat) [] .no, AV.sl none (0 : Nat) [] .no] .no] = []) (.ob ((0 : Nat) = (1 : Nat)) (.ob (([] : List AV) = [AV.int .i64 (1 : Int), AV.str nm0.sp, AV.str nm0.lo, AV.str (ByteArray.mk #[]), AV.sl none (0 : Nat) [] .no, AV.sl none (0 : Nat) [] .no]) (.ob (true = true) (.tt))))))))))) (.ob ((0 : Int) = (7 : Int)) (.ob ((0 : Nat) = (0 : Nat)) (.ob (([] : List AV) = []) (.ob ((0 : Nat) = (1 : Nat)) (.ob (([] : List AV) = [AV.int .i64 (1 : Int), AV.str nm0.sp, AV.str nm0.lo, AV.str (ByteArray.mk #[]), AV.sl none (0 : Nat) [] .no, AV.sl none (0 : Nat) [] .no]) (.ob (false = true) (.tt))))))))))))))))) (by kernel_rfl) (by
    simp only [PT.holds, true_implies, Bool.false_eq_true, Bool.true_eq_false, false_implies, true_and, and_true]
    (repeat' first | exact rfl | exact where_ctr | omega | refine And.intro ?_ ?_)))
end Go.Proofs.Ytpffjbbolaehpaa
end
