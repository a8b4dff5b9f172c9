import Derived.Test.YtpffjbbolaehpaaP11
import Derived.Test.YtpffjbbolaehpaaP10
section
set_option linter.unusedVariables false
set_option linter.unusedSimpArgs false
namespace Go.Proofs.Ytpffjbbolaehpaa
open Go Go.AX

/-! ### A document's world, and its tree's plan -/
mutual
theorem nod_fun {l : List Ev} {i : Nat} {t : Tr} {j : Nat} (h : Nod l i t j) : ∀ t' j', Nod l i t' j' → t = t' ∧ j = j' := by
  intro t' j' h'
  match t, j, h with
  | _, _, .text i h hk =>
    cases h' with
    | text _ _ _ => exact ⟨rfl, rfl⟩
    | elem _ _ _ _ hk' _ _ _ => omega
  | .mk _ _ _ _ ks, _, .elem i _ e h hk hks he hke =>
    cases h' with
    | text _ _ hk' => omega
    | elem _ ks' e' _ _ hks' he' hke' =>
      obtain ⟨a, b⟩ := nods_fun hks hke ks' e' hks' hke'
      rw [a, b]
      exact ⟨rfl, rfl⟩
theorem nods_fun {l : List Ev} {i : Nat} {r : List Tr} {e : Nat} (h : Nods l i r e) (hke : (l.getD e ev0).kind = 3) : ∀ r' e', Nods l i r' e' → (l.getD e' ev0).kind = 3 → r = r' ∧ e = e' := by
  intro r' e' h' hke'
  match r, e, h with
  | _, _, .nil i =>
    cases h' with
    | nil => exact ⟨rfl, rfl⟩
    | cons _ t j r _ h1 h2 => exact absurd hke (nod_kind h1)
  | t :: r, _, .cons i _ j _ e h1 h2 =>
    cases h' with
    | nil => exact absurd hke' (nod_kind h1)
    | cons _ t2 j2 r2 _ k1 k2 =>
      obtain ⟨a, b⟩ := nod_fun h1 t2 j2 k1
      subst a; subst b
      obtain ⟨c, d⟩ := nods_fun h2 hke r2 e' k2 hke'
      rw [c, d]
      exact ⟨rfl, rfl⟩
end
theorem nod_end_lt {l : List Ev} {x x' e e' : Nat} {t t' : Tr} (h : Nod l x t e) (h' : Nod l x' t' e') (hlt : x < x') : e ≠ e' := by
  have h1 := nod_le h
  have h2 := nod_le h'
  rcases Nat.lt_or_ge x' e with h3 | h3
  · obtain ⟨_, _, _, g⟩ := visit_says t h 0 ⟨List.replicate (nu l x) 0, List.replicate (nu l x) 0, List.replicate (nu l x) 0, List.replicate (nu l x) 0, List.replicate (nu l x) tr0⟩ ⟨by simp, by simp, by simp, by simp, by simp⟩
    obtain ⟨t2, e2, a, b⟩ := g x' hlt h3 (nod_kind h')
    have := (nod_fun h' t2 e2 b.nod).2
    omega
  · omega
theorem nod_end {l : List Ev} {x x' e : Nat} {t t' : Tr} (h : Nod l x t e) (h' : Nod l x' t' e) : x = x' := by
  rcases Nat.lt_trichotomy x x' with h1 | h1 | h1
  · exact absurd rfl (nod_end_lt h h' h1)
  · exact h1
  · exact absurd rfl (nod_end_lt h' h h1)
/-- A tree's node, and its event. -/
structure Alike (t : Tr) (e : Ev) : Prop where
  tx : t.isText = !decide (e.kind = 1)
  el : e.kind = 1 → t.nm = e.nm ∧ t.attrs = e.attrs
  te : e.kind ≠ 1 → t.text = e.text
theorem nod_alike {l : List Ev} {x e : Nat} {t : Tr} (h : Nod l x t e) : Alike t (l.getD x ev0) := by
  cases h with
  | text _ h hk => exact ⟨by simp only [Tr.isText]; rw [decide_eq_false (by omega)]; rfl, fun h => by omega, fun _ => rfl⟩
  | elem _ ks e h hk hks he hke => exact ⟨by simp only [Tr.isText]; rw [decide_eq_true hk]; rfl, fun _ => ⟨rfl, rfl⟩, fun h => absurd hk h⟩
structure Wld (l : List Ev) (P : Pln) (N : Nat) : Prop where
  hl : l.length ≤ 60
  hN : (nodJ l).length = N
  le : N ≤ 60
  pw : PW P N
  c1 : ∀ k : Nat, k < N → Ctr Try.prog 38 [.agg (wldL l (nodJ l)), .int .i64 k] (.int .i64 (P.fst.getD k 0))
  c2 : ∀ k : Nat, k < N → Ctr Try.prog 39 [.agg (wldL l (nodJ l)), .int .i64 k] (.int .i64 (P.nxt.getD k 0))
  i1 : ∀ k k', k < N → k' < N → 0 ≤ P.fst.getD k 0 → P.fst.getD k 0 = P.fst.getD k' 0 → k = k'
  i2 : ∀ k k', k < N → k' < N → 0 ≤ P.nxt.getD k 0 → P.nxt.getD k 0 = P.nxt.getD k' 0 → k = k'
  al : ∀ k, k < N → ∃ x : Nat, (nodJ l).getD k 0 = x ∧ x < l.length ∧ Alike (P.tr.getD k tr0) (l.getD x ev0) ∧ DisF (l.getD x ev0) 0 ∧ (l.getD x ev0).attrs.length ≤ 1048600
theorem nodF_len (l : List Ev) : ∀ d i, (nodF l d i).length ≤ d := by
  intro d
  induction d with
  | zero => intro i; simp [nodF]
  | succ d ih =>
    intro i
    have := ih (i + 1)
    simp only [nodF]
    split
    · omega
    · simp only [List.length_cons]; omega
theorem nod_open_lt {l : List Ev} {x e : Nat} {t : Tr} (h : Nod l x t e) (hk : (l.getD x ev0).kind = 1) : x + 1 < l.length := by
  cases h with
  | text _ h hk' => omega
  | elem _ ks e h hk hks he hke => have := nods_le hks; omega
theorem numV_ge (l : List Ev) (x : Nat) : -1 ≤ numV l x := by
  unfold numV; split <;> omega
theorem num_all {l : List Ev} (hl : l.length ≤ 60) {x : Nat} (hx : x < l.length) : Ctr Try.prog 53 [.agg (wldL l (nodJ l)), .int .i64 x] (.int .i64 (numV l x)) :=
  num_ctr l (nodJ l) x _ (by have := nodF_len l l.length 0; unfold nodJ; omega) (fun k hk he _ => numV_h1 k hk he) (fun h => numV_h0 hx h)
theorem wld_of {l : List Ev} (hd : Doc l) (ho : okEvs l) (T : Tr) (hT : Nod l 0 T l.length) (P : Pln) (hP : P = visitS T (-1) pln0) (N : Nat) (hpw : PW P N) : Wld l P N := by
  obtain ⟨hg, hs⟩ := doc_says T hT
  rw [← hP] at hg hs
  have hl := hd.len.2
  have hN : (nodJ l).length = N := by rw [← hg.tr, hpw.tr]
  have hle := nodF_len l l.length 0
  have hle2 : (nodJ l).length ≤ 60 := by unfold nodJ; omega
  rw [hN] at hs
  refine ⟨hl, hN, by omega, hpw, fun k hk => ?_, fun k hk => ?_, fun k k' hk hk' h0 he => ?_, fun k k' hk hk' h0 he => ?_, fun k hk => ?_⟩
  · obtain ⟨x, t, e, a, b, c, d, _, s⟩ := hs k hk
    have hf := s.fst
    rw [c] at hf
    rw [hf]
    refine first_ctr l (nodJ l) k x _ hl (by omega) b a (fun h1 => by rw [fstV, if_neg h1]) (fun h1 => ?_)
    rw [fstV, if_pos h1]
    exact num_all hl (nod_open_lt s.nod h1)
  · obtain ⟨x, t, e, a, b, c, d, he, s⟩ := hs k hk
    have hf := s.nxt
    rw [c] at hf
    rw [hf]
    refine next_ctr l (nodJ l) k x e _ hl (by omega) b a (fun h1 => by rw [if_pos h1]) (fun h1 => ⟨end_ctr l hl x t e s.nod, ?_⟩)
    rw [if_neg h1]
    exact num_all hl (he fun h => h1 (by rw [← c, h]; rfl))
  · obtain ⟨x, t, e, a, b, c, d, _, s⟩ := hs k hk
    obtain ⟨x', t', e', a', b', c', d', _, s'⟩ := hs k' hk'
    have hf := s.fst
    have hf' := s'.fst
    rw [c] at hf
    rw [c'] at hf'
    have key : ∀ y, 0 ≤ fstV l y → fstV l y = nu l (y + 1) ∧ (l.getD (y + 1) ev0).kind ≠ 3 := by
      intro y hy
      unfold fstV numV at hy ⊢
      split at hy
      · rename_i h1
        rw [if_pos h1]
        split at hy
        · omega
        · rename_i h2
          rw [if_neg h2]
          exact ⟨rfl, h2⟩
      · omega
    have h1 := key x (by omega)
    have h2 := key x' (by omega)
    have := nu_inj h1.2 h2.2 (by omega)
    have hx : x = x' := by omega
    rw [← c, ← c', hx]
  · obtain ⟨x, t, e, a, b, c, d, hel, s⟩ := hs k hk
    obtain ⟨x', t', e', a', b', c', d', hel', s'⟩ := hs k' hk'
    have hf := s.nxt
    have hf' := s'.nxt
    rw [c] at hf
    rw [c'] at hf'
    have key : ∀ (k y : Nat), 0 ≤ (if k = 0 then -1 else numV l y) → (if k = 0 then -1 else numV l y) = nu l y ∧ (l.getD y ev0).kind ≠ 3 := by
      intro k y hy
      split at hy
      · omega
      · rename_i h1
        rw [if_neg h1]
        unfold numV at hy ⊢
        split at hy
        · omega
        · rename_i h2
          rw [if_neg h2]
          exact ⟨rfl, h2⟩
    have h1 := key k e (by omega)
    have h2 := key k' e' (by omega)
    have h3 := nu_inj h1.2 h2.2 (by omega)
    subst h3
    have hx := nod_end s.nod s'.nod
    rw [← c, ← c', hx]
  · obtain ⟨x, t, e, a, b, c, d, _, s⟩ := hs k hk
    have hf := s.tr
    rw [c] at hf
    rw [hf]
    exact ⟨x, b, a, nod_alike s.nod, hd.p.dis x a, (ho _ (getD_mem l x ev0 a)).2.2.1⟩
end Go.Proofs.Ytpffjbbolaehpaa
end

section
set_option linter.unusedVariables false
set_option linter.unusedSimpArgs false
namespace Go.Proofs.Ytpffjbbolaehpaa
open Go Go.AX

/-! ### Where a path leads, by the document's answer -/
theorem rl_lt {P : Pln} {N : Nat} (hP : PW P N) (p : Pth) {k j : Nat} (hk : k < N) (h : Rl P p k j) : j < N := by
  have hS : ((noneL N).set k true).length = N := by simp [noneL_len]
  have h1 := (leads_iff P N hP p _ hS j).2 ⟨k, by rw [getD_set _ _ _ _ _ (by rw [noneL_len]; exact hk), if_pos rfl], h⟩
  have := lt_of_getD h1
  rw [leads_len P N p _ hS] at this
  exact this
theorem drop_cons {α : Type} (l : List α) (i : Nat) (d : α) (h : i < l.length) : l.drop i = l.getD i d :: l.drop (i + 1) := by
  rw [List.drop_eq_getElem_cons h, List.getD_eq_getElem?_getD, List.getElem?_eq_getElem h]
  rfl
theorem r4_l {l : List Ev} {P : Pln} {N : Nat} (w : Wld l P N) (p : Pth) (hs : p.sub.length ≤ 1048600) (hc : ∀ q ∈ p.sub, ∀ (a : List Int) (Q : Nat → Prop), LS N Q a → ∃ m, LS N (fun j => ∃ k, k < N ∧ Q k ∧ Rl P q k j) m ∧ Ctr Try.prog 28 [.agg (wldL l (nodJ l)), .agg (pthL q), .sl none (a).length (intsC (a)) .no] (.sl none (m).length (intsC (m)) .no)) : ∀ d i (a : List Int) (Q : Nat → Prop), i + d = p.sub.length → LS N Q a → ∃ R, LS N (fun j => ∃ k, k < N ∧ Q k ∧ RlSeq P (p.sub.drop i) k j) R ∧ HT Try.prog Try.f28.ntmps (pt Try.f28 0) (stL4 l (nodJ l) p a i) (EndsA Γ (.pure [] (.sl none (R).length (intsC (R)) .no)) Try.f28) := by
  intro d
  induction d with
  | zero =>
    intro i a Q h ha
    rw [List.drop_of_length_le (by omega)]
    exact ⟨a, ha.congr fun k hk => ⟨fun h => ⟨k, hk, h, rfl⟩, fun ⟨k', _, h, e⟩ => e ▸ h⟩, l4_e l _ p a i (by omega)⟩
  | succ d ih =>
    intro i a Q h ha
    have hlt : i < p.sub.length := by omega
    rw [drop_cons _ _ pth0 hlt]
    obtain ⟨m, h1, h2⟩ := hc _ (getD_mem p.sub i pth0 hlt) a Q ha
    obtain ⟨R, h3, h4⟩ := ih (i + 1) m _ (by omega) h1
    refine ⟨R, h3.congr fun j hj => ?_, l4_h l _ p a m R i hlt hs h2 h4⟩
    simp only [RlSeq]
    constructor
    · rintro ⟨k, h5, ⟨k', h6, h7, h8⟩, h9⟩
      exact ⟨k', h6, h7, k, h8, h9⟩
    · rintro ⟨k', h6, h7, k, h8, h9⟩
      exact ⟨k, rl_lt w.pw _ h6 h8, ⟨k', h6, h7, h8⟩, h9⟩
theorem r6i_l {l : List Ev} (p : Pth) (m R : List Int) (i : Nat) (hm : m.length ≤ 1000) (hi : i ≤ 1000) : ∀ d j (out : List Int), j + d = m.length → out.length + d ≤ 1000 → HT Try.prog Try.f28.ntmps (pt Try.f28 1) (stL6 l (nodJ l) p (addA out (m.drop j)) (i + 1)) (EndsA Γ (.pure [] (.sl none (R).length (intsC (R)) .no)) Try.f28) → HT Try.prog Try.f28.ntmps (pt Try.f28 2) (stL6i l (nodJ l) p out m i j) (EndsA Γ (.pure [] (.sl none (R).length (intsC (R)) .no)) Try.f28) := by
  intro d
  induction d with
  | zero =>
    intro j out h ho k
    rw [List.drop_of_length_le (by omega)] at k
    exact l6i_e l _ p out m R i j (by omega) (by omega) k
  | succ d ih =>
    intro j out h ho k
    have hlt : j < m.length := by omega
    rw [drop_cons m j 0 hlt] at k
    simp only [addA] at k
    refine l6i_h l _ p out m R i j hlt hm (by omega) (fun hin => ?_) (fun hin => ?_)
    · rw [if_pos hin] at k
      exact ih (j + 1) out (by omega) (by omega) k
    · rw [if_neg hin] at k
      exact ih (j + 1) _ (by omega) (by simp; omega) k
theorem r6_l {l : List Ev} {P : Pln} {N : Nat} (w : Wld l P N) (p : Pth) (h0 : 0 < p.sub.length) (Q : Nat → Prop) (hc : ∀ q ∈ p.sub, ∀ (a : List Int) (Q : Nat → Prop), LS N Q a → ∃ m, LS N (fun j => ∃ k, k < N ∧ Q k ∧ Rl P q k j) m ∧ Ctr Try.prog 28 [.agg (wldL l (nodJ l)), .agg (pthL q), .sl none (a).length (intsC (a)) .no] (.sl none (m).length (intsC (m)) .no)) : ∀ d i (out : List Int), N ≤ i + d → i ≤ out.length → out.Nodup → (∀ v ∈ out, ∃ j : Nat, v = j ∧ j < N ∧ ∃ k, k < N ∧ Q k ∧ Star (Rl P (p.sub.getD 0 pth0)) k j) → (∀ k, k < N → Q k → (k : Int) ∈ out) → (∀ i', i' < i → ∀ k j : Nat, out.getD i' 0 = k → Rl P (p.sub.getD 0 pth0) k j → (j : Int) ∈ out) →
    ∃ R, LS N (fun j => ∃ k, k < N ∧ Q k ∧ Star (Rl P (p.sub.getD 0 pth0)) k j) R ∧ HT Try.prog Try.f28.ntmps (pt Try.f28 1) (stL6 l (nodJ l) p out i) (EndsA Γ (.pure [] (.sl none (R).length (intsC (R)) .no)) Try.f28) := by
  have hNle := w.le
  intro d
  induction d with
  | zero =>
    intro i out hd hi hn hA hB hC
    have hle := nodup_le N out hn fun v hv => by obtain ⟨j, e, hj, _⟩ := hA v hv; omega
    have hio : i = out.length := by omega
    refine ⟨out, ⟨fun v => ⟨fun hv => ?_, fun ⟨j, e, hj, k, h1, h2, h3⟩ => ?_⟩, hn⟩, l6_e l _ p out i hio⟩
    · obtain ⟨j, e, hj, h⟩ := hA v hv
      exact ⟨j, e, hj, h⟩
    · rw [e]
      refine h3.cl (Q := fun j => (j : Int) ∈ out) (fun a b ha hab => ?_) (hB k h1 h2)
      obtain ⟨i', hi', he⟩ := List.getElem_of_mem ha
      exact hC i' (by omega) a b (by rw [List.getD_eq_getElem?_getD, List.getElem?_eq_getElem hi']; exact he) hab
  | succ d ih =>
    intro i out hd hi hn hA hB hC
    have hle := nodup_le N out hn fun v hv => by obtain ⟨j, e, hj, _⟩ := hA v hv; omega
    rcases Nat.eq_or_lt_of_le hi with hio | hio
    · refine ⟨out, ⟨fun v => ⟨fun hv => ?_, fun ⟨j, e, hj, k, h1, h2, h3⟩ => ?_⟩, hn⟩, l6_e l _ p out i hio⟩
      · obtain ⟨j, e, hj, h⟩ := hA v hv
        exact ⟨j, e, hj, h⟩
      · rw [e]
        refine h3.cl (Q := fun j => (j : Int) ∈ out) (fun a b ha hab => ?_) (hB k h1 h2)
        obtain ⟨i', hi', he⟩ := List.getElem_of_mem ha
        exact hC i' (by omega) a b (by rw [List.getD_eq_getElem?_getD, List.getElem?_eq_getElem hi']; exact he) hab
    · obtain ⟨k0, e0, hk0, kk, hkk, hQ, hst⟩ := hA _ (getD_mem out i 0 hio)
      obtain ⟨m, h1, h2⟩ := hc _ (getD_mem p.sub 0 pth0 h0) [(k0 : Int)] _ (LS.one hk0)
      have hml := h1.le
      obtain ⟨r, hr⟩ := addA_pre m out
      have hget : ∀ i', i' < out.length → (addA out m).getD i' 0 = out.getD i' 0 := fun i' hi' => by rw [hr, getD_app_lt _ _ _ _ hi']
      have hA' : ∀ v ∈ addA out m, ∃ j : Nat, v = j ∧ j < N ∧ ∃ k, k < N ∧ Q k ∧ Star (Rl P (p.sub.getD 0 pth0)) k j := by
        intro v hv
        rcases (addA_mem m out v).1 hv with h5 | h5
        · exact hA v h5
        · obtain ⟨j, e, hj, k1, hk1, e1, h6⟩ := (h1.mem v).1 h5
          subst e1
          exact ⟨j, e, hj, kk, hkk, hQ, .step _ _ _ hst h6⟩
      have hC' : ∀ i', i' < i + 1 → ∀ k j : Nat, (addA out m).getD i' 0 = k → Rl P (p.sub.getD 0 pth0) k j → (j : Int) ∈ addA out m := by
        intro i' hi' k j hk hkj
        rw [hget i' (by omega)] at hk
        rcases Nat.eq_or_lt_of_le (Nat.lt_succ_iff.1 hi') with h5 | h5
        · subst h5
          have hkk0 : k = k0 := by omega
          subst hkk0
          exact (addA_mem m out j).2 (.inr ((h1.mem _).2 ⟨j, rfl, rl_lt w.pw _ hk0 hkj, k, hk0, rfl, hkj⟩))
        · exact (addA_mem m out j).2 (.inl (hC i' h5 k j hk hkj))
      obtain ⟨R, h3, h4⟩ := ih (i + 1) (addA out m) (by omega) (by rw [hr, List.length_append]; omega) (addA_nd m out hn) hA' (fun k hk hq => (addA_mem m out k).2 (.inl (hB k hk hq))) hC'
      refine ⟨R, h3, l6_h l _ p out m R i hio h0 (by omega) ?_ (r6i_l p m R i (by omega) (by omega) m.length 0 out (Nat.zero_add _) (by omega) (by rw [List.drop_zero]; exact h4))⟩
      rw [e0]
      exact h2
/-- What a step of one node is. -/
def toV (P : Pln) (p : Pth) (k : Nat) : Int :=
  if p.op = 2 then P.fst.getD k 0 else if p.op = 3 then P.nxt.getD k 0 else if p.op = 7 ∧ holdsJ P (p.test.getD 0 flt0) k = true then k else -1
def gV (P : Pln) (p : Pth) (v : Int) : List Int := if 0 ≤ toV P p v.toNat then [toV P p v.toNat] else []
theorem rC_s {l : List Ev} {P : Pln} {N : Nat} (w : Wld l P N) (p : Pth) (a out R : List Int) (i k : Nat) (hi : i < a.length) (ha : a.length ≤ 1000) (ho : out.length < 1000) (hk : a.getD i 0 = k) (hkN : k < N) (ht : p.op = 7 → 0 < p.test.length) (hh : p.op = 7 → Ctr Try.prog 18 [.agg (wldL l (nodJ l)), .agg (fltL (p.test.getD 0 flt0)), .int .i64 k] (.bool (holdsJ P (p.test.getD 0 flt0) k))) (kk : HT Try.prog Try.f28.ntmps (pt Try.f28 3) (stLC l (nodJ l) p a (out ++ gV P p (a.getD i 0)) (i + 1)) (EndsA Γ (.pure [] (.sl none (R).length (intsC (R)) .no)) Try.f28)) : HT Try.prog Try.f28.ntmps (pt Try.f28 3) (stLC l (nodJ l) p a out i) (EndsA Γ (.pure [] (.sl none (R).length (intsC (R)) .no)) Try.f28) := by
  have c1 := w.c1 k hkN
  have c2 := w.c2 k hkN
  have hg : gV P p (a.getD i 0) = if 0 ≤ toV P p k then [toV P p k] else [] := by rw [hk]; rfl
  rw [hg] at kk
  refine lC25 l _ p a out R i (P.fst.getD k 0) hi ha (by omega) (fun _ => by rw [hk]; exact c1) (fun h2 hx => ?_) (fun hn2 => ?_)
  · have e : toV P p k = P.fst.getD k 0 := by rw [toV, if_pos h2]
    rw [e, if_pos hx] at kk
    refine lC27 l _ p a _ R i 0 hi ha (by simp; omega) (fun h => by omega) (fun h => by omega) (fun _ => ?_)
    exact lC29 l _ p a _ R i true hi ha (by simp; omega) ht (fun h => by omega) (fun h => by omega) (fun _ => kk)
  · refine lC27 l _ p a out R i (P.nxt.getD k 0) hi ha (by omega) (fun _ => by rw [hk]; exact c2) (fun h3 hx => ?_) (fun hn3 => ?_)
    · have e : toV P p k = P.nxt.getD k 0 := by rw [toV, if_neg (by omega), if_pos h3]
      rw [e, if_pos hx] at kk
      exact lC29 l _ p a _ R i true hi ha (by simp; omega) ht (fun h => by omega) (fun h => by omega) (fun _ => kk)
    · refine lC29 l _ p a out R i (holdsJ P (p.test.getD 0 flt0) k) hi ha (by omega) ht (fun h => by rw [hk]; exact hh h) (fun h7 hx => ?_) (fun hn7 => ?_)
      · have e : toV P p k = k := by rw [toV, if_neg (by omega), if_neg (by omega), if_pos ⟨h7, hx⟩]
        rw [e, if_pos (by omega)] at kk
        rw [hk]
        exact kk
      · have e : ¬ 0 ≤ toV P p k := by
          rw [toV]
          split
          · exact fun h => hn2 ⟨by assumption, h⟩
          · split
            · exact fun h => hn3 ⟨by assumption, h⟩
            · first | omega | (rw [if_neg hn7]; omega)
        rw [if_neg e, List.append_nil] at kk
        exact kk
theorem gV_len (P : Pln) (p : Pth) (v : Int) : (gV P p v).length ≤ 1 := by unfold gV; split <;> simp
theorem rC_l {l : List Ev} {P : Pln} {N : Nat} (w : Wld l P N) (p : Pth) (a R : List Int) (ha : a.length ≤ 900) (hA : ∀ i, i < a.length → ∃ k : Nat, a.getD i 0 = k ∧ k < N) (ht : p.op = 7 → 0 < p.test.length) (hh : p.op = 7 → ∀ k : Nat, k < N → Ctr Try.prog 18 [.agg (wldL l (nodJ l)), .agg (fltL (p.test.getD 0 flt0)), .int .i64 k] (.bool (holdsJ P (p.test.getD 0 flt0) k))) : ∀ d i out, i + d = a.length → out.length ≤ i → HT Try.prog Try.f28.ntmps (pt Try.f28 4) (stLD l (nodJ l) p a (out ++ stepA (gV P p) (a.drop i)) 0) (EndsA Γ (.pure [] (.sl none (R).length (intsC (R)) .no)) Try.f28) → HT Try.prog Try.f28.ntmps (pt Try.f28 3) (stLC l (nodJ l) p a out i) (EndsA Γ (.pure [] (.sl none (R).length (intsC (R)) .no)) Try.f28) := by
  intro d
  induction d with
  | zero =>
    intro i out h ho k
    rw [List.drop_of_length_le (by omega)] at k
    simp only [stepA, List.flatMap_nil, List.append_nil] at k
    exact lC25_e l _ p a out R i (by omega) k
  | succ d ih =>
    intro i out h ho k
    have hlt : i < a.length := by omega
    obtain ⟨x, hx, hxN⟩ := hA i hlt
    have hgl := gV_len P p (a.getD i 0)
    refine rC_s w p a out R i x hlt (by omega) (by omega) hx hxN ht (fun h7 => hh h7 x hxN) (ih (i + 1) _ (by omega) (by rw [List.length_append]; omega) ?_)
    rw [drop_cons a i 0 hlt] at k
    simp only [stepA, List.flatMap_cons] at k
    rw [← List.append_assoc] at k
    exact k
theorem rDi_l {l : List Ev} (p : Pth) (a m R : List Int) (i : Nat) (hm : m.length ≤ 1000) (hi : i ≤ 1048600) : ∀ d j (out : List Int), j + d = m.length → out.length + d ≤ 1000 → HT Try.prog Try.f28.ntmps (pt Try.f28 4) (stLD l (nodJ l) p a (addA out (m.drop j)) (i + 1)) (EndsA Γ (.pure [] (.sl none (R).length (intsC (R)) .no)) Try.f28) → HT Try.prog Try.f28.ntmps (pt Try.f28 5) (stLDi l (nodJ l) p a out m i j) (EndsA Γ (.pure [] (.sl none (R).length (intsC (R)) .no)) Try.f28) := by
  intro d
  induction d with
  | zero =>
    intro j out h ho k
    rw [List.drop_of_length_le (by omega)] at k
    exact lDi_e l _ p a out m R i j (by omega) (by omega) k
  | succ d ih =>
    intro j out h ho k
    have hlt : j < m.length := by omega
    rw [drop_cons m j 0 hlt] at k
    simp only [addA] at k
    refine lDi_h l _ p a out m R i j hlt hm (by omega) (fun hin => ?_) (fun hin => ?_)
    · rw [if_pos hin] at k
      exact ih (j + 1) out (by omega) (by omega) k
    · rw [if_neg hin] at k
      exact ih (j + 1) _ (by omega) (by simp; omega) k
theorem rD_l {l : List Ev} {P : Pln} {N : Nat} (w : Wld l P N) (p : Pth) (hs : p.sub.length ≤ 1048600) (a : List Int) (Q : Nat → Prop) (ha : LS N Q a) (hc : ∀ q ∈ p.sub, ∀ (a : List Int) (Q : Nat → Prop), LS N Q a → ∃ m, LS N (fun j => ∃ k, k < N ∧ Q k ∧ Rl P q k j) m ∧ Ctr Try.prog 28 [.agg (wldL l (nodJ l)), .agg (pthL q), .sl none (a).length (intsC (a)) .no] (.sl none (m).length (intsC (m)) .no)) : ∀ d i (out : List Int) (Qo : Nat → Prop), i + d = p.sub.length → LS N Qo out → ∃ R, LS N (fun j => Qo j ∨ ∃ k, k < N ∧ Q k ∧ RlAlt P (p.sub.drop i) k j) R ∧ HT Try.prog Try.f28.ntmps (pt Try.f28 4) (stLD l (nodJ l) p a out i) (EndsA Γ (.pure [] (.sl none (R).length (intsC (R)) .no)) Try.f28) := by
  have hNle := w.le
  intro d
  induction d with
  | zero =>
    intro i out Qo h ho
    rw [List.drop_of_length_le (by omega)]
    exact ⟨out, ho.congr fun k hk => by simp [RlAlt], lD_e l _ p a out i (by omega)⟩
  | succ d ih =>
    intro i out Qo h ho
    have hlt : i < p.sub.length := by omega
    rw [drop_cons _ _ pth0 hlt]
    obtain ⟨m, h1, h2⟩ := hc _ (getD_mem p.sub i pth0 hlt) a Q ha
    have hml := h1.le
    have hol := ho.le
    obtain ⟨R, h3, h4⟩ := ih (i + 1) (addA out m) _ (by omega) (ho.add h1)
    refine ⟨R, h3.congr fun j hj => ?_, lD_h l _ p a out m R i hlt hs h2 (rDi_l p a m R i (by omega) (by omega) m.length 0 out (Nat.zero_add _) (by omega) (by rw [List.drop_zero]; exact h4))⟩
    simp only [RlAlt]
    constructor
    · rintro ((h5 | ⟨k, h5, h6, h7⟩) | ⟨k, h5, h6, h7⟩)
      · exact .inl h5
      · exact .inr ⟨k, h5, h6, .inl h7⟩
      · exact .inr ⟨k, h5, h6, .inr h7⟩
    · rintro (h5 | ⟨k, h5, h6, h7 | h7⟩)
      · exact .inl (.inl h5)
      · exact .inl (.inr ⟨k, h5, h6, h7⟩)
      · exact .inr ⟨k, h5, h6, h7⟩
end Go.Proofs.Ytpffjbbolaehpaa
end

section
set_option linter.unusedVariables false
set_option linter.unusedSimpArgs false
namespace Go.Proofs.Ytpffjbbolaehpaa
open Go Go.AX

/-! ### Where a path leads, and whether a filter holds: the document's answer is the judge's -/
theorem attrL_none (n : Nm) : ∀ l : List Atr, attrL true n l = none
  | [] => rfl
  | a :: r => by
    simp only [attrL]
    rw [if_neg (by simp)]
    exact attrL_none n r
theorem attrL_iff (n : Nm) : ∀ l : List Atr, (attrL false n l).isSome = true ↔ ∃ i, i < l.length ∧ (l.getD i atr0).nm = n
  | [] => by simp [attrL]
  | a :: r => by
    simp only [attrL]
    by_cases h : a.nm = n
    · rw [if_pos ⟨h, trivial⟩]
      exact ⟨fun _ => ⟨0, Nat.succ_pos _, h⟩, fun _ => rfl⟩
    · rw [if_neg (fun hh => h hh.1), attrL_iff n r]
      constructor
      · rintro ⟨i, h1, h2⟩
        exact ⟨i + 1, Nat.succ_lt_succ h1, h2⟩
      · rintro ⟨i, h1, h2⟩
        cases i with
        | zero => exact absurd h2 h
        | succ i => exact ⟨i, Nat.lt_of_succ_lt_succ h1, h2⟩
theorem attrL_val (n : Nm) : ∀ l : List Atr, (∀ j k, j < k → k < l.length → (l.getD j atr0).nm ≠ (l.getD k atr0).nm) → ∀ i, i < l.length → (l.getD i atr0).nm = n → attrL false n l = some (l.getD i atr0).v
  | [], _, i, h, _ => by simp at h
  | a :: r, hd, i, h, hn => by
    simp only [attrL]
    cases i with
    | zero => rw [if_pos ⟨hn, trivial⟩]; rfl
    | succ i =>
      have h1 := hd 0 (i + 1) (Nat.succ_pos _) h
      have h2 : ((a :: r).getD 0 atr0).nm = a.nm := rfl
      rw [hn, h2] at h1
      rw [if_neg (fun hh => h1 hh.1)]
      exact attrL_val n r (fun j k hjk hk => hd (j + 1) (k + 1) (Nat.succ_lt_succ hjk) (Nat.succ_lt_succ hk)) i (Nat.lt_of_succ_lt_succ h) hn
theorem RlW_eq (P : Pln) (l : List Flt) (k : Nat) (h : 0 < l.length) : RlW P l k ↔ holdsJ P (l.getD 0 flt0) k = true := by
  cases l with
  | nil => simp at h
  | cons f r => simp [RlW]
theorem RlStar_eq (P : Pln) (l : List Pth) (k j : Nat) (h : 0 < l.length) : RlStar P l k j ↔ Star (Rl P (l.getD 0 pth0)) k j := by
  cases l with
  | nil => simp at h
  | cons f r => simp [RlStar]
theorem toV_lt {P : Pln} {N : Nat} (hP : PW P N) (p : Pth) (k : Nat) (hk : k < N) : toV P p k < N := by
  have h1 := hP.fok k hk
  have h2 := hP.nok k hk
  unfold toV
  split
  · exact h1
  · split
    · exact h2
    · split <;> omega
theorem toV_inj {l : List Ev} {P : Pln} {N : Nat} (w : Wld l P N) (p : Pth) (k k' : Nat) (hk : k < N) (hk' : k' < N) (h0 : 0 ≤ toV P p k) (he : toV P p k = toV P p k') : k = k' := by
  unfold toV at h0 he
  by_cases h2 : p.op = 2
  · simp only [if_pos h2] at h0 he
    exact w.i1 k k' hk hk' h0 he
  · simp only [if_neg h2] at h0 he
    by_cases h3 : p.op = 3
    · simp only [if_pos h3] at h0 he
      exact w.i2 k k' hk hk' h0 he
    · simp only [if_neg h3] at h0 he
      split at h0
      · rename_i h7
        rw [if_pos h7] at he
        split at he <;> omega
      · omega
theorem hb_l {l : List Ev} {P : Pln} (f : Flt) (e : Ev) (k : Nat) (hs : f.sub.length ≤ 1048600) (ho : f.op = 9 ∨ f.op = 10) (hc : ∀ q ∈ f.sub, Ctr Try.prog 18 [.agg (wldL l (nodJ l)), .agg (fltL q), .int .i64 k] (.bool (holdsJ P q k))) : ∀ d i, i + d = f.sub.length → HT Try.prog Try.f18.ntmps (pt Try.f18 1) (stHb l (nodJ l) f e k i) (EndsA Γ (.pure [] (.bool (if f.op = 10 then anyJ P (f.sub.drop i) k else allJ P (f.sub.drop i) k))) Try.f18) := by
  intro d
  induction d with
  | zero =>
    intro i h
    rw [List.drop_of_length_le (by omega)]
    have := hb_e l (nodJ l) f e k i (by omega)
    rcases ho with h9 | h9
    · rw [if_neg (by omega)]
      rw [decide_eq_true h9] at this
      exact this
    · rw [if_pos h9]
      rw [decide_eq_false (by omega)] at this
      exact this
  | succ d ih =>
    intro i h
    have hlt : i < f.sub.length := by omega
    have h1 := ih (i + 1) (by omega)
    rw [drop_cons _ _ flt0 hlt]
    refine hb_h l (nodJ l) f e k i (holdsJ P (f.sub.getD i flt0) k) _ hlt hs (hc _ (getD_mem f.sub i flt0 hlt)) (fun hne => ?_) (fun he => ?_)
    · rcases ho with h9 | h9
      · rw [if_neg (by omega)] at h1 ⊢
        rw [decide_eq_false (by omega)] at hne
        simp only [allJ]
        rw [show holdsJ P (f.sub.getD i flt0) k = true by simpa using hne, Bool.true_and]
        exact h1
      · rw [if_pos h9] at h1 ⊢
        rw [decide_eq_true h9] at hne
        simp only [anyJ]
        rw [show holdsJ P (f.sub.getD i flt0) k = false by simpa using hne, Bool.false_or]
        exact h1
    · rcases ho with h9 | h9
      · rw [if_neg (by omega)]
        simp only [allJ]
        rw [he, decide_eq_false (by omega)]; rfl
      · rw [if_pos h9]
        simp only [anyJ]
        rw [he, decide_eq_true h9]; rfl
mutual
theorem rleads {l : List Ev} {P : Pln} {N : Nat} (w : Wld l P N) (p : Pth) (hr : p.r) (hok : p.ok) (a : List Int) (Q : Nat → Prop) (ha : LS N Q a) : ∃ m, LS N (fun j => ∃ k, k < N ∧ Q k ∧ Rl P p k j) m ∧ Ctr Try.prog 28 [.agg (wldL l (nodJ l)), .agg (pthL p), .sl none (a).length (intsC (a)) .no] (.sl none (m).length (intsC (m)) .no) := by
  have hr1 := (Pth.r_i hr).1
  have ho := Pth.ok_i hok
  have hNle := w.le
  have hal := ha.le
  have hc : ∀ q ∈ p.sub, ∀ (a : List Int) (Q : Nat → Prop), LS N Q a → ∃ m, LS N (fun j => ∃ k, k < N ∧ Q k ∧ Rl P q k j) m ∧ Ctr Try.prog 28 [.agg (wldL l (nodJ l)), .agg (pthL q), .sl none (a).length (intsC (a)) .no] (.sl none (m).length (intsC (m)) .no) := fun q hq a Q ha => have := sub_lt p q hq; rleads w q ((Pth.r_i hr).2.1 q hq) (ho.2.2.1 q hq) a Q ha
  by_cases h1 : p.op = 1
  · refine ⟨a, ha.congr fun j hj => ?_, rleads_p l _ p a a (by omega) (fun _ => rfl) (fun h => by omega) (fun h => by omega) (fun h => absurd h1 h)⟩
    simp only [Rl_eq, if_pos h1]
    exact ⟨fun h => ⟨j, hj, h, rfl⟩, fun ⟨k, _, h, e⟩ => e ▸ h⟩
  by_cases h4 : p.op = 4
  · obtain ⟨R, g1, g2⟩ := r4_l w p ho.1 hc p.sub.length 0 a Q (Nat.zero_add _) ha
    refine ⟨R, g1.congr fun j hj => ?_, rleads_p l _ p a R (by omega) (fun h => absurd h h1) (fun _ => g2) (fun h => by omega) (fun _ h => absurd h4 h)⟩
    simp only [Rl_eq, if_neg h1, if_neg (show ¬ p.op = 2 by omega), if_neg (show ¬ p.op = 3 by omega), if_pos h4, List.drop_zero]
  by_cases h6 : p.op = 6
  · have h0 : 0 < p.sub.length := by have := hr1.one h6; omega
    obtain ⟨R, g1, g2⟩ := r6_l w p h0 Q hc N 0 a (by omega) (Nat.zero_le _) ha.nd (fun v hv => by
      obtain ⟨k, e, hk, hq⟩ := (ha.mem v).1 hv
      exact ⟨k, e, hk, k, hk, hq, .refl _⟩) (fun k hk hq => (ha.mem _).2 ⟨k, rfl, hk, hq⟩) (fun i' hi' => absurd hi' (Nat.not_lt_zero _))
    refine ⟨R, g1.congr fun j hj => ?_, rleads_p l _ p a R (by omega) (fun h => absurd h h1) (fun h => absurd h h4) (fun _ => g2) (fun _ _ h => absurd h6 h)⟩
    simp only [Rl_eq, if_neg h1, if_neg (show ¬ p.op = 2 by omega), if_neg (show ¬ p.op = 3 by omega), if_neg h4, if_neg (show ¬ p.op = 5 by omega), if_pos h6, RlStar_eq P _ _ _ h0]
  have hstep := LS.step ha (toV P p) (gV P p) (fun k hk => rfl) (fun k hk => toV_lt w.pw p k hk) (fun k k' hk hk' h0 he => toV_inj w p k k' hk hk' h0 he)
  obtain ⟨R, g1, g2⟩ := rD_l w p ho.1 a Q ha hc p.sub.length 0 _ _ (Nat.zero_add _) hstep
  have h7t : p.op = 7 → 0 < p.test.length := fun h7 => by have := hr1.test.1 h7; omega
  have g3 := rC_l w p a R (by omega) (fun i hi => by
    obtain ⟨k, e, hk, _⟩ := ha.at hi
    exact ⟨k, e, hk⟩) h7t (fun h7 k hk => have hq := getD_mem p.test 0 flt0 (h7t h7); have := test_lt p _ hq; rholds w _ ((Pth.r_i hr).2.2 _ hq) (ho.2.2.2 _ hq) k hk) a.length 0 [] (Nat.zero_add _) (Nat.zero_le _) (by rw [List.drop_zero, List.nil_append]; exact g2)
  refine ⟨R, g1.congr fun j hj => ?_, rleads_p l _ p a R (by omega) (fun h => absurd h h1) (fun h => absurd h h4) (fun h => absurd h h6) (fun _ _ _ => rleads_22 l _ p a R g3)⟩
  rw [List.drop_zero]
  by_cases h5 : p.op = 5
  · simp only [Rl_eq, toV, if_neg h1, if_neg (show ¬ p.op = 2 by omega), if_neg (show ¬ p.op = 3 by omega), if_neg h4, if_pos h5, if_neg (show ¬ (p.op = 7 ∧ _) from fun h => by omega)]
    exact ⟨fun h => h.elim (fun ⟨k, _, _, h⟩ => by omega) id, .inr⟩
  · have hsub : p.sub = [] := List.eq_nil_of_length_eq_zero (hr1.non ⟨h4, h5, h6⟩)
    have hno : ∀ k, ¬ RlAlt P p.sub k j := fun k h => by rw [hsub] at h; simp [RlAlt] at h
    refine Iff.trans ⟨fun h => h.elim id fun ⟨k, _, _, h⟩ => absurd h (hno k), .inl⟩ ?_
    have key : ∀ k, toV P p k = (j : Int) ↔ Rl P p k j := by
      intro k
      simp only [Rl_eq, toV, if_neg h1, if_neg h4, if_neg h5, if_neg h6]
      by_cases h2 : p.op = 2
      · simp only [if_pos h2]
      · simp only [if_neg h2]
        by_cases h3 : p.op = 3
        · simp only [if_pos h3]
        · simp only [if_neg h3]
          have h7 : p.op = 7 := by have := hr1.op; omega
          rw [if_pos h7, RlW_eq P _ _ (h7t h7)]
          by_cases hh : holdsJ P (p.test.getD 0 flt0) k = true
          · rw [if_pos ⟨h7, hh⟩]
            exact ⟨fun h => ⟨by omega, hh⟩, fun h => by omega⟩
          · rw [if_neg (fun h => hh h.2)]
            exact ⟨fun h => by omega, fun h => absurd h.2 hh⟩
    exact ⟨fun ⟨k, a, b, c⟩ => ⟨k, a, b, (key k).1 c⟩, fun ⟨k, a, b, c⟩ => ⟨k, a, b, (key k).2 c⟩⟩
termination_by SizeOf.sizeOf p
theorem rholds {l : List Ev} {P : Pln} {N : Nat} (w : Wld l P N) (f : Flt) (hr : f.r) (hok : f.ok) (k : Nat) (hk : k < N) : Ctr Try.prog 18 [.agg (wldL l (nodJ l)), .agg (fltL f), .int .i64 k] (.bool (holdsJ P f k)) := by
  have hr1 := (Flt.r_i hr).1
  have ho := Flt.ok_i hok
  obtain ⟨x, hx, hxl, hal, hdis, hatl⟩ := w.al k hk
  have hsub : ∀ q ∈ f.sub, Ctr Try.prog 18 [.agg (wldL l (nodJ l)), .agg (fltL q), .int .i64 k] (.bool (holdsJ P q k)) := fun q hq => have := fsub_lt f q hq; rholds w q ((Flt.r_i hr).2.1 q hq) (ho.2.2.2.2.1 q hq) k hk
  have hm : ∃ m : List Int, f.op = 11 → LS N (fun j => ∃ k', k' < N ∧ k' = k ∧ Rl P (f.way.getD 0 pth0) k' j) m ∧ Ctr Try.prog 28 [.agg (wldL l (nodJ l)), .agg (pthL (f.way.getD 0 pth0)), .sl none ([(k : Int)]).length (intsC ([(k : Int)])) .no] (.sl none (m).length (intsC (m)) .no) := by
    by_cases h11 : f.op = 11
    · have h0 : 0 < f.way.length := by have := hr1.way.1 h11; omega
      have hq := getD_mem f.way 0 pth0 h0
      obtain ⟨m, g1, g2⟩ := have := way_lt f _ hq; rleads w _ ((Flt.r_i hr).2.2 _ hq) (ho.2.2.2.2.2 _ hq) [(k : Int)] (fun j => j = k) (LS.one hk)
      exact ⟨m, fun _ => ⟨g1, g2⟩⟩
    · exact ⟨[], fun h => absurd h h11⟩
  obtain ⟨m, hm⟩ := hm
  have hkl : k < (nodJ l).length := by rw [w.hN]; exact hk
  generalize he : l.getD x ev0 = e at hal hdis hatl
  have htx := hal.tx
  refine rholds_p l _ f e k x _ (holdsJ P (f.sub.getD 0 flt0) k) m hkl hx hxl he.symm hr1 (fun h => ?_) (fun h => ?_) (fun h => ?_) (fun h => ?_) (fun h => ?_) (fun h => ?_) (fun h => ?_) (fun h => ?_) (fun h => ?_)
  · rw [holdsJ_eq, if_pos h]
  · rw [holdsJ_eq, if_neg (by omega), if_pos h, htx, Bool.not_not]
  · rw [holdsJ_eq, if_neg (by omega), if_neg (by omega), if_pos h, htx]
  · rw [holdsJ_eq, if_neg (by omega), if_neg (by omega), if_neg (by omega), if_pos h, htx, Bool.not_not]
    by_cases hk1 : e.kind = 1
    · rw [(hal.el hk1).1]
    · rw [decide_eq_false hk1, Bool.false_and, Bool.false_and]
  · refine ha_l l _ f e k hatl _ (fun i hi hh => ?_) (fun hno => ?_) e.attrs.length 0 (Nat.zero_add _) (fun j hj => absurd hj (Nat.not_lt_zero _))
    · obtain ⟨hk1, hn, hv⟩ := hh
      have htf : (P.tr.getD k tr0).isText = false := by rw [htx, decide_eq_true hk1]; rfl
      have hat := (hal.el hk1).2
      rcases h with h5 | h6
      · rw [holdsJ_eq, if_neg (by omega), if_neg (by omega), if_neg (by omega), if_neg (by omega), if_pos h5, htf, hat]
        exact (attrL_iff _ _).2 ⟨i, hi, hn⟩
      · rw [holdsJ_eq, if_neg (by omega), if_neg (by omega), if_neg (by omega), if_neg (by omega), if_neg (by omega), if_pos h6, htf, hat, attrL_val _ _ (fun j k hjk hk => hdis j k (Nat.zero_le _) hjk hk) i hi hn]
        simp only [Option.isSome_some, Option.getD_some, Bool.true_and]
        exact decide_eq_true (hv.resolve_left (by omega))
    · by_cases hk1 : e.kind = 1
      · have htf : (P.tr.getD k tr0).isText = false := by rw [htx, decide_eq_true hk1]; rfl
        have hat := (hal.el hk1).2
        rcases h with h5 | h6
        · rw [holdsJ_eq, if_neg (by omega), if_neg (by omega), if_neg (by omega), if_neg (by omega), if_pos h5, htf, hat]
          rw [← Bool.not_eq_true, attrL_iff]
          rintro ⟨i, hi, hn⟩
          exact hno i hi ⟨hk1, hn, .inl h5⟩
        · rw [holdsJ_eq, if_neg (by omega), if_neg (by omega), if_neg (by omega), if_neg (by omega), if_neg (by omega), if_pos h6, htf, hat]
          cases hs : (attrL false f.nm e.attrs).isSome with
          | false => rfl
          | true =>
            obtain ⟨i, hi, hn⟩ := (attrL_iff _ _).1 hs
            rw [attrL_val _ _ (fun j k hjk hk => hdis j k (Nat.zero_le _) hjk hk) i hi hn]
            simp only [Option.getD_some, Bool.true_and]
            exact decide_eq_false fun hv => hno i hi ⟨hk1, hn, .inr hv⟩
      · have htf : (P.tr.getD k tr0).isText = true := by rw [htx, decide_eq_false hk1]; rfl
        rcases h with h5 | h6
        · rw [holdsJ_eq, if_neg (by omega), if_neg (by omega), if_neg (by omega), if_neg (by omega), if_pos h5, htf, attrL_none]; rfl
        · rw [holdsJ_eq, if_neg (by omega), if_neg (by omega), if_neg (by omega), if_neg (by omega), if_neg (by omega), if_pos h6, htf, attrL_none]; rfl
  · rw [holdsJ_eq, if_neg (by omega), if_neg (by omega), if_neg (by omega), if_neg (by omega), if_neg (by omega), if_neg (by omega), if_pos h, htx]
    by_cases hk1 : e.kind = 1
    · rw [decide_eq_true hk1]; rfl
    · rw [hal.te hk1]
  · have h0 : 0 < f.sub.length := by have := hr1.one h; omega
    refine ⟨?_, hsub _ (getD_mem _ _ _ h0)⟩
    rw [holdsJ_eq, if_neg (by omega), if_neg (by omega), if_neg (by omega), if_neg (by omega), if_neg (by omega), if_neg (by omega), if_neg (by omega), if_pos h, notJ_eq P _ k h0]
  · have h0 : 0 < f.way.length := by have := hr1.way.1 h; omega
    obtain ⟨g1, g2⟩ := hm h
    refine ⟨?_, g2⟩
    rw [holdsJ_eq, if_neg (by omega), if_neg (by omega), if_neg (by omega), if_neg (by omega), if_neg (by omega), if_neg (by omega), if_neg (by omega), if_neg (by omega), if_neg (by omega), if_neg (by omega), if_pos h, someJ_eq P _ k h0]
    have hS : ((noneL P.tr.length).set k true).length = N := by simp [noneL_len, w.pw.tr]
    have hll := leads_len P N (f.way.getD 0 pth0) _ hS
    unfold anyT
    refine decide_eq_decide.2 ⟨fun ⟨j, hj, ht⟩ => ?_, fun h => ?_⟩
    · obtain ⟨k', h1, h2⟩ := (leads_iff P N w.pw _ _ hS j).1 ht
      have hk' : k' = k := by
        rw [getD_set _ _ _ _ _ (by rw [noneL_len, w.pw.tr]; exact hk), noneL_get] at h1
        split at h1
        · assumption
        · cases h1
      have : (j : Int) ∈ m := (g1.mem _).2 ⟨j, rfl, by omega, k, hk, rfl, hk' ▸ h2⟩
      exact List.length_pos_of_mem this
    · obtain ⟨j, e, hj, k', hk', e2, h2⟩ := g1.at h
      subst e2
      exact ⟨j, by omega, (leads_iff P N w.pw _ _ hS j).2 ⟨k', by rw [getD_set _ _ _ _ _ (by rw [noneL_len, w.pw.tr]; exact hk), if_pos rfl], h2⟩⟩
  · have := hb_l (P := P) f e k ho.2.2.1 h hsub f.sub.length 0 (Nat.zero_add _)
    rw [List.drop_zero] at this
    have e2 : holdsJ P f k = if f.op = 10 then anyJ P f.sub k else allJ P f.sub k := by
      rcases h with h9 | h9
      · rw [if_neg (by omega), holdsJ_eq, if_neg (by omega), if_neg (by omega), if_neg (by omega), if_neg (by omega), if_neg (by omega), if_neg (by omega), if_neg (by omega), if_neg (by omega), if_pos h9]
      · rw [if_pos h9, holdsJ_eq, if_neg (by omega), if_neg (by omega), if_neg (by omega), if_neg (by omega), if_neg (by omega), if_neg (by omega), if_neg (by omega), if_neg (by omega), if_neg (by omega), if_pos h9]
    rw [e2]
    exact this
termination_by SizeOf.sizeOf f
end
theorem fromM_eq (N : Nat) (S : List Bool) (m : List Int) (h : ∀ i : Nat, (i : Int) ∈ m ↔ S.getD i false = true) : ∀ d i, fromM m d i = placesJ S d i := by
  intro d
  induction d with
  | zero => intro i; rfl
  | succ d ih =>
    intro i
    simp only [fromM, placesJ, ih (i + 1)]
    by_cases hm : (i : Int) ∈ m
    · rw [if_pos hm, if_pos ((h i).1 hm)]
    · rw [if_neg hm, if_neg (fun hh => hm ((h i).2 hh))]
/-- Where a path leads from a node: the document's answer is the judge's. -/
theorem rfrom {l : List Ev} {P : Pln} {N : Nat} (w : Wld l P N) (p : Pth) (hr : p.r) (hok : p.ok) (k : Nat) (hk : k < N) : Ctr Try.prog 13 [.agg (wldL l (nodJ l)), .agg (pthL p), .int .i64 k] (.sl none (fromJ P p k).length (intsC (fromJ P p k)) .no) := by
  obtain ⟨m, g1, g2⟩ := rleads w p hr hok [(k : Int)] (fun j => j = k) (LS.one hk)
  have hle := g1.le
  have hNle := w.le
  have hS : ((noneL P.tr.length).set k true).length = N := by simp [noneL_len, w.pw.tr]
  refine rfrom_ctr l _ p k m _ (by rw [w.hN]; omega) (by omega) ?_ g2
  rw [fromJ, if_pos ⟨by omega, by rw [w.pw.tr]; omega⟩, w.pw.tr, w.hN]
  refine (fromM_eq N _ m (fun i => ?_) N 0).symm
  rw [Int.toNat_natCast, leads_iff P N w.pw p _ (by simp [noneL_len]) i, g1.mem]
  constructor
  · rintro ⟨j, e, hj, k', hk', rfl, h2⟩
    have : i = j := by omega
    subst this
    exact ⟨k', by rw [getD_set _ _ _ _ _ (by rw [noneL_len]; exact hk), if_pos rfl], h2⟩
  · rintro ⟨k', h1, h2⟩
    have hk' : k' = k := by
      rw [getD_set _ _ _ _ _ (by rw [noneL_len]; exact hk), noneL_get] at h1
      split at h1
      · assumption
      · cases h1
    subst hk'
    exact ⟨i, rfl, rl_lt w.pw p hk h2, k', hk, rfl, h2⟩
end Go.Proofs.Ytpffjbbolaehpaa
end

section
set_option linter.unusedVariables false
set_option linter.unusedSimpArgs false
namespace Go.Proofs.Ytpffjbbolaehpaa
open Go Go.AX

/-! ### A path leads to no node ahead of where it begins -/
def NoB (s : List Bool) (k : Nat) : Prop := ∀ j, j < k → s.getD j false = false
theorem NoB.none (n k : Nat) : NoB (noneL n) k := by
  intro j hj
  rw [List.getD_eq_getElem?_getD]
  unfold noneL
  rw [List.getElem?_replicate]
  split <;> rfl
theorem NoB.orZ {a b : List Bool} {k : Nat} (ha : NoB a k) (hb : NoB b k) : NoB (orZ a b) k := by
  intro j hj
  have h1 := ha j hj
  have h2 := hb j hj
  unfold Ytpffjbbolaehpaa.orZ
  rw [List.getD_eq_getElem?_getD, List.getElem?_zipWith] at *
  cases e1 : a[j]? <;> cases e2 : b[j]? <;> simp_all
theorem NoB.stepF {to : List Int} {s : List Bool} {N k : Nat} (hto : FwdL to N) (hlen : to.length = N) (hs : s.length = N) (h : NoB s k) : ∀ d i out, i + d = s.length → NoB out k → NoB (stepF to s d i out) k
  | 0, i, out, hi, ho => ho
  | d + 1, i, out, hi, ho => by
    simp only [Ytpffjbbolaehpaa.stepF]
    refine NoB.stepF hto hlen hs h d (i + 1) _ (by omega) ?_
    split
    · rename_i hc
      simp only [Bool.and_eq_true, decide_eq_true_eq] at hc
      intro j hj
      have hik : k ≤ i := by
        rcases Nat.lt_or_ge i k with h1 | h1
        · rw [h i h1] at hc; exact absurd hc.1 (by decide)
        · exact h1
      have hf := hto i (by omega)
      have hne : (to.getD i 0).toNat ≠ j := by omega
      rw [List.getD_eq_getElem?_getD, List.getElem?_set, if_neg hne, ← List.getD_eq_getElem?_getD]
      exact ho j hj
    · exact ho
theorem NoB.starF {f : List Bool → List Bool} {N k : Nat} (hl : ∀ s, s.length = N → (f s).length = N) (hf : ∀ s, s.length = N → NoB s k → NoB (f s) k) : ∀ d s, s.length = N → NoB s k → NoB (starF f d s) k
  | 0, s, hs, h => h
  | d + 1, s, hs, h => by
    simp only [Ytpffjbbolaehpaa.starF]
    split
    · exact h
    · exact NoB.starF hl hf d _ (by rw [orZ_len _ _ (by rw [hs, hl s hs]), hl s hs]) (h.orZ (hf s hs h))
mutual
theorem leads_fwd (P : Pln) (N k : Nat) (hP : PW P N) (hf : FwdL P.fst N) (hx : FwdL P.nxt N) (p : Pth) (s : List Bool) (hs : s.length = N) (h : NoB s k) : NoB (leadsJ P p s) k := by
  match p with
  | .mk op sub test =>
    simp only [leadsJ]
    split
    · exact h
    split
    · exact h.stepF hf hP.fst hs s.length 0 _ (Nat.zero_add _) (NoB.none _ _)
    split
    · exact h.stepF hx hP.nxt hs s.length 0 _ (Nat.zero_add _) (NoB.none _ _)
    split
    · exact seq_fwd P N k hP hf hx sub s hs h
    split
    · exact alt_fwd P N k hP hf hx sub s _ hs h (NoB.none _ _)
    split
    · exact star_fwd P N k hP hf hx sub s hs h
    split
    · cases test with
      | nil => simpa [whereJ] using h
      | cons f r =>
        simp only [whereJ]
        intro j hj
        rcases Nat.lt_or_ge j s.length with h1 | h1
        · rw [whereF_get _ _ _ h1, h j hj]; rfl
        · rw [List.getD_eq_getElem?_getD, List.getElem?_eq_none (by rw [whereF_len]; exact h1)]; rfl
    · exact NoB.none _ _
theorem seq_fwd (P : Pln) (N k : Nat) (hP : PW P N) (hf : FwdL P.fst N) (hx : FwdL P.nxt N) (r : List Pth) (s : List Bool) (hs : s.length = N) (h : NoB s k) : NoB (seqJ P r s) k := by
  match r with
  | [] => simpa [seqJ] using h
  | p :: r => simp only [seqJ]; exact seq_fwd P N k hP hf hx r _ (leads_len P N p s hs) (leads_fwd P N k hP hf hx p s hs h)
theorem alt_fwd (P : Pln) (N k : Nat) (hP : PW P N) (hf : FwdL P.fst N) (hx : FwdL P.nxt N) (r : List Pth) (s out : List Bool) (hs : s.length = N) (h : NoB s k) (ho : NoB out k) : NoB (altJ P r s out) k := by
  match r with
  | [] => simpa [altJ] using ho
  | p :: r => simp only [altJ]; exact alt_fwd P N k hP hf hx r s _ hs h (ho.orZ (leads_fwd P N k hP hf hx p s hs h))
theorem star_fwd (P : Pln) (N k : Nat) (hP : PW P N) (hf : FwdL P.fst N) (hx : FwdL P.nxt N) (r : List Pth) (s : List Bool) (hs : s.length = N) (h : NoB s k) : NoB (starJ P r s) k := by
  match r with
  | [] => simpa [starJ] using h
  | p :: r => simp only [starJ]; exact NoB.starF (fun s hs => leads_len P N p s hs) (fun s hs h => leads_fwd P N k hP hf hx p s hs h) _ s hs h
end
/-- Places rise, from a place on, and are the set's. -/
theorem places_mem (s : List Bool) : ∀ d i x, x ∈ placesJ s d i → ∃ j : Nat, x = j ∧ i ≤ j ∧ j < i + d ∧ s.getD j false = true
  | 0, i, x, h => by simp [placesJ] at h
  | d + 1, i, x, h => by
    simp only [placesJ] at h
    split at h
    · rename_i hc
      rcases List.mem_cons.1 h with h1 | h1
      · exact ⟨i, h1, Nat.le_refl _, by omega, hc⟩
      · obtain ⟨j, a, b, c, e⟩ := places_mem s d (i + 1) x h1
        exact ⟨j, a, by omega, by omega, e⟩
    · obtain ⟨j, a, b, c, e⟩ := places_mem s d (i + 1) x h
      exact ⟨j, a, by omega, by omega, e⟩
theorem places_sorted (s : List Bool) : ∀ d i, (placesJ s d i).Pairwise (· < ·)
  | 0, i => by simp [placesJ]
  | d + 1, i => by
    simp only [placesJ]
    split
    · refine List.Pairwise.cons (fun x hx => ?_) (places_sorted s d (i + 1))
      obtain ⟨j, a, b, _, _⟩ := places_mem s d (i + 1) x hx
      omega
    · exact places_sorted s d (i + 1)
end Go.Proofs.Ytpffjbbolaehpaa
end

section
set_option linter.unusedVariables false
set_option linter.unusedSimpArgs false
set_option maxRecDepth 100000
namespace Go.Proofs.Ytpffjbbolaehpaa
open Go Go.AX

/-! ### Select, From, Holds of whatever tree -/
theorem select_all (t : Tr) (ht : t.okA) (hN : cntT t ≤ 1000000) (p : Pth) (hr : p.r) (hok : p.ok) (n : Int) : Ctr Try.prog 16 [.agg (pthL p), .agg (trL t), .int .i64 n] (.sl none (fromJ (visitS t (-1) pln0) p n).length (intsC (fromJ (visitS t (-1) pln0) p n)) .no) := by
  obtain ⟨N, hP, _, _⟩ := make_pw t ht hN
  exact from_p _ p t n N hP _ rfl _ rfl (make_ex t hN _ rfl) (fun s hs => leads_ctr _ N hP p hr hok s hs)
theorem holds_all (t : Tr) (ht : t.okA) (hN : cntT t ≤ 1000000) (f : Flt) (hr : f.r) (hok : f.ok) (n : Int) : Ctr Try.prog 17 [.agg (fltL f), .agg (trL t), .int .i64 n] (.bool (decide (0 ≤ n) && (decide (n < (visitS t (-1) pln0).tr.length) && holdsJ (visitS t (-1) pln0) f n.toNat))) := by
  obtain ⟨N, hP, _, _⟩ := make_pw t ht hN
  refine holdsf_ctr _ f t n _ (make_ex t hN _ rfl) (fun h1 h2 => ?_)
  have h3 := holds_ctr _ N hP f hr hok n.toNat (by have := hP.tr; omega)
  have e : ((n.toNat : Nat) : Int) = n := by omega
  rw [e] at h3
  exact h3
def pA : Pth := .mk 4 [.mk 2 [] [], .mk 6 [.mk 3 [] []] []] []
def tA : Tr := .mk false ⟨#[]⟩ ⟨⟨#[]⟩, ⟨#[97]⟩⟩ [] [.mk false ⟨#[]⟩ ⟨⟨#[]⟩, ⟨#[98]⟩⟩ [] [], .mk true ⟨#[116]⟩ nm0 [] []]
def fA : Flt := .mk 4 ⟨⟨#[]⟩, ⟨#[98]⟩⟩ ⟨#[]⟩ [] []
def fB : Flt := .mk 1 nm0 ⟨#[]⟩ [] []
theorem tA_ok : tA.okA := by simp [tA, Tr.okA, okAs]
theorem pA_ok : pA.ok := by simp [pA, Pth.ok, oksP, oksF]
theorem fA_ok : fA.ok := by simp [fA, Flt.ok, oksP, oksF, Nm.ok, ByteArray.size]
theorem fB_ok : fB.ok := by simp [fB, Flt.ok, oksP, oksF, Nm.ok, nm0, ByteArray.size]
theorem fA_r : fA.r := .mk _ ⟨by decide, by decide, by decide, by decide, by decide, by decide⟩ (fun q hq => by simp [fA, Flt.sub] at hq) (fun q hq => by simp [fA, Flt.way] at hq)
theorem fB_r : fB.r := .mk _ ⟨by decide, by decide, by decide, by decide, by decide, by decide⟩ (fun q hq => by simp [fB, Flt.sub] at hq) (fun q hq => by simp [fB, Flt.way] at hq)
theorem leaf_r (op : Int) (h : op = 2 ∨ op = 3) : (Pth.mk op [] []).r := .mk _ ⟨by simp only [Pth.op]; omega, by simp only [Pth.op]; omega, by simp only [Pth.op]; omega, fun _ => rfl, by simp [Pth.op, Pth.test]; omega, by simp [Pth.test]⟩ (fun q hq => by simp [Pth.sub] at hq) (fun q hq => by simp [Pth.test] at hq)
theorem pA_r : pA.r := by
  refine .mk _ ⟨by decide, by decide, by decide, by decide, by decide, by decide⟩ (fun q hq => ?_) (fun q hq => by simp [pA, Pth.test] at hq)
  simp only [pA, Pth.sub, List.mem_cons, List.not_mem_nil, or_false] at hq
  rcases hq with rfl | rfl
  · exact leaf_r 2 (.inl rfl)
  · refine .mk _ ⟨by decide, by decide, by decide, by decide, by decide, by decide⟩ (fun q hq => ?_) (fun q hq => by simp [Pth.test] at hq)
    simp only [Pth.sub, List.mem_cons, List.not_mem_nil, or_false] at hq
    subst hq
    exact leaf_r 3 (.inr rfl)
theorem fromA : fromJ (visitS tA (-1) pln0) pA 0 = [1, 2] := by rfl

theorem awake_p (h15 : Ctr Try.prog 15 [.agg (pthL pA), .agg (trL tA)] (.sl none 2 [.int .i64 1, .int .i64 2] .no)) (h14 : Ctr Try.prog 14 [.sl none 2 [.int .i64 1, .int .i64 2] .no, .sl none 2 [.int .i64 1, .int .i64 2] .no] (.bool true)) (h1 : Ctr Try.prog 17 [.agg (fltL fA), .agg (trL tA), .int .i64 1] (.bool true)) (h2 : Ctr Try.prog 17 [.agg (fltL fB), .agg (trL tA), .int .i64 3] (.bool false)) : Ctr Try.prog 8 [] (.bool true) :=
  Ctr.mk Γ_ok Try.func8 (by kernel_rfl) Try.call8 [] (by kernel_rfl) (HT.walk Γ_ok mo_ok (⟨([(17, .call [] (.sl none 2 [.int .i64 1, .int .i64 2] .no)), (19, .call [] (.bool true)), (24, .call [] (.bool true)), (29, .call [] (.bool false))] ++ []), sp8, [], [], .pure [] (.bool true)⟩ : Wk) 4000 (T := .ob ((3 : Nat) ≤ (3 : Nat)) (.ob ((6 : Nat) ≤ (6 : Nat)) (.ob (Ctr Try.prog 15 [AV.agg [AV.int .i64 (4 : Int), AV.sl (some false) (2 : Nat) [AV.int .i64 (2 : Int), AV.sl none (0 : Nat) [] .no, AV.sl none (0 : Nat) [] .no, AV.int .i64 (6 : Int), AV.sl none (1 : Nat) [AV.int .i64 (3 : Int), AV.sl none (0 : Nat) [] .no, AV.sl none (0 : Nat) [] .no] .no, AV.sl none (0 : Nat) [] .no] .clip, AV.sl (some true) (0 : Nat) [] .clip], AV.agg [AV.bool false, AV.str (ByteArray.mk #[]), AV.str (ByteArray.mk #[]), AV.str (ByteArray.mk #[(97 : UInt8)]), AV.sl (some true) (0 : Nat) [] .clip, AV.sl (some false) (2 : Nat) [AV.bool false, AV.str (ByteArray.mk #[]), AV.str (ByteArray.mk #[]), AV.str (ByteArray.mk #[(98 : UInt8)]), AV.sl none (0 : Nat) [] .no, AV.sl none (0 : Nat) [] .no, AV.bool true, AV.str (ByteArray.mk #[(116 : UInt8)]), AV.str (ByteArray.mk #[]), AV.str (ByteArray.mk #[]), AV.sl none (0 : Nat) [] .no, AV.sl none (0 : Nat) [] .no] .clip]] (AV.sl none (2 : Nat) [AV.int .i64 (1 : Int), AV.int .i64 (2 : Int)] .no)) (.ob (Ctr Try.prog 14 [AV.sl none (2 : Nat) [AV.int .i64 (1 : Int), AV.int .i64 (2 : Int)] .no, AV.sl (some false) (2 : Nat) [AV.int .i64 (1 : Int), AV.int .i64 (2 : Int)] .clip] (AV.bool true)) (.split (true) (.ob ((6 : Nat) ≤ (6 : Nat)) (.ob (Ctr Try.prog 17 [AV.agg [AV.int .i64 (4 : Int), AV.str (ByteArray.mk #[]), AV.str (ByteArray.mk #[(98 : UInt8)]), AV.str (ByteArray.mk #[]), AV.sl (some true) (0 : Nat) [] .clip, AV.sl (some true) (0 : Nat) [] .clip], AV.agg [AV.bool false, AV.str (ByteArray.mk #[]), AV.str (ByteArray.mk #[]), AV.str (ByteArray.mk #[(97 : UInt8)]), AV.sl (some true) (0 : Nat) [] .clip, AV.sl (some false) (2 : Nat) [AV.bool false, AV.str (ByteArray.mk #[]), AV.str (ByteArray.mk #[]), AV.str (ByteArray.mk #[(98 : UInt8)]), AV.sl none (0 : Nat) [] .no, AV.sl none (0 : Nat) [] .no, AV.bool true, AV.str (ByteArray.mk #[(116 : UInt8)]), AV.str (ByteArray.mk #[]), AV.str (ByteArray.mk #[]), AV.sl none (0 : Nat) [] .no, AV.sl none (0 : Nat) [] .no] .clip], AV.int .i64 (1 : Int)] (AV.bool true)) (.split (true) (.ob ((6 : Nat) ≤ (6 : Nat)) (.ob (Ctr Try.prog 17 [AV.agg [AV.int .i64 (1 : Int), AV.str (ByteArray.mk #[]), AV.str (ByteArray.mk #[]), AV.str (ByteArray.mk #[]), AV.sl (some true) (0 : Nat) [] .clip, AV.sl (some true) (0 : Nat) [] .clip], AV.agg [AV.bool false, AV.str (ByteArray.mk #[]), AV.str (ByteArray.mk #[]), AV.str (ByteArray.mk #[(97 : UInt8)]), AV.sl (some true) (0 : Nat) [] .clip, AV.sl (some false) (2 : Nat) [AV.bool false, AV.str (ByteArray.mk #[]), AV.str (ByteArray.mk #[]), AV.str (ByteArray.mk #[(98 : UInt8)]), AV.sl none (0 : Nat) [] .no, AV.sl none (0 : Nat) [] .no, AV.bool true, AV.str (ByteArray.mk #[(116 : UInt8)]), AV.str (ByteArray.mk #[]), AV.str (ByteArray.mk #[]), AV.sl none (0 : Nat) [] .no, AV.sl none (0 : Nat) [] .no] .clip], AV.int .i64 (3 : Int)] (AV.bool false)) (.ob (true = true) (.tt)))) (.ob (false = true) (.tt))))) (.ob (false = true) (.tt))))))) (by kernel_rfl) (by
    simp only [PT.holds, true_implies, Bool.false_eq_true, Bool.true_eq_false, false_implies, true_and, and_true]
    have ar : True := trivial
    refine ⟨by omega, by omega, h15.args rfl ?_, h14.args rfl ?_, by omega, h1.args rfl ?_, by omega, h2.args rfl ?_⟩
    all_goals (repeat' first | exact rfl | refine And.intro ?_ ?_)))
theorem awake_ctr : Ctr Try.prog 8 [] (.bool true) := by
  have h15 := select_ctr pA tA _ (select_all tA tA_ok (by decide) pA pA_r pA_ok 0)
  rw [fromA] at h15
  have h14 := same_ctr [1, 2] [1, 2] (by decide)
  have h1 := holds_all tA tA_ok (by decide) fA fA_r fA_ok 1
  have h2 := holds_all tA tA_ok (by decide) fB fB_r fB_ok 3
  exact awake_p h15 h14 h1 h2

end Go.Proofs.Ytpffjbbolaehpaa
end

section
set_option linter.unusedVariables false
set_option linter.unusedSimpArgs false
set_option maxRecDepth 100000
namespace Go.Proofs.Ytpffjbbolaehpaa
open Go Go.AX

theorem nod_small {l : List Ev} (hd : Doc l) (T : Tr) (hT : Nod l 0 T l.length) : cntT T ≤ 1000000 := by
  have h1 := nod_cnt T hT
  have h2 := nodF_len l (l.length - 0) 0
  have h3 := hd.len.2
  omega

theorem sel_p (p : Pth) (l : List Ev) (n : Int) (T : Tr) (b1 b2 : Bool) (o r : List Int) (hol : o.length ≤ 1000) (hrl : r.length ≤ 1000) (h9 : Ctr Try.prog 9 [.agg (pthL p)] (.bool b1)) (h10 : Ctr Try.prog 10 [.sl none l.length (evsC l) .no] (.bool b2)) (hm : b2 = true → Ctr Try.prog 11 [.sl none l.length (evsC l) .no] (.agg (wldL l (nodJ l))) ∧ Ctr Try.prog 12 [.sl none l.length (evsC l) .no, .int .i64 0] (.agg (trL T))) (hc : b1 = true → b2 = true → Ctr Try.prog 15 [.agg (pthL p), .agg (trL T)] (.sl none o.length (intsC o) .no) ∧ Ctr Try.prog 13 [.agg (wldL l (nodJ l)), .agg (pthL p), .int .i64 0] (.sl none o.length (intsC o) .no) ∧ Ctr Try.prog 16 [.agg (pthL p), .agg (trL T), .int .i64 n] (.sl none r.length (intsC r) .no) ∧ (0 ≤ n ∧ n < (nodJ l).length → Ctr Try.prog 13 [.agg (wldL l (nodJ l)), .agg (pthL p), .int .i64 n] (.sl none r.length (intsC r) .no)) ∧ (¬ (0 ≤ n ∧ n < (nodJ l).length) → r = [])) : Ctr Try.prog 3 [.agg (pthL p), .sl none l.length (evsC l) .no, .int .i64 n] (.bool true) :=
  Ctr.mk Γ_ok Try.func3 (by kernel_rfl) Try.call3 [] (by kernel_rfl) (HT.walk Γ_ok mo_ok (⟨([(10, .call [] (.bool true)), (14, .call [] (.bool b1)), (19, .call [] (.bool b2)), (22, .call [] (.bool true)), (24, .call [] (.agg (wldL l (nodJ l)))), (26, .call [] (.agg (trL T))), (39, .call [] (.sl none r.length (intsC r) .no)), (42, .call [] (.sl none o.length (intsC o) .no)), (45, .call [] (.sl none o.length (intsC o) .no)), (46, .call [] (.bool true)), (51, .call [] (.sl none r.length (intsC r) .no)), (53, .call [] (.bool true))] ++ []), sp3, [], dsp3, .pure [] (.bool true)⟩ : Wk) 4000 (T := .ob (Ctr Try.prog 8 [] (AV.bool true)) (.split (true) (.ob ((3 : Nat) ≤ (3 : Nat)) (.ob (Ctr Try.prog 9 [AV.agg (pthL p)] (AV.bool b1)) (.split (b1) (.ob (Ctr Try.prog 10 [AV.sl none l.length (evsC l) .no] (AV.bool b2)) (.split (b2) (.ob (Ctr Try.prog 11 [AV.sl none l.length (evsC l) .no] (AV.agg (wldL l (nodJ l)))) (.ob (Ctr Try.prog 12 [AV.sl none l.length (evsC l) .no, AV.int .i64 (0 : Int)] (AV.agg (trL T))) (.split (decide ((0 : Int) ≤ n)) (.split (decide (n < (↑(nodJ l).length : Int))) (.ob ((2 : Nat) ≤ (2 : Nat)) (.ob ((3 : Nat) ≤ (3 : Nat)) (.ob (Ctr Try.prog 13 [AV.agg (wldL l (nodJ l)), AV.agg (pthL p), AV.int .i64 n] (AV.sl none r.length (intsC r) .no)) (.or (.ob ((3 : Nat) ≤ (3 : Nat)) (.ob ((6 : Nat) ≤ (6 : Nat)) (.ob (Ctr Try.prog 15 [AV.agg (pthL p), AV.agg (trL T)] (AV.sl none o.length (intsC o) .no)) (.ob ((2 : Nat) ≤ (2 : Nat)) (.ob ((3 : Nat) ≤ (3 : Nat)) (.ob (Ctr Try.prog 13 [AV.agg (wldL l (nodJ l)), AV.agg (pthL p), AV.int .i64 (0 : Int)] (AV.sl none o.length (intsC o) .no)) (.ob (Ctr Try.prog 14 [AV.sl none o.length (intsC o) .no, AV.sl none o.length (intsC o) .no] (AV.bool true)) (.ob (true = true) (.ob ((3 : Nat) ≤ (3 : Nat)) (.ob ((6 : Nat) ≤ (6 : Nat)) (.ob (Ctr Try.prog 16 [AV.agg (pthL p), AV.agg (trL T), AV.int .i64 n] (AV.sl none r.length (intsC r) .no)) (.ob (Ctr Try.prog 14 [AV.sl none r.length (intsC r) .no, AV.sl none r.length (intsC r) .no] (AV.bool true)) (.ob (true = true) (.tt)))))))))))))) (.ob ((3 : Nat) ≤ (3 : Nat)) (.ob ((6 : Nat) ≤ (6 : Nat)) (.ob (Ctr Try.prog 15 [AV.agg (pthL p), AV.agg (trL T)] (AV.sl none o.length (intsC o) .no)) (.ob ((2 : Nat) ≤ (2 : Nat)) (.ob ((3 : Nat) ≤ (3 : Nat)) (.ob (Ctr Try.prog 13 [AV.agg (wldL l (nodJ l)), AV.agg (pthL p), AV.int .i64 (0 : Int)] (AV.sl none o.length (intsC o) .no)) (.ob (Ctr Try.prog 14 [AV.sl none o.length (intsC o) .no, AV.sl none o.length (intsC o) .no] (AV.bool true)) (.ob (true = false) (.ob (false = true) (.tt)))))))))))))) (.or (.ob ((3 : Nat) ≤ (3 : Nat)) (.ob ((6 : Nat) ≤ (6 : Nat)) (.ob (Ctr Try.prog 15 [AV.agg (pthL p), AV.agg (trL T)] (AV.sl none o.length (intsC o) .no)) (.ob ((2 : Nat) ≤ (2 : Nat)) (.ob ((3 : Nat) ≤ (3 : Nat)) (.ob (Ctr Try.prog 13 [AV.agg (wldL l (nodJ l)), AV.agg (pthL p), AV.int .i64 (0 : Int)] (AV.sl none o.length (intsC o) .no)) (.ob (Ctr Try.prog 14 [AV.sl none o.length (intsC o) .no, AV.sl none o.length (intsC o) .no] (AV.bool true)) (.ob (true = true) (.ob ((3 : Nat) ≤ (3 : Nat)) (.ob ((6 : Nat) ≤ (6 : Nat)) (.ob (Ctr Try.prog 16 [AV.agg (pthL p), AV.agg (trL T), AV.int .i64 n] (AV.sl none r.length (intsC r) .no)) (.ob (Ctr Try.prog 14 [AV.sl none r.length (intsC r) .no, AV.sl (some true) (0 : Nat) [] .clip] (AV.bool true)) (.ob (true = true) (.tt)))))))))))))) (.ob ((3 : Nat) ≤ (3 : Nat)) (.ob ((6 : Nat) ≤ (6 : Nat)) (.ob (Ctr Try.prog 15 [AV.agg (pthL p), AV.agg (trL T)] (AV.sl none o.length (intsC o) .no)) (.ob ((2 : Nat) ≤ (2 : Nat)) (.ob ((3 : Nat) ≤ (3 : Nat)) (.ob (Ctr Try.prog 13 [AV.agg (wldL l (nodJ l)), AV.agg (pthL p), AV.int .i64 (0 : Int)] (AV.sl none o.length (intsC o) .no)) (.ob (Ctr Try.prog 14 [AV.sl none o.length (intsC o) .no, AV.sl none o.length (intsC o) .no] (AV.bool true)) (.ob (true = false) (.ob (false = true) (.tt)))))))))))) (.or (.ob ((3 : Nat) ≤ (3 : Nat)) (.ob ((6 : Nat) ≤ (6 : Nat)) (.ob (Ctr Try.prog 15 [AV.agg (pthL p), AV.agg (trL T)] (AV.sl none o.length (intsC o) .no)) (.ob ((2 : Nat) ≤ (2 : Nat)) (.ob ((3 : Nat) ≤ (3 : Nat)) (.ob (Ctr Try.prog 13 [AV.agg (wldL l (nodJ l)), AV.agg (pthL p), AV.int .i64 (0 : Int)] (AV.sl none o.length (intsC o) .no)) (.ob (Ctr Try.prog 14 [AV.sl none o.length (intsC o) .no, AV.sl none o.length (intsC o) .no] (AV.bool true)) (.ob (true = true) (.ob ((3 : Nat) ≤ (3 : Nat)) (.ob ((6 : Nat) ≤ (6 : Nat)) (.ob (Ctr Try.prog 16 [AV.agg (pthL p), AV.agg (trL T), AV.int .i64 n] (AV.sl none r.length (intsC r) .no)) (.ob (Ctr Try.prog 14 [AV.sl none r.length (intsC r) .no, AV.sl (some true) (0 : Nat) [] .clip] (AV.bool true)) (.ob (true = true) (.tt)))))))))))))) (.ob ((3 : Nat) ≤ (3 : Nat)) (.ob ((6 : Nat) ≤ (6 : Nat)) (.ob (Ctr Try.prog 15 [AV.agg (pthL p), AV.agg (trL T)] (AV.sl none o.length (intsC o) .no)) (.ob ((2 : Nat) ≤ (2 : Nat)) (.ob ((3 : Nat) ≤ (3 : Nat)) (.ob (Ctr Try.prog 13 [AV.agg (wldL l (nodJ l)), AV.agg (pthL p), AV.int .i64 (0 : Int)] (AV.sl none o.length (intsC o) .no)) (.ob (Ctr Try.prog 14 [AV.sl none o.length (intsC o) .no, AV.sl none o.length (intsC o) .no] (AV.bool true)) (.ob (true = false) (.ob (false = true) (.tt)))))))))))))) (.ob (Ctr Try.prog 8 [] (AV.bool true)) (.ob (true = true) (.tt))))) (.ob (Ctr Try.prog 8 [] (AV.bool true)) (.ob (true = true) (.tt)))))) (.ob (Ctr Try.prog 8 [] (AV.bool true)) (.ob (true = true) (.tt))))) (by kernel_rfl) (by
    simp only [PT.holds, true_implies, Bool.false_eq_true, Bool.true_eq_false, false_implies, true_and, and_true]
    have same : ∀ a : List Int, a.length ≤ 1000 → Ctr Try.prog 14 [(.sl none a.length (intsC a) .no), (.sl none a.length (intsC a) .no)] (.bool true) := fun a ha => by
      have := same_ctr a a (by omega)
      rwa [decide_eq_true rfl] at this
    refine ⟨awake_ctr, by omega, h9, fun e1 => ⟨h10, fun e2 => ?_, fun _ => awake_ctr⟩, fun _ => awake_ctr⟩
    obtain ⟨m1, m2⟩ := hm e2
    obtain ⟨c15, c13, c16, cn, cr⟩ := hc e1 e2
    have nil : r = [] → Ctr Try.prog 14 [(.sl none r.length (intsC r) .no), .sl (some true) 0 [] .clip] (.bool true) := fun e => by
      subst e
      refine (same [] (by simp)).args rfl ?_
      (repeat' first | exact rfl | refine And.intro ?_ ?_)
    refine ⟨m1, m2, fun g0 => ⟨fun g1 => ?_, fun g1 => ?_⟩, fun g0 => ?_⟩
    · have g := And.intro (of_decide_eq_true g0) (of_decide_eq_true g1)
      exact ⟨by omega, by omega, cn g, .inl ⟨by omega, by omega, c15, by omega, by omega, c13, same o hol, by omega, by omega, c16, same r hrl⟩⟩
    · have g : ¬ (0 ≤ n ∧ n < (nodJ l).length) := fun h => of_decide_eq_false g1 h.2
      exact .inl ⟨by omega, by omega, c15, by omega, by omega, c13, same o hol, by omega, by omega, c16, nil (cr g)⟩
    · have g : ¬ (0 ≤ n ∧ n < (nodJ l).length) := fun h => of_decide_eq_false g0 h.1
      exact .inl ⟨by omega, by omega, c15, by omega, by omega, c13, same o hol, by omega, by omega, c16, nil (cr g)⟩))
theorem selects_ctr (p : Pth) (hp : p.ok) (l : List Ev) (hl : l.length ≤ 1048600) (ho : okEvs l) (n : Int) : Ctr Try.prog 3 [.agg (pthL p), .sl none l.length (evsC l) .no, .int .i64 n] (.bool true) := by
  obtain ⟨b1, hb1, h9⟩ := rightp_ex p hp
  obtain ⟨b2, hb2, h10⟩ := few_ex l hl ho
  cases e2 : b2 with
  | false =>
    rw [e2] at h10
    exact sel_p p l n tr0 b1 false [] [] (by simp) (by simp) h9 h10 (fun h => by cases h) (fun _ h => by cases h)
  | true =>
    rw [e2] at h10
    have hd := hb2 e2
    obtain ⟨T, hT, _⟩ := doc_tree hd
    have hok := nod_okA ho T hT
    have hsmall : cntT T ≤ 1000000 := nod_small hd T hT
    obtain ⟨N, hP, hf, hx⟩ := make_pw T hok hsmall
    have w := wld_of hd ho T hT _ rfl N hP
    have hNle := w.le
    have hN0 := hP.n
    have flen : ∀ k, (fromJ (visitS T (-1) pln0) p k).length ≤ 1000 := fun k => by
      unfold fromJ
      split
      · have := placesJ_le (leadsJ (visitS T (-1) pln0) p ((noneL (visitS T (-1) pln0).tr.length).set k.toNat true)) (visitS T (-1) pln0).tr.length 0
        have := hP.tr
        omega
      · simp
    refine sel_p p l n T b1 true (fromJ (visitS T (-1) pln0) p 0) (fromJ (visitS T (-1) pln0) p n) (flen 0) (flen n) h9 h10 (fun _ => ⟨mk_ctr l hd.len.2, tree_ctr hd.len.2 T 0 _ hT⟩) (fun e1 _ => ⟨?_, ?_, ?_, fun h => ?_, fun h => ?_⟩)
    · exact select_ctr p T _ (select_all T hok hsmall p (hb1 e1) hp 0)
    · exact rfrom w p (hb1 e1) hp 0 (by omega)
    · exact select_all T hok hsmall p (hb1 e1) hp n
    · rw [w.hN] at h
      have := rfrom w p (hb1 e1) hp n.toNat (by omega)
      have e : ((n.toNat : Nat) : Int) = n := by omega
      rw [e] at this
      exact this
    · rw [fromJ, if_neg (by rw [hP.tr]; rw [w.hN] at h; exact h)]

end Go.Proofs.Ytpffjbbolaehpaa
end

section
set_option linter.unusedVariables false
set_option linter.unusedSimpArgs false
set_option maxRecDepth 100000
namespace Go.Proofs.Ytpffjbbolaehpaa
open Go Go.AX

def memV (R : List Int) : MemS := ⟨[], [(1000016, ⟨R.length, 3, 1, some (true, intsC R)⟩)]⟩
def stFn (P : Pln) (p : Pth) (t : Tr) (s : List Bool) (i : Nat) : AS := ⟨[(8, .sl (some true) 0 [] .clip), (29, .sl none s.length (boolsC s) .no), (30, .int .i64 s.length), (31, .int .i64 i)], [(3, .var true (pthL p)), (4, .var true (trL t)), (7, .var true (planL P))], []⟩
def stFv (P : Pln) (p : Pth) (t : Tr) (s : List Bool) (out : List Int) (i : Nat) : AS := ⟨[(8, .vec 1000016 out.length), (29, .sl none s.length (boolsC s) .no), (30, .int .i64 s.length), (31, .int .i64 i)], [(3, .var true (pthL p)), (4, .var true (trL t)), (7, .var true (planL P))], [(1000016, ⟨out.length, 3, 1, some (true, intsC out)⟩)]⟩

theorem frn_h (P : Pln) (p : Pth) (t : Tr) (s : List Bool) (R : List Int) (i : Nat) (hi : i < s.length) (hN : s.length ≤ 1000000) (k1 : s.getD i false = true → HT Try.prog Try.f16.ntmps (pt Try.f16 0) (stFv P p t s [(i : Int)] (i + 1)) (EndsA Γ (.mem [] (memV R) (.vec 1000016 R.length)) Try.f16)) (k2 : s.getD i false = false → HT Try.prog Try.f16.ntmps (pt Try.f16 0) (stFn P p t s (i + 1)) (EndsA Γ (.mem [] (memV R) (.vec 1000016 R.length)) Try.f16)) : HT Try.prog Try.f16.ntmps (pt Try.f16 0) (stFn P p t s i) (EndsA Γ (.mem [] (memV R) (.vec 1000016 R.length)) Try.f16) :=
  HT.walk Γ_ok mo_ok (⟨([(35, .val (.bool (s.getD i false))), (40, .id 1000016)] ++ []), sp16, hd16 [] [] [] [1000016], [], .mem [] (memV R) (.vec 1000016 R.length)⟩ : Wk) 4000 (T := .split (decide ((↑i : Int) < (↑s.length : Int))) (.ob ((0 : Int) ≤ (↑i : Int) ∧ (↑i : Int) < (↑s.length : Int) ∧ (↑i : Int).toNat * (1 : Nat) < (boolsC s).length) (.ob ((boolsC s)[(↑i : Int).toNat * (1 : Nat)]? = some (AV.bool (s.getD i false))) (.split (s.getD i false) (.ob ((0 : Nat) < (1 : Nat) ∧ (splice (repL (List.map zn [AV.int .i64 (0 : Int)]) (1 : Nat)) ((0 : Nat) * (1 : Nat)) (cellsOf (AV.int .i64 (↑i : Int)))).length = (1 : Nat) * ((0 : Nat) + (1 : Nat)) ∧ (1 : Nat) * ((7 : Nat) + (1 : Nat)) ≤ (140737488355328 : Nat)) (.head (pt Try.f16 0) ({ tmps := [(8, AV.vec (1000016 : Nat) (1 : Nat)), (29, AV.sl none s.length (boolsC s) .no), (30, AV.int .i64 (↑s.length : Int)), (31, AV.int .i64 (IntKind.i64.wrap ((↑i : Int) + (1 : Int))))], heap := [(3, .var true (pthL p)), (4, .var true (trL t)), (7, .var true (planL P))], tags := [(1000016, { n := (1 : Nat), e := (3 : Nat), sz := (1 : Nat), cs := some (true, [AV.int .i64 (↑i : Int)]) })] }))) (.head (pt Try.f16 0) ({ tmps := [(8, AV.sl (some true) (0 : Nat) [] .clip), (29, AV.sl none s.length (boolsC s) .no), (30, AV.int .i64 (↑s.length : Int)), (31, AV.int .i64 (IntKind.i64.wrap ((↑i : Int) + (1 : Int))))], heap := [(3, .var true (pthL p)), (4, .var true (trL t)), (7, .var true (planL P))], tags := [] }))))) ((.bad (4 : Nat) (0 : Nat)))) (by kernel_rfl) (by
    have w2 : IntKind.i64.wrap ((i : Int) + 1) = ((i + 1 : Nat) : Int) := by rw [i64_wrap (by omega) (by omega)]; rfl
    have h0 : decide ((i : Int) < s.length) = true := by simp; omega
    simp only [PT.holds, w2, h0, Int.toNat_natCast, Nat.mul_one, boolsC_len, boolsC_nth s i hi, intsC_len', true_implies, Bool.false_eq_true, Bool.true_eq_false, false_implies, true_and, and_true]
    refine ⟨by omega, fun h1 => ⟨⟨by omega, rfl, by omega⟩, head_eq (k1 h1) ?_⟩, fun h1 => head_eq (k2 h1) ?_⟩
    · simp [stFv, splice, repL, cellsOf, planL, pthL, trL, intsC]
    · simp [stFn, planL, pthL, trL])
theorem frv_h (P : Pln) (p : Pth) (t : Tr) (s : List Bool) (out R : List Int) (i : Nat) (hi : i < s.length) (ho : out.length ≤ i) (hN : s.length ≤ 1000000) (k1 : s.getD i false = true → HT Try.prog Try.f16.ntmps (pt Try.f16 0) (stFv P p t s (out ++ [(i : Int)]) (i + 1)) (EndsA Γ (.mem [] (memV R) (.vec 1000016 R.length)) Try.f16)) (k2 : s.getD i false = false → HT Try.prog Try.f16.ntmps (pt Try.f16 0) (stFv P p t s out (i + 1)) (EndsA Γ (.mem [] (memV R) (.vec 1000016 R.length)) Try.f16)) : HT Try.prog Try.f16.ntmps (pt Try.f16 0) (stFv P p t s out i) (EndsA Γ (.mem [] (memV R) (.vec 1000016 R.length)) Try.f16) :=
  HT.walk Γ_ok mo_ok (⟨([(35, .val (.bool (s.getD i false))), (40, .id 1000016)] ++ []), sp16, hd16 [] [] [] [1000016], [], .mem [] (memV R) (.vec 1000016 R.length)⟩ : Wk) 4000 (T := .split (decide ((↑i : Int) < (↑s.length : Int))) (.ob ((0 : Int) ≤ (↑i : Int) ∧ (↑i : Int) < (↑s.length : Int) ∧ (↑i : Int).toNat * (1 : Nat) < (boolsC s).length) (.ob ((boolsC s)[(↑i : Int).toNat * (1 : Nat)]? = some (AV.bool (s.getD i false))) (.split (s.getD i false) (.ob (out.length = out.length ∧ (splice (repL (List.map zn [AV.int .i64 (0 : Int)]) (1 : Nat)) ((0 : Nat) * (1 : Nat)) (cellsOf (AV.int .i64 (↑i : Int)))).length = (1 : Nat) * ((0 : Nat) + (1 : Nat)) ∧ (out.length + (1 : Nat)) * ((7 : Nat) + (1 : Nat)) ≤ (140737488355328 : Nat)) (.head (pt Try.f16 0) ({ tmps := [(8, AV.vec (1000016 : Nat) (out.length + (1 : Nat))), (29, AV.sl none s.length (boolsC s) .no), (30, AV.int .i64 (↑s.length : Int)), (31, AV.int .i64 (IntKind.i64.wrap ((↑i : Int) + (1 : Int))))], heap := [(3, .var true (pthL p)), (4, .var true (trL t)), (7, .var true (planL P))], tags := [(1000016, { n := out.length + (1 : Nat), e := (3 : Nat), sz := (1 : Nat), cs := some (true, intsC out ++ splice (repL (List.map zn [AV.int .i64 (0 : Int)]) (1 : Nat)) ((0 : Nat) * (1 : Nat)) (cellsOf (AV.int .i64 (↑i : Int)))) })] }))) (.head (pt Try.f16 0) ({ tmps := [(8, AV.vec (1000016 : Nat) out.length), (29, AV.sl none s.length (boolsC s) .no), (30, AV.int .i64 (↑s.length : Int)), (31, AV.int .i64 (IntKind.i64.wrap ((↑i : Int) + (1 : Int))))], heap := [(3, .var true (pthL p)), (4, .var true (trL t)), (7, .var true (planL P))], tags := [(1000016, { n := out.length, e := (3 : Nat), sz := (1 : Nat), cs := some (true, intsC out) })] }))))) (.ob (out.length = R.length) (.ob (out.length = R.length) (.ob (intsC out = intsC R) (.tt))))) (by kernel_rfl) (by
    have w2 : IntKind.i64.wrap ((i : Int) + 1) = ((i + 1 : Nat) : Int) := by rw [i64_wrap (by omega) (by omega)]; rfl
    have h0 : decide ((i : Int) < s.length) = true := by simp; omega
    simp only [PT.holds, w2, h0, Int.toNat_natCast, Nat.mul_one, boolsC_len, boolsC_nth s i hi, intsC_len', true_implies, Bool.false_eq_true, Bool.true_eq_false, false_implies, true_and, and_true]
    refine ⟨by omega, fun h1 => ⟨⟨rfl, by omega⟩, head_eq (k1 h1) ?_⟩, fun h1 => head_eq (k2 h1) ?_⟩
    · simp [stFv, ← intsC_app, splice, repL, cellsOf, planL, pthL, trL]
    · simp [stFv, planL, pthL, trL])
theorem frv_e (P : Pln) (p : Pth) (t : Tr) (s : List Bool) (out : List Int) (i : Nat) (hi : i = s.length) : HT Try.prog Try.f16.ntmps (pt Try.f16 0) (stFv P p t s out i) (EndsA Γ (.mem [] (memV out) (.vec 1000016 out.length)) Try.f16) :=
  HT.walk Γ_ok mo_ok (⟨([(35, .val (.bool (s.getD i false))), (40, .id 1000016)] ++ []), sp16, hd16 [] [] [] [1000016], [], .mem [] (memV out) (.vec 1000016 out.length)⟩ : Wk) 4000 (T := .split (decide ((↑i : Int) < (↑s.length : Int))) (.ob ((0 : Int) ≤ (↑i : Int) ∧ (↑i : Int) < (↑s.length : Int) ∧ (↑i : Int).toNat * (1 : Nat) < (boolsC s).length) (.ob ((boolsC s)[(↑i : Int).toNat * (1 : Nat)]? = some (AV.bool (s.getD i false))) (.split (s.getD i false) (.ob (out.length = out.length ∧ (splice (repL (List.map zn [AV.int .i64 (0 : Int)]) (1 : Nat)) ((0 : Nat) * (1 : Nat)) (cellsOf (AV.int .i64 (↑i : Int)))).length = (1 : Nat) * ((0 : Nat) + (1 : Nat)) ∧ (out.length + (1 : Nat)) * ((7 : Nat) + (1 : Nat)) ≤ (140737488355328 : Nat)) (.head (pt Try.f16 0) ({ tmps := [(8, AV.vec (1000016 : Nat) (out.length + (1 : Nat))), (29, AV.sl none s.length (boolsC s) .no), (30, AV.int .i64 (↑s.length : Int)), (31, AV.int .i64 (IntKind.i64.wrap ((↑i : Int) + (1 : Int))))], heap := [(3, .var true (pthL p)), (4, .var true (trL t)), (7, .var true (planL P))], tags := [(1000016, { n := out.length + (1 : Nat), e := (3 : Nat), sz := (1 : Nat), cs := some (true, intsC out ++ splice (repL (List.map zn [AV.int .i64 (0 : Int)]) (1 : Nat)) ((0 : Nat) * (1 : Nat)) (cellsOf (AV.int .i64 (↑i : Int)))) })] }))) (.head (pt Try.f16 0) ({ tmps := [(8, AV.vec (1000016 : Nat) out.length), (29, AV.sl none s.length (boolsC s) .no), (30, AV.int .i64 (↑s.length : Int)), (31, AV.int .i64 (IntKind.i64.wrap ((↑i : Int) + (1 : Int))))], heap := [(3, .var true (pthL p)), (4, .var true (trL t)), (7, .var true (planL P))], tags := [(1000016, { n := out.length, e := (3 : Nat), sz := (1 : Nat), cs := some (true, intsC out) })] }))))) (.ob (out.length = out.length) (.ob (out.length = out.length) (.ob (intsC out = intsC out) (.tt))))) (by kernel_rfl) (by
    have h0 : decide ((i : Int) < s.length) = false := by simp; omega
    simp only [PT.holds, h0, true_implies, Bool.false_eq_true, Bool.true_eq_false, false_implies, true_and, and_true])
theorem frv_l (P : Pln) (p : Pth) (t : Tr) (s : List Bool) (hN : s.length ≤ 1000000) : ∀ d i out, i + d = s.length → out.length ≤ i → HT Try.prog Try.f16.ntmps (pt Try.f16 0) (stFv P p t s out i) (EndsA Γ (.mem [] (memV (out ++ placesJ s d i)) (.vec 1000016 (out ++ placesJ s d i).length)) Try.f16) := by
  intro d
  induction d with
  | zero =>
    intro i out h ho
    simp only [placesJ, List.append_nil]
    exact frv_e P p t s out i (by omega)
  | succ d ih =>
    intro i out h ho
    refine frv_h P p t s out _ i (by omega) ho hN (fun h1 => ?_) (fun h1 => ?_)
    · have := ih (i + 1) (out ++ [(i : Int)]) (by omega) (by simp; omega)
      have e : out ++ [(i : Int)] ++ placesJ s d (i + 1) = out ++ placesJ s (d + 1) i := by simp only [placesJ, if_pos h1]; simp
      rw [e] at this
      exact this
    · have := ih (i + 1) out (by omega) (by omega)
      have e : placesJ s (d + 1) i = placesJ s d (i + 1) := by simp only [placesJ]; rw [if_neg (by rw [h1]; decide)]
      rw [e]
      exact this
theorem frn_l (P : Pln) (p : Pth) (t : Tr) (s : List Bool) (hN : s.length ≤ 1000000) : ∀ d i, i + d = s.length → placesJ s d i ≠ [] → HT Try.prog Try.f16.ntmps (pt Try.f16 0) (stFn P p t s i) (EndsA Γ (.mem [] (memV (placesJ s d i)) (.vec 1000016 (placesJ s d i).length)) Try.f16) := by
  intro d
  induction d with
  | zero => intro i h hne; exact absurd rfl hne
  | succ d ih =>
    intro i h hne
    refine frn_h P p t s _ i (by omega) hN (fun h1 => ?_) (fun h1 => ?_)
    · have := frv_l P p t s hN d (i + 1) [(i : Int)] (by omega) (by simp)
      have e : [(i : Int)] ++ placesJ s d (i + 1) = placesJ s (d + 1) i := by simp only [placesJ, if_pos h1]; simp
      rw [e] at this
      exact this
    · have e : placesJ s (d + 1) i = placesJ s d (i + 1) := by simp only [placesJ]; rw [if_neg (by rw [h1]; decide)]
      rw [e] at hne ⊢
      exact ih (i + 1) (by omega) hne

theorem fromv_p (P : Pln) (p : Pth) (t : Tr) (n : Int) (N : Nat) (hP : PW P N) (R : List Int) (hR : R = fromJ P p n) (hn : R ≠ []) (s : List Bool) (hs : s = leadsJ P p ((noneL P.tr.length).set n.toNat true)) (hm : Ctr Try.prog 30 [.agg (trL t)] (.agg (planL P))) (hc : ∀ s : List Bool, s.length = N → Ctr Try.prog 31 [.agg (planL P), .agg (pthL p), (.sl none (s).length (boolsC (s)) .no)] (.sl none (leadsJ P p s).length (boolsC (leadsJ P p s)) .no)) : CtrM Try.prog 16 ⟨[], []⟩ [.agg (pthL p), .agg (trL t), .int .i64 n] (memV R) (.vec 1000016 R.length) :=
  CtrM.mk Γ_ok Try.func16 (by kernel_rfl) Try.call16 [] (by kernel_rfl) (by kernel_rfl) (by kernel_rfl) (HT.walk Γ_ok mo_ok (⟨([(12, .call [] (.agg (planL P))), (28, .call [] (.sl (some false) P.tr.length (boolsC ((List.replicate P.tr.length false).set n.toNat true)) .no)), (29, .call [] (.sl none (s).length (boolsC (s)) .no)), (40, .id 1000016)] ++ []), sp16, hd16 [] [] [] [1000016], [], .mem [] (memV R) (.vec 1000016 R.length)⟩ : Wk) 4000 (T := .ob ((6 : Nat) ≤ (6 : Nat)) (.ob (Ctr Try.prog 30 [AV.agg (trL t)] (AV.agg (planL P))) (.split (decide (n < (0 : Int))) ((.bad (4 : Nat) (0 : Nat))) (.split (decide ((↑P.tr.length : Int) ≤ n)) ((.bad (4 : Nat) (0 : Nat))) (.ob ((5 : Nat) ≤ (5 : Nat)) (.ob ((3 : Nat) ≤ (3 : Nat)) (.ob ((5 : Nat) ≤ (5 : Nat)) (.ob (Ctr Try.prog 32 [AV.agg (planL P), AV.int .i64 n] (AV.sl (some false) P.tr.length (boolsC ((List.replicate P.tr.length false).set n.toNat true)) .no)) (.ob (Ctr Try.prog 31 [AV.agg (planL P), AV.agg (pthL p), AV.sl (some false) P.tr.length (boolsC ((List.replicate P.tr.length false).set n.toNat true)) .no] (AV.sl none s.length (boolsC s) .no)) (.head (pt Try.f16 0) ({ tmps := [(8, AV.sl (some true) (0 : Nat) [] .clip), (29, AV.sl none s.length (boolsC s) .no), (30, AV.int .i64 (↑s.length : Int)), (31, AV.int .i64 (0 : Int))], heap := [(3, .var true (pthL p)), (4, .var true (trL t)), (7, .var true (planL P))], tags := [] }))))))))))) (by kernel_rfl) (by
    have hN := hP.n
    have ht := hP.tr
    have hsl : ((noneL P.tr.length).set n.toNat true).length = P.tr.length := by simp [noneL_len]
    have hin : 0 ≤ n ∧ n < P.tr.length := by
      rcases Classical.em (0 ≤ n ∧ n < (P.tr.length : Int)) with h | h
      · exact h
      · rw [fromJ, if_neg h] at hR; exact absurd hR hn
    have d1 : decide (n < 0) = false := decide_eq_false (by omega)
    have d2 : decide ((P.tr.length : Int) ≤ n) = false := decide_eq_false (by omega)
    simp only [PT.holds, d1, d2, true_implies, Bool.false_eq_true, Bool.true_eq_false, false_implies, true_and, and_true]
    have h3 := hc _ (hsl.trans ht)
    rw [← hs] at h3
    have hl : s.length = N := by rw [hs]; exact leads_len P N p _ (hsl.trans ht)
    have ho := one_ctr P n.toNat (by omega) (by omega)
    have e1 : ((n.toNat : Nat) : Int) = n := by omega
    rw [e1] at ho
    have e2 : placesJ s s.length 0 = R := by
      rw [hR, fromJ, if_pos hin, ← hs, hl, ht]
    have hf := frn_l P p t s (by omega) s.length 0 (Nat.zero_add _) (by rw [e2]; exact hn)
    rw [e2] at hf
    refine ⟨by omega, hm, by omega, by omega, by omega, ho, h3.args rfl ⟨rfl, rfl, rfl, rfl, rfl, rfl, rfl, rfl, rfl, rfl, rfl, rfl, rfl, rfl, rfl, hsl.symm, rfl⟩, head_eq hf ?_⟩
    simp [stFn, planL, pthL, trL]))
theorem selectv_p (p : Pth) (t : Tr) (R : List Int) (hc : CtrM Try.prog 16 ⟨[], []⟩ [.agg (pthL p), .agg (trL t), .int .i64 0] (memV R) (.vec 1000016 R.length)) : CtrM Try.prog 15 ⟨[], []⟩ [.agg (pthL p), .agg (trL t)] (memV R) (.vec 1000016 R.length) :=
  CtrM.mk Γ_ok Try.func15 (by kernel_rfl) Try.call15 [] (by kernel_rfl) (by kernel_rfl) (by kernel_rfl) (HT.walk Γ_ok mo_ok (⟨([(7, .callM [] [] [] [] [] [(1000016, ⟨R.length, 3, 1, some (true, intsC R)⟩)] (.vec 1000016 R.length))] ++ []), sp15, [], [], .mem [] (memV R) (.vec 1000016 R.length)⟩ : Wk) 4000 (T := .ob ((3 : Nat) ≤ (3 : Nat)) (.ob ((6 : Nat) ≤ (6 : Nat)) (.ob (CtrM Try.prog (16 : Nat) { heap := [], tags := [] } [AV.agg (pthL p), AV.agg (trL t), AV.int .i64 (0 : Int)] { heap := [], tags := [(1000016, { n := R.length, e := (3 : Nat), sz := (1 : Nat), cs := some (true, intsC R) })] } (AV.vec (1000016 : Nat) R.length)) (.ob (R.length = R.length) (.ob (R.length = R.length) (.ob (intsC R = intsC R) (.tt))))))) (by kernel_rfl) (by
    simp only [PT.holds]
    exact ⟨by omega, by omega, hc, trivial, trivial, trivial, trivial⟩))
theorem selectv (t : Tr) (ht : t.okA) (hN : cntT t ≤ 1000000) (p : Pth) (hr : p.r) (hok : p.ok) (R : List Int) (hR : R = fromJ (visitS t (-1) pln0) p 0) (hn : R ≠ []) : CtrM Try.prog 15 ⟨[], []⟩ [.agg (pthL p), .agg (trL t)] (memV R) (.vec 1000016 R.length) := by
  obtain ⟨N, hP, _, _⟩ := make_pw t ht hN
  exact selectv_p p t R (fromv_p _ p t 0 N hP R hR hn _ rfl (make_ex t hN _ rfl) (fun s hs => leads_ctr _ N hP p hr hok s hs))

end Go.Proofs.Ytpffjbbolaehpaa
end

section
set_option linter.unusedVariables false
set_option linter.unusedSimpArgs false
set_option maxRecDepth 100000
namespace Go.Proofs.Ytpffjbbolaehpaa
open Go Go.AX

def stSa (t : Tr) (i : Nat) : AS := ⟨[(2, .ptr 2 0), (3, .ptr 3 0), (5, .int .i64 i)], [(2, .var true (trL t)), (3, .var true (trL t))], []⟩
def stSb (t : Tr) (i : Nat) : AS := ⟨[(2, .ptr 2 0), (3, .ptr 3 0), (6, .int .i64 i)], [(2, .var true (trL t)), (3, .var true (trL t))], []⟩

theorem sa_h (t : Tr) (i : Nat) (hi : i < t.attrs.length) (hN : t.attrs.length ≤ 1048600) (k : HT Try.prog Try.f23.ntmps (pt Try.f23 0) (stSa t (i + 1)) (EndsA Γ (.pure [] (.bool true)) Try.f23)) : HT Try.prog Try.f23.ntmps (pt Try.f23 0) (stSa t i) (EndsA Γ (.pure [] (.bool true)) Try.f23) :=
  HT.walk Γ_ok mo_ok (⟨([(55, .val (.agg (atC (t.attrs.getD i atr0)))), (60, .val (.agg (atC (t.attrs.getD i atr0)))), (73, .val (.agg (trL (t.kids.getD i tr0)))), (78, .val (.agg (trL (t.kids.getD i tr0)))), (79, .call [] (.bool true))] ++ []), sp23, hd23 [] [] [] [], dsp23, .pure [] (.bool true)⟩ : Wk) 4000 (T := .split (decide ((↑i : Int) < (↑t.attrs.length : Int))) (.or (.ob ((0 : Int) ≤ (↑i : Int) ∧ (↑i : Int) < (↑t.attrs.length : Int) ∧ (↑i : Int).toNat * (3 : Nat) < (atsC t.attrs).length) (.ob (List.take (3 : Nat) (List.drop ((↑i : Int).toNat * (3 : Nat)) (atsC t.attrs)) = [AV.str (t.attrs.getD i atr0).nm.sp, AV.str (t.attrs.getD i atr0).nm.lo, AV.str (t.attrs.getD i atr0).v]) (.ob ((0 : Int) ≤ (↑i : Int) ∧ (↑i : Int) < (↑t.attrs.length : Int) ∧ (↑i : Int).toNat * (3 : Nat) < (atsC t.attrs).length) (.ob (List.take (3 : Nat) (List.drop ((↑i : Int).toNat * (3 : Nat)) (atsC t.attrs)) = [AV.str (t.attrs.getD i atr0).nm.sp, AV.str (t.attrs.getD i atr0).nm.lo, AV.str (t.attrs.getD i atr0).v]) (.ob ((!(decide ((t.attrs.getD i atr0).nm.sp = (t.attrs.getD i atr0).nm.sp) && (decide ((t.attrs.getD i atr0).nm.lo = (t.attrs.getD i atr0).nm.lo) && (decide ((t.attrs.getD i atr0).v = (t.attrs.getD i atr0).v) && true)))) = true) (.ob (false = true) (.tt))))))) (.ob ((0 : Int) ≤ (↑i : Int) ∧ (↑i : Int) < (↑t.attrs.length : Int) ∧ (↑i : Int).toNat * (3 : Nat) < (atsC t.attrs).length) (.ob (List.take (3 : Nat) (List.drop ((↑i : Int).toNat * (3 : Nat)) (atsC t.attrs)) = [AV.str (t.attrs.getD i atr0).nm.sp, AV.str (t.attrs.getD i atr0).nm.lo, AV.str (t.attrs.getD i atr0).v]) (.ob ((0 : Int) ≤ (↑i : Int) ∧ (↑i : Int) < (↑t.attrs.length : Int) ∧ (↑i : Int).toNat * (3 : Nat) < (atsC t.attrs).length) (.ob (List.take (3 : Nat) (List.drop ((↑i : Int).toNat * (3 : Nat)) (atsC t.attrs)) = [AV.str (t.attrs.getD i atr0).nm.sp, AV.str (t.attrs.getD i atr0).nm.lo, AV.str (t.attrs.getD i atr0).v]) (.ob ((!(decide ((t.attrs.getD i atr0).nm.sp = (t.attrs.getD i atr0).nm.sp) && (decide ((t.attrs.getD i atr0).nm.lo = (t.attrs.getD i atr0).nm.lo) && (decide ((t.attrs.getD i atr0).v = (t.attrs.getD i atr0).v) && true)))) = false) (.head (pt Try.f23 0) ({ tmps := [(2, AV.ptr 2 0), (3, AV.ptr 3 0), (5, AV.int .i64 (IntKind.i64.wrap ((↑i : Int) + (1 : Int))))], heap := [(2, .var true (trL t)), (3, .var true (trL t))], tags := [] })))))))) (.head (pt Try.f23 1) ({ tmps := [(2, AV.ptr 2 0), (3, AV.ptr 3 0), (6, AV.int .i64 (0 : Int))], heap := [(2, .var true (trL t)), (3, .var true (trL t))], tags := [] }))) (by kernel_rfl) (by
    have w2 : IntKind.i64.wrap ((i : Int) + 1) = ((i + 1 : Nat) : Int) := by rw [i64_wrap (by omega) (by omega)]; rfl
    have h0 : decide ((i : Int) < t.attrs.length) = true := by simp; omega
    simp only [PT.holds, w2, h0, Int.toNat_natCast, atsC_len, eq_self, decide_true, Bool.and_self, Bool.and_true, Bool.not_true, beq_self_eq_true, true_implies, Bool.false_eq_true, Bool.true_eq_false, false_implies, true_and, and_true]
    exact .inr ⟨by omega, by ((try simp only [Nat.add_assoc, Nat.reduceAdd, Nat.add_zero]) <;> first | (rw [ats_take _ _ _ _ hi (by decide)]; rfl) | (rw [ats_nth _ _ _ hi (by decide)]; rfl) | (rw [evs_take _ _ _ _ hi (by decide)]; rfl) | (rw [evs_nth _ _ _ hi (by decide)]; rfl) | (rw [trs_take _ _ _ _ hi (by decide)]; rfl) | (rw [trs_nth _ _ _ hi (by decide)]; rfl) | (rw [pths_take _ _ _ _ hi (by decide)]; rfl) | (rw [pths_nth _ _ _ hi (by decide)]; rfl) | (rw [flts_take _ _ _ _ hi (by decide)]; rfl) | (rw [flts_nth _ _ _ hi (by decide)]; rfl) | (rw [ats_take0 _ _ _ hi (by decide)]; rfl) | (rw [ats_nth0 _ _ hi]; rfl) | (rw [evs_take0 _ _ _ hi (by decide)]; rfl) | (rw [evs_nth0 _ _ hi]; rfl) | (rw [trs_take0 _ _ _ hi (by decide)]; rfl) | (rw [trs_nth0 _ _ hi]; rfl) | (rw [pths_take0 _ _ _ hi (by decide)]; rfl) | (rw [pths_nth0 _ _ hi]; rfl) | (rw [flts_take0 _ _ _ hi (by decide)]; rfl) | (rw [flts_nth0 _ _ hi]; rfl)), by omega, by ((try simp only [Nat.add_assoc, Nat.reduceAdd, Nat.add_zero]) <;> first | (rw [ats_take _ _ _ _ hi (by decide)]; rfl) | (rw [ats_nth _ _ _ hi (by decide)]; rfl) | (rw [evs_take _ _ _ _ hi (by decide)]; rfl) | (rw [evs_nth _ _ _ hi (by decide)]; rfl) | (rw [trs_take _ _ _ _ hi (by decide)]; rfl) | (rw [trs_nth _ _ _ hi (by decide)]; rfl) | (rw [pths_take _ _ _ _ hi (by decide)]; rfl) | (rw [pths_nth _ _ _ hi (by decide)]; rfl) | (rw [flts_take _ _ _ _ hi (by decide)]; rfl) | (rw [flts_nth _ _ _ hi (by decide)]; rfl) | (rw [ats_take0 _ _ _ hi (by decide)]; rfl) | (rw [ats_nth0 _ _ hi]; rfl) | (rw [evs_take0 _ _ _ hi (by decide)]; rfl) | (rw [evs_nth0 _ _ hi]; rfl) | (rw [trs_take0 _ _ _ hi (by decide)]; rfl) | (rw [trs_nth0 _ _ hi]; rfl) | (rw [pths_take0 _ _ _ hi (by decide)]; rfl) | (rw [pths_nth0 _ _ hi]; rfl) | (rw [flts_take0 _ _ _ hi (by decide)]; rfl) | (rw [flts_nth0 _ _ hi]; rfl)), head_eq k (by simp [stSa, trL])⟩)
theorem sa_e (t : Tr) (i : Nat) (hi : i = t.attrs.length) (k : HT Try.prog Try.f23.ntmps (pt Try.f23 1) (stSb t 0) (EndsA Γ (.pure [] (.bool true)) Try.f23)) : HT Try.prog Try.f23.ntmps (pt Try.f23 0) (stSa t i) (EndsA Γ (.pure [] (.bool true)) Try.f23) :=
  HT.walk Γ_ok mo_ok (⟨([(55, .val (.agg (atC (t.attrs.getD i atr0)))), (60, .val (.agg (atC (t.attrs.getD i atr0)))), (73, .val (.agg (trL (t.kids.getD i tr0)))), (78, .val (.agg (trL (t.kids.getD i tr0)))), (79, .call [] (.bool true))] ++ []), sp23, hd23 [] [] [] [], dsp23, .pure [] (.bool true)⟩ : Wk) 4000 (T := .split (decide ((↑i : Int) < (↑t.attrs.length : Int))) (.or (.ob ((0 : Int) ≤ (↑i : Int) ∧ (↑i : Int) < (↑t.attrs.length : Int) ∧ (↑i : Int).toNat * (3 : Nat) < (atsC t.attrs).length) (.ob (List.take (3 : Nat) (List.drop ((↑i : Int).toNat * (3 : Nat)) (atsC t.attrs)) = [AV.str (t.attrs.getD i atr0).nm.sp, AV.str (t.attrs.getD i atr0).nm.lo, AV.str (t.attrs.getD i atr0).v]) (.ob ((0 : Int) ≤ (↑i : Int) ∧ (↑i : Int) < (↑t.attrs.length : Int) ∧ (↑i : Int).toNat * (3 : Nat) < (atsC t.attrs).length) (.ob (List.take (3 : Nat) (List.drop ((↑i : Int).toNat * (3 : Nat)) (atsC t.attrs)) = [AV.str (t.attrs.getD i atr0).nm.sp, AV.str (t.attrs.getD i atr0).nm.lo, AV.str (t.attrs.getD i atr0).v]) (.ob ((!(decide ((t.attrs.getD i atr0).nm.sp = (t.attrs.getD i atr0).nm.sp) && (decide ((t.attrs.getD i atr0).nm.lo = (t.attrs.getD i atr0).nm.lo) && (decide ((t.attrs.getD i atr0).v = (t.attrs.getD i atr0).v) && true)))) = true) (.ob (false = true) (.tt))))))) (.ob ((0 : Int) ≤ (↑i : Int) ∧ (↑i : Int) < (↑t.attrs.length : Int) ∧ (↑i : Int).toNat * (3 : Nat) < (atsC t.attrs).length) (.ob (List.take (3 : Nat) (List.drop ((↑i : Int).toNat * (3 : Nat)) (atsC t.attrs)) = [AV.str (t.attrs.getD i atr0).nm.sp, AV.str (t.attrs.getD i atr0).nm.lo, AV.str (t.attrs.getD i atr0).v]) (.ob ((0 : Int) ≤ (↑i : Int) ∧ (↑i : Int) < (↑t.attrs.length : Int) ∧ (↑i : Int).toNat * (3 : Nat) < (atsC t.attrs).length) (.ob (List.take (3 : Nat) (List.drop ((↑i : Int).toNat * (3 : Nat)) (atsC t.attrs)) = [AV.str (t.attrs.getD i atr0).nm.sp, AV.str (t.attrs.getD i atr0).nm.lo, AV.str (t.attrs.getD i atr0).v]) (.ob ((!(decide ((t.attrs.getD i atr0).nm.sp = (t.attrs.getD i atr0).nm.sp) && (decide ((t.attrs.getD i atr0).nm.lo = (t.attrs.getD i atr0).nm.lo) && (decide ((t.attrs.getD i atr0).v = (t.attrs.getD i atr0).v) && true)))) = false) (.head (pt Try.f23 0) ({ tmps := [(2, AV.ptr 2 0), (3, AV.ptr 3 0), (5, AV.int .i64 (IntKind.i64.wrap ((↑i : Int) + (1 : Int))))], heap := [(2, .var true (trL t)), (3, .var true (trL t))], tags := [] })))))))) (.head (pt Try.f23 1) ({ tmps := [(2, AV.ptr 2 0), (3, AV.ptr 3 0), (6, AV.int .i64 (0 : Int))], heap := [(2, .var true (trL t)), (3, .var true (trL t))], tags := [] }))) (by kernel_rfl) (by
    have h0 : decide ((i : Int) < t.attrs.length) = false := by simp; omega
    simp only [PT.holds, h0, true_implies, Bool.false_eq_true, Bool.true_eq_false, false_implies, true_and, and_true]
    exact head_eq k (by simp [stSb, trL]))
theorem sb_h (t : Tr) (i : Nat) (hi : i < t.kids.length) (hN : t.kids.length ≤ 1048600) (hc : Ctr Try.prog 23 [.agg (trL (t.kids.getD i tr0)), .agg (trL (t.kids.getD i tr0))] (.bool true)) (k : HT Try.prog Try.f23.ntmps (pt Try.f23 1) (stSb t (i + 1)) (EndsA Γ (.pure [] (.bool true)) Try.f23)) : HT Try.prog Try.f23.ntmps (pt Try.f23 1) (stSb t i) (EndsA Γ (.pure [] (.bool true)) Try.f23) :=
  HT.walk Γ_ok mo_ok (⟨([(55, .val (.agg (atC (t.attrs.getD i atr0)))), (60, .val (.agg (atC (t.attrs.getD i atr0)))), (73, .val (.agg (trL (t.kids.getD i tr0)))), (78, .val (.agg (trL (t.kids.getD i tr0)))), (79, .call [] (.bool true))] ++ []), sp23, hd23 [] [] [] [], dsp23, .pure [] (.bool true)⟩ : Wk) 4000 (T := .split (decide ((↑i : Int) < (↑t.kids.length : Int))) (.or (.ob ((0 : Int) ≤ (↑i : Int) ∧ (↑i : Int) < (↑t.kids.length : Int) ∧ (↑i : Int).toNat * (6 : Nat) < (trsC t.kids).length) (.ob (List.take (6 : Nat) (List.drop ((↑i : Int).toNat * (6 : Nat)) (trsC t.kids)) = (trL (t.kids.getD i tr0))) (.ob ((0 : Int) ≤ (↑i : Int) ∧ (↑i : Int) < (↑t.kids.length : Int) ∧ (↑i : Int).toNat * (6 : Nat) < (trsC t.kids).length) (.ob (List.take (6 : Nat) (List.drop ((↑i : Int).toNat * (6 : Nat)) (trsC t.kids)) = (trL (t.kids.getD i tr0))) (.ob (Ctr Try.prog 23 [AV.agg (trL (t.kids.getD i tr0)), AV.agg (trL (t.kids.getD i tr0))] (AV.bool true)) (.ob (true = true) (.head (pt Try.f23 1) ({ tmps := [(2, AV.ptr 2 0), (3, AV.ptr 3 0), (6, AV.int .i64 (IntKind.i64.wrap ((↑i : Int) + (1 : Int))))], heap := [(2, .var true (trL t)), (3, .var true (trL t))], tags := [] })))))))) (.ob ((0 : Int) ≤ (↑i : Int) ∧ (↑i : Int) < (↑t.kids.length : Int) ∧ (↑i : Int).toNat * (6 : Nat) < (trsC t.kids).length) (.ob (List.take (6 : Nat) (List.drop ((↑i : Int).toNat * (6 : Nat)) (trsC t.kids)) = (trL (t.kids.getD i tr0))) (.ob ((0 : Int) ≤ (↑i : Int) ∧ (↑i : Int) < (↑t.kids.length : Int) ∧ (↑i : Int).toNat * (6 : Nat) < (trsC t.kids).length) (.ob (List.take (6 : Nat) (List.drop ((↑i : Int).toNat * (6 : Nat)) (trsC t.kids)) = (trL (t.kids.getD i tr0))) (.ob (Ctr Try.prog 23 [AV.agg (trL (t.kids.getD i tr0)), AV.agg (trL (t.kids.getD i tr0))] (AV.bool true)) (.ob (true = false) (.ob (false = true) (.tt))))))))) (.ob (true = true) (.tt))) (by kernel_rfl) (by
    have w2 : IntKind.i64.wrap ((i : Int) + 1) = ((i + 1 : Nat) : Int) := by rw [i64_wrap (by omega) (by omega)]; rfl
    have h0 : decide ((i : Int) < t.kids.length) = true := by simp; omega
    simp only [PT.holds, w2, h0, Int.toNat_natCast, trsC_len, true_implies, Bool.false_eq_true, Bool.true_eq_false, false_implies, true_and, and_true]
    exact .inl ⟨by omega, by ((try simp only [Nat.add_assoc, Nat.reduceAdd, Nat.add_zero]) <;> first | (rw [ats_take _ _ _ _ hi (by decide)]; rfl) | (rw [ats_nth _ _ _ hi (by decide)]; rfl) | (rw [evs_take _ _ _ _ hi (by decide)]; rfl) | (rw [evs_nth _ _ _ hi (by decide)]; rfl) | (rw [trs_take _ _ _ _ hi (by decide)]; rfl) | (rw [trs_nth _ _ _ hi (by decide)]; rfl) | (rw [pths_take _ _ _ _ hi (by decide)]; rfl) | (rw [pths_nth _ _ _ hi (by decide)]; rfl) | (rw [flts_take _ _ _ _ hi (by decide)]; rfl) | (rw [flts_nth _ _ _ hi (by decide)]; rfl) | (rw [ats_take0 _ _ _ hi (by decide)]; rfl) | (rw [ats_nth0 _ _ hi]; rfl) | (rw [evs_take0 _ _ _ hi (by decide)]; rfl) | (rw [evs_nth0 _ _ hi]; rfl) | (rw [trs_take0 _ _ _ hi (by decide)]; rfl) | (rw [trs_nth0 _ _ hi]; rfl) | (rw [pths_take0 _ _ _ hi (by decide)]; rfl) | (rw [pths_nth0 _ _ hi]; rfl) | (rw [flts_take0 _ _ _ hi (by decide)]; rfl) | (rw [flts_nth0 _ _ hi]; rfl)), by omega, by ((try simp only [Nat.add_assoc, Nat.reduceAdd, Nat.add_zero]) <;> first | (rw [ats_take _ _ _ _ hi (by decide)]; rfl) | (rw [ats_nth _ _ _ hi (by decide)]; rfl) | (rw [evs_take _ _ _ _ hi (by decide)]; rfl) | (rw [evs_nth _ _ _ hi (by decide)]; rfl) | (rw [trs_take _ _ _ _ hi (by decide)]; rfl) | (rw [trs_nth _ _ _ hi (by decide)]; rfl) | (rw [pths_take _ _ _ _ hi (by decide)]; rfl) | (rw [pths_nth _ _ _ hi (by decide)]; rfl) | (rw [flts_take _ _ _ _ hi (by decide)]; rfl) | (rw [flts_nth _ _ _ hi (by decide)]; rfl) | (rw [ats_take0 _ _ _ hi (by decide)]; rfl) | (rw [ats_nth0 _ _ hi]; rfl) | (rw [evs_take0 _ _ _ hi (by decide)]; rfl) | (rw [evs_nth0 _ _ hi]; rfl) | (rw [trs_take0 _ _ _ hi (by decide)]; rfl) | (rw [trs_nth0 _ _ hi]; rfl) | (rw [pths_take0 _ _ _ hi (by decide)]; rfl) | (rw [pths_nth0 _ _ hi]; rfl) | (rw [flts_take0 _ _ _ hi (by decide)]; rfl) | (rw [flts_nth0 _ _ hi]; rfl)), hc, head_eq k (by simp [stSb, trL])⟩)
theorem sb_e (t : Tr) (i : Nat) (hi : i = t.kids.length) : HT Try.prog Try.f23.ntmps (pt Try.f23 1) (stSb t i) (EndsA Γ (.pure [] (.bool true)) Try.f23) :=
  HT.walk Γ_ok mo_ok (⟨([(55, .val (.agg (atC (t.attrs.getD i atr0)))), (60, .val (.agg (atC (t.attrs.getD i atr0)))), (73, .val (.agg (trL (t.kids.getD i tr0)))), (78, .val (.agg (trL (t.kids.getD i tr0)))), (79, .call [] (.bool true))] ++ []), sp23, hd23 [] [] [] [], dsp23, .pure [] (.bool true)⟩ : Wk) 4000 (T := .split (decide ((↑i : Int) < (↑t.kids.length : Int))) (.or (.ob ((0 : Int) ≤ (↑i : Int) ∧ (↑i : Int) < (↑t.kids.length : Int) ∧ (↑i : Int).toNat * (6 : Nat) < (trsC t.kids).length) (.ob (List.take (6 : Nat) (List.drop ((↑i : Int).toNat * (6 : Nat)) (trsC t.kids)) = (trL (t.kids.getD i tr0))) (.ob ((0 : Int) ≤ (↑i : Int) ∧ (↑i : Int) < (↑t.kids.length : Int) ∧ (↑i : Int).toNat * (6 : Nat) < (trsC t.kids).length) (.ob (List.take (6 : Nat) (List.drop ((↑i : Int).toNat * (6 : Nat)) (trsC t.kids)) = (trL (t.kids.getD i tr0))) (.ob (Ctr Try.prog 23 [AV.agg (trL (t.kids.getD i tr0)), AV.agg (trL (t.kids.getD i tr0))] (AV.bool true)) (.ob (true = true) (.head (pt Try.f23 1) ({ tmps := [(2, AV.ptr 2 0), (3, AV.ptr 3 0), (6, AV.int .i64 (IntKind.i64.wrap ((↑i : Int) + (1 : Int))))], heap := [(2, .var true (trL t)), (3, .var true (trL t))], tags := [] })))))))) (.ob ((0 : Int) ≤ (↑i : Int) ∧ (↑i : Int) < (↑t.kids.length : Int) ∧ (↑i : Int).toNat * (6 : Nat) < (trsC t.kids).length) (.ob (List.take (6 : Nat) (List.drop ((↑i : Int).toNat * (6 : Nat)) (trsC t.kids)) = (trL (t.kids.getD i tr0))) (.ob ((0 : Int) ≤ (↑i : Int) ∧ (↑i : Int) < (↑t.kids.length : Int) ∧ (↑i : Int).toNat * (6 : Nat) < (trsC t.kids).length) (.ob (List.take (6 : Nat) (List.drop ((↑i : Int).toNat * (6 : Nat)) (trsC t.kids)) = (trL (t.kids.getD i tr0))) (.ob (Ctr Try.prog 23 [AV.agg (trL (t.kids.getD i tr0)), AV.agg (trL (t.kids.getD i tr0))] (AV.bool true)) (.ob (true = false) (.ob (false = true) (.tt))))))))) (.ob (true = true) (.tt))) (by kernel_rfl) (by
    have h0 : decide ((i : Int) < t.kids.length) = false := by simp; omega
    simp only [PT.holds, h0, true_implies, Bool.false_eq_true, Bool.true_eq_false, false_implies, true_and, and_true])
theorem same_p (t : Tr) (k : HT Try.prog Try.f23.ntmps (pt Try.f23 0) (stSa t 0) (EndsA Γ (.pure [] (.bool true)) Try.f23)) : Ctr Try.prog 23 [.agg (trL t), .agg (trL t)] (.bool true) :=
  Ctr.mk Γ_ok Try.func23 (by kernel_rfl) Try.call23 [] (by kernel_rfl) (HT.walk Γ_ok mo_ok (⟨([] ++ []), sp23, hd23 [] [] [] [], dsp23, .pure [] (.bool true)⟩ : Wk) 4000 (T := .split (!t.isText == t.isText) (.ob (false = true) (.tt)) (.split (!decide (t.text = t.text)) (.ob (false = true) (.tt)) (.ob ((4 : Nat) ≤ (6 : Nat)) (.ob ((4 : Nat) ≤ (6 : Nat)) (.split (!(decide (t.nm.sp = t.nm.sp) && (decide (t.nm.lo = t.nm.lo) && true))) (.ob (false = true) (.tt)) (.split (!decide ((↑t.attrs.length : Int) = (↑t.attrs.length : Int))) (.ob (false = true) (.tt)) (.split (!decide ((↑t.kids.length : Int) = (↑t.kids.length : Int))) (.ob (false = true) (.tt)) (.head (pt Try.f23 0) ({ tmps := [(2, AV.ptr 2 0), (3, AV.ptr 3 0), (5, AV.int .i64 (0 : Int))], heap := [(2, .var true (trL t)), (3, .var true (trL t))], tags := [] }))))))))) (by kernel_rfl) (by
    have e : (!t.isText == t.isText) = false := by cases t.isText <;> rfl
    simp only [PT.holds, e, eq_self, decide_true, Bool.and_self, Bool.and_true, Bool.not_true, beq_self_eq_true, true_implies, Bool.false_eq_true, Bool.true_eq_false, false_implies, true_and, and_true]
    exact ⟨by omega, by omega, head_eq k (by simp [stSa, trL])⟩))
theorem sa_l (t : Tr) (hN : t.attrs.length ≤ 1048600) (k : HT Try.prog Try.f23.ntmps (pt Try.f23 1) (stSb t 0) (EndsA Γ (.pure [] (.bool true)) Try.f23)) : ∀ d i, i + d = t.attrs.length → HT Try.prog Try.f23.ntmps (pt Try.f23 0) (stSa t i) (EndsA Γ (.pure [] (.bool true)) Try.f23) := by
  intro d
  induction d with
  | zero => exact fun i h => sa_e t i (by omega) k
  | succ d ih => exact fun i h => sa_h t i (by omega) hN (ih (i + 1) (by omega))
theorem sb_l (t : Tr) (hN : t.kids.length ≤ 1048600) (hc : ∀ q ∈ t.kids, Ctr Try.prog 23 [.agg (trL q), .agg (trL q)] (.bool true)) : ∀ d i, i + d = t.kids.length → HT Try.prog Try.f23.ntmps (pt Try.f23 1) (stSb t i) (EndsA Γ (.pure [] (.bool true)) Try.f23) := by
  intro d
  induction d with
  | zero => exact fun i h => sb_e t i (by omega)
  | succ d ih => exact fun i h => sb_h t i (by omega) hN (hc _ (getD_mem _ _ _ (by omega))) (ih (i + 1) (by omega))
theorem cntL_mem : ∀ (l : List Tr) (q : Tr), q ∈ l → cntT q ≤ cntL l
  | t :: r, q, h => by
    simp only [cntL]
    rcases List.mem_cons.1 h with rfl | h
    · omega
    · have := cntL_mem r q h; omega
theorem cntL_ge : ∀ (l : List Tr), l.length ≤ cntL l
  | [] => Nat.zero_le _
  | t :: r => by
    have h1 : 1 ≤ cntT t := by cases t; simp [cntT]
    have := cntL_ge r
    simp only [cntL, List.length_cons]
    omega
theorem okAs_mem : ∀ (l : List Tr), okAs l → ∀ q ∈ l, q.okA
  | t :: r, h, q, hq => by
    simp only [okAs] at h
    rcases List.mem_cons.1 hq with rfl | hq
    · exact h.1
    · exact okAs_mem r h.2 q hq
theorem same_tree : ∀ (t : Tr), t.okA → cntT t ≤ 1000000 → Ctr Try.prog 23 [.agg (trL t), .agg (trL t)] (.bool true)
  | .mk b x n a ks, ho, hN => by
    simp only [Tr.okA] at ho
    simp only [cntT] at hN
    refine same_p _ (sa_l _ ?_ (sb_l _ ?_ (fun q hq => ?_) _ 0 (Nat.zero_add _)) _ 0 (Nat.zero_add _))
    · exact ho.1
    · have := cntL_ge ks
      show ks.length ≤ _
      omega
    · have hq' : q ∈ ks := hq
      have := cntL_mem ks q hq'
      exact same_tree q (okAs_mem ks ho.2 q hq') (by omega)

end Go.Proofs.Ytpffjbbolaehpaa
end

section
set_option linter.unusedVariables false
set_option linter.unusedSimpArgs false
set_option maxRecDepth 100000
namespace Go.Proofs.Ytpffjbbolaehpaa
open Go Go.AX

def stKv (p : Pth) (l : List Ev) (T : Tr) (R xs : List Int) (i : Nat) : AS := ⟨[(1, .sl none l.length (evsC l) .no), (2, .ptr 2 0), (5, .ptr 5 0), (6, .vec 1000016 xs.length), (7, .sl none R.length (intsC R) (.own 1)), (8, .int .i64 i)], [(2, .var true (pthL p)), (5, .var true (trL T))], [(1, ⟨R.length, 3, 1, none⟩), (1000016, ⟨xs.length, 3, 1, some (true, intsC xs)⟩)]⟩
def stKn (p : Pth) (l : List Ev) (T : Tr) (R : List Int) : AS := ⟨[(1, .sl none l.length (evsC l) .no), (2, .ptr 2 0), (5, .ptr 5 0), (6, .sl none R.length (intsC R) .no), (7, .sl none R.length (intsC R) (.own 1)), (8, .int .i64 0)], [(2, .var true (pthL p)), (5, .var true (trL T))], [(1, ⟨R.length, 3, 1, none⟩)]⟩

theorem kp_n (p : Pth) (l : List Ev) (T : Tr) (R : List Int) (hi : R.length = 0) (c15 : Ctr Try.prog 15 [.agg (pthL p), .agg (trL T)] (.sl none R.length (intsC R) .no)) (c14 : Ctr Try.prog 14 [.sl none R.length (intsC R) .no, .sl none R.length (intsC R) .no] (.bool true)) (c12 : Ctr Try.prog 12 [.sl none l.length (evsC l) .no, .int .i64 0] (.agg (trL T))) (c23 : Ctr Try.prog 23 [.agg (trL T), .agg (trL T)] (.bool true)) (c9 : Ctr Try.prog 9 [.agg (pthL p)] (.bool true)) : HT Try.prog Try.f7.ntmps (pt Try.f7 0) (stKn p l T R) (EndsA Γ (.pure [] (.bool true)) Try.f7) :=
  HT.walk Γ_ok mo_ok (⟨([(41, .call [] (.sl none R.length (intsC R) .no)), (43, .call [] (.bool true)), (47, .call [] (.agg (trL T))), (48, .call [] (.bool true)), (52, .call [] (.bool true))] ++ []), sp7, hd7 [(7, 1, 3, 1)] [] [] [], dsp7, .pure [] (.bool true)⟩ : Wk) 4000 (T := .split (decide ((0 : Int) < (↑R.length : Int))) (.ob ((0 : Int) ≤ (0 : Int) ∧ (0 : Int) < (↑R.length : Int) ∧ Int.toNat (0 : Int) * (1 : Nat) < (intsC R).length) ((.bad (2 : Nat) (3 : Nat)))) (.or (.ob ((3 : Nat) ≤ (3 : Nat)) (.ob ((6 : Nat) ≤ (6 : Nat)) (.ob (Ctr Try.prog 15 [AV.agg (pthL p), AV.agg (trL T)] (AV.sl none R.length (intsC R) .no)) (.ob (Ctr Try.prog 14 [AV.sl none R.length (intsC R) .no, AV.sl none R.length (intsC R) .no] (AV.bool true)) (.ob (true = true) (.ob ((6 : Nat) ≤ (6 : Nat)) (.ob (Ctr Try.prog 12 [AV.sl none l.length (evsC l) .no, AV.int .i64 (0 : Int)] (AV.agg (trL T))) (.ob (Ctr Try.prog 23 [AV.agg (trL T), AV.agg (trL T)] (AV.bool true)) (.ob (true = true) (.ob ((3 : Nat) ≤ (3 : Nat)) (.ob (Ctr Try.prog 9 [AV.agg (pthL p)] (AV.bool true)) (.ob (true = true) (.tt))))))))))))) (.or (.ob ((3 : Nat) ≤ (3 : Nat)) (.ob ((6 : Nat) ≤ (6 : Nat)) (.ob (Ctr Try.prog 15 [AV.agg (pthL p), AV.agg (trL T)] (AV.sl none R.length (intsC R) .no)) (.ob (Ctr Try.prog 14 [AV.sl none R.length (intsC R) .no, AV.sl none R.length (intsC R) .no] (AV.bool true)) (.ob (true = true) (.ob ((6 : Nat) ≤ (6 : Nat)) (.ob (Ctr Try.prog 12 [AV.sl none l.length (evsC l) .no, AV.int .i64 (0 : Int)] (AV.agg (trL T))) (.ob (Ctr Try.prog 23 [AV.agg (trL T), AV.agg (trL T)] (AV.bool true)) (.ob (true = false) (.ob (false = true) (.tt))))))))))) (.ob ((3 : Nat) ≤ (3 : Nat)) (.ob ((6 : Nat) ≤ (6 : Nat)) (.ob (Ctr Try.prog 15 [AV.agg (pthL p), AV.agg (trL T)] (AV.sl none R.length (intsC R) .no)) (.ob (Ctr Try.prog 14 [AV.sl none R.length (intsC R) .no, AV.sl none R.length (intsC R) .no] (AV.bool true)) (.ob (true = false) (.ob (false = true) (.tt)))))))))) (by kernel_rfl) (by
    have h0 : decide ((0 : Int) < R.length) = false := decide_eq_false (by omega)
    simp only [PT.holds, h0, true_implies, Bool.false_eq_true, Bool.true_eq_false, false_implies, true_and, and_true]
    exact .inl ⟨by omega, by omega, c15, c14, by omega, c12, c23, by omega, c9⟩)
theorem kp_h (p : Pth) (l : List Ev) (T : Tr) (R xs : List Int) (i : Nat) (hi : i < xs.length) (hN : xs.length ≤ 1000) (k : HT Try.prog Try.f7.ntmps (pt Try.f7 0) (stKv p l T R (xs.set i (-7)) (i + 1)) (EndsA Γ (.pure [6000016] (.bool true)) Try.f7)) : HT Try.prog Try.f7.ntmps (pt Try.f7 0) (stKv p l T R xs i) (EndsA Γ (.pure [6000016] (.bool true)) Try.f7) :=
  HT.walk Γ_ok mo_ok (⟨([(41, .call [] (.sl none R.length (intsC R) .no)), (43, .call [] (.bool true)), (47, .call [] (.agg (trL T))), (48, .call [] (.bool true)), (52, .call [] (.bool true))] ++ []), sp7, hd7 [(7, 1, 3, 1)] [] [] [1000016], dsp7, .pure [6000016] (.bool true)⟩ : Wk) 4000 (T := .ob (xs.length = xs.length) (.split (decide ((↑i : Int) < (↑xs.length : Int))) (.ob ((0 : Int) ≤ (↑i : Int) ∧ (↑i : Int) < (↑xs.length : Int) ∧ xs.length = xs.length) (.ob (xs.length = xs.length ∧ (↑i : Int).toNat * (1 : Nat) + (1 : Nat) ≤ (intsC xs).length) (.head (pt Try.f7 0) ({ tmps := [(1, AV.sl none l.length (evsC l) .no), (2, AV.ptr 2 0), (5, AV.ptr 5 0), (6, AV.vec (1000016 : Nat) xs.length), (7, AV.sl none R.length (intsC R) (.own (1 : Nat))), (8, AV.int .i64 (IntKind.i64.wrap ((↑i : Int) + (1 : Int))))], heap := [(2, .var true (pthL p)), (5, .var true (trL T))], tags := [(1, { n := R.length, e := (3 : Nat), sz := (1 : Nat) }), (1000016, { n := xs.length, e := (3 : Nat), sz := (1 : Nat), cs := some (true, setAt (intsC xs) ((↑i : Int).toNat * (1 : Nat)) (cellsOf (AV.int .i64 (-7 : Int)))) })] })))) (.or (.ob ((3 : Nat) ≤ (3 : Nat)) (.ob ((6 : Nat) ≤ (6 : Nat)) (.ob (Ctr Try.prog 15 [AV.agg (pthL p), AV.agg (trL T)] (AV.sl none R.length (intsC R) .no)) (.ob (Ctr Try.prog 14 [AV.sl none R.length (intsC R) .no, AV.sl none R.length (intsC R) .no] (AV.bool true)) (.ob (true = true) (.ob ((6 : Nat) ≤ (6 : Nat)) (.ob (Ctr Try.prog 12 [AV.sl none l.length (evsC l) .no, AV.int .i64 (0 : Int)] (AV.agg (trL T))) (.ob (Ctr Try.prog 23 [AV.agg (trL T), AV.agg (trL T)] (AV.bool true)) (.ob (true = true) (.ob ((3 : Nat) ≤ (3 : Nat)) (.ob (Ctr Try.prog 9 [AV.agg (pthL p)] (AV.bool true)) (.ob (true = true) (.tt))))))))))))) (.or (.ob ((3 : Nat) ≤ (3 : Nat)) (.ob ((6 : Nat) ≤ (6 : Nat)) (.ob (Ctr Try.prog 15 [AV.agg (pthL p), AV.agg (trL T)] (AV.sl none R.length (intsC R) .no)) (.ob (Ctr Try.prog 14 [AV.sl none R.length (intsC R) .no, AV.sl none R.length (intsC R) .no] (AV.bool true)) (.ob (true = true) (.ob ((6 : Nat) ≤ (6 : Nat)) (.ob (Ctr Try.prog 12 [AV.sl none l.length (evsC l) .no, AV.int .i64 (0 : Int)] (AV.agg (trL T))) (.ob (Ctr Try.prog 23 [AV.agg (trL T), AV.agg (trL T)] (AV.bool true)) (.ob (true = false) (.ob (false = true) (.tt))))))))))) (.ob ((3 : Nat) ≤ (3 : Nat)) (.ob ((6 : Nat) ≤ (6 : Nat)) (.ob (Ctr Try.prog 15 [AV.agg (pthL p), AV.agg (trL T)] (AV.sl none R.length (intsC R) .no)) (.ob (Ctr Try.prog 14 [AV.sl none R.length (intsC R) .no, AV.sl none R.length (intsC R) .no] (AV.bool true)) (.ob (true = false) (.ob (false = true) (.tt))))))))))) (by kernel_rfl) (by
    have w2 : IntKind.i64.wrap ((i : Int) + 1) = ((i + 1 : Nat) : Int) := by rw [i64_wrap (by omega) (by omega)]; rfl
    have h0 : decide ((i : Int) < xs.length) = true := by simp; omega
    simp only [PT.holds, w2, h0, Int.toNat_natCast, Nat.mul_one, intsC_len', true_implies, Bool.false_eq_true, Bool.true_eq_false, false_implies, true_and, and_true]
    refine ⟨by omega, by omega, head_eq k ?_⟩
    simp [stKv, pthL, trL, intsC_set])
theorem kp_e (p : Pth) (l : List Ev) (T : Tr) (R xs : List Int) (i : Nat) (hi : i = xs.length) (c15 : Ctr Try.prog 15 [.agg (pthL p), .agg (trL T)] (.sl none R.length (intsC R) .no)) (c14 : Ctr Try.prog 14 [.sl none R.length (intsC R) .no, .sl none R.length (intsC R) .no] (.bool true)) (c12 : Ctr Try.prog 12 [.sl none l.length (evsC l) .no, .int .i64 0] (.agg (trL T))) (c23 : Ctr Try.prog 23 [.agg (trL T), .agg (trL T)] (.bool true)) (c9 : Ctr Try.prog 9 [.agg (pthL p)] (.bool true)) : HT Try.prog Try.f7.ntmps (pt Try.f7 0) (stKv p l T R xs i) (EndsA Γ (.pure [6000016] (.bool true)) Try.f7) :=
  HT.walk Γ_ok mo_ok (⟨([(41, .call [] (.sl none R.length (intsC R) .no)), (43, .call [] (.bool true)), (47, .call [] (.agg (trL T))), (48, .call [] (.bool true)), (52, .call [] (.bool true))] ++ []), sp7, hd7 [(7, 1, 3, 1)] [] [] [1000016], dsp7, .pure [6000016] (.bool true)⟩ : Wk) 4000 (T := .ob (xs.length = xs.length) (.split (decide ((↑i : Int) < (↑xs.length : Int))) (.ob ((0 : Int) ≤ (↑i : Int) ∧ (↑i : Int) < (↑xs.length : Int) ∧ xs.length = xs.length) (.ob (xs.length = xs.length ∧ (↑i : Int).toNat * (1 : Nat) + (1 : Nat) ≤ (intsC xs).length) (.head (pt Try.f7 0) ({ tmps := [(1, AV.sl none l.length (evsC l) .no), (2, AV.ptr 2 0), (5, AV.ptr 5 0), (6, AV.vec (1000016 : Nat) xs.length), (7, AV.sl none R.length (intsC R) (.own (1 : Nat))), (8, AV.int .i64 (IntKind.i64.wrap ((↑i : Int) + (1 : Int))))], heap := [(2, .var true (pthL p)), (5, .var true (trL T))], tags := [(1, { n := R.length, e := (3 : Nat), sz := (1 : Nat) }), (1000016, { n := xs.length, e := (3 : Nat), sz := (1 : Nat), cs := some (true, setAt (intsC xs) ((↑i : Int).toNat * (1 : Nat)) (cellsOf (AV.int .i64 (-7 : Int)))) })] })))) (.or (.ob ((3 : Nat) ≤ (3 : Nat)) (.ob ((6 : Nat) ≤ (6 : Nat)) (.ob (Ctr Try.prog 15 [AV.agg (pthL p), AV.agg (trL T)] (AV.sl none R.length (intsC R) .no)) (.ob (Ctr Try.prog 14 [AV.sl none R.length (intsC R) .no, AV.sl none R.length (intsC R) .no] (AV.bool true)) (.ob (true = true) (.ob ((6 : Nat) ≤ (6 : Nat)) (.ob (Ctr Try.prog 12 [AV.sl none l.length (evsC l) .no, AV.int .i64 (0 : Int)] (AV.agg (trL T))) (.ob (Ctr Try.prog 23 [AV.agg (trL T), AV.agg (trL T)] (AV.bool true)) (.ob (true = true) (.ob ((3 : Nat) ≤ (3 : Nat)) (.ob (Ctr Try.prog 9 [AV.agg (pthL p)] (AV.bool true)) (.ob (true = true) (.tt))))))))))))) (.or (.ob ((3 : Nat) ≤ (3 : Nat)) (.ob ((6 : Nat) ≤ (6 : Nat)) (.ob (Ctr Try.prog 15 [AV.agg (pthL p), AV.agg (trL T)] (AV.sl none R.length (intsC R) .no)) (.ob (Ctr Try.prog 14 [AV.sl none R.length (intsC R) .no, AV.sl none R.length (intsC R) .no] (AV.bool true)) (.ob (true = true) (.ob ((6 : Nat) ≤ (6 : Nat)) (.ob (Ctr Try.prog 12 [AV.sl none l.length (evsC l) .no, AV.int .i64 (0 : Int)] (AV.agg (trL T))) (.ob (Ctr Try.prog 23 [AV.agg (trL T), AV.agg (trL T)] (AV.bool true)) (.ob (true = false) (.ob (false = true) (.tt))))))))))) (.ob ((3 : Nat) ≤ (3 : Nat)) (.ob ((6 : Nat) ≤ (6 : Nat)) (.ob (Ctr Try.prog 15 [AV.agg (pthL p), AV.agg (trL T)] (AV.sl none R.length (intsC R) .no)) (.ob (Ctr Try.prog 14 [AV.sl none R.length (intsC R) .no, AV.sl none R.length (intsC R) .no] (AV.bool true)) (.ob (true = false) (.ob (false = true) (.tt))))))))))) (by kernel_rfl) (by
    have h0 : decide ((i : Int) < xs.length) = false := by simp; omega
    simp only [PT.holds, h0, true_implies, Bool.false_eq_true, Bool.true_eq_false, false_implies, true_and, and_true]
    exact .inl ⟨by omega, by omega, c15, c14, by omega, c12, c23, by omega, c9⟩)
theorem kp_pv (p : Pth) (l : List Ev) (T : Tr) (R : List Int) (hRl : R.length ≤ 1000) (h9 : Ctr Try.prog 9 [.agg (pthL p)] (.bool true)) (h10 : Ctr Try.prog 10 [.sl none l.length (evsC l) .no] (.bool true)) (c12 : Ctr Try.prog 12 [.sl none l.length (evsC l) .no, .int .i64 0] (.agg (trL T))) (hc : CtrM Try.prog 15 ⟨[], []⟩ [.agg (pthL p), .agg (trL T)] (memV R) (.vec 1000016 R.length)) (k : HT Try.prog Try.f7.ntmps (pt Try.f7 0) (stKv p l T R R 0) (EndsA Γ (.pure [6000016] (.bool true)) Try.f7)) : Ctr Try.prog 7 [.agg (pthL p), .sl none l.length (evsC l) .no] (.bool true) :=
  Ctr.mk Γ_ok Try.func7 (by kernel_rfl) Try.call7 [6000016] (by kernel_rfl) (HT.walk Γ_ok mo_ok (⟨([(9, .call [] (.bool true)), (13, .call [] (.bool true)), (18, .call [] (.bool true)), (21, .call [] (.bool true)), (23, .call [] (.agg (trL T))), (26, .callM [] [] [] [] [] [(1000016, ⟨R.length, 3, 1, some (true, intsC R)⟩)] (.vec 1000016 R.length)), (29, .id 1)] ++ []), sp7, hd7 [(7, 1, 3, 1)] [] [] [1000016], dsp7, .pure [6000016] (.bool true)⟩ : Wk) 4000 (T := .ob (Ctr Try.prog 8 [] (AV.bool true)) (.split (true) (.ob ((3 : Nat) ≤ (3 : Nat)) (.ob (Ctr Try.prog 9 [AV.agg (pthL p)] (AV.bool true)) (.split (true) (.ob (Ctr Try.prog 10 [AV.sl none l.length (evsC l) .no] (AV.bool true)) (.split (true) (.ob (Ctr Try.prog 12 [AV.sl none l.length (evsC l) .no, AV.int .i64 (0 : Int)] (AV.agg (trL T))) (.ob ((3 : Nat) ≤ (3 : Nat)) (.ob ((6 : Nat) ≤ (6 : Nat)) (.ob (CtrM Try.prog (15 : Nat) { heap := [], tags := [] } [AV.agg (pthL p), AV.agg (trL T)] { heap := [], tags := [(1000016, { n := R.length, e := (3 : Nat), sz := (1 : Nat), cs := some (true, intsC R) })] } (AV.vec (1000016 : Nat) R.length)) (.ob ((repL (List.map zn [AV.int .i64 (0 : Int)]) (0 : Nat)).length = (0 : Nat) * ((0 : Nat) + (1 : Nat)) ∧ (intsC R).length = R.length * ((0 : Nat) + (1 : Nat)) ∧ ((0 : Nat) + R.length) * ((7 : Nat) + (1 : Nat)) ≤ (140737488355328 : Nat)) (.head (pt Try.f7 0) ({ tmps := [(1, AV.sl none l.length (evsC l) .no), (2, AV.ptr 2 0), (5, AV.ptr 5 0), (6, AV.vec (1000016 : Nat) R.length), (7, AV.sl none ((0 : Nat) + R.length) (repL (List.map zn [AV.int .i64 (0 : Int)]) (0 : Nat) ++ intsC R) (.own (1 : Nat))), (8, AV.int .i64 (0 : Int))], heap := [(2, .var true (pthL p)), (5, .var true (trL T))], tags := [(1, { n := (0 : Nat) + R.length, e := (3 : Nat), sz := (1 : Nat) }), (1000016, { n := R.length, e := (3 : Nat), sz := (1 : Nat), cs := some (true, intsC R) })] }))))))) (.ob (Ctr Try.prog 8 [] (AV.bool true)) ((.bad (4 : Nat) (0 : Nat)))))) (.ob (Ctr Try.prog 8 [] (AV.bool true)) ((.bad (4 : Nat) (0 : Nat))))))) (.ob (Ctr Try.prog 8 [] (AV.bool true)) ((.bad (4 : Nat) (0 : Nat)))))) (by kernel_rfl) (by
    simp only [PT.holds, true_implies, Bool.false_eq_true, Bool.true_eq_false, false_implies, true_and, and_true]
    refine ⟨awake_ctr, by omega, h9, h10, c12, by omega, by omega, hc, ⟨by simp [repL], by simp [intsC], by omega⟩, head_eq k ?_⟩
    simp [stKv, pthL, trL, repL]))
theorem kp_pn (p : Pth) (l : List Ev) (T : Tr) (R : List Int) (b1 b2 : Bool) (hR : R = []) (h9 : Ctr Try.prog 9 [.agg (pthL p)] (.bool b1)) (h10 : Ctr Try.prog 10 [.sl none l.length (evsC l) .no] (.bool b2)) (hm : b2 = true → Ctr Try.prog 12 [.sl none l.length (evsC l) .no, .int .i64 0] (.agg (trL T))) (hc : b1 = true → b2 = true → Ctr Try.prog 15 [.agg (pthL p), .agg (trL T)] (.sl none R.length (intsC R) .no) ∧ Ctr Try.prog 14 [.sl none R.length (intsC R) .no, .sl none R.length (intsC R) .no] (.bool true) ∧ Ctr Try.prog 12 [.sl none l.length (evsC l) .no, .int .i64 0] (.agg (trL T)) ∧ Ctr Try.prog 23 [.agg (trL T), .agg (trL T)] (.bool true) ∧ Ctr Try.prog 9 [.agg (pthL p)] (.bool true)) : Ctr Try.prog 7 [.agg (pthL p), .sl none l.length (evsC l) .no] (.bool true) :=
  Ctr.mk Γ_ok Try.func7 (by kernel_rfl) Try.call7 [] (by kernel_rfl) (HT.walk Γ_ok mo_ok (⟨([(9, .call [] (.bool true)), (13, .call [] (.bool b1)), (18, .call [] (.bool b2)), (21, .call [] (.bool true)), (23, .call [] (.agg (trL T))), (26, .call [] (.sl none R.length (intsC R) .no)), (29, .id 1)] ++ [(41, .call [] (.sl none R.length (intsC R) .no)), (43, .call [] (.bool true)), (47, .call [] (.agg (trL T))), (48, .call [] (.bool true)), (52, .call [] (.bool true))] ++ []), sp7, hd7 [(7, 1, 3, 1)] [] [] [], dsp7, .pure [] (.bool true)⟩ : Wk) 4000 (T := .ob (Ctr Try.prog 8 [] (AV.bool true)) (.split (true) (.ob ((3 : Nat) ≤ (3 : Nat)) (.ob (Ctr Try.prog 9 [AV.agg (pthL p)] (AV.bool b1)) (.split (b1) (.ob (Ctr Try.prog 10 [AV.sl none l.length (evsC l) .no] (AV.bool b2)) (.split (b2) (.ob (Ctr Try.prog 12 [AV.sl none l.length (evsC l) .no, AV.int .i64 (0 : Int)] (AV.agg (trL T))) (.ob ((3 : Nat) ≤ (3 : Nat)) (.ob ((6 : Nat) ≤ (6 : Nat)) (.ob (Ctr Try.prog 15 [AV.agg (pthL p), AV.agg (trL T)] (AV.sl none R.length (intsC R) .no)) (.ob ((repL (List.map zn [AV.int .i64 (0 : Int)]) (0 : Nat)).length = (0 : Nat) * ((0 : Nat) + (1 : Nat)) ∧ (intsC R).length = R.length * ((0 : Nat) + (1 : Nat)) ∧ ((0 : Nat) + R.length) * ((7 : Nat) + (1 : Nat)) ≤ (140737488355328 : Nat)) (.head (pt Try.f7 0) ({ tmps := [(1, AV.sl none l.length (evsC l) .no), (2, AV.ptr 2 0), (5, AV.ptr 5 0), (6, AV.sl none R.length (intsC R) .no), (7, AV.sl none ((0 : Nat) + R.length) (repL (List.map zn [AV.int .i64 (0 : Int)]) (0 : Nat) ++ intsC R) (.own (1 : Nat))), (8, AV.int .i64 (0 : Int))], heap := [(2, .var true (pthL p)), (5, .var true (trL T))], tags := [(1, { n := (0 : Nat) + R.length, e := (3 : Nat), sz := (1 : Nat) })] }))))))) (.ob (Ctr Try.prog 8 [] (AV.bool true)) (.ob (true = true) (.tt))))) (.ob (Ctr Try.prog 8 [] (AV.bool true)) (.ob (true = true) (.tt)))))) (.ob (Ctr Try.prog 8 [] (AV.bool true)) (.ob (true = true) (.tt))))) (by kernel_rfl) (by
    simp only [PT.holds, true_implies, Bool.false_eq_true, Bool.true_eq_false, false_implies, true_and, and_true]
    refine ⟨awake_ctr, by omega, h9, fun e1 => ⟨h10, fun e2 => ?_, fun _ => awake_ctr⟩, fun _ => awake_ctr⟩
    obtain ⟨c15, c14, c12, c23, c9⟩ := hc e1 e2
    refine ⟨hm e2, by omega, by omega, c15, ⟨by simp [repL], by simp [intsC], by simp [hR]⟩, head_eq (kp_n p l T R (by simp [hR]) c15 c14 c12 c23 c9) ?_⟩
    simp [stKn, pthL, trL, repL]))
theorem kp_l (p : Pth) (l : List Ev) (T : Tr) (R : List Int) (hN : R.length ≤ 1000) (c15 : Ctr Try.prog 15 [.agg (pthL p), .agg (trL T)] (.sl none R.length (intsC R) .no)) (c14 : Ctr Try.prog 14 [.sl none R.length (intsC R) .no, .sl none R.length (intsC R) .no] (.bool true)) (c12 : Ctr Try.prog 12 [.sl none l.length (evsC l) .no, .int .i64 0] (.agg (trL T))) (c23 : Ctr Try.prog 23 [.agg (trL T), .agg (trL T)] (.bool true)) (c9 : Ctr Try.prog 9 [.agg (pthL p)] (.bool true)) : ∀ d i xs, i + d = xs.length → xs.length = R.length → HT Try.prog Try.f7.ntmps (pt Try.f7 0) (stKv p l T R xs i) (EndsA Γ (.pure [6000016] (.bool true)) Try.f7) := by
  intro d
  induction d with
  | zero => exact fun i xs h he => kp_e p l T R xs i (by omega) c15 c14 c12 c23 c9
  | succ d ih => exact fun i xs h he => kp_h p l T R xs i (by omega) (by omega) (ih (i + 1) _ (by rw [List.length_set]; omega) (by rw [List.length_set]; exact he))
theorem keeps_ctr (p : Pth) (hp : p.ok) (l : List Ev) (hl : l.length ≤ 1048600) (ho : okEvs l) : Ctr Try.prog 7 [.agg (pthL p), .sl none l.length (evsC l) .no] (.bool true) := by
  obtain ⟨b1, hb1, h9⟩ := rightp_ex p hp
  obtain ⟨b2, hb2, h10⟩ := few_ex l hl ho
  cases e2 : b2 with
  | false =>
    rw [e2] at h10
    exact kp_pn p l tr0 [] b1 false rfl h9 h10 (fun h => by cases h) (fun _ h => by cases h)
  | true =>
    cases e1 : b1 with
    | false =>
      rw [e2] at h10
      rw [e1] at h9
      have hd := hb2 e2
      obtain ⟨T, hT, _⟩ := doc_tree hd
      exact kp_pn p l T [] false true rfl h9 h10 (fun _ => tree_ctr hd.len.2 T 0 _ hT) (fun h => by cases h)
    | true =>
      rw [e2] at h10
      rw [e1] at h9
      have hd := hb2 e2
      obtain ⟨T, hT, _⟩ := doc_tree hd
      have hok := nod_okA ho T hT
      have hsmall : cntT T ≤ 1000000 := nod_small hd T hT
      obtain ⟨N, hP, _, _⟩ := make_pw T hok hsmall
      have w := wld_of hd ho T hT _ rfl N hP
      have hNle := w.le
      have htr := hP.tr
      have c12 := tree_ctr hd.len.2 T 0 _ hT
      have c23 := same_tree T hok hsmall
      have hr := hb1 e1
      generalize hR : fromJ (visitS T (-1) pln0) p 0 = R
      have hRl : R.length ≤ 1000 := by
        rw [← hR]
        unfold fromJ
        split
        · have := placesJ_le (leadsJ (visitS T (-1) pln0) p ((noneL (visitS T (-1) pln0).tr.length).set (0 : Int).toNat true)) (visitS T (-1) pln0).tr.length 0
          omega
        · simp
      have c15 : Ctr Try.prog 15 [.agg (pthL p), .agg (trL T)] (.sl none R.length (intsC R) .no) := by
        rw [← hR]
        exact select_ctr p T _ (select_all T hok hsmall p hr hp 0)
      have c14 : Ctr Try.prog 14 [.sl none R.length (intsC R) .no, .sl none R.length (intsC R) .no] (.bool true) := by
        have := same_ctr R R (by omega)
        rwa [decide_eq_true rfl] at this
      by_cases hn : R = []
      · exact kp_pn p l T R true true hn h9 h10 (fun _ => c12) (fun _ _ => ⟨c15, c14, c12, c23, h9⟩)
      · exact kp_pv p l T R hRl h9 h10 c12 (selectv T hok hsmall p hr hp R hR.symm hn) (kp_l p l T R hRl c15 c14 c12 c23 h9 R.length 0 R (Nat.zero_add _) rfl)

end Go.Proofs.Ytpffjbbolaehpaa
end
