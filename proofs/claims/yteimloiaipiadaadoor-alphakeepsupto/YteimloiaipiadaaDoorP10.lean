import Derived.Test.YteimloiaipiadaaDoorP9
import Derived.Test.YteimloiaipiadaaDoorP6
import Derived.OpenShut
import Derived.Test.YteimloiaipiadaaDoorP4
import Derived.Test.YteimloiaipiadaaDoorRows
section
set_option linter.unusedVariables false
set_option linter.unusedSimpArgs false
set_option maxRecDepth 100000
namespace Go.Proofs.YteimloiaipiadaaDoor
open Go Go.AX

theorem addG_pos {α : Type} [DecidableEq α] (d : α) {l : List α} {x : α} (h : x ∈ l) : addG l x = l := by
  unfold addG; rw [if_pos (of_decide_eq_true ((ixG_ge x d l).2 h))]
theorem addG_neg {α : Type} [DecidableEq α] (d : α) {l : List α} {x : α} (h : x ∉ l) : addG l x = l ++ [x] := by
  unfold addG; rw [if_neg (fun h2 => h ((ixG_ge x d l).1 (decide_eq_true h2)))]
/-- What is spoken of, by the document's answer. -/
def refW (l : List Flt) : Wd := ⟨namesF 4 4 l, namesF 5 6 l, valsF l (namesF 5 6 l), valuesF 7 nm0 l⟩
theorem namesF_snoc (a b : Int) (l : List Flt) (f : Flt) : namesF a b (l ++ [f]) = stepN a b (namesF a b l) f := by simp [namesF]
theorem valuesF_snoc (o : Int) (n : Nm) (l : List Flt) (f : Flt) : valuesF o n (l ++ [f]) = stepV o n (valuesF o n l) f := by simp [valuesF]
theorem snoc_ind {α : Type} {P : List α → Prop} (h0 : P []) (h1 : ∀ l x, P l → P (l ++ [x])) : ∀ l, P l := by
  intro l
  have : ∀ r : List α, P r.reverse := fun r => by
    induction r with
    | nil => exact h0
    | cons x r ih => rw [List.reverse_cons]; exact h1 _ _ ih
  have := this l.reverse
  rwa [List.reverse_reverse] at this
theorem namesF_nodup (a b : Int) : ∀ l, (namesF a b l).Nodup := by
  refine snoc_ind ?_ (fun l f ih => ?_)
  · simp [namesF]
  · rw [namesF_snoc]
    unfold stepN
    split
    · rename_i h
      rw [List.nodup_append]
      exact ⟨ih, by simp, fun x hx y hy => by simp at hy; subst hy; exact fun e => h.2.2 (e ▸ hx)⟩
    · exact ih
theorem namesF_mem (a b : Int) (n : Nm) : ∀ l, n ∈ namesF a b l ↔ ∃ f ∈ l, a ≤ f.op ∧ f.op ≤ b ∧ f.nm = n := by
  refine snoc_ind ?_ (fun l f ih => ?_)
  · simp [namesF]
  · rw [namesF_snoc]
    unfold stepN
    constructor
    · intro h
      split at h
      · rename_i hc
        rcases List.mem_append.1 h with h | h
        · obtain ⟨g, hg, h2⟩ := ih.1 h
          exact ⟨g, List.mem_append.2 (.inl hg), h2⟩
        · simp at h
          exact ⟨f, by simp, hc.1, hc.2.1, h.symm⟩
      · obtain ⟨g, hg, h2⟩ := ih.1 h
        exact ⟨g, List.mem_append.2 (.inl hg), h2⟩
    · rintro ⟨g, hg, h1, h2, h3⟩
      rcases List.mem_append.1 hg with hg | hg
      · have := ih.2 ⟨g, hg, h1, h2, h3⟩
        split
        · exact List.mem_append.2 (.inl this)
        · exact this
      · simp at hg
        subst hg
        split
        · exact List.mem_append.2 (.inr (by simp [h3]))
        · rename_i hc
          refine Classical.byContradiction fun hn => hc ⟨h1, h2, ?_⟩
          rw [h3]
          exact hn
theorem valuesF_mem (o : Int) (n : Nm) (x : ByteArray) : ∀ l, x ∈ valuesF o n l ↔ ∃ f ∈ l, f.op = o ∧ f.nm = n ∧ f.val = x := by
  refine snoc_ind ?_ (fun l f ih => ?_)
  · simp [valuesF]
  · rw [valuesF_snoc]
    unfold stepV
    constructor
    · intro h
      split at h
      · rename_i hc
        rcases List.mem_append.1 h with h | h
        · obtain ⟨g, hg, h2⟩ := ih.1 h
          exact ⟨g, List.mem_append.2 (.inl hg), h2⟩
        · simp at h
          exact ⟨f, by simp, hc.1, hc.2.1, h.symm⟩
      · obtain ⟨g, hg, h2⟩ := ih.1 h
        exact ⟨g, List.mem_append.2 (.inl hg), h2⟩
    · rintro ⟨g, hg, h1, h2, h3⟩
      rcases List.mem_append.1 hg with hg | hg
      · have := ih.2 ⟨g, hg, h1, h2, h3⟩
        split
        · exact List.mem_append.2 (.inl this)
        · exact this
      · simp at hg
        subst hg
        split
        · exact List.mem_append.2 (.inr (by simp [h3]))
        · rename_i hc
          refine Classical.byContradiction fun hn => hc ⟨h1, h2, ?_⟩
          rw [h3]
          exact hasB_false _ _ hn
theorem valuesF_none (n : Nm) (l : List Flt) (h : n ∉ namesF 5 6 l) : valuesF 6 n l = [] := by
  cases e : valuesF 6 n l with
  | nil => rfl
  | cons x r =>
    have hx : x ∈ valuesF 6 n l := by rw [e]; simp
    obtain ⟨f, hf, h1, h2, _⟩ := (valuesF_mem 6 n x l).1 hx
    exact absurd ((namesF_mem 5 6 n l).2 ⟨f, hf, by omega, by omega, h2⟩) h
theorem map_set_nodup {β : Type} (A : List Nm) (hA : A.Nodup) (g g' : Nm → β) (i : Nat) (n : Nm) (hi : i < A.length) (hn : A.getD i nm0 = n) (hg : ∀ m, m ≠ n → g' m = g m) : (A.map g).set i (g' n) = A.map g' := by
  have hn' : A[i] = n := by rw [← hn, List.getD_eq_getElem?_getD, List.getElem?_eq_getElem hi]; rfl
  refine List.ext_getElem (by simp) (fun j h1 h2 => ?_)
  have hj : j < A.length := by simpa using h2
  rw [List.getElem_set]
  split
  · rename_i e
    subst e
    rw [List.getElem_map, hn']
  · rename_i e
    rw [List.getElem_map, List.getElem_map]
    refine (hg _ fun e2 => e ?_).symm
    exact (List.getElem_inj hA).1 (hn'.trans e2.symm)
theorem stepV_other (n m : Nm) (f : Flt) (l : List ByteArray) (h : m ≠ f.nm) : stepV 6 m l f = l := by
  unfold stepV; rw [if_neg (fun hc => h hc.2.1.symm)]
theorem stepV_op (o : Int) (n : Nm) (f : Flt) (l : List ByteArray) (h : f.op ≠ o) : stepV o n l f = l := by
  unfold stepV; rw [if_neg (fun hc => h hc.1)]
theorem stepN_op (a b : Int) (f : Flt) (l : List Nm) (h : ¬ (a ≤ f.op ∧ f.op ≤ b)) : stepN a b l f = l := by
  unfold stepN; rw [if_neg (fun hc => h ⟨hc.1, hc.2.1⟩)]
theorem stepN_add (a b : Int) (f : Flt) (l : List Nm) (h : a ≤ f.op ∧ f.op ≤ b) : stepN a b l f = addG l f.nm := by
  unfold stepN
  by_cases hm : f.nm ∈ l
  · rw [if_neg (fun hc => hc.2.2 hm), addG_pos nm0 hm]
  · rw [if_pos ⟨h.1, h.2, hm⟩, addG_neg nm0 hm]
theorem stepV_add (o : Int) (n : Nm) (f : Flt) (l : List ByteArray) (h : f.op = o) (hn : f.nm = n) : stepV o n l f = addG l f.val := by
  unfold stepV
  by_cases hm : f.val ∈ l
  · rw [if_neg (fun hc => by rw [(hasB_iff _ _).2 hm] at hc; exact absurd hc.2.2 (by decide)), addG_pos ⟨#[]⟩ hm]
  · rw [if_pos ⟨h, hn, hasB_false _ _ hm⟩, addG_neg ⟨#[]⟩ hm]
theorem valsF_snoc (l : List Flt) (f : Flt) (A : List Nm) : valsF (l ++ [f]) A = A.map fun n => stepV 6 n (valuesF 6 n l) f := by
  unfold valsF
  congr 1
  funext n
  rw [valuesF_snoc]
theorem attW_ref (l : List Flt) (n : Nm) : attW (refW l) n = ⟨namesF 4 4 l, addG (namesF 5 6 l) n, (addG (namesF 5 6 l) n).map (fun m => valuesF 6 m l), valuesF 7 nm0 l⟩ := by
  unfold attW refW
  by_cases h : n ∈ namesF 5 6 l
  · rw [if_pos (of_decide_eq_true ((ixG_ge n nm0 _).2 h)), addG_pos nm0 h]
    rfl
  · rw [if_neg (fun h2 => h ((ixG_ge n nm0 _).1 (decide_eq_true h2))), addG_neg nm0 h]
    simp [valsF, valuesF_none n l h]
theorem attI_ref (l : List Flt) (n : Nm) : (attI (refW l) n).toNat < (addG (namesF 5 6 l) n).length ∧ (addG (namesF 5 6 l) n).getD (attI (refW l) n).toNat nm0 = n := by
  unfold attI refW
  by_cases h : n ∈ namesF 5 6 l
  · rw [if_pos (of_decide_eq_true ((ixG_ge n nm0 _).2 h)), addG_pos nm0 h]
    rcases ixG_spec n nm0 (namesF 5 6 l) 0 with ⟨h1, _⟩ | ⟨j, h1, h2, h3⟩
    · exact absurd h h1
    · rw [h3]
      simpa using ⟨h1, h2⟩
  · rw [if_neg (fun h2 => h ((ixG_ge n nm0 _).1 (decide_eq_true h2))), addG_neg nm0 h]
    simp
theorem gstep_ref (l : List Flt) (f : Flt) (h7 : f.op = 7 → f.nm = nm0) : gstep (refW l) f = refW (l ++ [f]) := by
  unfold gstep
  split
  · rename_i h4
    unfold refW
    rw [namesF_snoc, namesF_snoc, valuesF_snoc, valsF_snoc, stepN_add 4 4 f _ (by omega), stepN_op 5 6 f _ (by omega), stepV_op 7 nm0 f _ (by omega)]
    congr 1
    show List.map _ _ = List.map _ _
    congr 1
    funext n
    rw [stepV_op 6 n f _ (by omega)]
  · split
    · rename_i _ h5
      rw [attW_ref]
      unfold refW
      rw [namesF_snoc, namesF_snoc, valuesF_snoc, valsF_snoc, stepN_op 4 4 f _ (by omega), stepN_add 5 6 f _ (by omega), stepV_op 7 nm0 f _ (by omega)]
      congr 1
      congr 1
      funext n
      rw [stepV_op 6 n f _ (by omega)]
    · split
      · rename_i _ _ h6
        obtain ⟨k1, k2⟩ := attI_ref l f.nm
        rw [attW_ref]
        simp only
        have hnd : (addG (namesF 5 6 l) f.nm).Nodup := by
          have := namesF_nodup 5 6 (l ++ [f])
          rwa [namesF_snoc, stepN_add 5 6 f _ (by omega)] at this
        have e1 : ((addG (namesF 5 6 l) f.nm).map (fun m => valuesF 6 m l)).getD (attI (refW l) f.nm).toNat [] = valuesF 6 f.nm l := by
          rw [List.getD_eq_getElem?_getD, List.getElem?_map]
          rw [List.getD_eq_getElem?_getD, List.getElem?_eq_getElem k1] at k2
          rw [List.getElem?_eq_getElem k1]
          simp only [Option.getD_some] at k2
          simp [k2]
        rw [e1, ← stepV_add 6 f.nm f _ h6 rfl, map_set_nodup _ hnd (fun m => valuesF 6 m l) (fun m => stepV 6 m (valuesF 6 m l) f) _ f.nm k1 k2 (fun m hm => stepV_other m m f _ hm)]
        unfold refW
        rw [namesF_snoc, namesF_snoc, valuesF_snoc, valsF_snoc, stepN_op 4 4 f _ (by omega), stepN_add 5 6 f _ (by omega), stepV_op 7 nm0 f _ (by omega)]
      · split
        · rename_i _ _ _ h7'
          unfold refW
          rw [namesF_snoc, namesF_snoc, valuesF_snoc, valsF_snoc, stepN_op 4 4 f _ (by omega), stepN_op 5 6 f _ (by omega), stepV_add 7 nm0 f _ h7' (h7 h7')]
          congr 1
          show List.map _ _ = List.map _ _
          congr 1
          funext n
          rw [stepV_op 6 n f _ (by omega)]
        · rename_i h4 h5 h6 h7'
          unfold refW
          rw [namesF_snoc, namesF_snoc, valuesF_snoc, valsF_snoc, stepN_op 4 4 f _ (by omega), stepN_op 5 6 f _ (by omega), stepV_op 7 nm0 f _ h7']
          congr 1
          show List.map _ _ = List.map _ _
          congr 1
          funext n
          rw [stepV_op 6 n f _ h6]
theorem fold_ref : ∀ l : List Flt, (∀ f ∈ l, f.op = 7 → f.nm = nm0) → l.foldl gstep wd0 = refW l := by
  refine snoc_ind ?_ (fun l f ih => ?_)
  · intro _; rfl
  · intro h
    rw [List.foldl_append, ih (fun g hg => h g (List.mem_append.2 (.inl hg)))]
    exact gstep_ref l f (h f (by simp))
/-- What the program gathers is what the document says. -/
theorem spkW_ref (p : Pth) (h : ∀ f ∈ filtersP p, f.op = 7 → f.nm = nm0) : spkW p = refW (filtersP p) := fold_ref _ h
theorem make_ctr_spk (p : Pth) (hok : p.ok) (hl : (filtersP p).length ≤ 1000000) (h : ∀ f ∈ filtersP p, f.op = 7 → f.nm = nm0) : Ctr Tryd.prog 32 [.agg (pthL p)] (.agg (spkC (spkW p).N (spkW p).A (spkW p).V (spkW p).T)) := by
  rw [spkW_ref p h]
  exact make_ctr p hok hl

end Go.Proofs.YteimloiaipiadaaDoor
end

section
set_option linter.unusedVariables false
set_option linter.unusedSimpArgs false
set_option maxRecDepth 100000
namespace Go.Proofs.YteimloiaipiadaaDoor
open Go Go.AX

mutual
/-- How many parts there are. -/
def partsP : Pth → Nat
  | .mk _ sub test => 1 + partsPs sub + partsFs test
def partsPs : List Pth → Nat
  | [] => 0
  | p :: r => partsP p + partsPs r
def partsF : Flt → Nat
  | .mk _ _ _ sub way => 1 + partsFs sub + partsPs way
def partsFs : List Flt → Nat
  | [] => 0
  | f :: r => partsF f + partsFs r
end
theorem partsP_eq (p : Pth) : partsP p = 1 + partsPs p.sub + partsFs p.test := by cases p; simp only [partsP, Pth.sub, Pth.test]
theorem partsF_eq (p : Flt) : partsF p = 1 + partsFs p.sub + partsPs p.way := by cases p; simp only [partsF, Flt.sub, Flt.way]
theorem sP1_l (p : Pth) (m : Nat) (hm : m ≤ 1000) (hl : p.test.length ≤ 1048600) (hc : ∀ q ∈ p.test, ∀ k : Nat, k ≤ 1000 → Ctr Tryd.prog 65 [.agg (fltL q), .int .i64 k] (.int .i64 (min (partsF q) (k + 1) : Nat))) : ∀ d i n, i + d = p.test.length → n ≤ m + 1 → HT Tryd.prog Tryd.f48.ntmps (pt Tryd.f48 1) (stP1 p m n i) (EndsA Γ (.pure [] (.int .i64 (min (n + partsFs (p.test.drop i)) (m + 1) : Nat))) Tryd.f48) := by
  intro d
  induction d with
  | zero =>
    intro i n h hn
    rw [List.drop_of_length_le (by omega)]
    have e : min (n + partsFs []) (m + 1) = n := by simp only [partsFs]; omega
    rw [e]
    exact sP1_e p m n i (.inl (by omega))
  | succ d ih =>
    intro i n h hn
    rcases Nat.lt_or_ge m n with h1 | h1
    · have e : min (n + partsFs (p.test.drop i)) (m + 1) = n := by omega
      rw [e]
      exact sP1_e p m n i (.inr h1)
    · have hk := hc _ (getD_mem p.test i flt0 (by omega)) (m - n) (by omega)
      have e2 : partsFs (p.test.drop i) = partsF (p.test.getD i flt0) + partsFs (p.test.drop (i + 1)) := by rw [drop_cons p.test i flt0 (by omega)]; simp only [partsFs]
      have k := ih (i + 1) (n + min (partsF (p.test.getD i flt0)) (m - n + 1)) (by omega) (by omega)
      have e : min (n + partsFs (p.test.drop i)) (m + 1) = min (n + min (partsF (p.test.getD i flt0)) (m - n + 1) + partsFs (p.test.drop (i + 1))) (m + 1) := by rw [e2]; omega
      rw [e]
      exact sP1_h p m n i _ (min (partsF (p.test.getD i flt0)) (m - n + 1)) (by omega) hl hm h1 (by omega) hk k
theorem sP0_l (p : Pth) (m : Nat) (hm : m ≤ 1000) (hl : p.sub.length ≤ 1048600) (hl2 : p.test.length ≤ 1048600) (hc : ∀ q ∈ p.sub, ∀ k : Nat, k ≤ 1000 → Ctr Tryd.prog 48 [.agg (pthL q), .int .i64 k] (.int .i64 (min (partsP q) (k + 1) : Nat))) (hc2 : ∀ q ∈ p.test, ∀ k : Nat, k ≤ 1000 → Ctr Tryd.prog 65 [.agg (fltL q), .int .i64 k] (.int .i64 (min (partsF q) (k + 1) : Nat))) : ∀ d i n, i + d = p.sub.length → n ≤ m + 1 → HT Tryd.prog Tryd.f48.ntmps (pt Tryd.f48 0) (stP0 p m n i) (EndsA Γ (.pure [] (.int .i64 (min (n + partsPs (p.sub.drop i) + partsFs p.test) (m + 1) : Nat))) Tryd.f48) := by
  intro d
  induction d with
  | zero =>
    intro i n h hn
    rw [List.drop_of_length_le (by omega)]
    have k := sP1_l p m hm hl2 hc2 p.test.length 0 n (Nat.zero_add _) hn
    rw [List.drop_zero] at k
    have e : n + partsPs [] + partsFs p.test = n + partsFs p.test := by simp only [partsPs]; omega
    rw [e]
    exact sP0_e p m n i _ (.inl (by omega)) k
  | succ d ih =>
    intro i n h hn
    rcases Nat.lt_or_ge m n with h1 | h1
    · have k := sP1_l p m hm hl2 hc2 p.test.length 0 n (Nat.zero_add _) hn
      rw [List.drop_zero] at k
      have e : min (n + partsPs (p.sub.drop i) + partsFs p.test) (m + 1) = min (n + partsFs p.test) (m + 1) := by omega
      rw [e]
      exact sP0_e p m n i _ (.inr h1) k
    · have hk := hc _ (getD_mem p.sub i pth0 (by omega)) (m - n) (by omega)
      have e2 : partsPs (p.sub.drop i) = partsP (p.sub.getD i pth0) + partsPs (p.sub.drop (i + 1)) := by rw [drop_cons p.sub i pth0 (by omega)]; simp only [partsPs]
      have k := ih (i + 1) (n + min (partsP (p.sub.getD i pth0)) (m - n + 1)) (by omega) (by omega)
      have e : min (n + partsPs (p.sub.drop i) + partsFs p.test) (m + 1) = min (n + min (partsP (p.sub.getD i pth0)) (m - n + 1) + partsPs (p.sub.drop (i + 1)) + partsFs p.test) (m + 1) := by rw [e2]; omega
      rw [e]
      exact sP0_h p m n i _ (min (partsP (p.sub.getD i pth0)) (m - n + 1)) (by omega) hl hm h1 (by omega) hk k
theorem sQ1_l (p : Flt) (m : Nat) (hm : m ≤ 1000) (hl : p.way.length ≤ 1048600) (hc : ∀ q ∈ p.way, ∀ k : Nat, k ≤ 1000 → Ctr Tryd.prog 48 [.agg (pthL q), .int .i64 k] (.int .i64 (min (partsP q) (k + 1) : Nat))) : ∀ d i n, i + d = p.way.length → n ≤ m + 1 → HT Tryd.prog Tryd.f65.ntmps (pt Tryd.f65 1) (stQ1 p m n i) (EndsA Γ (.pure [] (.int .i64 (min (n + partsPs (p.way.drop i)) (m + 1) : Nat))) Tryd.f65) := by
  intro d
  induction d with
  | zero =>
    intro i n h hn
    rw [List.drop_of_length_le (by omega)]
    have e : min (n + partsPs []) (m + 1) = n := by simp only [partsPs]; omega
    rw [e]
    exact sQ1_e p m n i (.inl (by omega))
  | succ d ih =>
    intro i n h hn
    rcases Nat.lt_or_ge m n with h1 | h1
    · have e : min (n + partsPs (p.way.drop i)) (m + 1) = n := by omega
      rw [e]
      exact sQ1_e p m n i (.inr h1)
    · have hk := hc _ (getD_mem p.way i pth0 (by omega)) (m - n) (by omega)
      have e2 : partsPs (p.way.drop i) = partsP (p.way.getD i pth0) + partsPs (p.way.drop (i + 1)) := by rw [drop_cons p.way i pth0 (by omega)]; simp only [partsPs]
      have k := ih (i + 1) (n + min (partsP (p.way.getD i pth0)) (m - n + 1)) (by omega) (by omega)
      have e : min (n + partsPs (p.way.drop i)) (m + 1) = min (n + min (partsP (p.way.getD i pth0)) (m - n + 1) + partsPs (p.way.drop (i + 1))) (m + 1) := by rw [e2]; omega
      rw [e]
      exact sQ1_h p m n i _ (min (partsP (p.way.getD i pth0)) (m - n + 1)) (by omega) hl hm h1 (by omega) hk k
theorem sQ0_l (p : Flt) (m : Nat) (hm : m ≤ 1000) (hl : p.sub.length ≤ 1048600) (hl2 : p.way.length ≤ 1048600) (hc : ∀ q ∈ p.sub, ∀ k : Nat, k ≤ 1000 → Ctr Tryd.prog 65 [.agg (fltL q), .int .i64 k] (.int .i64 (min (partsF q) (k + 1) : Nat))) (hc2 : ∀ q ∈ p.way, ∀ k : Nat, k ≤ 1000 → Ctr Tryd.prog 48 [.agg (pthL q), .int .i64 k] (.int .i64 (min (partsP q) (k + 1) : Nat))) : ∀ d i n, i + d = p.sub.length → n ≤ m + 1 → HT Tryd.prog Tryd.f65.ntmps (pt Tryd.f65 0) (stQ0 p m n i) (EndsA Γ (.pure [] (.int .i64 (min (n + partsFs (p.sub.drop i) + partsPs p.way) (m + 1) : Nat))) Tryd.f65) := by
  intro d
  induction d with
  | zero =>
    intro i n h hn
    rw [List.drop_of_length_le (by omega)]
    have k := sQ1_l p m hm hl2 hc2 p.way.length 0 n (Nat.zero_add _) hn
    rw [List.drop_zero] at k
    have e : n + partsFs [] + partsPs p.way = n + partsPs p.way := by simp only [partsFs]; omega
    rw [e]
    exact sQ0_e p m n i _ (.inl (by omega)) k
  | succ d ih =>
    intro i n h hn
    rcases Nat.lt_or_ge m n with h1 | h1
    · have k := sQ1_l p m hm hl2 hc2 p.way.length 0 n (Nat.zero_add _) hn
      rw [List.drop_zero] at k
      have e : min (n + partsFs (p.sub.drop i) + partsPs p.way) (m + 1) = min (n + partsPs p.way) (m + 1) := by omega
      rw [e]
      exact sQ0_e p m n i _ (.inr h1) k
    · have hk := hc _ (getD_mem p.sub i flt0 (by omega)) (m - n) (by omega)
      have e2 : partsFs (p.sub.drop i) = partsF (p.sub.getD i flt0) + partsFs (p.sub.drop (i + 1)) := by rw [drop_cons p.sub i flt0 (by omega)]; simp only [partsFs]
      have k := ih (i + 1) (n + min (partsF (p.sub.getD i flt0)) (m - n + 1)) (by omega) (by omega)
      have e : min (n + partsFs (p.sub.drop i) + partsPs p.way) (m + 1) = min (n + min (partsF (p.sub.getD i flt0)) (m - n + 1) + partsFs (p.sub.drop (i + 1)) + partsPs p.way) (m + 1) := by rw [e2]; omega
      rw [e]
      exact sQ0_h p m n i _ (min (partsF (p.sub.getD i flt0)) (m - n + 1)) (by omega) hl hm h1 (by omega) hk k

mutual
theorem sizeP_ctr (p : Pth) (hok : p.ok) (m : Nat) (hm : m ≤ 1000) : Ctr Tryd.prog 48 [.agg (pthL p), .int .i64 m] (.int .i64 (min (partsP p) (m + 1) : Nat)) := by
  have ho := Pth.ok_i hok
  have k := sP0_l p m hm ho.1 ho.2.1 (fun q hq k hk => have := sub_lt p q hq; sizeP_ctr q (ho.2.2.1 q hq) k hk) (fun q hq k hk => have := test_lt p q hq; sizeQ_ctr q (ho.2.2.2 q hq) k hk) p.sub.length 0 1 (Nat.zero_add _) (by omega)
  rw [List.drop_zero, ← partsP_eq] at k
  exact sP_p p m _ k
termination_by SizeOf.sizeOf p
theorem sizeQ_ctr (p : Flt) (hok : p.ok) (m : Nat) (hm : m ≤ 1000) : Ctr Tryd.prog 65 [.agg (fltL p), .int .i64 m] (.int .i64 (min (partsF p) (m + 1) : Nat)) := by
  have ho := Flt.ok_i hok
  have k := sQ0_l p m hm ho.2.2.1 ho.2.2.2.1 (fun q hq k hk => have := fsub_lt p q hq; sizeQ_ctr q (ho.2.2.2.2.1 q hq) k hk) (fun q hq k hk => have := way_lt p q hq; sizeP_ctr q (ho.2.2.2.2.2 q hq) k hk) p.sub.length 0 1 (Nat.zero_add _) (by omega)
  rw [List.drop_zero, ← partsF_eq] at k
  exact sQ_p p m _ k
termination_by SizeOf.sizeOf p
end
mutual
theorem filtersP_le : ∀ p : Pth, (filtersP p).length ≤ partsP p
  | .mk _ sub test => by
    simp only [filtersP, partsP, List.length_append]
    have h1 := filtersPs_le sub
    have h2 := withinFs_le test
    omega
theorem filtersPs_le : ∀ l : List Pth, (filtersPs l).length ≤ partsPs l
  | [] => by simp [filtersPs]
  | p :: r => by
    simp only [filtersPs, partsPs, List.length_append]
    have h1 := filtersP_le p
    have h2 := filtersPs_le r
    omega
theorem withinF_le : ∀ f : Flt, (withinF f).length ≤ partsF f
  | .mk o n v sub way => by
    simp only [withinF, partsF, List.length_append, List.length_cons]
    have h1 := withinFs_le sub
    have h2 := filtersPs_le way
    omega
theorem withinFs_le : ∀ l : List Flt, (withinFs l).length ≤ partsFs l
  | [] => by simp [withinFs]
  | f :: r => by
    simp only [withinFs, partsFs, List.length_append]
    have h1 := withinF_le f
    have h2 := withinFs_le r
    omega
end

theorem size23_ctr (p : Pth) (hok : p.ok) : Ctr Tryd.prog 23 [.agg (pthL p)] (.int .i64 (min (partsP p) 65 : Nat)) :=
  Ctr.mk Γ_ok Tryd.func23 (by kernel_rfl) Tryd.call23 [] (by kernel_rfl) (HT.walk Γ_ok mo_ok (⟨([(4, .call [] (.int .i64 (min (partsP p) 65 : Nat)))] ++ []), sp23, [], [], .pure [] (.int .i64 (min (partsP p) 65 : Nat))⟩ : Wk) 4000 (T := .ob ((3 : Nat) ≤ (3 : Nat)) (.ob (Ctr Tryd.prog 48 [AV.agg (pthL p), AV.int .i64 (64 : Int)] (AV.int .i64 (↑(min (partsP p) (65 : Nat)) : Int))) (.ob ((↑(min (partsP p) (65 : Nat)) : Int) = (↑(min (partsP p) (65 : Nat)) : Int)) (.tt)))) (by kernel_rfl) (by
    simp only [PT.holds, true_implies, Bool.false_eq_true, Bool.true_eq_false, false_implies, true_and, and_true]
    exact ⟨by omega, sizeP_ctr p hok 64 (by omega)⟩))
theorem rightp2_p (p : Pth) (hok : p.ok) (b : Bool) (hb : (b = true → p.r) ∧ Ctr Tryd.prog 24 [.agg (pthL p), .int .i64 16] (.bool b)) : ∃ x : Bool, (x = true → p.r ∧ partsP p ≤ 64) ∧ Ctr Tryd.prog 10 [.agg (pthL p)] (.bool x) := by
    have H : ∃ x : Bool, (x = true → p.r ∧ partsP p ≤ 64) ∧ PT.holds Tryd.prog Tryd.f10.ntmps (EndsA Γ (.pure [] (.bool x)) Tryd.f10) (.ob ((3 : Nat) ≤ (3 : Nat)) (.ob (Ctr Tryd.prog 23 [AV.agg (pthL p)] (AV.int .i64 (↑(min (partsP p) (65 : Nat)) : Int))) (.split (decide ((↑(min (partsP p) (65 : Nat)) : Int) ≤ (64 : Int))) (.ob ((3 : Nat) ≤ (3 : Nat)) (.ob (Ctr Tryd.prog 24 [AV.agg (pthL p), AV.int .i64 (16 : Int)] (AV.bool b)) (.ob (b = x) (.tt)))) (.ob (false = x) (.tt))))) := by
      simp only [PT.holds, true_implies, Bool.false_eq_true, Bool.true_eq_false, false_implies, true_and, and_true]
      (repeat' first | exact ⟨_, triv, rfl, trivial⟩ | exact ⟨_, triv, rfl⟩ | refine ex_split (fun _ => ?_) (fun _ => ?_) | refine ex_ob ?_ ?_)
      all_goals first | exact hb.2 | exact size23_ctr p hok | omega | (first | exact ⟨_, (fun h => absurd h (by decide)), rfl, trivial⟩ | exact ⟨_, (fun h => absurd h (by decide)), rfl⟩) | exact ⟨_, fun h => ⟨hb.1 h, by have := of_decide_eq_true ‹decide (((min (partsP p) 65 : Nat) : Int) ≤ 64) = true›; omega⟩, rfl⟩
    obtain ⟨x, hR, hx⟩ := H
    exact ⟨x, hR, Ctr.mk Γ_ok Tryd.func10 (by kernel_rfl) Tryd.call10 [] (by kernel_rfl) (HT.walk Γ_ok mo_ok (⟨([(4, .call [] (.int .i64 (min (partsP p) 65 : Nat))), (8, .call [] (.bool b))] ++ []), sp10, [], [], .pure [] (.bool x)⟩ : Wk) 4000 (by kernel_rfl) hx)⟩
theorem rightp2_ex (p : Pth) (hok : p.ok) : ∃ x : Bool, (x = true → p.r ∧ partsP p ≤ 64) ∧ Ctr Tryd.prog 10 [.agg (pthL p)] (.bool x) := by
  obtain ⟨b, hb⟩ := path_ex p hok 16
  exact rightp2_p p hok b hb
mutual
theorem filtersP_r : ∀ p : Pth, p.r → ∀ f ∈ filtersP p, f.r
  | .mk o sub test, h, f, hf => by
    cases h with
    | mk _ h1 hs ht =>
      simp only [filtersP, List.mem_append] at hf
      rcases hf with hf | hf
      · exact filtersPs_r sub hs f hf
      · exact withinFs_r test ht f hf
theorem filtersPs_r : ∀ l : List Pth, (∀ q ∈ l, q.r) → ∀ f ∈ filtersPs l, f.r
  | [], h, f, hf => by simp [filtersPs] at hf
  | p :: r, h, f, hf => by
    simp only [filtersPs, List.mem_append] at hf
    rcases hf with hf | hf
    · exact filtersP_r p (h p (by simp)) f hf
    · exact filtersPs_r r (fun q hq => h q (by simp [hq])) f hf
theorem withinF_r : ∀ g : Flt, g.r → ∀ f ∈ withinF g, f.r
  | .mk o n v sub way, h, f, hf => by
    have h' := h
    cases h with
    | mk _ h1 hs ht =>
      simp only [withinF, List.mem_append, List.mem_cons] at hf
      rcases hf with hf | hf | hf
      · rw [hf]; exact h'
      · exact withinFs_r sub hs f hf
      · exact filtersPs_r way ht f hf
theorem withinFs_r : ∀ l : List Flt, (∀ q ∈ l, q.r) → ∀ f ∈ withinFs l, f.r
  | [], h, f, hf => by simp [withinFs] at hf
  | g :: r, h, f, hf => by
    simp only [withinFs, List.mem_append] at hf
    rcases hf with hf | hf
    · exact withinF_r g (h g (by simp)) f hf
    · exact withinFs_r r (fun q hq => h q (by simp [hq])) f hf
end
theorem Flt.r_1 {f : Flt} (h : f.r) : f.r1 := by cases h; assumption
theorem filters_64 (p : Pth) (h : partsP p ≤ 64) : (filtersP p).length ≤ 64 := Nat.le_trans (filtersP_le p) h

end Go.Proofs.YteimloiaipiadaaDoor
end

section
set_option linter.unusedVariables false
set_option linter.unusedSimpArgs false
set_option maxRecDepth 100000
namespace Go.Proofs.YteimloiaipiadaaDoor
open Go Go.AX

def nA : Nm := ⟨⟨#[]⟩, ⟨#[97]⟩⟩
def fW : Flt := .mk 4 nA ⟨#[]⟩ [] []
def pW : Pth := .mk 7 [] [fW]
def eB : Ev := ⟨1, ⟨⟨#[]⟩, ⟨#[98]⟩⟩, [], ⟨#[]⟩⟩
def labsA : List Ev := [⟨1, nA, [], ⟨#[]⟩⟩, ⟨1, ⟨⟨#[]⟩, ⟨#[122]⟩⟩, [], ⟨#[]⟩⟩, ⟨2, nm0, [], ⟨#[48]⟩⟩]

theorem awake_p (h11 : Ctr Tryd.prog 11 [.agg (pthL pW)] (.tup [.sl none 3 (evsC labsA) .no, .int .i64 0])) (h15 : Ctr Tryd.prog 15 [.agg (pthL pW), .sl none 3 (evsC labsA) .no, .agg (evC eB)] (.int .i64 1)) : Ctr Tryd.prog 9 [] (.bool true) :=
  Ctr.mk Γ_ok Tryd.func9 (by kernel_rfl) Tryd.call9 [] (by kernel_rfl) (HT.walk Γ_ok mo_ok (⟨([(10, .call [] (.tup [.sl none 3 (evsC labsA) .no, .int .i64 0])), (48, .call [] (.int .i64 1))] ++ []), [], [], [], .pure [] (.bool true)⟩ : Wk) 4000 (T := .ob ((3 : Nat) ≤ (3 : Nat)) (.ob (Ctr Tryd.prog 11 [AV.agg [AV.int .i64 (7 : Int), AV.sl (some true) (0 : Nat) [] .clip, AV.sl (some false) (1 : Nat) [AV.int .i64 (4 : Int), AV.str (ByteArray.mk #[]), AV.str (ByteArray.mk #[(97 : UInt8)]), AV.str (ByteArray.mk #[]), AV.sl none (0 : Nat) [] .no, AV.sl none (0 : Nat) [] .no] .clip]] (AV.tup [AV.sl none (3 : Nat) [AV.int .i64 (1 : Int), AV.str nA.sp, AV.str nA.lo, AV.sl none (0 : Nat) [] .no, AV.str (ByteArray.mk #[]), AV.int .i64 (1 : Int), AV.str (ByteArray.mk #[]), AV.str (ByteArray.mk #[(122 : UInt8)]), AV.sl none (0 : Nat) [] .no, AV.str (ByteArray.mk #[]), AV.int .i64 (2 : Int), AV.str nm0.sp, AV.str nm0.lo, AV.sl none (0 : Nat) [] .no, AV.str (ByteArray.mk #[(48 : UInt8)])] .no, AV.int .i64 (0 : Int)])) (.ob ((0 : Int) ≤ (0 : Int) ∧ (0 : Int) < (↑(3 : Nat) : Int) ∧ Int.toNat (0 : Int) * (5 : Nat) < (evsC labsA).length) (.ob ((0 : Int) ≤ (1 : Int) ∧ (1 : Int) < (↑(3 : Nat) : Int) ∧ Int.toNat (1 : Int) * (5 : Nat) < (evsC labsA).length) (.ob ((0 : Int) ≤ (2 : Int) ∧ (2 : Int) < (↑(3 : Nat) : Int) ∧ Int.toNat (2 : Int) * (5 : Nat) < (evsC labsA).length) (.ob ((3 : Nat) ≤ (3 : Nat)) (.ob (Ctr Tryd.prog 15 [AV.agg [AV.int .i64 (7 : Int), AV.sl (some true) (0 : Nat) [] .clip, AV.sl (some false) (1 : Nat) [AV.int .i64 (4 : Int), AV.str (ByteArray.mk #[]), AV.str (ByteArray.mk #[(97 : UInt8)]), AV.str (ByteArray.mk #[]), AV.sl none (0 : Nat) [] .no, AV.sl none (0 : Nat) [] .no] .clip], AV.sl none (3 : Nat) [AV.int .i64 (1 : Int), AV.str nA.sp, AV.str nA.lo, AV.sl none (0 : Nat) [] .no, AV.str (ByteArray.mk #[]), AV.int .i64 (1 : Int), AV.str (ByteArray.mk #[]), AV.str (ByteArray.mk #[(122 : UInt8)]), AV.sl none (0 : Nat) [] .no, AV.str (ByteArray.mk #[]), AV.int .i64 (2 : Int), AV.str nm0.sp, AV.str nm0.lo, AV.sl none (0 : Nat) [] .no, AV.str (ByteArray.mk #[(48 : UInt8)])] .no, AV.agg [AV.int .i64 (1 : Int), AV.str (ByteArray.mk #[]), AV.str (ByteArray.mk #[(98 : UInt8)]), AV.sl (some true) (0 : Nat) [] .clip, AV.str (ByteArray.mk #[])]] (AV.int .i64 (1 : Int))) (.ob (true = true) (.tt))))))))) (by kernel_rfl) (by
    simp only [PT.holds, true_implies, Bool.false_eq_true, Bool.true_eq_false, false_implies, true_and, and_true]
    have hl : (evsC labsA).length = 15 := rfl
    refine ⟨by omega, h11.args rfl ?_, by omega, by omega, by omega, by omega, h15.args rfl ?_⟩
    all_goals (repeat' first | exact rfl | refine And.intro ?_ ?_)))
theorem pW_ok : pW.ok := by simp [pW, fW, nA, Pth.ok, Flt.ok, oksP, oksF, Nm.ok, ByteArray.size]
theorem pW_filters : filtersP pW = [fW] := by simp [pW, fW, filtersP, filtersPs, withinF, withinFs]
theorem pW_spk : spkW pW = ⟨[nA], [], [], []⟩ := by
  unfold spkW
  rw [pW_filters]
  rfl
theorem othA : othN [nA] = ⟨⟨#[]⟩, ⟨#[122]⟩⟩ := by
  have h : FirstZ [nA] 0 := ⟨by simp, by decide, fun j hj => by omega⟩
  have := other_same [nA] _ 0 (kOf_first bZ (localsF [nA] ++ [bZ0])) h
  unfold othN
  rw [this]
  rfl
theorem anoA : anoT [] = ⟨#[48]⟩ := by
  have hk := (kOf_first ⟨#[]⟩ []).le
  have h0 : kOf ⟨#[]⟩ [] = 0 := by simpa using hk
  unfold anoT
  rw [h0]
  simp only [frR]
  rw [digN_1 0 (by omega)]
  rfl
theorem labsA_eq : labsW (spkW pW) = labsA := by
  rw [pW_spk]
  unfold labsW
  rw [othA, anoA]
  simp [opnW, txtW, labF, labsA]
theorem awake_ctr : Ctr Tryd.prog 9 [] (.bool true) := by
  have h11 := Labels_ctr pW pW_ok (by rw [pW_filters]; decide) (by rw [labsA_eq]; decide)
  rw [labsA_eq] at h11
  have h15 := Class_ctr pW pW_ok (by rw [pW_filters]; decide) labsA eB (by decide) (fun x hx => by simp [labsA] at hx; rcases hx with rfl | rfl | rfl <;> simp) (by decide)
  have e : clsR (spkW pW) eB labsA 0 = 1 := by rw [pW_spk]; decide
  rw [e] at h15
  exact awake_p h11 h15

end Go.Proofs.YteimloiaipiadaaDoor
end

section
set_option linter.unusedVariables false
set_option linter.unusedSimpArgs false
set_option maxRecDepth 100000
namespace Go.Proofs.YteimloiaipiadaaDoor
open Go Go.AX

/-! How long the attributes of labels are. -/
theorem labF_attrs : ∀ (A : List Nm) (V : List (List ByteArray)) (e x : Ev), x ∈ labF A V e → x.attrs.length ≤ e.attrs.length + A.length
  | [], V, e, x, h => by simp [labF] at h; subst h; simp
  | n :: A, [], e, x, h => by simp [labF] at h; subst h; simp
  | n :: A, v :: V, e, x, h => by
    simp only [labF, List.mem_append, List.mem_flatMap] at h
    rcases h with h | ⟨y, _, h⟩
    · have := labF_attrs A V e x h
      simp; omega
    · have := labF_attrs A V (addA e n y) x h
      simp [addA] at this ⊢
      omega
theorem labsW_attrs (W : Wd) (x : Ev) (h : x ∈ labsW W) : x.attrs.length ≤ W.A.length := by
  unfold labsW at h
  rcases List.mem_append.1 h with h | h
  · unfold opnW at h
    obtain ⟨n, _, h⟩ := List.mem_flatMap.1 h
    have := labF_attrs _ _ _ _ h
    simpa using this
  · unfold txtW at h
    obtain ⟨s, _, rfl⟩ := List.mem_map.1 h
    simp
/-- What is answered. -/
noncomputable def ansL (W : Wd) : List Ev := if (labsW W).length ≤ 24 then labsW W else []
noncomputable def ansC (W : Wd) : Int := if (labsW W).length ≤ 24 then 0 else 13
theorem Labels_all (p : Pth) (hok : p.ok) (hl : (filtersP p).length ≤ 64) : Ctr Tryd.prog 11 [.agg (pthL p)] (.tup [.sl none (ansL (spkW p)).length (evsC (ansL (spkW p))) .no, .int .i64 (ansC (spkW p))]) := by
  unfold ansL ansC
  by_cases h : (labsW (spkW p)).length ≤ 24
  · rw [if_pos h, if_pos h]
    exact Labels_ctr p hok hl h
  · rw [if_neg h, if_neg h]
    exact Labels_ctr_f p hok hl (by omega)
theorem ans_good (W : Wd) : Good (ansL W) (ansC W) (labsW W) := by
  unfold ansL ansC
  refine ⟨fun h => ?_, fun h => ?_⟩
  · rw [if_pos h, if_pos h]; exact ⟨rfl, rfl⟩
  · rw [if_neg (by omega), if_neg (by omega)]; exact ⟨rfl, rfl⟩
theorem ansL_len (W : Wd) : (ansL W).length ≤ 24 := by
  unfold ansL; split
  · assumption
  · simp
theorem ansL_mem (W : Wd) (x : Ev) (h : x ∈ ansL W) : x ∈ labsW W := by
  unfold ansL at h; split at h
  · exact h
  · simp at h
theorem refLabels_all (p : Pth) (hok : p.ok) (hr : p.r) (hl : (filtersP p).length ≤ 64) : Ctr Tryd.prog 12 [.agg (pthL p)] (.tup [.sl none (ansL (spkW p)).length (evsC (ansL (spkW p))) .no, .int .i64 (ansC (spkW p))]) := by
  obtain ⟨h1, h2, h3, h4, h5⟩ := speaks_small p hl
  have hm := make_ctr_spk p hok (by omega) (fun f hf h7 => Classical.byContradiction fun hn => by
    have := (Flt.r_1 (filtersP_r p hr f hf)).named.2 hn
    omega)
  exact refLabels_ctr p (spkW p) (by omega) h4 (fun v hv => by have := h5 v hv; omega) (by omega) (by omega) hm _ _ (ans_good _)
end Go.Proofs.YteimloiaipiadaaDoor
end

section
set_option linter.unusedVariables false
set_option linter.unusedSimpArgs false
set_option maxRecDepth 100000
namespace Go.Proofs.YteimloiaipiadaaDoor
open Go Go.AX Go.RowKit Go.WideShapes Go.ChangeShapes

/-! ### The bulk -/
theorem bulk_part {H : Type} {d : DataW H} {l : List (DataW H)} (h : d ∈ l) : Rows.uptoBulk d ≤ Rows.uptoBulkAll l := by
  induction l with
  | nil => cases h
  | cons x r ih =>
    simp only [Rows.uptoBulkAll]
    cases List.mem_cons.1 h with
    | inl e => subst e; omega
    | inr e => have := ih e; omega
theorem bulk_one {H : Type} (d : DataW H) : 1 ≤ Rows.uptoBulk d := by
  cases d with
  | lit l => cases l <;> simp [Rows.uptoBulk]
  | nil => simp [Rows.uptoBulk]
  | ptr d => simp [Rows.uptoBulk]
  | slice elems spare => simp [Rows.uptoBulk]
  | agg parts => simp [Rows.uptoBulk]
  | iface t d => simp [Rows.uptoBulk]
  | map entries => simp [Rows.uptoBulk]
  | held h => simp [Rows.uptoBulk]
theorem bulk_length {H : Type} (l : List (DataW H)) : l.length ≤ Rows.uptoBulkAll l := by
  induction l with
  | nil => simp [Rows.uptoBulkAll]
  | cons x r ih => have := bulk_one x; simp only [Rows.uptoBulkAll, List.length_cons]; omega
theorem bulk_meas (H : Type) : Meas (Rows.uptoBulk (H := H)) := by
  refine ⟨fun es sp x h => ?_, fun es sp => ?_, fun es x h => ?_, fun b => ?_⟩
  · have := bulk_part h
    simp only [Rows.uptoBulk]; omega
  · have := bulk_length es
    simp only [Rows.uptoBulk]; omega
  · have := bulk_part h
    simp only [Rows.uptoBulk]; omega
  · simp only [Rows.uptoBulk]; omega

/-! ### Names, attributes, events, paths -/
section
variable {H : Type} {enc : TypeId × Value → H} {w : World} {base : Nat} {spare : Nat → Bool} {held : Bool}
theorem open_str {n : Nat} {cs : List Value} {x : DataW H × List MemPlace} (h : DataW.trod enc Tryd.prog w base spare held n 9 cs = some x) (hx : Rows.uptoBulk x.1 ≤ 1048576) :
    ∃ s : ByteArray, cs = [.string s] ∧ s.size ≤ 1048600 := by
  obtain ⟨s, rfl, rfl, _⟩ := DataW.trod_string Tryd.underlying9 h
  have := (bulk_meas H).str s.data.toList
  have e : s.data.toList.length = s.size := by simp
  simp only at hx
  exact ⟨s, rfl, by omega⟩
theorem open_nm {n : Nat} {cs : List Value} {x : DataW H × List MemPlace} (h : DataW.trod enc Tryd.prog w base spare held n 36 cs = some x) (hx : Rows.uptoBulk x.1 ≤ 1048576) :
    ∃ a : Nm, Reps w (heldAt w) (nmC a) cs ∧ a.ok := by
  obtain ⟨xs, m, rfl, rfl, hl, hn, hf⟩ := DataW.trod_struct Tryd.underlying36 h
  have c36 : Tryd.prog.cellsOf 36 = 2 := by kernel_rfl
  have c9 : Tryd.prog.cellsOf 9 = 1 := by kernel_rfl
  rw [c36] at hl
  match cs, hl with
  | [c0, c1], _ =>
  have h0 : DataW.trod enc Tryd.prog w base spare held m 9 (([c0, c1].drop 0).take (Tryd.prog.cellsOf 9)) = _ := hf 0 _ rfl
  have h1 : DataW.trod enc Tryd.prog w base spare held m 9 (([c0, c1].drop 1).take (Tryd.prog.cellsOf 9)) = _ := hf 1 _ rfl
  simp only [c9] at h0 h1
  match xs, hn with
  | [x0, x1], _ =>
  have b0 := Nat.le_trans ((bulk_meas H).ag [x0.1, x1.1] x0.1 (by simp)) hx
  have b1 := Nat.le_trans ((bulk_meas H).ag [x0.1, x1.1] x1.1 (by simp)) hx
  obtain ⟨s0, e0, k0⟩ := open_str (x := x0) (by simpa using h0) b0
  obtain ⟨s1, e1, k1⟩ := open_str (x := x1) (by simpa using h1) b1
  simp only [List.drop_zero, List.take_succ_cons, List.take_zero, List.drop_succ_cons, List.cons.injEq, and_true] at e0 e1
  subst e0; subst e1
  exact ⟨⟨s0, s1⟩, .append (.one (.str _ _) rfl) (.one (.str _ _) rfl), k0, k1⟩
theorem open_int64 {n : Nat} {cs : List Value} {x : DataW H × List MemPlace} (h : DataW.trod enc Tryd.prog w base spare held n 3 cs = some x) : ∃ k : Int, cs = [.int .i64 k] ∧ (Lit.int .i64 k).wf = true := by
  obtain ⟨k, rfl, _, h⟩ := DataW.trod_int Tryd.underlying3 h
  exact ⟨k, rfl, h⟩
theorem oksP_of : ∀ {l : List Pth}, (∀ p ∈ l, p.ok) → oksP l
  | [], _ => trivial
  | p :: r, h => ⟨h p List.mem_cons_self, oksP_of fun q hq => h q (List.mem_cons_of_mem _ hq)⟩
theorem oksF_of : ∀ {l : List Flt}, (∀ p ∈ l, p.ok) → oksF l
  | [], _ => trivial
  | p :: r, h => ⟨h p List.mem_cons_self, oksF_of fun q hq => h q (List.mem_cons_of_mem _ hq)⟩
theorem open_pf : ∀ (n : Nat), (∀ (cs : List Value) (x : DataW H × List MemPlace), DataW.trod enc Tryd.prog w base spare held n 25 cs = some x → Rows.uptoBulk x.1 ≤ 1048576 → ∃ a : Pth, Reps w (heldAt w) (pthC a) cs ∧ a.ok) ∧
    (∀ (cs : List Value) (x : DataW H × List MemPlace), DataW.trod enc Tryd.prog w base spare held n 55 cs = some x → Rows.uptoBulk x.1 ≤ 1048576 → ∃ a : Flt, Reps w (heldAt w) (fltC a) cs ∧ a.ok) := by
  intro n
  induction n using Nat.strongRecOn with
  | ind n ih =>
  have hP : ∀ n', n' < n → ∀ {cs : List Value} {x : DataW H × List MemPlace}, DataW.trod enc Tryd.prog w base spare held n' 22 cs = some x → Rows.uptoBulk x.1 ≤ 1048576 → ∃ l : List Pth, Reps w (heldAt w) [.sl none l.length (pthsC l) .no] cs ∧ l.length ≤ 1048576 ∧ ∀ a ∈ l, a.ok := by
    intro n' hn' cs x h hx
    obtain ⟨l, a, b⟩ := open_list pthC Pth.ok pthC_len (by omega) (by kernel_rfl) Tryd.underlying22 (bulk_meas H) (fun n'' hn'' cs x hh hb => (ih n'' (by omega)).1 cs x hh hb) h hx
    exact ⟨l, by rw [pthsC_eq]; exact a, b⟩
  have hF : ∀ n', n' < n → ∀ {cs : List Value} {x : DataW H × List MemPlace}, DataW.trod enc Tryd.prog w base spare held n' 23 cs = some x → Rows.uptoBulk x.1 ≤ 1048576 → ∃ l : List Flt, Reps w (heldAt w) [.sl none l.length (fltsC l) .no] cs ∧ l.length ≤ 1048576 ∧ ∀ a ∈ l, a.ok := by
    intro n' hn' cs x h hx
    obtain ⟨l, a, b⟩ := open_list fltC Flt.ok fltC_len (by omega) (by kernel_rfl) Tryd.underlying23 (bulk_meas H) (fun n'' hn'' cs x hh hb => (ih n'' (by omega)).2 cs x hh hb) h hx
    exact ⟨l, by rw [fltsC_eq]; exact a, b⟩
  have c9 : Tryd.prog.cellsOf 9 = 1 := by kernel_rfl
  have c3 : Tryd.prog.cellsOf 3 = 1 := by kernel_rfl
  have c36 : Tryd.prog.cellsOf 36 = 2 := by kernel_rfl
  have c22 : Tryd.prog.cellsOf 22 = 1 := by kernel_rfl
  have c23 : Tryd.prog.cellsOf 23 = 1 := by kernel_rfl
  refine ⟨fun cs x h hx => ?_, fun cs x h hx => ?_⟩
  · obtain ⟨xs, m, rfl, rfl, hl, hn, hf⟩ := DataW.trod_struct Tryd.underlying25 h
    have c25 : Tryd.prog.cellsOf 25 = 3 := by kernel_rfl
    rw [c25] at hl
    match cs, hl with
    | [v0, v1, v2], _ =>
    have h0 : DataW.trod enc Tryd.prog w base spare held m 3 (([v0, v1, v2].drop 0).take (Tryd.prog.cellsOf 3)) = _ := hf 0 _ rfl
    have h1 : DataW.trod enc Tryd.prog w base spare held m 22 (([v0, v1, v2].drop 1).take (Tryd.prog.cellsOf 22)) = _ := hf 1 _ rfl
    have h2 : DataW.trod enc Tryd.prog w base spare held m 23 (([v0, v1, v2].drop 2).take (Tryd.prog.cellsOf 23)) = _ := hf 2 _ rfl
    simp only [c3, c22, c23] at h0 h1 h2
    match xs, hn with
    | [x0, x1, x2], _ =>
    have b1 := Nat.le_trans ((bulk_meas H).ag [x0.1, x1.1, x2.1] x1.1 (by simp)) hx
    have b2 := Nat.le_trans ((bulk_meas H).ag [x0.1, x1.1, x2.1] x2.1 (by simp)) hx
    obtain ⟨k, e0, _⟩ := open_int64 (x := x0) (by simpa using h0)
    obtain ⟨l, r1, k1, k1'⟩ := hP m (by omega) (x := x1) (by simpa using h1) b1
    obtain ⟨l2, r2, k2, k2'⟩ := hF m (by omega) (x := x2) (by simpa using h2) b2
    simp only [List.drop_zero, List.take_succ_cons, List.take_zero, List.drop_succ_cons, List.cons.injEq, and_true] at e0 r1 r2
    subst e0
    exact ⟨.mk k l l2, by rw [pthC]; exact Reps.append (.one (.int _ _ _) rfl) (Reps.append r1 r2), by rw [Pth.ok]; exact ⟨by omega, by omega, oksP_of k1', oksF_of k2'⟩⟩
  · obtain ⟨xs, m, rfl, rfl, hl, hn, hf⟩ := DataW.trod_struct Tryd.underlying55 h
    have c55 : Tryd.prog.cellsOf 55 = 6 := by kernel_rfl
    rw [c55] at hl
    match cs, hl with
    | [v0, v1, v2, v3, v4, v5], _ =>
    have h0 : DataW.trod enc Tryd.prog w base spare held m 3 (([v0, v1, v2, v3, v4, v5].drop 0).take (Tryd.prog.cellsOf 3)) = _ := hf 0 _ rfl
    have h1 : DataW.trod enc Tryd.prog w base spare held m 36 (([v0, v1, v2, v3, v4, v5].drop 1).take (Tryd.prog.cellsOf 36)) = _ := hf 1 _ rfl
    have h2 : DataW.trod enc Tryd.prog w base spare held m 9 (([v0, v1, v2, v3, v4, v5].drop 3).take (Tryd.prog.cellsOf 9)) = _ := hf 2 _ rfl
    have h3 : DataW.trod enc Tryd.prog w base spare held m 23 (([v0, v1, v2, v3, v4, v5].drop 4).take (Tryd.prog.cellsOf 23)) = _ := hf 3 _ rfl
    have h4 : DataW.trod enc Tryd.prog w base spare held m 22 (([v0, v1, v2, v3, v4, v5].drop 5).take (Tryd.prog.cellsOf 22)) = _ := hf 4 _ rfl
    simp only [c3, c22, c23, c9, c36] at h0 h1 h2 h3 h4
    match xs, hn with
    | [x0, x1, x2, x3, x4], _ =>
    have b1 := Nat.le_trans ((bulk_meas H).ag [x0.1, x1.1, x2.1, x3.1, x4.1] x1.1 (by simp)) hx
    have b2 := Nat.le_trans ((bulk_meas H).ag [x0.1, x1.1, x2.1, x3.1, x4.1] x2.1 (by simp)) hx
    have b3 := Nat.le_trans ((bulk_meas H).ag [x0.1, x1.1, x2.1, x3.1, x4.1] x3.1 (by simp)) hx
    have b4 := Nat.le_trans ((bulk_meas H).ag [x0.1, x1.1, x2.1, x3.1, x4.1] x4.1 (by simp)) hx
    obtain ⟨k, e0, _⟩ := open_int64 (x := x0) (by simpa using h0)
    obtain ⟨a, r1, k1⟩ := open_nm (x := x1) (by simpa using h1) b1
    obtain ⟨s, e2, k2⟩ := open_str (x := x2) (by simpa using h2) b2
    obtain ⟨l3, r3, k3, k3'⟩ := hF m (by omega) (x := x3) (by simpa using h3) b3
    obtain ⟨l4, r4, k4, k4'⟩ := hP m (by omega) (x := x4) (by simpa using h4) b4
    simp only [List.drop_zero, List.take_succ_cons, List.take_zero, List.drop_succ_cons, List.cons.injEq, and_true] at e0 r1 e2 r3 r4
    subst e0; subst e2
    exact ⟨.mk k a s l3 l4, by rw [fltC]; exact Reps.append (.one (.int _ _ _) rfl) (Reps.append r1 (Reps.append (.one (.str _ _) rfl) (Reps.append r3 r4))), by rw [Flt.ok]; exact ⟨k1, k2, by omega, by omega, oksF_of k3', oksP_of k4'⟩⟩

/-! ### As arguments -/
theorem open_path {r : Reach} {b0 : Nat} {v : Value} {d : DataW H} {ps : List MemPlace} (hok : Value.okWide Tryd.prog w r b0 25 v) (h : DataW.Trod enc Tryd.prog w base spare held 25 v d ps) (hd : Rows.uptoBulk d ≤ 1048576) : ∃ p : Pth, Rep w (envF (heldAt w)) false (.agg (pthL p)) v ∧ p.ok := by
  obtain ⟨cs, rfl, hsz⟩ := okWide_struct Tryd.underlying25 hok
  obtain ⟨fuel, hf⟩ := h
  obtain ⟨p, hr, hk⟩ := (open_pf fuel).1 _ _ hf hd
  rw [pthC_L] at hr
  exact ⟨p, hr.agg, hk⟩
/-- An argument read again. -/
theorem back {t : TypeId} {W W' : World} {v : Value} {d : DataW H} {ps : List MemPlace} (sp : Nat → Bool) (hl : laidOutB Tryd.prog = true) (hr : Tryd.prog.readableRec t = true) (hrow : t < Tryd.prog.types.size) (hb : Below W.heap.size W W') (h : DataW.Trod enc Tryd.prog W 0 (fun _ => true) true t v d ps) (hall : ∀ p ∈ ps, sp p.block = true) (hlt : ∀ x ∈ ps, x.block < W.heap.size) :
    DataW.Trod enc Tryd.prog W' 0 sp true t v d ps :=
  WideElems.Trod_stays hl hr hrow h (fun x hx => hb.same (hlt x hx)) (fun x hx => hall x hx)
end
end Go.Proofs.YteimloiaipiadaaDoor
end

section
set_option linter.unusedVariables false
set_option linter.unusedSimpArgs false
set_option maxRecDepth 100000
namespace Go.Proofs.YteimloiaipiadaaDoor
open Go Go.AX

theorem spT_h (p : Pth) (V R : Wd) (hc : CtrM Tryd.prog 50 (gatM wd0) [.ptr 1000003 0, .agg (pthL p)] (gatM V) (.tup [])) (k : HT Tryd.prog Tryd.f25.ntmps (pt Tryd.f25 0) (stS1 p V) (EndsA Γ (.mem [] (⟨[], gatT true R⟩ : MemS) (.agg (gatC R))) Tryd.f25)) : HT Tryd.prog Tryd.f25.ntmps (pt Tryd.f25 0) (stS0 p) (EndsA Γ (.mem [] (⟨[], gatT true R⟩ : MemS) (.agg (gatC R))) Tryd.f25) :=
  HT.walk Γ_ok mo_ok (⟨[(11, .val (.agg (pthL p))), (13, .callM [(true, 1000003, 0, 1000010, 36, 2), (true, 1000003, 1, 1000011, 36, 2), (true, 1000003, 2, 1000777, 64, 1), (true, 1000003, 3, 1000014, 9, 1)] [6000010, 6000011, 6000014] [1000003] [1000010, 1000011, 1000777, 1000014] (gatM V).heap (gatM V).tags (.tup []))], sp25, hd25 [] [] [1000003] [1000010, 1000011, 1000777, 1000014], [], .mem [] (⟨[], gatT true R⟩ : MemS) (.agg (gatC R))⟩ : Wk) 4000 (T := .split (true) (.ob ((0 : Int) ≤ (0 : Int) ∧ (0 : Int) < (↑(1 : Nat) : Int) ∧ Int.toNat (0 : Int) * (3 : Nat) < (pthL p).length) (.ob ((pthL p) = (pthL p)) (.ob ((3 : Nat) ≤ (3 : Nat)) (.ob (CtrM Tryd.prog (50 : Nat) { heap := [(1000003, .var true [AV.vec (1000010 : Nat) (0 : Nat), AV.vec (1000011 : Nat) (0 : Nat), AV.vec (1000777 : Nat) (0 : Nat), AV.vec (1000014 : Nat) (0 : Nat)])], tags := [(1000010, { n := (0 : Nat), e := (36 : Nat), sz := (2 : Nat), cs := some (false, []) }), (1000011, { n := (0 : Nat), e := (36 : Nat), sz := (2 : Nat), cs := some (false, []) }), (1000777, { n := (0 : Nat), e := (64 : Nat), sz := (1 : Nat), cs := some (true, []) }), (1000014, { n := (0 : Nat), e := (9 : Nat), sz := (1 : Nat), cs := some (false, []) })] } [AV.ptr 1000003 0, AV.agg (pthL p)] { heap := [(1000003, .var true [AV.vec (1000010 : Nat) V.N.length, AV.vec (1000011 : Nat) V.A.length, AV.vec (1000777 : Nat) V.V.length, AV.vec (1000014 : Nat) V.T.length])], tags := [(1000010, { n := V.N.length, e := (36 : Nat), sz := (2 : Nat), cs := some (false, nmsC V.N) }), (1000011, { n := V.A.length, e := (36 : Nat), sz := (2 : Nat), cs := some (false, nmsC V.A) }), (1000777, { n := V.V.length, e := (64 : Nat), sz := (1 : Nat), cs := some (true, valsC V.V) }), (1000014, { n := V.T.length, e := (9 : Nat), sz := (1 : Nat), cs := some (false, strsC V.T) })] } (AV.tup [])) (.head (pt Tryd.f25 0) ({ tmps := [(2, AV.ptr 2 0), (3, AV.ptr 1000003 0), (6, AV.sl (some false) (1 : Nat) (pthL p) .clip), (7, AV.int .i64 (1 : Int)), (8, AV.int .i64 (1 : Int))], heap := [(2, .var true [AV.sl (some true) (0 : Nat) [] .clip, AV.sl (some true) (0 : Nat) [] .clip, AV.sl (some true) (0 : Nat) [] .clip, AV.sl (some true) (0 : Nat) [] .clip]), (1000003, .var true [AV.vec (1000010 : Nat) V.N.length, AV.vec (1000011 : Nat) V.A.length, AV.vec (1000777 : Nat) V.V.length, AV.vec (1000014 : Nat) V.T.length])], tags := [(1000010, { n := V.N.length, e := (36 : Nat), sz := (2 : Nat), cs := some (false, nmsC V.N) }), (1000011, { n := V.A.length, e := (36 : Nat), sz := (2 : Nat), cs := some (false, nmsC V.A) }), (1000777, { n := V.V.length, e := (64 : Nat), sz := (1 : Nat), cs := some (true, valsC V.V) }), (1000014, { n := V.T.length, e := (9 : Nat), sz := (1 : Nat), cs := some (false, strsC V.T) })] })))))) (.ob ((4 : Nat) ≤ (4 : Nat)) ((.bad (4 : Nat) (0 : Nat))))) (by kernel_rfl) (by
    simp only [PT.holds, true_implies, Bool.false_eq_true, Bool.true_eq_false, false_implies, true_and, and_true]
    exact ⟨⟨by omega, by omega, by simp [pthL]⟩, by omega, hc, head_eq k (by simp [stS1, pthL, gatC, gatT])⟩)
theorem spT_e (p : Pth) (W : Wd) : HT Tryd.prog Tryd.f25.ntmps (pt Tryd.f25 0) (stS1 p W) (EndsA Γ (.mem [] (⟨[], gatT true W⟩ : MemS) (.agg (gatC W))) Tryd.f25) :=
  HT.walk Γ_ok mo_ok (⟨[(11, .val (.agg (pthL p))), (13, .callM [(true, 1000003, 0, 1000010, 36, 2), (true, 1000003, 1, 1000011, 36, 2), (true, 1000003, 2, 1000777, 64, 1), (true, 1000003, 3, 1000014, 9, 1)] [6000010, 6000011, 6000014] [1000003] [1000010, 1000011, 1000777, 1000014] (gatM W).heap (gatM W).tags (.tup []))], sp25, hd25 [] [] [1000003] [1000010, 1000011, 1000777, 1000014], [], .mem [] (⟨[], gatT true W⟩ : MemS) (.agg (gatC W))⟩ : Wk) 4000 (T := .split (false) (.ob ((0 : Int) ≤ (1 : Int) ∧ (1 : Int) < (↑(1 : Nat) : Int) ∧ Int.toNat (1 : Int) * (3 : Nat) < (pthL p).length) (.ob (([] : List AV) = (pthL p)) (.ob ((3 : Nat) ≤ (3 : Nat)) (.ob (CtrM Tryd.prog (50 : Nat) { heap := [(1000003, .var true [AV.vec (1000010 : Nat) W.N.length, AV.vec (1000011 : Nat) W.A.length, AV.vec (1000777 : Nat) W.V.length, AV.vec (1000014 : Nat) W.T.length])], tags := [(1000010, { n := W.N.length, e := (36 : Nat), sz := (2 : Nat), cs := some (false, nmsC W.N) }), (1000011, { n := W.A.length, e := (36 : Nat), sz := (2 : Nat), cs := some (false, nmsC W.A) }), (1000777, { n := W.V.length, e := (64 : Nat), sz := (1 : Nat), cs := some (true, valsC W.V) }), (1000014, { n := W.T.length, e := (9 : Nat), sz := (1 : Nat), cs := some (false, strsC W.T) })] } [AV.ptr 1000003 0, AV.agg (pthL p)] { heap := [(1000003, .var true [AV.vec (1000010 : Nat) W.N.length, AV.vec (1000011 : Nat) W.A.length, AV.vec (1000777 : Nat) W.V.length, AV.vec (1000014 : Nat) W.T.length])], tags := [(1000010, { n := W.N.length, e := (36 : Nat), sz := (2 : Nat), cs := some (false, nmsC W.N) }), (1000011, { n := W.A.length, e := (36 : Nat), sz := (2 : Nat), cs := some (false, nmsC W.A) }), (1000777, { n := W.V.length, e := (64 : Nat), sz := (1 : Nat), cs := some (true, valsC W.V) }), (1000014, { n := W.T.length, e := (9 : Nat), sz := (1 : Nat), cs := some (false, strsC W.T) })] } (AV.tup [])) (.head (pt Tryd.f25 0) ({ tmps := [(2, AV.ptr 2 0), (3, AV.ptr 1000003 0), (6, AV.sl (some false) (1 : Nat) (pthL p) .clip), (7, AV.int .i64 (1 : Int)), (8, AV.int .i64 (2 : Int))], heap := [(2, .var true [AV.sl (some true) (0 : Nat) [] .clip, AV.sl (some true) (0 : Nat) [] .clip, AV.sl (some true) (0 : Nat) [] .clip, AV.sl (some true) (0 : Nat) [] .clip]), (1000003, .var true [AV.vec (1000010 : Nat) W.N.length, AV.vec (1000011 : Nat) W.A.length, AV.vec (1000777 : Nat) W.V.length, AV.vec (1000014 : Nat) W.T.length])], tags := [(1000010, { n := W.N.length, e := (36 : Nat), sz := (2 : Nat), cs := some (false, nmsC W.N) }), (1000011, { n := W.A.length, e := (36 : Nat), sz := (2 : Nat), cs := some (false, nmsC W.A) }), (1000777, { n := W.V.length, e := (64 : Nat), sz := (1 : Nat), cs := some (true, valsC W.V) }), (1000014, { n := W.T.length, e := (9 : Nat), sz := (1 : Nat), cs := some (false, strsC W.T) })] })))))) (.ob ((4 : Nat) ≤ (4 : Nat)) (.ob (W.N.length = W.N.length) (.ob (W.A.length = W.A.length) (.ob (W.V.length = W.V.length) (.ob (W.T.length = W.T.length) (.ob (W.N.length = W.N.length) (.ob (nmsC W.N = nmsC W.N) (.ob (W.A.length = W.A.length) (.ob (nmsC W.A = nmsC W.A) (.ob (W.V.length = W.V.length) (.ob (valsC W.V = valsC W.V) (.ob (W.T.length = W.T.length) (.ob (strsC W.T = strsC W.T) (.tt))))))))))))))) (by kernel_rfl) (by
    simp only [PT.holds, true_implies, Bool.false_eq_true, Bool.true_eq_false, false_implies, true_and, and_true]
    try trivial)
theorem spT_p (p : Pth) (R : Wd) (k : HT Tryd.prog Tryd.f25.ntmps (pt Tryd.f25 0) (stS0 p) (EndsA Γ (.mem [] (⟨[], gatT true R⟩ : MemS) (.agg (gatC R))) Tryd.f25)) : CtrM Tryd.prog 25 (⟨[], []⟩ : MemS) [.sl (some false) 1 (pthL p) .clip] (⟨[], gatT true R⟩ : MemS) (.agg (gatC R)) :=
  CtrM.mk Γ_ok Tryd.func25 (by kernel_rfl) Tryd.call25 [] (by kernel_rfl) (by kernel_rfl) (by kernel_rfl) (HT.walk Γ_ok mo_ok (⟨[(3, .id 1000003)], sp25, hd25 [] [] [1000003] [1000010, 1000011, 1000777, 1000014], [], .mem [] (⟨[], gatT true R⟩ : MemS) (.agg (gatC R))⟩ : Wk) 4000 (T := .head (pt Tryd.f25 0) ({ tmps := [(2, AV.ptr 2 0), (3, AV.ptr 1000003 0), (6, AV.sl (some false) (1 : Nat) (pthL p) .clip), (7, AV.int .i64 (1 : Int)), (8, AV.int .i64 (0 : Int))], heap := [(2, .var true [AV.sl (some true) (0 : Nat) [] .clip, AV.sl (some true) (0 : Nat) [] .clip, AV.sl (some true) (0 : Nat) [] .clip, AV.sl (some true) (0 : Nat) [] .clip]), (1000003, .var true [AV.sl (some true) (0 : Nat) [] .clip, AV.sl (some true) (0 : Nat) [] .clip, AV.sl (some true) (0 : Nat) [] .clip, AV.sl (some true) (0 : Nat) [] .clip])], tags := [] })) (by kernel_rfl) (by
    simp only [PT.holds, true_implies, Bool.false_eq_true, Bool.true_eq_false, false_implies, true_and, and_true]
    exact head_eq k (by simp [stS0, pthL])))
/-- What a query speaks of: all of it new. -/
theorem speaksT_ctr (p : Pth) (hok : p.ok) (hl : (filtersP p).length ≤ 1000000) : CtrM Tryd.prog 25 ⟨[], []⟩ [.sl (some false) 1 (pthL p) .clip] ⟨[], gatT true (spkW p)⟩ (.agg (gatC (spkW p))) :=
  spT_p p _ (spT_h p _ _ (pathG_ctr p hok wd0 0 wd0_ok (by omega)) (spT_e p _))

end Go.Proofs.YteimloiaipiadaaDoor
end

section
set_option linter.unusedVariables false
set_option linter.unusedSimpArgs false
set_option maxRecDepth 100000
namespace Go.Proofs.YteimloiaipiadaaDoor
open Go Go.AX

def stU1 (p : Pth) (W : Wd) (X : List Nm) (out : List Ev) (i : Nat) : AS := ⟨[(4, .ptr 1000004 0), (5, .ptr 1000005 0), (6, .ptr 1000006 0), (24, .vec 1000010 X.length), (25, .int .i64 X.length), (26, .int .i64 i)], [(1, .var true [.undef, .undef, .undef])] ++ (labM W X W.N.length out).heap, (labM W X W.N.length out).tags⟩
def stU2 (p : Pth) (W : Wd) (X : List Nm) (Y : List ByteArray) (out : List Ev) (i : Nat) : AS := ⟨[(5, .ptr 1000005 0), (41, .vec 1000014 Y.length), (42, .int .i64 Y.length), (43, .int .i64 i)], [(1, .var true [.undef, .undef, .undef])] ++ (labM W X W.N.length out).heap, [(1000010, ⟨X.length, 36, 2, some (false, nmsC X)⟩), (1000011, ⟨W.A.length, 36, 2, some (false, nmsC W.A)⟩), (1000777, ⟨W.V.length, 64, 1, some (false, valsC W.V)⟩), (1000014, ⟨Y.length, 9, 1, some (false, strsC Y)⟩), (1000028, ⟨out.length, 39, 5, some (true, evsC out)⟩)]⟩
def stUq (W : Wd) : AS := ⟨[(4, .ptr 1000004 0)], [(1, .var true [.undef, .undef, .undef]), (1000004, .var true (gatC W))], gatT false W⟩
theorem U1_h (p : Pth) (W : Wd) (X : List Nm) (out out1 R : List Ev) (i : Nat) (hi : i < X.length) (hX : X.length ≤ 1000001) (hc : CtrM Tryd.prog 27 (labM W X W.N.length out) [.agg (evC (⟨1, (X.getD i nm0), [], ⟨#[]⟩⟩ : Ev)), .int .i64 0, .ptr 1000004 0, .ptr 1000005 0, .ptr 1000006 0] (labM W X W.N.length out1) (.tup [])) (k : HT Tryd.prog Tryd.f11.ntmps (pt Tryd.f11 0) (stU1 p W X out1 (i + 1)) (EndsA Γ (.mem [6000028] (⟨[], [(1000028, ⟨R.length, 39, 5, some (false, evsC R)⟩)]⟩ : MemS) (.tup [.vec 1000028 R.length, .int .i64 0])) Tryd.f11)) : HT Tryd.prog Tryd.f11.ntmps (pt Tryd.f11 0) (stU1 p W X out i) (EndsA Γ (.mem [6000028] (⟨[], [(1000028, ⟨R.length, 39, 5, some (false, evsC R)⟩)]⟩ : MemS) (.tup [.vec 1000028 R.length, .int .i64 0])) Tryd.f11) :=
  HT.walk Γ_ok mo_ok (⟨[(27, .val (.bool true)), (29, .val (.agg (nmC (X.getD i nm0)))), (33, .callM [] [] [1000004, 1000005, 1000006] [1000010, 1000011, 1000777, 1000014, 1000028] (labM W X W.N.length out1).heap (labM W X W.N.length out1).tags (.tup [])), (39, .call [] (.str ⟨#[]⟩))], (sp11).filter (fun x => !Nat.beq x 27), hd11 [] [(true, 1000005, 0, 1000028, 39, 5)] [1000004, 1000005, 1000006] [1000010, 1000011, 1000777, 1000014, 1000028], [], .mem [6000028] (⟨[], [(1000028, ⟨R.length, 39, 5, some (false, evsC R)⟩)]⟩ : MemS) (.tup [.vec 1000028 R.length, .int .i64 0])⟩ : Wk) 4000 (T := .ob (decide ((↑i : Int) < (↑X.length : Int)) = true) (.ob ((0 : Int) ≤ (↑i : Int) ∧ (↑i : Int) < (↑X.length : Int) ∧ X.length = X.length) (.ob (X.length = X.length) (.ob (List.take (2 : Nat) (List.drop ((↑i : Int).toNat * (2 : Nat)) (nmsC X)) = [AV.str (X.getD i nm0).sp, AV.str (X.getD i nm0).lo]) (.ob ((2 : Nat) ≤ (2 : Nat)) (.ob (CtrM Tryd.prog (27 : Nat) { heap := [(1000004, .var true [AV.vec (1000010 : Nat) W.N.length, AV.vec (1000011 : Nat) W.A.length, AV.vec (1000777 : Nat) W.V.length, AV.vec (1000014 : Nat) W.T.length]), (1000005, .var true [AV.vec (1000028 : Nat) out.length]), (1000006, .var true [AV.fn (27 : Nat) [AV.ptr 1000004 0, AV.ptr 1000005 0, AV.ptr 1000006 0]])], tags := [(1000010, { n := X.length, e := (36 : Nat), sz := (2 : Nat), cs := some (false, nmsC X) }), (1000011, { n := W.A.length, e := (36 : Nat), sz := (2 : Nat), cs := some (false, nmsC W.A) }), (1000777, { n := W.V.length, e := (64 : Nat), sz := (1 : Nat), cs := some (false, valsC W.V) }), (1000014, { n := W.T.length, e := (9 : Nat), sz := (1 : Nat), cs := some (false, strsC W.T) }), (1000028, { n := out.length, e := (39 : Nat), sz := (5 : Nat), cs := some (true, evsC out) })] } [AV.agg [AV.int .i64 (1 : Int), AV.str (X.getD i nm0).sp, AV.str (X.getD i nm0).lo, AV.sl (some true) (0 : Nat) [] .clip, AV.str (ByteArray.mk #[])], AV.int .i64 (0 : Int), AV.ptr 1000004 0, AV.ptr 1000005 0, AV.ptr 1000006 0] { heap := [(1000004, .var true [AV.vec (1000010 : Nat) W.N.length, AV.vec (1000011 : Nat) W.A.length, AV.vec (1000777 : Nat) W.V.length, AV.vec (1000014 : Nat) W.T.length]), (1000005, .var true [AV.vec (1000028 : Nat) out1.length]), (1000006, .var true [AV.fn (27 : Nat) [AV.ptr 1000004 0, AV.ptr 1000005 0, AV.ptr 1000006 0]])], tags := [(1000010, { n := X.length, e := (36 : Nat), sz := (2 : Nat), cs := some (false, nmsC X) }), (1000011, { n := W.A.length, e := (36 : Nat), sz := (2 : Nat), cs := some (false, nmsC W.A) }), (1000777, { n := W.V.length, e := (64 : Nat), sz := (1 : Nat), cs := some (false, valsC W.V) }), (1000014, { n := W.T.length, e := (9 : Nat), sz := (1 : Nat), cs := some (false, strsC W.T) }), (1000028, { n := out1.length, e := (39 : Nat), sz := (5 : Nat), cs := some (true, evsC out1) })] } (AV.tup [])) (.head (pt Tryd.f11 0) ({ tmps := [(4, AV.ptr 1000004 0), (5, AV.ptr 1000005 0), (6, AV.ptr 1000006 0), (24, AV.vec (1000010 : Nat) X.length), (25, AV.int .i64 (↑X.length : Int)), (26, AV.int .i64 (IntKind.i64.wrap ((↑i : Int) + (1 : Int))))], heap := [(1, .var true [AV.undef, AV.undef, AV.undef]), (1000004, .var true [AV.vec (1000010 : Nat) W.N.length, AV.vec (1000011 : Nat) W.A.length, AV.vec (1000777 : Nat) W.V.length, AV.vec (1000014 : Nat) W.T.length]), (1000005, .var true [AV.vec (1000028 : Nat) out1.length]), (1000006, .var true [AV.fn (27 : Nat) [AV.ptr 1000004 0, AV.ptr 1000005 0, AV.ptr 1000006 0]])], tags := [(1000010, { n := X.length, e := (36 : Nat), sz := (2 : Nat), cs := some (false, nmsC X) }), (1000011, { n := W.A.length, e := (36 : Nat), sz := (2 : Nat), cs := some (false, nmsC W.A) }), (1000777, { n := W.V.length, e := (64 : Nat), sz := (1 : Nat), cs := some (false, valsC W.V) }), (1000014, { n := W.T.length, e := (9 : Nat), sz := (1 : Nat), cs := some (false, strsC W.T) }), (1000028, { n := out1.length, e := (39 : Nat), sz := (5 : Nat), cs := some (true, evsC out1) })] })))))))) (by kernel_rfl) (by
    have w2 : IntKind.i64.wrap ((i : Int) + 1) = ((i + 1 : Nat) : Int) := by rw [i64_wrap (by omega) (by omega)]; rfl
    have h0 : decide ((i : Int) < X.length) = true := by simp; omega
    simp only [PT.holds, w2, h0, true_implies, Bool.false_eq_true, Bool.true_eq_false, false_implies, true_and, and_true]
    repeat' (with_reducible apply And.intro)
    all_goals first | exact ctrM_ev hc | (rw [Int.toNat_natCast, nms_take0 _ _ _ (by omega) (by decide)]; rfl) | omega | rfl | exact head_eq k (by simp [stU1, labM, pthL]))
theorem U1_e (p : Pth) (W : Wd) (X : List Nm) (out R : List Ev) (s : ByteArray) (i : Nat) (hi : i = X.length) (hT : W.T.length ≤ 1000000) (hc : Ctr Tryd.prog 29 [.sl none W.T.length (strsC W.T) .no, .str ⟨#[]⟩, .sl (some true) 0 (strsC []) .clip] (.str s)) (k : HT Tryd.prog Tryd.f11.ntmps (pt Tryd.f11 1) (stU2 p W X (W.T ++ [s]) out 0) (EndsA Γ (.mem [6000028] (⟨[], [(1000028, ⟨R.length, 39, 5, some (false, evsC R)⟩)]⟩ : MemS) (.tup [.vec 1000028 R.length, .int .i64 0])) Tryd.f11)) : HT Tryd.prog Tryd.f11.ntmps (pt Tryd.f11 0) (stU1 p W X out i) (EndsA Γ (.mem [6000028] (⟨[], [(1000028, ⟨R.length, 39, 5, some (false, evsC R)⟩)]⟩ : MemS) (.tup [.vec 1000028 R.length, .int .i64 0])) Tryd.f11) :=
  HT.walk Γ_ok mo_ok (⟨[(27, .val (.bool false)), (29, .val (.agg (nmC nm0))), (33, .callM [] [] [1000004, 1000005, 1000006] [1000010, 1000011, 1000777, 1000014, 1000028] (labM W X W.N.length out).heap (labM W X W.N.length out).tags (.tup [])), (39, .call [] (.str s))], (sp11).filter (fun x => !Nat.beq x 27), hd11 [] [(true, 1000005, 0, 1000028, 39, 5)] [1000004, 1000005, 1000006] [1000010, 1000011, 1000777, 1000014, 1000028], [], .mem [6000028] (⟨[], [(1000028, ⟨R.length, 39, 5, some (false, evsC R)⟩)]⟩ : MemS) (.tup [.vec 1000028 R.length, .int .i64 0])⟩ : Wk) 4000 (T := .ob (decide ((↑i : Int) < (↑X.length : Int)) = false) (.ob (W.T.length = W.T.length) (.ob (Ctr Tryd.prog 29 [AV.sl none W.T.length (strsC W.T) .no, AV.str (ByteArray.mk #[]), AV.sl (some true) (0 : Nat) [] .clip] (AV.str s)) (.ob (W.T.length = W.T.length ∧ (splice (repL (List.map zn [AV.str (ByteArray.mk #[])]) (1 : Nat)) ((0 : Nat) * (1 : Nat)) (cellsOf (AV.str s))).length = (1 : Nat) * ((0 : Nat) + (1 : Nat)) ∧ (W.T.length + (1 : Nat)) * ((15 : Nat) + (1 : Nat)) ≤ (140737488355328 : Nat)) (.ob (W.T.length + (1 : Nat) = W.T.length + (1 : Nat)) (.head (pt Tryd.f11 1) ({ tmps := [(5, AV.ptr 1000005 0), (41, AV.vec (1000014 : Nat) (W.T.length + (1 : Nat))), (42, AV.int .i64 (↑(W.T.length + (1 : Nat)) : Int)), (43, AV.int .i64 (0 : Int))], heap := [(1, .var true [AV.undef, AV.undef, AV.undef]), (1000004, .var true [AV.vec (1000010 : Nat) W.N.length, AV.vec (1000011 : Nat) W.A.length, AV.vec (1000777 : Nat) W.V.length, AV.vec (1000014 : Nat) W.T.length]), (1000005, .var true [AV.vec (1000028 : Nat) out.length]), (1000006, .var true [AV.fn (27 : Nat) [AV.ptr 1000004 0, AV.ptr 1000005 0, AV.ptr 1000006 0]])], tags := [(1000010, { n := X.length, e := (36 : Nat), sz := (2 : Nat), cs := some (false, nmsC X) }), (1000011, { n := W.A.length, e := (36 : Nat), sz := (2 : Nat), cs := some (false, nmsC W.A) }), (1000777, { n := W.V.length, e := (64 : Nat), sz := (1 : Nat), cs := some (false, valsC W.V) }), (1000014, { n := W.T.length + (1 : Nat), e := (9 : Nat), sz := (1 : Nat), cs := some (false, strsC W.T ++ splice (repL (List.map zn [AV.str (ByteArray.mk #[])]) (1 : Nat)) ((0 : Nat) * (1 : Nat)) (cellsOf (AV.str s))) }), (1000028, { n := out.length, e := (39 : Nat), sz := (5 : Nat), cs := some (true, evsC out) })] }))))))) (by kernel_rfl) (by
    have h0 : decide ((i : Int) < X.length) = false := by simp; omega
    simp only [PT.holds, h0, true_implies, Bool.false_eq_true, Bool.true_eq_false, false_implies, true_and, and_true]
    repeat' (with_reducible apply And.intro)
    all_goals first | exact hc | omega | rfl | (rw [strsC_len]; omega) | exact head_eq k (by simp [stU2, labM, pthL, strsC_app, splice, repL, cellsOf]))
theorem U2_h (p : Pth) (W : Wd) (X : List Nm) (Y : List ByteArray) (out R : List Ev) (i : Nat) (hi : i < Y.length) (hY : Y.length ≤ 1000001) (ho : out.length ≤ 1000000) (k : HT Tryd.prog Tryd.f11.ntmps (pt Tryd.f11 1) (stU2 p W X Y (out ++ [(⟨2, nm0, [], (Y.getD i ⟨#[]⟩)⟩ : Ev)]) (i + 1)) (EndsA Γ (.mem [6000028] (⟨[], [(1000028, ⟨R.length, 39, 5, some (false, evsC R)⟩)]⟩ : MemS) (.tup [.vec 1000028 R.length, .int .i64 0])) Tryd.f11)) : HT Tryd.prog Tryd.f11.ntmps (pt Tryd.f11 1) (stU2 p W X Y out i) (EndsA Γ (.mem [6000028] (⟨[], [(1000028, ⟨R.length, 39, 5, some (false, evsC R)⟩)]⟩ : MemS) (.tup [.vec 1000028 R.length, .int .i64 0])) Tryd.f11) :=
  HT.walk Γ_ok mo_ok (⟨[(44, .val (.bool true)), (46, .val (.str (Y.getD i ⟨#[]⟩)))], (sp11).filter (fun x => !Nat.beq x 44), hd11 [] [(true, 1000005, 0, 1000028, 39, 5)] [1000004, 1000005, 1000006] [1000010, 1000011, 1000777, 1000014, 1000028], [], .mem [6000028] (⟨[], [(1000028, ⟨R.length, 39, 5, some (false, evsC R)⟩)]⟩ : MemS) (.tup [.vec 1000028 R.length, .int .i64 0])⟩ : Wk) 4000 (T := .ob (decide ((↑i : Int) < (↑Y.length : Int)) = true) (.ob ((0 : Int) ≤ (↑i : Int) ∧ (↑i : Int) < (↑Y.length : Int) ∧ Y.length = Y.length) (.ob (Y.length = Y.length) (.ob ((strsC Y)[(↑i : Int).toNat * (1 : Nat)]? = some (AV.str (Y.getD i (ByteArray.mk #[])))) (.ob (out.length = out.length ∧ (splice (repL (List.map zn [AV.int .i64 (0 : Int), AV.str (ByteArray.mk #[]), AV.str (ByteArray.mk #[]), AV.sl (some true) (0 : Nat) [] .clip, AV.str (ByteArray.mk #[])]) (1 : Nat)) ((0 : Nat) * (5 : Nat)) (cellsOf (AV.agg [AV.int .i64 (2 : Int), AV.str (ByteArray.mk #[]), AV.str (ByteArray.mk #[]), AV.sl none (0 : Nat) [] .no, AV.str (Y.getD i (ByteArray.mk #[]))]))).length = (1 : Nat) * ((4 : Nat) + (1 : Nat)) ∧ (out.length + (1 : Nat)) * ((79 : Nat) + (1 : Nat)) ≤ (140737488355328 : Nat)) (.head (pt Tryd.f11 1) ({ tmps := [(5, AV.ptr 1000005 0), (41, AV.vec (1000014 : Nat) Y.length), (42, AV.int .i64 (↑Y.length : Int)), (43, AV.int .i64 (IntKind.i64.wrap ((↑i : Int) + (1 : Int))))], heap := [(1, .var true [AV.undef, AV.undef, AV.undef]), (1000004, .var true [AV.vec (1000010 : Nat) W.N.length, AV.vec (1000011 : Nat) W.A.length, AV.vec (1000777 : Nat) W.V.length, AV.vec (1000014 : Nat) W.T.length]), (1000005, .var true [AV.vec (1000028 : Nat) (out.length + (1 : Nat))]), (1000006, .var true [AV.fn (27 : Nat) [AV.ptr 1000004 0, AV.ptr 1000005 0, AV.ptr 1000006 0]])], tags := [(1000010, { n := X.length, e := (36 : Nat), sz := (2 : Nat), cs := some (false, nmsC X) }), (1000011, { n := W.A.length, e := (36 : Nat), sz := (2 : Nat), cs := some (false, nmsC W.A) }), (1000777, { n := W.V.length, e := (64 : Nat), sz := (1 : Nat), cs := some (false, valsC W.V) }), (1000014, { n := Y.length, e := (9 : Nat), sz := (1 : Nat), cs := some (false, strsC Y) }), (1000028, { n := out.length + (1 : Nat), e := (39 : Nat), sz := (5 : Nat), cs := some (true, evsC out ++ splice (repL (List.map zn [AV.int .i64 (0 : Int), AV.str (ByteArray.mk #[]), AV.str (ByteArray.mk #[]), AV.sl (some true) (0 : Nat) [] .clip, AV.str (ByteArray.mk #[])]) (1 : Nat)) ((0 : Nat) * (5 : Nat)) (cellsOf (AV.agg [AV.int .i64 (2 : Int), AV.str (ByteArray.mk #[]), AV.str (ByteArray.mk #[]), AV.sl none (0 : Nat) [] .no, AV.str (Y.getD i (ByteArray.mk #[]))]))) })] }))))))) (by kernel_rfl) (by
    have w2 : IntKind.i64.wrap ((i : Int) + 1) = ((i + 1 : Nat) : Int) := by rw [i64_wrap (by omega) (by omega)]; rfl
    have h0 : decide ((i : Int) < Y.length) = true := by simp; omega
    simp only [PT.holds, w2, h0, true_implies, Bool.false_eq_true, Bool.true_eq_false, false_implies, true_and, and_true]
    repeat' (with_reducible apply And.intro)
    all_goals first | omega | rfl | (rw [Nat.mul_one, Int.toNat_natCast]; exact strs_nth _ _ (by omega)) | exact head_eq k (by simp [stU2, labM, pthL, evsC, evC, atsC, nm0, splice, repL, cellsOf]))
theorem U2_e (p : Pth) (W : Wd) (X : List Nm) (Y : List ByteArray) (out : List Ev) (i : Nat) (hi : i = Y.length) : HT Tryd.prog Tryd.f11.ntmps (pt Tryd.f11 1) (stU2 p W X Y out i) (EndsA Γ (.mem [6000028] (⟨[], [(1000028, ⟨out.length, 39, 5, some (false, evsC out)⟩)]⟩ : MemS) (.tup [.vec 1000028 out.length, .int .i64 0])) Tryd.f11) :=
  HT.walk Γ_ok mo_ok (⟨[(44, .val (.bool false)), (46, .val (.str ⟨#[]⟩))], (sp11).filter (fun x => !Nat.beq x 44), hd11 [] [(true, 1000005, 0, 1000028, 39, 5)] [1000004, 1000005, 1000006] [1000010, 1000011, 1000777, 1000014, 1000028], [], .mem [6000028] (⟨[], [(1000028, ⟨out.length, 39, 5, some (false, evsC out)⟩)]⟩ : MemS) (.tup [.vec 1000028 out.length, .int .i64 0])⟩ : Wk) 4000 (T := .ob (decide ((↑i : Int) < (↑Y.length : Int)) = false) (.ob (out.length = out.length) (.ob ((0 : Int) = (0 : Int)) (.ob (out.length = out.length) (.ob (evsC out = evsC out) (.tt)))))) (by kernel_rfl) (by
    have h0 : decide ((i : Int) < Y.length) = false := by simp; omega
    simp only [PT.holds, h0, true_implies, Bool.false_eq_true, Bool.true_eq_false, false_implies, true_and, and_true]
    try trivial)
theorem U_q (p : Pth) (W : Wd) (o : Nm) (R : List Ev) (c : Nat) (hk : Ctr Tryd.prog 26 [.agg (spkC W.N W.A W.V W.T)] (.int .i64 (c : Int))) (ho : Ctr Tryd.prog 31 [.sl none W.N.length (nmsC W.N) .no] (.agg (nmC o))) (hN : W.N.length ≤ 1000000) (hc24 : c ≤ 24) (k : HT Tryd.prog Tryd.f11.ntmps (pt Tryd.f11 0) (stU1 p W (W.N ++ [o]) [] 0) (EndsA Γ (.mem [6000028] (⟨[], [(1000028, ⟨R.length, 39, 5, some (false, evsC R)⟩)]⟩ : MemS) (.tup [.vec 1000028 R.length, .int .i64 0])) Tryd.f11)) : HT Tryd.prog Tryd.f11.ntmps (pr Tryd.f11 2) (stUq W) (EndsA Γ (.mem [6000028] (⟨[], [(1000028, ⟨R.length, 39, 5, some (false, evsC R)⟩)]⟩ : MemS) (.tup [.vec 1000028 R.length, .int .i64 0])) Tryd.f11) :=
  HT.walk Γ_ok mo_ok (⟨[(13, .callM [] [] [] [] [] (gatT false W) (.agg (gatC W))), (4, .id 1000004), (5, .id 1000005), (6, .id 1000006), (15, .call [] (.int .i64 (c : Int))), (22, .call [] (.agg (nmC o)))], sp11, hd11 [] [(true, 1000005, 0, 1000028, 39, 5)] [1000004, 1000005, 1000006] [1000010, 1000011, 1000777, 1000014, 1000028], [], .mem [6000028] (⟨[], [(1000028, ⟨R.length, 39, 5, some (false, evsC R)⟩)]⟩ : MemS) (.tup [.vec 1000028 R.length, .int .i64 0])⟩ : Wk) 4000 (T := .ob ((4 : Nat) ≤ (4 : Nat)) (.ob (W.N.length = W.N.length) (.ob (W.A.length = W.A.length) (.ob (W.V.length = W.V.length) (.ob (W.T.length = W.T.length) (.ob (Ctr Tryd.prog 26 [AV.agg [AV.sl none W.N.length (nmsC W.N) .no, AV.sl none W.A.length (nmsC W.A) .no, AV.sl none W.V.length (valsC W.V) .no, AV.sl none W.T.length (strsC W.T) .no]] (AV.int .i64 (↑c : Int))) (.split (decide ((24 : Int) < (↑c : Int))) ((.bad (4 : Nat) (0 : Nat))) (.ob (W.N.length = W.N.length) (.ob (Ctr Tryd.prog 31 [AV.sl none W.N.length (nmsC W.N) .no] (AV.agg [AV.str o.sp, AV.str o.lo])) (.ob (W.N.length = W.N.length ∧ (splice (repL (List.map zn [AV.str (ByteArray.mk #[]), AV.str (ByteArray.mk #[])]) (1 : Nat)) ((0 : Nat) * (2 : Nat)) (cellsOf (AV.agg [AV.str o.sp, AV.str o.lo]))).length = (1 : Nat) * ((1 : Nat) + (1 : Nat)) ∧ (W.N.length + (1 : Nat)) * ((31 : Nat) + (1 : Nat)) ≤ (140737488355328 : Nat)) (.ob (W.N.length + (1 : Nat) = W.N.length + (1 : Nat)) (.head (pt Tryd.f11 0) ({ tmps := [(4, AV.ptr 1000004 0), (5, AV.ptr 1000005 0), (6, AV.ptr 1000006 0), (24, AV.vec (1000010 : Nat) (W.N.length + (1 : Nat))), (25, AV.int .i64 (↑(W.N.length + (1 : Nat)) : Int)), (26, AV.int .i64 (0 : Int))], heap := [(1, .var true [AV.undef, AV.undef, AV.undef]), (1000004, .var true [AV.vec (1000010 : Nat) W.N.length, AV.vec (1000011 : Nat) W.A.length, AV.vec (1000777 : Nat) W.V.length, AV.vec (1000014 : Nat) W.T.length]), (1000005, .var true [AV.vec (1000028 : Nat) (0 : Nat)]), (1000006, .var true [AV.fn (27 : Nat) [AV.ptr 1000004 0, AV.ptr 1000005 0, AV.ptr 1000006 0]])], tags := [(1000010, { n := W.N.length + (1 : Nat), e := (36 : Nat), sz := (2 : Nat), cs := some (false, nmsC W.N ++ splice (repL (List.map zn [AV.str (ByteArray.mk #[]), AV.str (ByteArray.mk #[])]) (1 : Nat)) ((0 : Nat) * (2 : Nat)) (cellsOf (AV.agg [AV.str o.sp, AV.str o.lo]))) }), (1000011, { n := W.A.length, e := (36 : Nat), sz := (2 : Nat), cs := some (false, nmsC W.A) }), (1000777, { n := W.V.length, e := (64 : Nat), sz := (1 : Nat), cs := some (false, valsC W.V) }), (1000014, { n := W.T.length, e := (9 : Nat), sz := (1 : Nat), cs := some (false, strsC W.T) }), (1000028, { n := (0 : Nat), e := (39 : Nat), sz := (5 : Nat), cs := some (true, []) })] }))))))))))))) (by kernel_rfl) (by
    simp only [PT.holds, true_implies, Bool.false_eq_true, Bool.true_eq_false, false_implies, true_and, and_true]
    have h24 : decide ((24 : Int) < (c : Int)) = false := by simp; omega
    simp only [h24, true_implies, Bool.false_eq_true, Bool.true_eq_false, false_implies, true_and, and_true]
    repeat' (with_reducible apply And.intro)
    all_goals first | exact hc | exact hk | exact ho | omega | rfl | exact head_eq k (by simp [stU1, labM, pthL, evsC, nmsC_app, splice, repL, cellsOf]))
end Go.Proofs.YteimloiaipiadaaDoor
end

section
set_option linter.unusedVariables false
set_option linter.unusedSimpArgs false
namespace Go.AX
open Go Go.RowKit

/-! ### A walk in one context, to any end -/
def PT.holdsL (lq : List Item → AS → Prop) : PT → Prop
  | .tt => False
  | .bad _ _ => False
  | .ob p r => p ∧ r.holdsL lq
  | .split b t f => (b = true → t.holdsL lq) ∧ (b = false → f.holdsL lq)
  | .or a b => a.holdsL lq ∨ b.holdsL lq
  | .head todo s => lq todo s
theorem obL_holdsL {lq : List Item → AS → Prop} : ∀ {l : List Prop} {r : PT}, (obL l r).holdsL lq → All l ∧ r.holdsL lq
  | [], r, h => ⟨trivial, h⟩
  | p :: l, r, h => by
    obtain ⟨h1, h2⟩ := obL_holdsL (l := l) h.2
    exact ⟨All_cons.2 ⟨h.1, h1⟩, h2⟩
theorem splitK_soundL {lq : List Item → AS → Prop} {C : Ctx} {G : Env} {s : AS} {a : Act} {w : World} (h : RelG C G s a w) {sp : List Nat} {d : Option Nat} {K : AS → PT} (hs : (splitK sp d s K).holdsL lq) : ∃ s', RelG C G s' a w ∧ (K s').holdsL lq := by
  unfold splitK at hs
  split at hs
  · rename_i d
    split at hs
    · split at hs
      · rename_i e he
        cases e with
        | true => exact ⟨_, put_same h he rfl, hs.1 rfl⟩
        | false => exact ⟨_, put_same h he rfl, hs.2 rfl⟩
      · exact ⟨s, h, hs⟩
    · exact ⟨s, h, hs⟩
  · exact ⟨s, h, hs⟩

theorem walkIdx_soundL {P : Program} {Γ : TT} (hΓ : Γok P Γ) {C : Ctx} {W : Wk} {ops : Array Oper} {lq : List Item → AS → Prop} {E : Exit → Act → World → Prop} {K : AS → PT} (hK : ∀ G s a w, RelG C G s a w → (K s).holdsL lq → E .normal a w) :
    ∀ {l : List Nat} {G : Env} {s : AS} {a : Act} {w : World}, RelG C G s a w → (walkIdx P Γ C.nt W ops l s K).holdsL lq → wpOps P ops E l a w
  | [], G, s, a, w, h, hs => hK G s a w h hs
  | i :: rest, G, s, a, w, h, hs => by
    simp only [walkIdx] at hs
    split at hs
    · exact hs.elim
    · rename_i o hoi
      split at hs
      · rename_i s1 os1 h1
        obtain ⟨ho, hs⟩ := obL_holdsL hs
        have key := oper1_sound (Q := E) (K := wpOps P ops E rest) hΓ h h1 ho (fun G' a' w' h' => by
          obtain ⟨s2, h2, h3⟩ := splitK_soundL h' hs
          exact walkIdx_soundL hΓ hK h2 h3)
        simp only [wpOps, hoi]
        split at key
        · rename_i hw
          rw [if_pos hw]
          exact .inl key
        · rename_i hw
          rw [if_neg hw]
          exact key
      · exact hs.elim

theorem drawPT_soundL {P : Program} {Γ : TT} (hΓ : Γok P Γ) {C : Ctx} {ann : List (Nat × Ann)} {id : Nat} {ops : Array Oper} {lq : List Item → AS → Prop} {E : Exit → Act → World → Prop} {K : AS → PT} (hK : ∀ G s a w, RelG C G s a w → (K s).holdsL lq → E .normal a w) {G : Env} {s : AS} {a : Act} {w : World} (h : RelG C G s a w) :
    ∀ {sc : List (List (Nat × Bool))}, (drawPT P Γ C.nt ann id ops s K sc).holdsL lq → wpAny P .any ops E ops.size (Array.replicate ops.size false) a { w with drawn := w.drawn + 1 } := by
  have one : ∀ (ann : List (Nat × Ann)) (x : Nat), (match draw P Γ C.nt ann ops s with | some (s', os) => obL os (K s') | none => .bad x id : PT).holdsL lq → wpAny P .any ops E ops.size (Array.replicate ops.size false) a { w with drawn := w.drawn + 1 } := by
    intro ann x hs
    split at hs
    · rename_i s' os hd
      obtain ⟨ho, hs⟩ := obL_holdsL hs
      exact draw_sound hΓ hd ho (fun G' a' w' h' => hK G' s' a' w' h' hs) h
    · exact hs.elim
  intro sc
  induction sc with
  | nil => exact one _ _
  | cons x r ih =>
    cases r with
    | nil => exact one _ _
    | cons y r =>
      intro hs
      rcases hs with hs | hs
      · exact one _ _ hs
      · exact ih hs
def HC (P : Program) (C : Ctx) (R : Act → World → Prop) (todo : List Item) (s : AS) : Prop := ∀ G a w, RelG C G s a w → TW P todo R a w
theorem HC.headAt {P : Program} {C : Ctx} {R : Act → World → Prop} {todo : List Item} {s s' : AS} (h : HC P C R todo s') {W : Wk} {key : Nat} (hp : AX.headAt W key s = some s') : HC P C R todo s := by
  intro G a w hR
  obtain ⟨G', h'⟩ := headAt_sound hR hp
  exact h G' a w h'
theorem walk_soundL {P : Program} {Γ : TT} (hΓ : Γok P Γ) (hm : P.follows .mixedOrders = true) {f : Func} {W : Wk} {C : Ctx} (hnt : C.nt = f.ntmps) {R : Act → World → Prop} : ∀ {k : Nat} {todo : List Item} {s : AS}, (walk P Γ f W k todo s).holdsL (HC P C R) → HC P C R todo s := by
  intro k
  induction k with
  | zero => intro todo s h; exact h.elim
  | succ k ih =>
    intro todo s h
    cases todo with
    | nil =>
      simp only [walk] at h
      split at h
      · rename_i os hos
        exact (obL_holdsL h).2.elim
      · exact h.elim
    | cons x r =>
      simp only [walk] at h
      split at h
      · split at h
        · rename_i os hos
          exact (obL_holdsL h).2.elim
        · exact h.elim
      · exact fun G a w hR => TW.step (fun b cs => step_skip) (ih h G a w hR)
      · exact fun G a w hR => TW.step (fun b cs => step_label) (ih h G a w hR)
      · exact fun G a w hR => TW.step (fun b cs => step_inBlock) (ih h G a w hR)
      · exact fun G a w hR => TW.step (fun b cs => step_seq) (ih h G a w hR)
      · rename_i c t e
        split at h
        · rename_i hc
          intro G a w hR
          have hv := hR.ev hc
          generalize hcv : a.eval c = cv at hv
          cases hv
          exact TW.step (todo' := .code t :: r) (fun b cs => by rw [step_cond hcv, if_pos rfl]) (ih h G a w hR)
        · rename_i hc
          intro G a w hR
          have hv := hR.ev hc
          generalize hcv : a.eval c = cv at hv
          cases hv
          exact TW.step (todo' := .code e :: r) (fun b cs => by rw [step_cond hcv, if_neg (by decide)]) (ih h G a w hR)
        · exact h.elim
      · exact fun G a w hR => TW.step (fun b cs => step_block) (ih h G a w hR)
      · split at h
        · rename_i s' hp
          exact fun G a w hR => TW.step (fun b cs => step_loop) (HC.headAt h hp G a w hR)
        · exact h.elim
      · split at h
        · rename_i s' hp
          exact fun G a w hR => TW.step (fun b cs => step_inLoop) (HC.headAt h hp G a w hR)
        · exact h.elim
      · split at h
        · rename_i r' hr'
          exact fun G a w hR => TW.step (fun b cs => step_exit hr') (ih h G a w hR)
        · exact h.elim
      · rename_i id ops d
        split at h
        · rename_i s' hp
          exact fun G a w hR => HC.headAt h hp G a w hR
        · cases d with
          | false =>
            intro G a w hR
            refine TW.step (fun b cs => step_region) (TW.ops ?_)
            rw [← hnt] at h
            exact walkIdx_soundL (E := fun e a w => e = .normal ∧ TW P r R a w) hΓ (fun G s a w h1 h2 => ⟨rfl, ih h2 G a w h1⟩) hR h
          | true =>
            intro G a w hR
            refine TW.draw hm ?_
            rw [← hnt] at h
            exact drawPT_soundL (E := fun e a w => e = .normal ∧ TW P r R a w) hΓ (fun G s a w h1 h2 => ⟨rfl, ih h2 G a w h1⟩) hR h
      · exact h.elim

theorem HC.walk {P : Program} {Γ : TT} (hΓ : Γok P Γ) (hm : P.follows .mixedOrders = true) {f : Func} (W : Wk) (k : Nat) {C : Ctx} (hnt : C.nt = f.ntmps) {R : Act → World → Prop} {todo : List Item} {s : AS} {T : PT} (h : AX.walk P Γ f W k todo s = T) (hT : T.holdsL (HC P C R)) : HC P C R todo s :=
  walk_soundL hΓ hm (k := k) hnt (by rw [h]; exact hT)
theorem HC.eq {P : Program} {C : Ctx} {R : Act → World → Prop} {todo : List Item} {s s' : AS} (h : HC P C R todo s) (e : s' = s) : HC P C R todo s' := e ▸ h
/-- The first of a region's operations; the others are left. -/
theorem runIdx_pre {P : Program} {Γ : TT} (hΓ : Γok P Γ) {C : Ctx} {ann : List (Nat × Ann)} {ops : Array Oper} {Q : Exit → Act → World → Prop} {l2 : List Nat} : ∀ {l : List Nat} {G : Env} {s s' : AS} {a : Act} {w : World} {os os' : List Prop}, RelG C G s a w → runIdx P Γ C.nt ann ops l s os = some (s', os') → All os' →
    (∀ G' a' w', RelG C G' s' a' w' → wpOps P ops Q l2 a' w') → wpOps P ops Q (l ++ l2) a w
  | [], G, s, s', a, w, os, os', h, hs, ho, hQ => by cases hs; exact hQ _ _ _ h
  | i :: rest, G, s, s', a, w, os, os', h, hs, ho, hQ => by
    simp only [runIdx] at hs
    split at hs
    · cases hs
    · rename_i o hoi
      split at hs
      · rename_i s1 os1 h1
        have hos1 := (All_append.1 (runIdx_os hs ho)).2
        have key := oper1_sound (Q := Q) (K := wpOps P ops Q (rest ++ l2)) hΓ h h1 hos1 (fun G' a' w' h' => runIdx_pre hΓ h' hs ho hQ)
        simp only [List.cons_append, wpOps, hoi]
        split at key
        · rename_i hw
          rw [if_pos hw]
          exact .inl key
        · rename_i hw
          rw [if_neg hw]
          exact key
      · cases hs
end Go.AX
end

section
set_option linter.unusedVariables false
set_option linter.unusedSimpArgs false
set_option maxRecDepth 100000
namespace Go.Proofs.YteimloiaipiadaaDoor
open Go Go.AX

def stPr (p : Pth) (W : Wd) : AS := ⟨[(4, .ptr 1000004 0)], [(1, .var true (pthL p)), (1000004, .var true (gatC W))], gatT true W⟩
/-- Labels, as far as what the query speaks of. -/
theorem pre_hc (p : Pth) (W : Wd) (hc : CtrM Tryd.prog 25 ⟨[], []⟩ [.sl (some false) 1 (pthL p) .clip] ⟨[], gatT true W⟩ (.agg (gatC W))) {C : Ctx} (hnt : C.nt = Tryd.f11.ntmps) {R : Act → World → Prop} (k : HC Tryd.prog C R (pr Tryd.f11 2) (stPr p W)) : HC Tryd.prog C R (p0 Tryd.f11) (st0 [.agg (pthL p)]) := by
  refine walk_soundL Γ_ok mo_ok (W := (⟨[(13, .callM [] [] [] [] [] (gatT true W) (.agg (gatC W))), (4, .id 1000004), (5, .id 1000005), (6, .id 1000006), (15, .call [] (.int .i64 0)), (22, .call [] (.agg (nmC nm0)))], sp11, (hd11 [] [(true, 1000005, 0, 1000028, 39, 5)] [1000004, 1000005, 1000006] [1000010, 1000011, 1000777, 1000014, 1000028] ++ [(7000002, ⟨[4], [1, 1000004], [1000010, 1000011, 1000777, 1000014], [], []⟩)]), [], .pure [6000028] (.tup [.sl none ([] : List Ev).length (evsC ([] : List Ev)) .no, .int .i64 0])⟩ : Wk)) (k := 4000) hnt ?_
  have e : AX.walk Tryd.prog Γ Tryd.f11 (⟨[(13, .callM [] [] [] [] [] (gatT true W) (.agg (gatC W))), (4, .id 1000004), (5, .id 1000005), (6, .id 1000006), (15, .call [] (.int .i64 0)), (22, .call [] (.agg (nmC nm0)))], sp11, (hd11 [] [(true, 1000005, 0, 1000028, 39, 5)] [1000004, 1000005, 1000006] [1000010, 1000011, 1000777, 1000014, 1000028] ++ [(7000002, ⟨[4], [1, 1000004], [1000010, 1000011, 1000777, 1000014], [], []⟩)]), [], .pure [6000028] (.tup [.sl none ([] : List Ev).length (evsC ([] : List Ev)) .no, .int .i64 0])⟩ : Wk) 4000 (p0 Tryd.f11) (st0 [.agg (pthL p)]) = .ob ((3 : Nat) ≤ (3 : Nat)) (.ob (CtrM Tryd.prog (25 : Nat) { heap := [], tags := [] } [AV.sl (some false) (1 : Nat) [AV.int IntKind.i64 p.op, AV.sl none p.sub.length (pthsC p.sub) Own.no, AV.sl none p.test.length (fltsC p.test) Own.no] Own.clip] { heap := [], tags := [((1000010 : Nat), { n := W.N.length, e := (36 : Nat), sz := (2 : Nat), cs := some (false, nmsC W.N) }), ((1000011 : Nat), { n := W.A.length, e := (36 : Nat), sz := (2 : Nat), cs := some (false, nmsC W.A) }), ((1000777 : Nat), { n := W.V.length, e := (64 : Nat), sz := (1 : Nat), cs := some (true, valsC W.V) }), ((1000014 : Nat), { n := W.T.length, e := (9 : Nat), sz := (1 : Nat), cs := some (false, strsC W.T) })] } (AV.agg [AV.vec (1000010 : Nat) W.N.length, AV.vec (1000011 : Nat) W.A.length, AV.vec (1000777 : Nat) W.V.length, AV.vec (1000014 : Nat) W.T.length])) (.head (pr Tryd.f11 2) ({ tmps := [((4 : Nat), AV.ptr (1000004 : Nat) (0 : Nat))], heap := [((1 : Nat), Blk.var true [AV.int IntKind.i64 p.op, AV.sl none p.sub.length (pthsC p.sub) Own.no, AV.sl none p.test.length (fltsC p.test) Own.no]), ((1000004 : Nat), Blk.var true [AV.vec (1000010 : Nat) W.N.length, AV.vec (1000011 : Nat) W.A.length, AV.vec (1000777 : Nat) W.V.length, AV.vec (1000014 : Nat) W.T.length])], tags := [((1000010 : Nat), { n := W.N.length, e := (36 : Nat), sz := (2 : Nat), cs := some (false, nmsC W.N) }), ((1000011 : Nat), { n := W.A.length, e := (36 : Nat), sz := (2 : Nat), cs := some (false, nmsC W.A) }), ((1000777 : Nat), { n := W.V.length, e := (64 : Nat), sz := (1 : Nat), cs := some (true, valsC W.V) }), ((1000014 : Nat), { n := W.T.length, e := (9 : Nat), sz := (1 : Nat), cs := some (false, strsC W.T) })] }))) := by kernel_rfl
  rw [e]
  simp only [PT.holdsL, true_and]
  exact ⟨Nat.le_refl _, hc, k⟩
theorem nms_str {l : List Nm} {i : Nat} {c : AV} (h : (nmsC l)[i]? = some c) : ∃ s, c = .str s := by
  have hm := List.mem_of_getElem? h
  simp only [nmsC, List.mem_flatMap] at hm
  obtain ⟨n, _, hn⟩ := hm
  simp only [nmC, List.mem_cons, List.not_mem_nil, or_false] at hn
  rcases hn with hn | hn
  · exact ⟨_, hn⟩
  · exact ⟨_, hn⟩
def stU0 (W : Wd) : AS := ⟨[(4, .ptr 1000004 0)], [(1, .var true [.undef, .undef, .undef]), (1000004, .var true (gatC W))], gatT true W⟩
/-- From here on nothing old is read. -/
theorem newCtx (p : Pth) (W : Wd) {C : Ctx} {G : Env} {a : Act} {w : World} (hL : ∀ g, ¬ C.L g) (hR : RelG C G (stPr p W) a w) :
    ∃ (C' : Ctx) (G2 : Env), C'.w0 = w ∧ C'.nt = C.nt ∧ (∀ b o, C'.G0.F b o → C.w0.heap.size ≤ b) ∧ (∀ g, C'.L g → C.w0.heap.size ≤ g) ∧ (∀ i, C'.G0.φ i = none) ∧ (∀ i, C'.G0.τ i = none) ∧ RelG C' G2 (stU0 W) a w := by
  let F2 : Nat → Nat → Prop := fun b o => G.F b o ∧ C.w0.heap.size ≤ b
  let G2 : Env := ⟨F2, G.φ, G.τ⟩
  let C' : Ctx := ⟨w, envF F2, C.nt, fun g => C.w0.heap.size ≤ g, fun _ _ => rfl, fun _ _ => rfl⟩
  have hm := hR.mem
  have key : ∀ i b, AX.look (stPr p W).heap i = some b → ∃ g, G.φ i = some g ∧ C.w0.heap.size ≤ g := fun i b hb => by
    obtain ⟨g, h1, h2, _⟩ := hm.blocks i b hb
    exact ⟨g, h1, h2.resolve_right (hL g)⟩
  refine ⟨C', G2, rfl, rfl, fun b o h => h.2, fun g h => h, fun _ => rfl, fun _ => rfl, ⟨hR.defers, hR.size, fun i v hv => ?_, ?_⟩⟩
  · have hv' : AX.look (stPr p W).tmps i = some v := hv
    obtain ⟨x, h1, h2⟩ := hR.slots i v hv'
    refine ⟨x, h1, ?_⟩
    simp only [stU0, look_cons] at hv
    split at hv
    · cases hv
      cases h2 with
      | ptr _ _ g h => exact .ptr _ _ g h
    · simp [AX.look] at hv
  · refine ⟨Keep.refl _ _, ⟨fun b o h => h, fun _ _ _ => rfl, fun i g h => (by cases h), fun t r h => (by cases h)⟩, fun b o h => hm.fdom b o h.1, fun b o h _ => .inl h, fun i b hb => ?_, fun i hi => ?_, hm.inj, fun t n ht => ?_, hm.notag, ?_⟩
    · simp only [stU0, look_cons] at hb
      split at hb
      · rename_i e
        subst e
        cases hb
        obtain ⟨g, h1, h2, h3, h4⟩ := hm.blocks 1 (.var true (pthL p)) (by simp [stPr, look_cons])
        obtain ⟨vs, e, k1, k2, k3, k4, k5⟩ := h3
        refine ⟨g, h1, .inr (h2.resolve_right (hL g)), ⟨vs, e, k1, by rw [k2]; rfl, fun i c v hc hv => ?_, k4, fun o ho h => by cases h⟩, fun _ o h => h4 rfl o h.1⟩
        have : c = .undef := by
          match i, hc with
          | 0, hc => simpa using hc.symm
          | 1, hc => simpa using hc.symm
          | 2, hc => simpa using hc.symm
          | i + 3, hc => simp at hc
        subst this
        exact .undef _ _
      · split at hb
        · rename_i e
          subst e
          cases hb
          obtain ⟨g, h1, h2, h3, h4⟩ := hm.blocks 1000004 (.var true (gatC W)) (by simp [stPr, look_cons])
          obtain ⟨vs, e, k1, k2, k3, k4, k5⟩ := h3
          refine ⟨g, h1, .inr (h2.resolve_right (hL g)), ⟨vs, e, k1, k2, fun i c v hc hv => ?_, k4, fun o ho h => by cases h⟩, fun _ o h => h4 rfl o h.1⟩
          have h5 := k3 i c v hc hv
          have : ∃ t n, c = .vec t n := by
            match i, hc with
            | 0, hc => exact ⟨_, _, by simpa [gatC] using hc.symm⟩
            | 1, hc => exact ⟨_, _, by simpa [gatC] using hc.symm⟩
            | 2, hc => exact ⟨_, _, by simpa [gatC] using hc.symm⟩
            | 3, hc => exact ⟨_, _, by simpa [gatC] using hc.symm⟩
            | i + 4, hc => simp [gatC] at hc
          obtain ⟨t, n, rfl⟩ := this
          cases h5 with
          | vec _ _ A m c r h hle hvv => exact .vec _ _ _ _ _ r h hle hvv
        · simp [AX.look] at hb
    · refine hm.noblock i ?_
      simp only [stU0, stPr, look_cons] at hi ⊢
      split at hi
      · cases hi
      · rename_i e1
        rw [if_neg e1]
        split at hi
        · cases hi
        · rename_i e2
          rw [if_neg e2]
          exact hi
    · obtain ⟨r, h1, h2⟩ := hm.tags t n ht
      have hb : ∀ g, r.o = true → r.v.ownBlock = some g → C.w0.heap.size ≤ g := fun g ho hg => (h2.base ho g hg).resolve_right (hL g)
      refine ⟨r, h1, ⟨h2.hn, h2.he, h2.hsz, h2.clip, h2.own, h2.one, fun ho g hg => .inr (hb g ho hg), fun ho g hg o hF => h2.hF ho g hg o hF.1, h2.hφ, h2.hτ, fun b cells hcs => ?_⟩⟩
      obtain ⟨j1, j2, j3, j4⟩ := h2.hcs b cells hcs
      refine ⟨j1, j2, fun i c v hc hv => ?_, fun hbf g hg o ho => ⟨j4 hbf g hg o ho, hb g j1 hg⟩⟩
      have j5 := j3 i c v hc hv
      by_cases hT : t = 1000777
      · subst hT
        have en : n = ⟨W.V.length, 64, 1, some (true, valsC W.V)⟩ := by simpa [stU0, gatT, look_cons] using ht.symm
        subst en
        cases hcs
        have hdc : deepC (stPr p W).tags (valsC W.V) := ⟨⟨W.V.length, 64, 1, some (true, valsC W.V)⟩, by simp [stPr, gatT, look_cons, DT], rfl⟩
        have hin := (hm.deep _ r hdc h1).1 i v ⟨c, hc, by
          intro hcu
          rw [hcu] at hc
          simp [valsC] at hc, hv⟩
        obtain ⟨n2, xs, o1, o2, o3⟩ := hin
        have hcv : ∃ l : List ByteArray, c = .sl none l.length (strsC l) .no := by
          simp only [valsC, List.getElem?_map, Option.map_eq_some_iff] at hc
          obtain ⟨l, _, hl⟩ := hc
          exact ⟨l, hl.symm⟩
        obtain ⟨l, rfl⟩ := hcv
        cases j5 with
        | sl _ _ _ _ _ A cc vs hnl hpos hcc hcell hrep hclip hown =>
          refine .sl _ _ _ _ _ A cc vs hnl hpos hcc (fun j x hx => ?_) (fun j x hx => ?_) hclip (fun t ht => by cases ht)
          · obtain ⟨ad, e1, e2, e3, e4, e5⟩ := hcell j x hx
            subst e1
            exact ⟨ad, rfl, e2, ⟨e3, ((o3 ad.block rfl).1).resolve_right (hL _)⟩, e4, e5⟩
          · have := hrep j x hx
            simp only [strsC, List.getElem?_map, Option.map_eq_some_iff] at hx
            obtain ⟨s, _, rfl⟩ := hx
            generalize vs j = u at this
            cases this
            exact .str _ _
      · have hstr : ∃ s, c = .str s := by
          simp only [stU0, gatT, look_cons] at ht
          split at ht
          · cases ht
            cases hcs
            exact nms_str hc
          · split at ht
            · cases ht
              cases hcs
              exact nms_str hc
            · split at ht
              · rename_i e; exact absurd e.symm hT
              · split at ht
                · cases ht
                  cases hcs
                  simp only [strsC, List.getElem?_map, Option.map_eq_some_iff] at hc
                  obtain ⟨s, _, rfl⟩ := hc
                  exact ⟨s, rfl⟩
                · simp [AX.look] at ht
        obtain ⟨s, rfl⟩ := hstr
        cases j5
        exact .str _ _
    · intro cells r hc hr
      obtain ⟨k1, k2⟩ := hm.deep cells r hc hr
      refine ⟨fun i v hv => ?_, k2⟩
      obtain ⟨n2, xs, o1, o2, o3⟩ := k1 i v hv
      refine ⟨n2, xs, o1, o2, fun g hg => ?_⟩
      obtain ⟨q1, q2, q3⟩ := o3 g hg
      exact ⟨.inr (q1.resolve_right (hL g)), fun o hF => q2 o hF.1, q3⟩
end Go.Proofs.YteimloiaipiadaaDoor
end

section
set_option linter.unusedVariables false
set_option linter.unusedSimpArgs false
set_option maxRecDepth 100000
namespace Go.Proofs.YteimloiaipiadaaDoor
open Go Go.AX

theorem U2_l (p : Pth) (W : Wd) (X : List Nm) (Y : List ByteArray) (hY : Y.length ≤ 1000001) : ∀ d i out R, i + d = Y.length → R = out ++ txtW (Y.drop i) → R.length ≤ 1000000 → HT Tryd.prog Tryd.f11.ntmps (pt Tryd.f11 1) (stU2 p W X Y out i) (EndsA Γ (.mem [6000028] (⟨[], [(1000028, ⟨R.length, 39, 5, some (false, evsC R)⟩)]⟩ : MemS) (.tup [.vec 1000028 R.length, .int .i64 0])) Tryd.f11) := by
  intro d
  induction d with
  | zero =>
    intro i out R h e hl
    rw [List.drop_of_length_le (by omega)] at e
    simp only [txtW, List.map_nil, List.append_nil] at e
    subst e
    exact U2_e p W X Y R i (by omega)
  | succ d ih =>
    intro i out R h e hl
    rw [drop_cons Y i ⟨#[]⟩ (by omega)] at e
    have e2 : R = out ++ [⟨2, nm0, [], Y.getD i ⟨#[]⟩⟩] ++ txtW (Y.drop (i + 1)) := by rw [e]; simp [txtW]
    have hlen := congrArg List.length e2
    simp only [List.length_append, List.length_singleton] at hlen
    exact U2_h p W X Y out R i (by omega) hY (by omega) (ih (i + 1) _ _ (by omega) e2 hl)
theorem U1_l (p : Pth) (W : Wd) (X : List Nm) (hX : X.length ≤ 1000001) (s : ByteArray) (hA : W.A.length ≤ 50000) (hV : W.V.length = W.A.length) (hVs : ∀ v ∈ W.V, v.length < 100) (hT : W.T.length ≤ 1000000) (hc : Ctr Tryd.prog 29 [.sl none W.T.length (strsC W.T) .no, .str ⟨#[]⟩, .sl (some true) 0 (strsC []) .clip] (.str s)) : ∀ d i out R, i + d = X.length → R = out ++ opnW W (X.drop i) ++ txtW (W.T ++ [s]) → R.length ≤ 1000000 → HT Tryd.prog Tryd.f11.ntmps (pt Tryd.f11 0) (stU1 p W X out i) (EndsA Γ (.mem [6000028] (⟨[], [(1000028, ⟨R.length, 39, 5, some (false, evsC R)⟩)]⟩ : MemS) (.tup [.vec 1000028 R.length, .int .i64 0])) Tryd.f11) := by
  intro d
  induction d with
  | zero =>
    intro i out R h e hl
    rw [List.drop_of_length_le (by omega)] at e
    simp only [opnW, List.flatMap_nil, List.append_nil] at e
    exact U1_e p W X out R s i (by omega) hT hc (U2_l p W X _ (by rw [List.length_append, List.length_singleton]; omega) (W.T ++ [s]).length 0 out R (Nat.zero_add _) (by rw [List.drop_zero]; exact e) hl)
  | succ d ih =>
    intro i out R h e hl
    rw [drop_cons X i nm0 (by omega)] at e
    have e2 : R = (out ++ labF W.A W.V ⟨1, X.getD i nm0, [], ⟨#[]⟩⟩) ++ opnW W (X.drop (i + 1)) ++ txtW (W.T ++ [s]) := by rw [e]; simp [opnW]
    have hlen := congrArg List.length e2
    simp only [List.length_append] at hlen
    have k := lab_ctr W X W.N.length hA hV hVs W.A.length 0 (Nat.zero_add _) ⟨1, X.getD i nm0, [], ⟨#[]⟩⟩ out (by simp; omega) (by rw [List.drop_zero, List.drop_zero]; omega)
    rw [List.drop_zero, List.drop_zero] at k
    exact U1_h p W X out _ R i (by omega) hX k (ih (i + 1) _ _ (by omega) e2 hl)
theorem rest_ht (p : Pth) (hok : p.ok) (hl : (filtersP p).length ≤ 64) (h24 : (labsW (spkW p)).length ≤ 24) : HT Tryd.prog Tryd.f11.ntmps (pr Tryd.f11 2) (stUq (spkW p)) (EndsA Γ (.mem [6000028] (⟨[], [(1000028, ⟨(labsW (spkW p)).length, 39, 5, some (false, evsC (labsW (spkW p)))⟩)]⟩ : MemS) (.tup [.vec 1000028 (labsW (spkW p)).length, .int .i64 0])) Tryd.f11) := by
  obtain ⟨h1, h2, h3, h4, h5⟩ := speaks_small p hl
  have hk := kOf_first ⟨#[]⟩ (spkW p).T
  have hkl := hk.le
  refine U_q p (spkW p) (othN (spkW p).N) _ (cntW (spkW p)) (count_ctr _ (by omega) (by omega) (by omega) (fun v hv => by have := h5 v hv; omega)) (oth_ctr _ h1) (by omega) ((cntW_iff _ h4).2 h24) ?_
  refine U1_l p (spkW p) _ (by rw [List.length_append, List.length_singleton]; omega) (anoT (spkW p).T) (by omega) h4 (fun v hv => by have := h5 v hv; omega) (by omega) ?_ _ 0 [] _ (Nat.zero_add _) (by rw [List.drop_zero, List.nil_append]; rfl) (by omega)
  exact fresh_ctr (spkW p).T ⟨#[]⟩ (some true) [] (by simp) (by omega) (by decide) _ hk (by omega)
theorem rel_look {C : Ctx} {G : Env} {s s' : AS} {a : Act} {w : World} (h : RelG C G s a w) (h1 : ∀ i, AX.look s'.tmps i = AX.look s.tmps i) (h2 : ∀ i, AX.look s'.heap i = AX.look s.heap i) (h3 : ∀ i, AX.look s'.tags i = AX.look s.tags i) : RelG C G s' a w := by
  have hm := h.mem
  refine ⟨h.defers, h.size, fun i v hv => h.slots i v (by rw [← h1]; exact hv), ⟨hm.keep, hm.le, hm.fdom, hm.fold, fun i b hb => hm.blocks i b (by rw [← h2]; exact hb), fun i hi => hm.noblock i (by rw [← h2]; exact hi), hm.inj, fun t n ht => hm.tags t n (by rw [← h3]; exact ht), fun t ht => hm.notag t (by rw [← h3]; exact ht), ?_⟩⟩
  intro cells r hc hr
  refine hm.deep cells r ?_ hr
  obtain ⟨m, h4, h5⟩ := hc
  exact ⟨m, by rw [← h3]; exact h4, h5⟩
theorem TW.mono {P : Program} {todo : List Item} {R R' : Act → World → Prop} {a : Act} {w : World} (h : TW P todo R a w) (hi : ∀ a w, R a w → R' a w) : TW P todo R' a w := by
  intro b cs
  obtain ⟨a', w', t, h1, h2⟩ := h b cs
  exact ⟨a', w', t, hi _ _ h1, h2⟩
/-- The labels: all that is answered lies in new memory. -/
theorem labN (p : Pth) (hok : p.ok) (hl : (filtersP p).length ≤ 64) (h24 : (labsW (spkW p)).length ≤ 24) (w : World) (F : Nat → Nat → Prop) (vs : Array Value) (hF : ∀ b o, F b o → b < w.heap.size) (ha : Args w F [.agg (pthL p)] vs) :
    Calls Tryd.prog 11 vs w fun e w' => ∃ v, e = .returned v ∧ Keep (fun _ => False) w w' ∧ ∃ F' : Nat → Nat → Prop, (∀ b o, F' b o → w.heap.size ≤ b ∧ b < w'.heap.size) ∧ Rep w' (envF F') false (.tup [.sl none (labsW (spkW p)).length (evsC (labsW (spkW p))) .no, .int .i64 0]) v := by
  intro cs
  let b : Frame := { (default : Frame) with fn := 11, kind := .normal }
  have hb : Tryd.f11.body = some (fbody Tryd.f11) := by kernel_rfl
  have henter : Frame.enter Tryd.prog 11 vs .normal = b.at { tmps := vs ++ Array.replicate (Tryd.f11.ntmps - vs.size) undef, defers := [] } (p0 Tryd.f11) := by
    simp [Frame.enter, Frame.at, Tryd.func11, hb, b, p0]
  let R : Act → World → Prop := fun a' w' => ∃ (C' : Ctx) (s' : AS) (G' : Env), Keep (fun _ => False) w C'.w0 ∧ (∀ x o, C'.G0.F x o → w.heap.size ≤ x) ∧ (∀ g, C'.L g → w.heap.size ≤ g) ∧ (∀ i, C'.G0.φ i = none) ∧ (∀ i, C'.G0.τ i = none) ∧ EndsA Γ (.mem [6000028] (⟨[], [(1000028, ⟨(labsW (spkW p)).length, 39, 5, some (false, evsC (labsW (spkW p)))⟩)]⟩ : MemS) (.tup [.vec 1000028 (labsW (spkW p)).length, .int .i64 0])) Tryd.f11 s' ∧ RelG C' G' s' a' w'
  have hrest : HC Tryd.prog (ctx0 w F Tryd.f11.ntmps) R (pr Tryd.f11 2) (stPr p (spkW p)) := by
    intro G a w1 hR
    have hk1 := hR.mem.keep
    obtain ⟨C', G2, e1, e2, e3, e4, e5, e6, hR2⟩ := newCtx p (spkW p) (C := ctx0 w F Tryd.f11.ntmps) (fun g h => h) hR
    obtain ⟨G3, hR3, _⟩ := freezeAll_sound (ids := [6000777]) hR2 rfl (by simp [All])
    have hR4 : RelG C' G3 (stUq (spkW p)) a w1 := rel_look hR3 (fun _ => rfl) (fun _ => rfl) (fun i => by
      simp only [stUq, stU0, gatT, AS.tag, AX.look_cons]
      repeat' split
      all_goals first | rfl | omega)
    refine TW.mono ((rest_ht p hok hl h24).tw C' G3 a w1 e2 hR4) (fun a' w' h => ?_)
    obtain ⟨s', G', h1, h2⟩ := h
    exact ⟨C', s', G', by rw [e1]; exact hk1, e3, e4, e5, e6, h1, h2⟩
  obtain ⟨a', w', todo', ⟨C', s', G', k1, k2, k3, k4, k5, ⟨os, hq, ho⟩, hR⟩, hsteps⟩ := pre_hc p (spkW p) (speaksT_ctr p hok (by omega)) (C := ctx0 w F Tryd.f11.ntmps) rfl hrest _ _ w (start_rel hF ha (by show 1 ≤ Tryd.f11.ntmps; decide)) b cs
  obtain ⟨x, G1, h1, h2, h3⟩ := retPM_sound (P := Tryd.prog) Γ_ok hR hq ho (fun i hi => absurd (k4 i) hi) (fun i hi => absurd (k5 i) hi)
  rw [← henter] at hsteps
  have hkk : Keep (fun _ => False) w w' := by
    have h4 := h2.keep
    refine ⟨h4.os.trans k1.os, h4.tape.trans k1.tape, h4.output.trans k1.output, Nat.le_trans k1.size h4.size, fun k hk _ => ?_, k1.fz.trans h4.fz⟩
    have hn : ¬ C'.L k := fun hL => by have := k3 k hL; omega
    have := k1.size
    rw [h4.block k (by omega) hn, k1.block k hk (fun h => h)]
  have hR5 : RelG C' G1 ⟨[], [], [(1000028, ⟨(labsW (spkW p)).length, 39, 5, some (false, evsC (labsW (spkW p)))⟩)]⟩ a' w' := ⟨hR.defers, hR.size, fun i v hv => by simp [AX.look] at hv, h2⟩
  have h6 := treeH_sound hR5 h3 (y := .tup [.sl none (labsW (spkW p)).length (evsC (labsW (spkW p))) .no, .int .i64 0]) rfl (by simp [All])
  refine ⟨.returned x, w', _, ⟨x, rfl, hkk, G1.F, fun b o hf => ⟨?_, h2.fdom b o hf⟩, h6.tree (fun _ _ h => h)⟩, hsteps, rfl, rfl, hR.defers, rfl, Tryd.f11, Tryd.func11, h1⟩
  by_cases hb2 : b < C'.w0.heap.size
  · rcases h2.fold b o hf hb2 with h | h
    · exact k2 b o h
    · exact k3 b h
  · have := k1.size; omega
end Go.Proofs.YteimloiaipiadaaDoor
end

section
set_option linter.unusedVariables false
set_option linter.unusedSimpArgs false
namespace Go.Proofs.YteimloiaipiadaaDoor
open Go Go.AX

/-- Of the cells of F, only strings were written, over strings. -/
structure StrOnly (F : Nat → Nat → Prop) (w1 w : World) : Prop where
  same : ∀ b o v, F b o → w1.cell? ⟨b, o, none⟩ = some v → (∀ s, v ≠ .string s) → w.cell? ⟨b, o, none⟩ = some v
  str : ∀ b o s, F b o → w1.cell? ⟨b, o, none⟩ = some (.string s) → ∃ s', w.cell? ⟨b, o, none⟩ = some (.string s')
theorem StrOnly.refl (F : Nat → Nat → Prop) (w : World) : StrOnly F w w := ⟨fun _ _ _ _ h _ => h, fun _ _ s _ h => ⟨s, h⟩⟩
theorem StrOnly.trans {F : Nat → Nat → Prop} {w1 w2 w3 : World} (h : StrOnly F w1 w2) (k : StrOnly F w2 w3) : StrOnly F w1 w3 :=
  ⟨fun b o v hf hv hs => k.same b o v hf (h.same b o v hf hv hs) hs, fun b o s hf hs => by
    obtain ⟨s', h1⟩ := h.str b o s hf hs
    exact k.str b o s' hf h1⟩
theorem list_ex {α β : Type} : ∀ (xs : List α) (P : Nat → α → β → Prop), (∀ (j : Nat) (x : α), xs[j]? = some x → ∃ y, P j x y) → ∃ ys : List β, ys.length = xs.length ∧ ∀ (j : Nat) (x : α) (y : β), xs[j]? = some x → ys[j]? = some y → P j x y
  | [], P, h => ⟨[], rfl, fun j x y hx => by simp at hx⟩
  | a :: r, P, h => by
    obtain ⟨y, hy⟩ := h 0 a rfl
    obtain ⟨ys, h1, h2⟩ := list_ex r (fun j => P (j + 1)) (fun j x hx => h (j + 1) x (by simpa using hx))
    refine ⟨y :: ys, by simp [h1], fun j x z hx hz => ?_⟩
    match j, hx, hz with
    | 0, hx, hz =>
      simp at hx hz
      subst hx; subst hz
      exact hy
    | j + 1, hx, hz => exact h2 j x z (by simpa using hx) (by simpa using hz)
def Sh1 (x y : AV) : Prop := x = y ∧ (∀ s, x ≠ .str s) ∨ ∃ s s', x = .str s ∧ y = .str s'
def SL1 (xs ys : List AV) : Prop := ys.length = xs.length ∧ ∀ (j : Nat) (x y : AV), xs[j]? = some x → ys[j]? = some y → Sh1 x y
theorem ats_of : ∀ (l : List Atr) (ys : List AV), SL1 (atsC l) ys → ∃ l' : List Atr, l'.length = l.length ∧ ys = atsC l'
  | [], ys, h => ⟨[], rfl, List.eq_nil_of_length_eq_zero h.1⟩
  | a :: r, ys, h => by
    obtain ⟨h1, h2⟩ := h
    have e : atsC (a :: r) = .str a.nm.sp :: .str a.nm.lo :: .str a.v :: atsC r := by simp [atsC, atC]
    rw [e] at h1 h2
    match ys, h1, h2 with
    | y0 :: y1 :: y2 :: ys, h1, h2 =>
      have g : ∀ j (x y : AV), (.str a.nm.sp :: .str a.nm.lo :: .str a.v :: atsC r)[j]? = some x → (y0 :: y1 :: y2 :: ys)[j]? = some y → Sh1 x y := h2
      have st : ∀ {s : ByteArray} {y : AV}, Sh1 (.str s) y → ∃ s', y = .str s' := fun h => by
        rcases h with ⟨_, h⟩ | ⟨s, s', _, h⟩
        · exact absurd rfl (h _)
        · exact ⟨s', h⟩
      obtain ⟨s0, rfl⟩ := st (g 0 _ y0 rfl rfl)
      obtain ⟨s1, rfl⟩ := st (g 1 _ y1 rfl rfl)
      obtain ⟨s2, rfl⟩ := st (g 2 _ y2 rfl rfl)
      obtain ⟨l', e1, e2⟩ := ats_of r ys ⟨by simpa using h1, fun j x y hx hy => g (j + 3) x y (by simpa using hx) (by simpa using hy)⟩
      exact ⟨⟨⟨s0, s1⟩, s2⟩ :: l', by simp [e1], by rw [e2]; simp [atsC, atC]⟩
/-- A cell whose string may have been written over. -/
theorem sh1_ex {F : Nat → Nat → Prop} {w1 w : World} (h : StrOnly F w1 w) {b o : Nat} (hF : F b o) {x : AV} {v : Value} (hs : ∃ s, x = .str s) (hc : w1.cell? ⟨b, o, none⟩ = some v) (hr : Rep w1 (envF F) false x v) : ∃ y, Sh1 x y ∧ ∃ v', w.cell? ⟨b, o, none⟩ = some v' ∧ v'.oneCell' = true ∧ Rep w (envF F) false y v' := by
  obtain ⟨s, rfl⟩ := hs
  cases hr
  obtain ⟨s', h1⟩ := h.str b o s hF hc
  exact ⟨.str s', .inr ⟨s, s', rfl, rfl⟩, _, h1, rfl, .str _ _⟩
theorem ats_str {l : List Atr} {j : Nat} {x : AV} (h : (atsC l)[j]? = some x) : ∃ s, x = .str s := by
  have hm := List.mem_of_getElem? h
  simp only [atsC, List.mem_flatMap] at hm
  obtain ⟨a, _, ha⟩ := hm
  simp only [atC, List.mem_cons, List.not_mem_nil, or_false] at ha
  rcases ha with ha | ha | ha <;> exact ⟨_, ha⟩
/-- Attributes that may have been written over. -/
theorem ats_any {F : Nat → Nat → Prop} {w1 w : World} (h : StrOnly F w1 w) {l : List Atr} {u : Value} (hr : Rep w1 (envF F) false (.sl none l.length (atsC l) .no) u) : ∃ l' : List Atr, l'.length = l.length ∧ Rep w (envF F) false (.sl none l'.length (atsC l') .no) u := by
  cases hr with
  | sl _ _ _ _ _ A c vs hnl hpos hc hcell hrep hclip hown =>
    obtain ⟨ys, h1, h2⟩ := list_ex (atsC l) (fun j x y => Sh1 x y ∧ ∃ ad : Addr, A = some ad ∧ ad.spot = none ∧ F ad.block (ad.off + j) ∧ ∃ v', w.cell? ⟨ad.block, ad.off + j, none⟩ = some v' ∧ v'.oneCell' = true ∧ Rep w (envF F) false y v') (fun j x hx => by
      obtain ⟨ad, e1, e2, e3, e4, e5⟩ := hcell j x hx
      obtain ⟨y, g1, g2⟩ := sh1_ex h e3 (ats_str hx) e4 (hrep j x hx)
      exact ⟨y, g1, ad, e1, e2, e3, g2⟩)
    obtain ⟨l', e1, rfl⟩ := ats_of l ys ⟨h1, fun j x y hx hy => (h2 j x y hx hy).1⟩
    refine ⟨l', e1, ?_⟩
    rw [e1]
    have get : ∀ (j : Nat) (y : AV), (atsC l')[j]? = some y → ∃ ad : Addr, A = some ad ∧ ad.spot = none ∧ F ad.block (ad.off + j) ∧ ∃ v', w.cell? ⟨ad.block, ad.off + j, none⟩ = some v' ∧ v'.oneCell' = true ∧ Rep w (envF F) false y v' := fun j y hy => by
      have hj : j < (atsC l).length := by rw [← h1]; exact (List.getElem?_eq_some_iff.1 hy).1
      exact (h2 j _ y (List.getElem?_eq_getElem hj) hy).2
    refine .sl _ _ _ _ _ A c (fun j => ((A.bind fun ad => w.cell? ⟨ad.block, ad.off + j, none⟩)).getD undef) hnl hpos hc (fun j y hy => ?_) (fun j y hy => ?_) hclip (fun t ht => by cases ht)
    · obtain ⟨ad, q1, q2, q3, v', q4, q5, q6⟩ := get j y hy
      subst q1
      simp only [Option.bind_some, q4, Option.getD_some]
      exact ⟨ad, rfl, q2, q3, q4, q5⟩
    · obtain ⟨ad, q1, q2, q3, v', q4, q5, q6⟩ := get j y hy
      subst q1
      simp only [Option.bind_some, q4, Option.getD_some]
      exact q6
/-- Events' cells, that may have been written over. -/
def Sh2 (x y : AV) : Prop := Sh1 x y ∨ ∃ l l' : List Atr, x = .sl none l.length (atsC l) .no ∧ l'.length = l.length ∧ y = .sl none l'.length (atsC l') .no
/-- The same events, but for strings. -/
inductive EvsL : List Ev → List Ev → Prop
  | nil : EvsL [] []
  | cons {e e' : Ev} {r r' : List Ev} (h : e'.kind = e.kind) (ha : e'.attrs.length = e.attrs.length) (hr : EvsL r r') : EvsL (e :: r) (e' :: r')
theorem EvsL.len {l l' : List Ev} (h : EvsL l l') : l'.length = l.length := by
  induction h with
  | nil => rfl
  | cons _ _ _ ih => simp [ih]
theorem evs_of : ∀ (l : List Ev) (ys : List AV), ys.length = (evsC l).length → (∀ (j : Nat) (x y : AV), (evsC l)[j]? = some x → ys[j]? = some y → Sh2 x y) → ∃ l', EvsL l l' ∧ ys = evsC l'
  | [], ys, h, _ => ⟨[], .nil, List.eq_nil_of_length_eq_zero h⟩
  | a :: r, ys, h1, h2 => by
    have e : evsC (a :: r) = .int .i64 a.kind :: .str a.nm.sp :: .str a.nm.lo :: .sl none a.attrs.length (atsC a.attrs) .no :: .str a.text :: evsC r := by simp [evsC, evC]
    rw [e] at h1 h2
    match ys, h1, h2 with
    | y0 :: y1 :: y2 :: y3 :: y4 :: ys, h1, g =>
      have st : ∀ {s : ByteArray} {y : AV}, Sh2 (.str s) y → ∃ s', y = .str s' := fun h => by
        rcases h with (⟨_, h⟩ | ⟨s, s', _, h⟩) | ⟨_, _, h, _⟩
        · exact absurd rfl (h _)
        · exact ⟨s', h⟩
        · cases h
      have h0 : y0 = .int .i64 a.kind := by
        rcases g 0 _ y0 rfl rfl with (⟨h, _⟩ | ⟨s, s', h, _⟩) | ⟨_, _, h, _⟩
        · exact h.symm
        · cases h
        · cases h
      obtain ⟨s1, e1⟩ := st (g 1 _ y1 rfl rfl)
      obtain ⟨s2, e2⟩ := st (g 2 _ y2 rfl rfl)
      obtain ⟨s4, e4⟩ := st (g 4 _ y4 rfl rfl)
      have h3 : ∃ l' : List Atr, l'.length = a.attrs.length ∧ y3 = .sl none l'.length (atsC l') .no := by
        rcases g 3 _ y3 rfl rfl with (⟨h, _⟩ | ⟨s, s', h, _⟩) | ⟨l, l', h, hl, hy⟩
        · exact ⟨a.attrs, rfl, h.symm⟩
        · cases h
        · injection h with _ hn _ _
          exact ⟨l', by rw [hl, hn], hy⟩
      obtain ⟨l3, e3, e3'⟩ := h3
      obtain ⟨r', q1, q2⟩ := evs_of r ys (by simpa using h1) (fun j x y hx hy => g (j + 5) x y (by simpa using hx) (by simpa using hy))
      refine ⟨⟨a.kind, ⟨s1, s2⟩, l3, s4⟩ :: r', .cons rfl e3 q1, ?_⟩
      rw [h0, e1, e2, e3', e4, q2]
      simp [evsC, evC]
theorem evs_cell {l : List Ev} {j : Nat} {x : AV} (h : (evsC l)[j]? = some x) : (∃ k, x = .int .i64 k) ∨ (∃ s, x = .str s) ∨ ∃ a : List Atr, x = .sl none a.length (atsC a) .no := by
  have hm := List.mem_of_getElem? h
  simp only [evsC, List.mem_flatMap] at hm
  obtain ⟨a, _, ha⟩ := hm
  simp only [evC, List.mem_cons, List.not_mem_nil, or_false] at ha
  rcases ha with ha | ha | ha | ha | ha
  · exact .inl ⟨_, ha⟩
  · exact .inr (.inl ⟨_, ha⟩)
  · exact .inr (.inl ⟨_, ha⟩)
  · exact .inr (.inr ⟨_, ha⟩)
  · exact .inr (.inl ⟨_, ha⟩)
/-- Events that may have been written over: events still. -/
theorem evs_any {F : Nat → Nat → Prop} {w1 w : World} (h : StrOnly F w1 w) {l : List Ev} {u : Value} (hr : Rep w1 (envF F) false (.sl none l.length (evsC l) .no) u) : ∃ l' : List Ev, EvsL l l' ∧ Rep w (envF F) false (.sl none l'.length (evsC l') .no) u := by
  cases hr with
  | sl _ _ _ _ _ A c vs hnl hpos hc hcell hrep hclip hown =>
    obtain ⟨ys, h1, h2⟩ := list_ex (evsC l) (fun j x y => Sh2 x y ∧ ∃ ad : Addr, A = some ad ∧ ad.spot = none ∧ F ad.block (ad.off + j) ∧ ∃ v', w.cell? ⟨ad.block, ad.off + j, none⟩ = some v' ∧ v'.oneCell' = true ∧ Rep w (envF F) false y v') (fun j x hx => by
      obtain ⟨ad, e1, e2, e3, e4, e5⟩ := hcell j x hx
      have hj := hrep j x hx
      rcases evs_cell hx with ⟨k, rfl⟩ | hs | ⟨a, rfl⟩
      · generalize vs j = v at hj e4 e5
        cases hj
        exact ⟨_, .inl (.inl ⟨rfl, fun s hs => by cases hs⟩), ad, e1, e2, e3, _, h.same _ _ _ e3 e4 (fun s hs => by cases hs), e5, .int _ _ _⟩
      · obtain ⟨y, g1, g2⟩ := sh1_ex h e3 hs e4 hj
        exact ⟨y, .inl g1, ad, e1, e2, e3, g2⟩
      · obtain ⟨l', g1, g2⟩ := ats_any h hj
        refine ⟨_, .inr ⟨a, l', rfl, g1, rfl⟩, ad, e1, e2, e3, vs j, h.same _ _ _ e3 e4 (fun s hs => ?_), e5, g2⟩
        rw [hs] at hj
        cases hj)
    obtain ⟨l', e1, rfl⟩ := evs_of l ys h1 (fun j x y hx hy => (h2 j x y hx hy).1)
    refine ⟨l', e1, ?_⟩
    rw [e1.len]
    have get : ∀ (j : Nat) (y : AV), (evsC l')[j]? = some y → ∃ ad : Addr, A = some ad ∧ ad.spot = none ∧ F ad.block (ad.off + j) ∧ ∃ v', w.cell? ⟨ad.block, ad.off + j, none⟩ = some v' ∧ v'.oneCell' = true ∧ Rep w (envF F) false y v' := fun j y hy => by
      have hj : j < (evsC l).length := by rw [← h1]; exact (List.getElem?_eq_some_iff.1 hy).1
      exact (h2 j _ y (List.getElem?_eq_getElem hj) hy).2
    refine .sl _ _ _ _ _ A c (fun j => ((A.bind fun ad => w.cell? ⟨ad.block, ad.off + j, none⟩)).getD undef) hnl hpos hc (fun j y hy => ?_) (fun j y hy => ?_) hclip (fun t ht => by cases ht)
    · obtain ⟨ad, q1, q2, q3, v', q4, q5, q6⟩ := get j y hy
      subst q1
      simp only [Option.bind_some, q4, Option.getD_some]
      exact ⟨ad, rfl, q2, q3, q4, q5⟩
    · obtain ⟨ad, q1, q2, q3, v', q4, q5, q6⟩ := get j y hy
      subst q1
      simp only [Option.bind_some, q4, Option.getD_some]
      exact q6
end Go.Proofs.YteimloiaipiadaaDoor
end

section
set_option linter.unusedVariables false
set_option linter.unusedSimpArgs false
set_option maxRecDepth 100000
namespace Go.Proofs.YteimloiaipiadaaDoor
open Go Go.AX

def sKp1 (L : List Ev) (i : Nat) : AS := ⟨[(1, .vptr 1000001 3 0), (3, .sl none L.length (evsC L) .no), (5, .int .i64 i)], [], [(1000001, ⟨3, 25, 1, none⟩)]⟩
def sKp2 (L : List Ev) (i k : Nat) : AS := ⟨[(1, .vptr 1000001 3 0), (3, .sl none L.length (evsC L) .no), (5, .int .i64 i), (6, .int .i64 k)], [], [(1000001, ⟨3, 25, 1, none⟩)]⟩
def sKp3 (L : List Ev) : AS := ⟨[(1, .vptr 1000001 3 0), (3, .sl none L.length (evsC L) .no)], [], [(1000001, ⟨3, 25, 1, none⟩)]⟩
def sKpe : AS := ⟨[(1, .vptr 1000001 3 0)], [], [(1000001, ⟨3, 25, 1, none⟩)]⟩

theorem k3_t {C : Ctx} (hnt : C.nt = Tryd.f5.ntmps) {R : Act → World → Prop} (L : List Ev) (k : HC Tryd.prog C R (pt Tryd.f5 0) (sKp1 L 0)) : HC Tryd.prog C R ((pr Tryd.f5 3).tail) (sKp3 L) :=
  HC.walk Γ_ok mo_ok (⟨[], [], ([(5, ⟨[1, 3, 5], [], [1000001], [], []⟩), (9, ⟨[1, 3, 5, 6], [], [1000001], [], []⟩)] ++ [(7000007, ⟨[1, 3, 5], [], [1000001], [], []⟩), (7000012, ⟨[1], [], [1000001], [], []⟩), (7000011, ⟨[1, 3, 5, 6], [], [1000001], [], []⟩)]), [], .pure [] (.nilFn)⟩ : Wk) 4000 hnt (T := .head (pt Tryd.f5 0) ({ tmps := [(1, AV.vptr (1000001 : Nat) (3 : Nat) (0 : Nat)), (3, AV.sl none L.length (evsC L) .no), (5, AV.int .i64 (0 : Int))], heap := [], tags := [(1000001, { n := (3 : Nat), e := (25 : Nat), sz := (1 : Nat) })] })) (by kernel_rfl) (by
    simp only [PT.holdsL, true_implies, Bool.false_eq_true, Bool.true_eq_false, false_implies, true_and, and_true, List.nil_append, Nat.zero_add, Int.toNat_natCast, Int.toNat_zero, Nat.zero_mul]
    repeat' (with_reducible apply And.intro)
    all_goals first | assumption | omega | rfl | exact decide_eq_true (by omega) | exact decide_eq_false (by omega) | ((try simp only [Nat.add_assoc, Nat.reduceAdd, Nat.add_zero]) <;> first | (rw [ats_nth _ _ _ hi (by decide)]; rfl) | (rw [evs_nth _ _ _ hi (by decide)]; rfl) | (rw [ats_nth0 _ _ hi]; rfl) | (rw [evs_nth0 _ _ hi]; rfl)) | (rw [evsC_len]; omega) | (simp only [evsC_len]; omega) | exact HC.eq k (by simp [sKp1, sKp2, sKpe]) | skip)
theorem k0_t {C : Ctx} (hnt : C.nt = Tryd.f5.ntmps) {R : Act → World → Prop} (L : List Ev) (i : Nat) (hi : i < L.length) (k : HC Tryd.prog C R (pr Tryd.f5 7) (sKp1 L i)) : HC Tryd.prog C R (pt Tryd.f5 0) (sKp1 L i) :=
  HC.walk Γ_ok mo_ok (⟨[(27, .val (.bool true))], [], ([(5, ⟨[1, 3, 5], [], [1000001], [], []⟩), (9, ⟨[1, 3, 5, 6], [], [1000001], [], []⟩)] ++ [(7000007, ⟨[1, 3, 5], [], [1000001], [], []⟩), (7000012, ⟨[1], [], [1000001], [], []⟩), (7000011, ⟨[1, 3, 5, 6], [], [1000001], [], []⟩)]), [], .pure [] (.nilFn)⟩ : Wk) 4000 hnt (T := .ob (decide ((↑i : Int) < (↑L.length : Int)) = true) (.head (pr Tryd.f5 7) ({ tmps := [(1, AV.vptr (1000001 : Nat) (3 : Nat) (0 : Nat)), (3, AV.sl none L.length (evsC L) .no), (5, AV.int .i64 (↑i : Int))], heap := [], tags := [(1000001, { n := (3 : Nat), e := (25 : Nat), sz := (1 : Nat) })] }))) (by kernel_rfl) (by
    simp only [PT.holdsL, true_implies, Bool.false_eq_true, Bool.true_eq_false, false_implies, true_and, and_true, List.nil_append, Nat.zero_add, Int.toNat_natCast, Int.toNat_zero, Nat.zero_mul]
    repeat' (with_reducible apply And.intro)
    all_goals first | assumption | omega | rfl | exact decide_eq_true (by omega) | exact decide_eq_false (by omega) | ((try simp only [Nat.add_assoc, Nat.reduceAdd, Nat.add_zero]) <;> first | (rw [ats_nth _ _ _ hi (by decide)]; rfl) | (rw [evs_nth _ _ _ hi (by decide)]; rfl) | (rw [ats_nth0 _ _ hi]; rfl) | (rw [evs_nth0 _ _ hi]; rfl)) | (rw [evsC_len]; omega) | (simp only [evsC_len]; omega) | exact HC.eq k (by simp [sKp1, sKp2, sKpe]) | skip)
theorem k0_e {C : Ctx} (hnt : C.nt = Tryd.f5.ntmps) {R : Act → World → Prop} (L : List Ev) (i : Nat) (hi : i = L.length) (k : HC Tryd.prog C R (pr Tryd.f5 12) (sKpe)) : HC Tryd.prog C R (pt Tryd.f5 0) (sKp1 L i) :=
  HC.walk Γ_ok mo_ok (⟨[(27, .val (.bool false))], [], ([(5, ⟨[1, 3, 5], [], [1000001], [], []⟩), (9, ⟨[1, 3, 5, 6], [], [1000001], [], []⟩)] ++ [(7000007, ⟨[1, 3, 5], [], [1000001], [], []⟩), (7000012, ⟨[1], [], [1000001], [], []⟩), (7000011, ⟨[1, 3, 5, 6], [], [1000001], [], []⟩)]), [], .pure [] (.nilFn)⟩ : Wk) 4000 hnt (T := .ob (decide ((↑i : Int) < (↑L.length : Int)) = false) (.head (pr Tryd.f5 12) ({ tmps := [(1, AV.vptr (1000001 : Nat) (3 : Nat) (0 : Nat))], heap := [], tags := [(1000001, { n := (3 : Nat), e := (25 : Nat), sz := (1 : Nat) })] }))) (by kernel_rfl) (by
    simp only [PT.holdsL, true_implies, Bool.false_eq_true, Bool.true_eq_false, false_implies, true_and, and_true, List.nil_append, Nat.zero_add, Int.toNat_natCast, Int.toNat_zero, Nat.zero_mul]
    repeat' (with_reducible apply And.intro)
    all_goals first | assumption | omega | rfl | exact decide_eq_true (by omega) | exact decide_eq_false (by omega) | ((try simp only [Nat.add_assoc, Nat.reduceAdd, Nat.add_zero]) <;> first | (rw [ats_nth _ _ _ hi (by decide)]; rfl) | (rw [evs_nth _ _ _ hi (by decide)]; rfl) | (rw [ats_nth0 _ _ hi]; rfl) | (rw [evs_nth0 _ _ hi]; rfl)) | (rw [evsC_len]; omega) | (simp only [evsC_len]; omega) | exact HC.eq k (by simp [sKp1, sKp2, sKpe]) | skip)
theorem k7_t {C : Ctx} (hnt : C.nt = Tryd.f5.ntmps) {R : Act → World → Prop} (L : List Ev) (i : Nat) (k : HC Tryd.prog C R (pt Tryd.f5 1) (sKp2 L i 0)) : HC Tryd.prog C R ((pr Tryd.f5 7).tail) (sKp1 L i) :=
  HC.walk Γ_ok mo_ok (⟨[], [], ([(5, ⟨[1, 3, 5], [], [1000001], [], []⟩), (9, ⟨[1, 3, 5, 6], [], [1000001], [], []⟩)] ++ [(7000007, ⟨[1, 3, 5], [], [1000001], [], []⟩), (7000012, ⟨[1], [], [1000001], [], []⟩), (7000011, ⟨[1, 3, 5, 6], [], [1000001], [], []⟩)]), [], .pure [] (.nilFn)⟩ : Wk) 4000 hnt (T := .head (pt Tryd.f5 1) ({ tmps := [(1, AV.vptr (1000001 : Nat) (3 : Nat) (0 : Nat)), (3, AV.sl none L.length (evsC L) .no), (5, AV.int .i64 (↑i : Int)), (6, AV.int .i64 (0 : Int))], heap := [], tags := [(1000001, { n := (3 : Nat), e := (25 : Nat), sz := (1 : Nat) })] })) (by kernel_rfl) (by
    simp only [PT.holdsL, true_implies, Bool.false_eq_true, Bool.true_eq_false, false_implies, true_and, and_true, List.nil_append, Nat.zero_add, Int.toNat_natCast, Int.toNat_zero, Nat.zero_mul]
    repeat' (with_reducible apply And.intro)
    all_goals first | assumption | omega | rfl | exact decide_eq_true (by omega) | exact decide_eq_false (by omega) | ((try simp only [Nat.add_assoc, Nat.reduceAdd, Nat.add_zero]) <;> first | (rw [ats_nth _ _ _ hi (by decide)]; rfl) | (rw [evs_nth _ _ _ hi (by decide)]; rfl) | (rw [ats_nth0 _ _ hi]; rfl) | (rw [evs_nth0 _ _ hi]; rfl)) | (rw [evsC_len]; omega) | (simp only [evsC_len]; omega) | exact HC.eq k (by simp [sKp1, sKp2, sKpe]) | skip)
theorem k1_t {C : Ctx} (hnt : C.nt = Tryd.f5.ntmps) {R : Act → World → Prop} (L : List Ev) (i : Nat) (j : Nat) (hi : i < L.length) (hj : j < (L.getD i ev0).attrs.length) (k : HC Tryd.prog C R (pr Tryd.f5 11) (sKp2 L i j)) : HC Tryd.prog C R (pt Tryd.f5 1) (sKp2 L i j) :=
  HC.walk Γ_ok mo_ok (⟨[(39, .val (.sl none (L.getD i ev0).attrs.length (atsC (L.getD i ev0).attrs) .no)), (41, .val (.bool true))], [], ([(5, ⟨[1, 3, 5], [], [1000001], [], []⟩), (9, ⟨[1, 3, 5, 6], [], [1000001], [], []⟩)] ++ [(7000007, ⟨[1, 3, 5], [], [1000001], [], []⟩), (7000012, ⟨[1], [], [1000001], [], []⟩), (7000011, ⟨[1, 3, 5, 6], [], [1000001], [], []⟩)]), [], .pure [] (.nilFn)⟩ : Wk) 4000 hnt (T := .ob ((0 : Int) ≤ (↑i : Int) ∧ (↑i : Int) < (↑L.length : Int) ∧ (↑i : Int).toNat * (5 : Nat) < (evsC L).length) (.ob ((evsC L)[(↑i : Int).toNat * (5 : Nat) + (3 : Nat)]? = some (AV.sl none (L.getD i ev0).attrs.length (atsC (L.getD i ev0).attrs) .no)) (.ob (decide ((↑j : Int) < (↑(L.getD i ev0).attrs.length : Int)) = true) (.head (pr Tryd.f5 11) ({ tmps := [(1, AV.vptr (1000001 : Nat) (3 : Nat) (0 : Nat)), (3, AV.sl none L.length (evsC L) .no), (5, AV.int .i64 (↑i : Int)), (6, AV.int .i64 (↑j : Int))], heap := [], tags := [(1000001, { n := (3 : Nat), e := (25 : Nat), sz := (1 : Nat) })] }))))) (by kernel_rfl) (by
    simp only [PT.holdsL, true_implies, Bool.false_eq_true, Bool.true_eq_false, false_implies, true_and, and_true, List.nil_append, Nat.zero_add, Int.toNat_natCast, Int.toNat_zero, Nat.zero_mul]
    repeat' (with_reducible apply And.intro)
    all_goals first | assumption | omega | rfl | exact decide_eq_true (by omega) | exact decide_eq_false (by omega) | ((try simp only [Nat.add_assoc, Nat.reduceAdd, Nat.add_zero]) <;> first | (rw [ats_nth _ _ _ hi (by decide)]; rfl) | (rw [evs_nth _ _ _ hi (by decide)]; rfl) | (rw [ats_nth0 _ _ hi]; rfl) | (rw [evs_nth0 _ _ hi]; rfl)) | (rw [evsC_len]; omega) | (simp only [evsC_len]; omega) | exact HC.eq k (by simp [sKp1, sKp2, sKpe]) | skip)
theorem k1_e {C : Ctx} (hnt : C.nt = Tryd.f5.ntmps) {R : Act → World → Prop} (L : List Ev) (i : Nat) (j : Nat) (hi : i < L.length) (hL : L.length ≤ 1000) (hj : j = (L.getD i ev0).attrs.length) (k : HC Tryd.prog C R (pt Tryd.f5 0) (sKp1 L (i + 1))) : HC Tryd.prog C R (pt Tryd.f5 1) (sKp2 L i j) :=
  HC.walk Γ_ok mo_ok (⟨[(39, .val (.sl none (L.getD i ev0).attrs.length (atsC (L.getD i ev0).attrs) .no)), (41, .val (.bool false))], [], ([(5, ⟨[1, 3, 5], [], [1000001], [], []⟩), (9, ⟨[1, 3, 5, 6], [], [1000001], [], []⟩)] ++ [(7000007, ⟨[1, 3, 5], [], [1000001], [], []⟩), (7000012, ⟨[1], [], [1000001], [], []⟩), (7000011, ⟨[1, 3, 5, 6], [], [1000001], [], []⟩)]), [], .pure [] (.nilFn)⟩ : Wk) 4000 hnt (T := .ob ((0 : Int) ≤ (↑i : Int) ∧ (↑i : Int) < (↑L.length : Int) ∧ (↑i : Int).toNat * (5 : Nat) < (evsC L).length) (.ob ((evsC L)[(↑i : Int).toNat * (5 : Nat) + (3 : Nat)]? = some (AV.sl none (L.getD i ev0).attrs.length (atsC (L.getD i ev0).attrs) .no)) (.ob (decide ((↑j : Int) < (↑(L.getD i ev0).attrs.length : Int)) = false) (.head (pt Tryd.f5 0) ({ tmps := [(1, AV.vptr (1000001 : Nat) (3 : Nat) (0 : Nat)), (3, AV.sl none L.length (evsC L) .no), (5, AV.int .i64 (IntKind.i64.wrap ((↑i : Int) + (1 : Int))))], heap := [], tags := [(1000001, { n := (3 : Nat), e := (25 : Nat), sz := (1 : Nat) })] }))))) (by kernel_rfl) (by
    have w2 : IntKind.i64.wrap ((i : Int) + 1) = ((i + 1 : Nat) : Int) := by rw [i64_wrap (by omega) (by omega)]; rfl
    simp only [PT.holdsL, w2, true_implies, Bool.false_eq_true, Bool.true_eq_false, false_implies, true_and, and_true, List.nil_append, Nat.zero_add, Int.toNat_natCast, Int.toNat_zero, Nat.zero_mul]
    repeat' (with_reducible apply And.intro)
    all_goals first | assumption | omega | rfl | exact decide_eq_true (by omega) | exact decide_eq_false (by omega) | ((try simp only [Nat.add_assoc, Nat.reduceAdd, Nat.add_zero]) <;> first | (rw [ats_nth _ _ _ hi (by decide)]; rfl) | (rw [evs_nth _ _ _ hi (by decide)]; rfl) | (rw [ats_nth0 _ _ hi]; rfl) | (rw [evs_nth0 _ _ hi]; rfl)) | (rw [evsC_len]; omega) | (simp only [evsC_len]; omega) | exact HC.eq k (by simp [sKp1, sKp2, sKpe]) | skip)
theorem k11_t {C : Ctx} (hnt : C.nt = Tryd.f5.ntmps) {R : Act → World → Prop} (L : List Ev) (i : Nat) (j : Nat) (hj : j ≤ 1048600) (k : HC Tryd.prog C R (pt Tryd.f5 1) (sKp2 L i (j + 1))) : HC Tryd.prog C R ((pr Tryd.f5 11).tail) (sKp2 L i j) :=
  HC.walk Γ_ok mo_ok (⟨[], [], ([(5, ⟨[1, 3, 5], [], [1000001], [], []⟩), (9, ⟨[1, 3, 5, 6], [], [1000001], [], []⟩)] ++ [(7000007, ⟨[1, 3, 5], [], [1000001], [], []⟩), (7000012, ⟨[1], [], [1000001], [], []⟩), (7000011, ⟨[1, 3, 5, 6], [], [1000001], [], []⟩)]), [], .pure [] (.nilFn)⟩ : Wk) 4000 hnt (T := .head (pt Tryd.f5 1) ({ tmps := [(1, AV.vptr (1000001 : Nat) (3 : Nat) (0 : Nat)), (3, AV.sl none L.length (evsC L) .no), (5, AV.int .i64 (↑i : Int)), (6, AV.int .i64 (IntKind.i64.wrap ((↑j : Int) + (1 : Int))))], heap := [], tags := [(1000001, { n := (3 : Nat), e := (25 : Nat), sz := (1 : Nat) })] })) (by kernel_rfl) (by
    have w2 : IntKind.i64.wrap ((j : Int) + 1) = ((j + 1 : Nat) : Int) := by rw [i64_wrap (by omega) (by omega)]; rfl
    simp only [PT.holdsL, w2, true_implies, Bool.false_eq_true, Bool.true_eq_false, false_implies, true_and, and_true, List.nil_append, Nat.zero_add, Int.toNat_natCast, Int.toNat_zero, Nat.zero_mul]
    repeat' (with_reducible apply And.intro)
    all_goals first | assumption | omega | rfl | exact decide_eq_true (by omega) | exact decide_eq_false (by omega) | ((try simp only [Nat.add_assoc, Nat.reduceAdd, Nat.add_zero]) <;> first | (rw [ats_nth _ _ _ hi (by decide)]; rfl) | (rw [evs_nth _ _ _ hi (by decide)]; rfl) | (rw [ats_nth0 _ _ hi]; rfl) | (rw [evs_nth0 _ _ hi]; rfl)) | (rw [evsC_len]; omega) | (simp only [evsC_len]; omega) | exact HC.eq k (by simp [sKp1, sKp2, sKpe]) | skip)
end Go.Proofs.YteimloiaipiadaaDoor
end

section
set_option linter.unusedVariables false
set_option linter.unusedSimpArgs false
set_option maxRecDepth 100000
namespace Go.Proofs.YteimloiaipiadaaDoor
open Go Go.AX

def recK (gb : Nat) : TagRec := ⟨false, .slice (some ⟨gb, 0, none⟩) 3 3, 3, 25, 1, []⟩
def tagK : List (Nat × Tag) := [(1000001, ⟨3, 25, 1, none⟩)]
/-- The loops' context: what Labels answered may be read; the box is pointed at. -/
def ctxK (w : World) (FN : Nat → Nat → Prop) (gb nt : Nat) : Ctx := ⟨w, ⟨FN, fun _ => none, fun t => if t = 1000001 then some (recK gb) else none⟩, nt, fun _ => False, fun _ _ => rfl, fun i hi => if_neg (by omega)⟩
theorem relK {w : World} {FN : Nat → Nat → Prop} {gb nt : Nat} {tm : List (Nat × AV)} {a : Act} (hd : a.defers = []) (hn : a.tmps.size = nt) (hF : ∀ b o, FN b o → b < w.heap.size) (hs : ∀ i v, AX.look tm i = some v → ∃ x, a.tmps[i]? = some x ∧ Rep w (ctxK w FN gb nt).G0 true v x) :
    RelG (ctxK w FN gb nt) (ctxK w FN gb nt).G0 ⟨tm, [], tagK⟩ a w := by
  refine ⟨hd, hn, hs, ⟨Keep.refl _ _, Env.Le.refl _ _, hF, fun b o h _ => .inl h, fun i b hb => (by simp [AX.look] at hb), fun i _ => rfl, fun i j g h => (by cases h), fun t n ht => ?_, fun t ht => ?_, ?_⟩⟩
  · simp only [tagK, AX.look_cons] at ht
    split at ht
    · rename_i e
      cases ht
      refine ⟨recK gb, if_pos e.symm, ⟨rfl, rfl, rfl, fun _ => ⟨rfl, _, rfl, fun h => (by cases h)⟩, fun h => ?_, fun h => ?_, fun h => ?_, fun h => ?_, fun h => ?_, fun h => ?_, fun b cells h => ?_⟩⟩
      all_goals cases h
    · simp [AX.look] at ht
  · simp only [tagK, AX.look_cons] at ht
    split at ht
    · cases ht
    · rename_i e
      exact if_neg (fun h => e h.symm)
  · intro cells r hc hr
    obtain ⟨m, h1, h2⟩ := hc
    simp [tagK, AX.look_cons, DT, AX.look] at h1
theorem slot1K {w w' : World} {FN : Nat → Nat → Prop} {gb nt : Nat} {G' : Env} {s : AS} {a : Act} (h : RelG (ctxK w FN gb nt) G' s a w') (h1 : AX.look s.tmps 1 = some (.vptr 1000001 3 0)) (h2 : AX.look s.tags 1000001 = some ⟨3, 25, 1, none⟩) : a.tmps[1]? = some (.pointer (some ⟨gb, 0, none⟩)) := by
  obtain ⟨x, hx, hr⟩ := h.slots 1 _ h1
  obtain ⟨r', e1, e2, e3⟩ := h.mem.le.τ 1000001 (recK gb) (by simp [ctxK])
  obtain ⟨r, g1, g2⟩ := h.mem.tags 1000001 _ h2
  rw [e1] at g1
  cases g1
  have hn : r'.n = 3 := g2.hn
  have hv : r'.v = .slice (some ⟨gb, 0, none⟩) 3 3 := e3 (by rw [hn]; rfl)
  cases hr with
  | vptr _ _ _ p r2 q1 q2 q3 =>
    rw [e1] at q1
    cases q1
    obtain ⟨g, m, c, z1, z2⟩ := q3 hn
    rw [hv] at z1
    cases z1
    rw [hx, z2]
theorem sl_tree {w : World} {G : Env} {l : Bool} {nl : Option Bool} {n : Nat} {cells : List AV} {v : Value} (h : Rep w G l (.sl nl n cells .no) v) : Rep w (envF G.F) false (.sl nl n cells .no) v := by
  cases h with
  | sl _ _ _ _ _ A c vs hnl hpos hc hcell hrep hclip hown =>
    exact .sl _ _ _ _ _ A c vs hnl hpos hc hcell (fun j x hx => (hrep j x hx).tree (fun _ _ h => h)) hclip (fun t ht => by cases ht)
/-- A string over a string. -/
theorem strOnly_set {F : Nat → Nat → Prop} {w : World} {g off : Nat} {vs : Array Value} {e : TypeId} (hh : w.heap[g]? = some (.cells vs e (0, 0))) {s t : ByteArray} (hs : w.cell? ⟨g, off, none⟩ = some (.string s)) : StrOnly F w (w.setRow g (vs.toList.take off ++ (Value.string t).cells.toList ++ vs.toList.drop (off + (Value.string t).cells.toList.length)).toArray) := by
  have hc : vs[off]? = some (.string s) := by
    simpa [World.cell?, hh] using hs
  have hlt : off < vs.size := (Array.getElem?_eq_some_iff.1 hc).1
  have hcu : (Value.string t).cells.toList = [.string t] := rfl
  have cell : ∀ o, (w.setRow g (vs.toList.take off ++ (Value.string t).cells.toList ++ vs.toList.drop (off + (Value.string t).cells.toList.length)).toArray).cell? ⟨g, o, none⟩ = if o = off then some (.string t) else vs[o]? := fun o => by
    rw [cell_setRow_same w g o vs _ e (0, 0) hh, List.getElem?_toArray, listSplice_get _ _ _ (by rw [hcu]; simp; omega), hcu]
    by_cases ho : o = off
    · subst ho
      rw [if_pos ⟨Nat.le_refl _, by simp⟩, if_pos rfl]
      simp
    · rw [if_neg (by simp; omega), if_neg ho]
      simp
  have old : ∀ o, w.cell? ⟨g, o, none⟩ = vs[o]? := fun o => by simp [World.cell?, hh]
  refine ⟨fun b o v hF hv hn => ?_, fun b o s' hF hv => ?_⟩
  · by_cases hb : b = g
    · subst hb
      rw [cell]
      by_cases ho : o = off
      · subst ho
        rw [hs] at hv
        cases hv
        exact absurd rfl (hn s)
      · rw [if_neg ho, ← old]; exact hv
    · rw [cell_setRow_other _ _ _ _ hb]; exact hv
  · by_cases hb : b = g
    · subst hb
      rw [cell]
      by_cases ho : o = off
      · rw [if_pos ho]; exact ⟨t, rfl⟩
      · rw [if_neg ho, ← old]; exact ⟨s', hv⟩
    · rw [cell_setRow_other _ _ _ _ hb]; exact ⟨s', hv⟩
end Go.Proofs.YteimloiaipiadaaDoor
end

section
set_option linter.unusedVariables false
set_option linter.unusedSimpArgs false
set_option maxRecDepth 100000
namespace Go.Proofs.YteimloiaipiadaaDoor
open Go Go.AX

def stKA (p : Pth) : AS := ⟨[(1, .ptr 1 0)], [(1, .var true (pthL p))], []⟩

theorem keeps_f (p : Pth) (h9 : Ctr Tryd.prog 9 [] (.bool true)) (h10 : Ctr Tryd.prog 10 [.agg (pthL p)] (.bool false))  : Ctr Tryd.prog 5 [.agg (pthL p)] (.bool true) :=
  Ctr.mk Γ_ok Tryd.func5 (by kernel_rfl) Tryd.call5 [] (by kernel_rfl) (HT.walk Γ_ok mo_ok (⟨[(11, .call [] (.bool true)), (18, .call [] (.bool true)), (15, .call [] (.bool false))], [], hd5 [] [] [] [], [], .pure [] (.bool true)⟩ : Wk) 4000 (T := .ob (Ctr Tryd.prog 9 [] (AV.bool true)) (.ob ((3 : Nat) ≤ (3 : Nat)) (.ob (Ctr Tryd.prog 10 [AV.agg (pthL p)] (AV.bool false)) (.ob (Ctr Tryd.prog 9 [] (AV.bool true)) (.ob (true = true) (.tt)))))) (by kernel_rfl) (by
    simp only [PT.holds, true_implies, Bool.false_eq_true, Bool.true_eq_false, false_implies, true_and, and_true]
    exact ⟨h9, by omega, h10, h9⟩))
theorem ks_t {C : Ctx} (hnt : C.nt = Tryd.f5.ntmps) {R : Act → World → Prop} (p : Pth) (h9 : Ctr Tryd.prog 9 [] (.bool true)) (h10 : Ctr Tryd.prog 10 [.agg (pthL p)] (.bool true)) (k : HC Tryd.prog C R (pr Tryd.f5 3) (stKA p)) : HC Tryd.prog C R (p0 Tryd.f5) (st0 [.agg (pthL p)]) :=
  HC.walk Γ_ok mo_ok (⟨[(11, .call [] (.bool true)), (15, .call [] (.bool true))], [], (hd5 [] [] [] [] ++ [(7000003, ⟨[1], [1], [], [], []⟩)]), [], .pure [] (.nilFn)⟩ : Wk) 4000 hnt (T := .ob (Ctr Tryd.prog 9 [] (AV.bool true)) (.ob ((3 : Nat) ≤ (3 : Nat)) (.ob (Ctr Tryd.prog 10 [AV.agg (pthL p)] (AV.bool true)) (.head (pr Tryd.f5 3) ({ tmps := [(1, AV.ptr 1 0)], heap := [(1, .var true (pthL p))], tags := [] }))))) (by kernel_rfl) (by
    simp only [PT.holdsL, true_implies, Bool.false_eq_true, Bool.true_eq_false, false_implies, true_and, and_true]
    exact ⟨h9, by omega, h10, k⟩)
theorem k12_ht (p : Pth) (L : List Ev) (c : Int) (h10 : Ctr Tryd.prog 10 [.agg (pthL p)] (.bool true)) (h11 : Ctr Tryd.prog 11 [.agg (pthL p)] (.tup [.sl none L.length (evsC L) .no, .int .i64 c])) (h12 : Ctr Tryd.prog 12 [.agg (pthL p)] (.tup [.sl none L.length (evsC L) .no, .int .i64 c])) (h13 : Ctr Tryd.prog 13 [.sl none L.length (evsC L) .no, .sl none L.length (evsC L) .no] (.bool true)) : HT Tryd.prog Tryd.f5.ntmps (pr Tryd.f5 12) (stKA p) (EndsA Γ (.pure [] (.bool true)) Tryd.f5) :=
  HT.walk Γ_ok mo_ok (⟨[(54, .call [] (.tup [.sl none L.length (evsC L) .no, .int .i64 c])), (59, .call [] (.tup [.sl none L.length (evsC L) .no, .int .i64 c])), (64, .call [] (.bool true)), (67, .call [] (.bool true))], [], hd5 [] [] [] [], [], .pure [] (.bool true)⟩ : Wk) 4000 (T := .ob ((3 : Nat) ≤ (3 : Nat)) (.ob (Ctr Tryd.prog 11 [AV.agg (pthL p)] (AV.tup [AV.sl none L.length (evsC L) .no, AV.int .i64 c])) (.ob ((3 : Nat) ≤ (3 : Nat)) (.ob (Ctr Tryd.prog 12 [AV.agg (pthL p)] (AV.tup [AV.sl none L.length (evsC L) .no, AV.int .i64 c])) (.ob (Ctr Tryd.prog 13 [AV.sl none L.length (evsC L) .no, AV.sl none L.length (evsC L) .no] (AV.bool true)) (.ob ((3 : Nat) ≤ (3 : Nat)) (.ob (Ctr Tryd.prog 10 [AV.agg (pthL p)] (AV.bool true)) (.ob (true = true) (.tt))))))))) (by kernel_rfl) (by
    simp only [PT.holds, true_implies, Bool.false_eq_true, Bool.true_eq_false, false_implies, true_and, and_true]
    exact ⟨by omega, h11, by omega, h12, h13, by omega, h10⟩)
end Go.Proofs.YteimloiaipiadaaDoor
end
