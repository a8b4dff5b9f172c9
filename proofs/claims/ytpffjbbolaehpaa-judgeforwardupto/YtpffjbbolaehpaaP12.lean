import Derived.Test.YtpffjbbolaehpaaP11
section
set_option linter.unusedVariables false
set_option linter.unusedSimpArgs false
set_option maxRecDepth 100000
namespace Go.Proofs.Ytpffjbbolaehpaa
open Go Go.AX

def stHs (l : List Int) (n : Int) (i : Nat) : AS := ⟨[(0, .sl none l.length (intsC l) .no), (1, .int .i64 n), (5, .int .i64 i)], [], []⟩
def stSm (a b : List Int) (i : Nat) : AS := ⟨[(0, .sl none a.length (intsC a) .no), (1, .sl none b.length (intsC b) .no), (5, .int .i64 i)], [], []⟩
def stNu (l : List Ev) (ns : List Int) (n : Int) (i : Nat) : AS := ⟨[(1, .int .i64 n), (2, .ptr 2 0), (5, .int .i64 i)], [(2, .var true (wldL l ns))], []⟩

theorem has29_h (l : List Int) (n : Int) (i : Nat) (R : Bool) (hi : i < l.length) (hl : l.length ≤ 1000000) (k : l.getD i 0 ≠ n → HT Try.prog Try.f29.ntmps (pt Try.f29 0) (stHs l n (i + 1)) (EndsA Γ (.pure [] (.bool R)) Try.f29)) (hr : l.getD i 0 = n → R = true) : HT Try.prog Try.f29.ntmps (pt Try.f29 0) (stHs l n i) (EndsA Γ (.pure [] (.bool R)) Try.f29) :=
  HT.walk Γ_ok mo_ok (⟨([(15, .val (.int .i64 (l.getD i 0)))] ++ []), sp29, hd29 [] [] [] [], [], .pure [] (.bool R)⟩ : Wk) 4000 (T := .split (decide ((↑i : Int) < (↑l.length : Int))) (.ob ((0 : Int) ≤ (↑i : Int) ∧ (↑i : Int) < (↑l.length : Int) ∧ (↑i : Int).toNat * (1 : Nat) < (intsC l).length) (.ob ((intsC l)[(↑i : Int).toNat * (1 : Nat)]? = some (AV.int IntKind.i64 (l.getD i (0 : Int)))) (.split (decide (l.getD i (0 : Int) = n)) (.ob (true = R) (.tt)) (.head (pt Try.f29 0) ({ tmps := [((0 : Nat), AV.sl none l.length (intsC l) Own.no), ((1 : Nat), AV.int IntKind.i64 n), ((5 : Nat), AV.int IntKind.i64 (IntKind.i64.wrap ((↑i : Int) + (1 : Int))))], heap := [], tags := [] }))))) (.ob (false = R) (.tt))) (by kernel_rfl) (by
    have w2 : IntKind.i64.wrap ((i : Int) + 1) = ((i + 1 : Nat) : Int) := by rw [i64_wrap (by omega) (by omega)]; rfl
    have h0 : decide ((i : Int) < l.length) = true := by simp; omega
    simp only [PT.holds, w2, h0, Int.toNat_natCast, Nat.mul_one, intsC_len', intsC_nth l i hi, decide_eq_true_eq, decide_eq_false_iff_not, true_implies, Bool.false_eq_true, Bool.true_eq_false, false_implies, true_and, and_true]
    exact ⟨by omega, fun h => (hr h).symm, fun h => k h⟩)
theorem has29_e (l : List Int) (n : Int) (i : Nat) (hi : i = l.length) : HT Try.prog Try.f29.ntmps (pt Try.f29 0) (stHs l n i) (EndsA Γ (.pure [] (.bool false)) Try.f29) :=
  HT.walk Γ_ok mo_ok (⟨([(15, .val (.int .i64 (l.getD i 0)))] ++ []), sp29, hd29 [] [] [] [], [], .pure [] (.bool false)⟩ : Wk) 4000 (T := .split (decide ((↑i : Int) < (↑l.length : Int))) (.ob ((0 : Int) ≤ (↑i : Int) ∧ (↑i : Int) < (↑l.length : Int) ∧ (↑i : Int).toNat * (1 : Nat) < (intsC l).length) (.ob ((intsC l)[(↑i : Int).toNat * (1 : Nat)]? = some (AV.int IntKind.i64 (l.getD i (0 : Int)))) (.split (decide (l.getD i (0 : Int) = n)) (.ob (true = false) (.tt)) (.head (pt Try.f29 0) ({ tmps := [((0 : Nat), AV.sl none l.length (intsC l) Own.no), ((1 : Nat), AV.int IntKind.i64 n), ((5 : Nat), AV.int IntKind.i64 (IntKind.i64.wrap ((↑i : Int) + (1 : Int))))], heap := [], tags := [] }))))) (.ob (false = false) (.tt))) (by kernel_rfl) (by
    have h0 : decide ((i : Int) < l.length) = false := by simp; omega
    simp only [PT.holds, h0, true_implies, Bool.false_eq_true, Bool.true_eq_false, false_implies, true_and, and_true])
theorem has29_l (l : List Int) (n : Int) (hl : l.length ≤ 1000000) : ∀ d i, i + d = l.length → (∀ j, j < i → l.getD j 0 ≠ n) → HT Try.prog Try.f29.ntmps (pt Try.f29 0) (stHs l n i) (EndsA Γ (.pure [] (.bool (decide (n ∈ l)))) Try.f29) := by
  intro d
  induction d with
  | zero =>
    intro i h hj
    have e : decide (n ∈ l) = false := decide_eq_false fun hm => by
      obtain ⟨j, hj1, rfl⟩ := List.getElem_of_mem hm
      exact hj j (by omega) (by rw [List.getD_eq_getElem?_getD, List.getElem?_eq_getElem hj1]; rfl)
    rw [e]
    exact has29_e l n i (by omega)
  | succ d ih =>
    intro i h hj
    refine has29_h l n i _ (by omega) hl (fun hne => ih (i + 1) (by omega) fun j hj' => ?_) (fun he => ?_)
    · rcases Nat.lt_or_eq_of_le (Nat.lt_succ_iff.1 hj') with h1 | h1
      · exact hj j h1
      · rw [h1]; exact hne
    · exact decide_eq_true (he ▸ getD_mem l i 0 (by omega))

theorem has29_ctr (l : List Int) (n : Int) (hl : l.length ≤ 1000000) : Ctr Try.prog 29 [(.sl none l.length (intsC l) .no), .int .i64 n] (.bool (decide (n ∈ l))) :=
  Ctr.mk Γ_ok Try.func29 (by kernel_rfl) Try.call29 [] (by kernel_rfl) (HT.walk Γ_ok mo_ok (⟨[], sp29, hd29 [] [] [] [], [], .pure [] (.bool (decide (n ∈ l)))⟩ : Wk) 4000 (T := .head (pt Try.f29 0) ({ tmps := [((0 : Nat), AV.sl none l.length (intsC l) Own.no), ((1 : Nat), AV.int IntKind.i64 n), ((5 : Nat), AV.int IntKind.i64 (0 : Int))], heap := [], tags := [] })) (by kernel_rfl) (by
    simp only [PT.holds]
    exact has29_l l n hl l.length 0 (Nat.zero_add _) (fun j hj => absurd hj (Nat.not_lt_zero j))))
theorem has21_h (l : List Int) (n : Int) (i : Nat) (R : Bool) (hi : i < l.length) (hl : l.length ≤ 1000000) (k : l.getD i 0 ≠ n → HT Try.prog Try.f21.ntmps (pt Try.f21 0) (stHs l n (i + 1)) (EndsA Γ (.pure [] (.bool R)) Try.f21)) (hr : l.getD i 0 = n → R = true) : HT Try.prog Try.f21.ntmps (pt Try.f21 0) (stHs l n i) (EndsA Γ (.pure [] (.bool R)) Try.f21) :=
  HT.walk Γ_ok mo_ok (⟨([(15, .val (.int .i64 (l.getD i 0)))] ++ []), sp21, hd21 [] [] [] [], [], .pure [] (.bool R)⟩ : Wk) 4000 (T := .split (decide ((↑i : Int) < (↑l.length : Int))) (.ob ((0 : Int) ≤ (↑i : Int) ∧ (↑i : Int) < (↑l.length : Int) ∧ (↑i : Int).toNat * (1 : Nat) < (intsC l).length) (.ob ((intsC l)[(↑i : Int).toNat * (1 : Nat)]? = some (AV.int IntKind.i64 (l.getD i (0 : Int)))) (.split (decide (l.getD i (0 : Int) = n)) (.ob (true = R) (.tt)) (.head (pt Try.f21 0) ({ tmps := [((0 : Nat), AV.sl none l.length (intsC l) Own.no), ((1 : Nat), AV.int IntKind.i64 n), ((5 : Nat), AV.int IntKind.i64 (IntKind.i64.wrap ((↑i : Int) + (1 : Int))))], heap := [], tags := [] }))))) (.ob (false = R) (.tt))) (by kernel_rfl) (by
    have w2 : IntKind.i64.wrap ((i : Int) + 1) = ((i + 1 : Nat) : Int) := by rw [i64_wrap (by omega) (by omega)]; rfl
    have h0 : decide ((i : Int) < l.length) = true := by simp; omega
    simp only [PT.holds, w2, h0, Int.toNat_natCast, Nat.mul_one, intsC_len', intsC_nth l i hi, decide_eq_true_eq, decide_eq_false_iff_not, true_implies, Bool.false_eq_true, Bool.true_eq_false, false_implies, true_and, and_true]
    exact ⟨by omega, fun h => (hr h).symm, fun h => k h⟩)
theorem has21_e (l : List Int) (n : Int) (i : Nat) (hi : i = l.length) : HT Try.prog Try.f21.ntmps (pt Try.f21 0) (stHs l n i) (EndsA Γ (.pure [] (.bool false)) Try.f21) :=
  HT.walk Γ_ok mo_ok (⟨([(15, .val (.int .i64 (l.getD i 0)))] ++ []), sp21, hd21 [] [] [] [], [], .pure [] (.bool false)⟩ : Wk) 4000 (T := .split (decide ((↑i : Int) < (↑l.length : Int))) (.ob ((0 : Int) ≤ (↑i : Int) ∧ (↑i : Int) < (↑l.length : Int) ∧ (↑i : Int).toNat * (1 : Nat) < (intsC l).length) (.ob ((intsC l)[(↑i : Int).toNat * (1 : Nat)]? = some (AV.int IntKind.i64 (l.getD i (0 : Int)))) (.split (decide (l.getD i (0 : Int) = n)) (.ob (true = false) (.tt)) (.head (pt Try.f21 0) ({ tmps := [((0 : Nat), AV.sl none l.length (intsC l) Own.no), ((1 : Nat), AV.int IntKind.i64 n), ((5 : Nat), AV.int IntKind.i64 (IntKind.i64.wrap ((↑i : Int) + (1 : Int))))], heap := [], tags := [] }))))) (.ob (false = false) (.tt))) (by kernel_rfl) (by
    have h0 : decide ((i : Int) < l.length) = false := by simp; omega
    simp only [PT.holds, h0, true_implies, Bool.false_eq_true, Bool.true_eq_false, false_implies, true_and, and_true])
theorem has21_l (l : List Int) (n : Int) (hl : l.length ≤ 1000000) : ∀ d i, i + d = l.length → (∀ j, j < i → l.getD j 0 ≠ n) → HT Try.prog Try.f21.ntmps (pt Try.f21 0) (stHs l n i) (EndsA Γ (.pure [] (.bool (decide (n ∈ l)))) Try.f21) := by
  intro d
  induction d with
  | zero =>
    intro i h hj
    have e : decide (n ∈ l) = false := decide_eq_false fun hm => by
      obtain ⟨j, hj1, rfl⟩ := List.getElem_of_mem hm
      exact hj j (by omega) (by rw [List.getD_eq_getElem?_getD, List.getElem?_eq_getElem hj1]; rfl)
    rw [e]
    exact has21_e l n i (by omega)
  | succ d ih =>
    intro i h hj
    refine has21_h l n i _ (by omega) hl (fun hne => ih (i + 1) (by omega) fun j hj' => ?_) (fun he => ?_)
    · rcases Nat.lt_or_eq_of_le (Nat.lt_succ_iff.1 hj') with h1 | h1
      · exact hj j h1
      · rw [h1]; exact hne
    · exact decide_eq_true (he ▸ getD_mem l i 0 (by omega))

theorem has21_ctr (l : List Int) (n : Int) (hl : l.length ≤ 1000000) : Ctr Try.prog 21 [(.sl none l.length (intsC l) .no), .int .i64 n] (.bool (decide (n ∈ l))) :=
  Ctr.mk Γ_ok Try.func21 (by kernel_rfl) Try.call21 [] (by kernel_rfl) (HT.walk Γ_ok mo_ok (⟨[], sp21, hd21 [] [] [] [], [], .pure [] (.bool (decide (n ∈ l)))⟩ : Wk) 4000 (T := .head (pt Try.f21 0) ({ tmps := [((0 : Nat), AV.sl none l.length (intsC l) Own.no), ((1 : Nat), AV.int IntKind.i64 n), ((5 : Nat), AV.int IntKind.i64 (0 : Int))], heap := [], tags := [] })) (by kernel_rfl) (by
    simp only [PT.holds]
    exact has21_l l n hl l.length 0 (Nat.zero_add _) (fun j hj => absurd hj (Nat.not_lt_zero j))))
theorem same_h (a b : List Int) (i : Nat) (R : Bool) (hab : a.length = b.length) (hN : a.length ≤ 1000000) (hi : i < a.length) (k : a.getD i 0 = b.getD i 0 → HT Try.prog Try.f14.ntmps (pt Try.f14 0) (stSm a b (i + 1)) (EndsA Γ (.pure [] (.bool R)) Try.f14)) (hr : a.getD i 0 ≠ b.getD i 0 → R = false) : HT Try.prog Try.f14.ntmps (pt Try.f14 0) (stSm a b i) (EndsA Γ (.pure [] (.bool R)) Try.f14) :=
  HT.walk Γ_ok mo_ok (⟨([(20, .val (.int .i64 (a.getD i 0))), (24, .val (.int .i64 (b.getD i 0)))] ++ []), sp14, hd14 [] [] [] [], dsp14, .pure [] (.bool R)⟩ : Wk) 4000 (T := .split (decide ((↑i : Int) < (↑a.length : Int))) (.or (.ob ((0 : Int) ≤ (↑i : Int) ∧ (↑i : Int) < (↑a.length : Int) ∧ (↑i : Int).toNat * (1 : Nat) < (intsC a).length) (.ob ((intsC a)[(↑i : Int).toNat * (1 : Nat)]? = some (AV.int IntKind.i64 (a.getD i (0 : Int)))) (.ob ((0 : Int) ≤ (↑i : Int) ∧ (↑i : Int) < (↑b.length : Int) ∧ (↑i : Int).toNat * (1 : Nat) < (intsC b).length) (.ob ((intsC b)[(↑i : Int).toNat * (1 : Nat)]? = some (AV.int IntKind.i64 (b.getD i (0 : Int)))) (.ob ((!decide (a.getD i (0 : Int) = b.getD i (0 : Int))) = true) (.ob (false = R) (.tt))))))) (.ob ((0 : Int) ≤ (↑i : Int) ∧ (↑i : Int) < (↑a.length : Int) ∧ (↑i : Int).toNat * (1 : Nat) < (intsC a).length) (.ob ((intsC a)[(↑i : Int).toNat * (1 : Nat)]? = some (AV.int IntKind.i64 (a.getD i (0 : Int)))) (.ob ((0 : Int) ≤ (↑i : Int) ∧ (↑i : Int) < (↑b.length : Int) ∧ (↑i : Int).toNat * (1 : Nat) < (intsC b).length) (.ob ((intsC b)[(↑i : Int).toNat * (1 : Nat)]? = some (AV.int IntKind.i64 (b.getD i (0 : Int)))) (.ob ((!decide (a.getD i (0 : Int) = b.getD i (0 : Int))) = false) (.head (pt Try.f14 0) ({ tmps := [((0 : Nat), AV.sl none a.length (intsC a) Own.no), ((1 : Nat), AV.sl none b.length (intsC b) Own.no), ((5 : Nat), AV.int IntKind.i64 (IntKind.i64.wrap ((↑i : Int) + (1 : Int))))], heap := [], tags := [] })))))))) (.ob (true = R) (.tt))) (by kernel_rfl) (by
    have w2 : IntKind.i64.wrap ((i : Int) + 1) = ((i + 1 : Nat) : Int) := by rw [i64_wrap (by omega) (by omega)]; rfl
    have h0 : decide ((i : Int) < a.length) = true := by simp; omega
    have hib : i < b.length := by omega
    simp only [PT.holds, w2, h0, Int.toNat_natCast, Nat.mul_one, intsC_len', intsC_nth a i hi, intsC_nth b i hib, true_implies, Bool.false_eq_true, Bool.true_eq_false, false_implies, true_and, and_true]
    by_cases h : a.getD i 0 = b.getD i 0
    · refine .inr ⟨by omega, by omega, ?_, k h⟩
      rw [h]; simp
    · refine .inl ⟨by omega, by omega, ?_, (hr h).symm⟩
      rw [decide_eq_false h]; rfl)
theorem same_e (a b : List Int) (i : Nat) (hi : i = a.length) : HT Try.prog Try.f14.ntmps (pt Try.f14 0) (stSm a b i) (EndsA Γ (.pure [] (.bool true)) Try.f14) :=
  HT.walk Γ_ok mo_ok (⟨([(20, .val (.int .i64 (a.getD i 0))), (24, .val (.int .i64 (b.getD i 0)))] ++ []), sp14, hd14 [] [] [] [], dsp14, .pure [] (.bool true)⟩ : Wk) 4000 (T := .split (decide ((↑i : Int) < (↑a.length : Int))) (.or (.ob ((0 : Int) ≤ (↑i : Int) ∧ (↑i : Int) < (↑a.length : Int) ∧ (↑i : Int).toNat * (1 : Nat) < (intsC a).length) (.ob ((intsC a)[(↑i : Int).toNat * (1 : Nat)]? = some (AV.int IntKind.i64 (a.getD i (0 : Int)))) (.ob ((0 : Int) ≤ (↑i : Int) ∧ (↑i : Int) < (↑b.length : Int) ∧ (↑i : Int).toNat * (1 : Nat) < (intsC b).length) (.ob ((intsC b)[(↑i : Int).toNat * (1 : Nat)]? = some (AV.int IntKind.i64 (b.getD i (0 : Int)))) (.ob ((!decide (a.getD i (0 : Int) = b.getD i (0 : Int))) = true) (.ob (false = true) (.tt))))))) (.ob ((0 : Int) ≤ (↑i : Int) ∧ (↑i : Int) < (↑a.length : Int) ∧ (↑i : Int).toNat * (1 : Nat) < (intsC a).length) (.ob ((intsC a)[(↑i : Int).toNat * (1 : Nat)]? = some (AV.int IntKind.i64 (a.getD i (0 : Int)))) (.ob ((0 : Int) ≤ (↑i : Int) ∧ (↑i : Int) < (↑b.length : Int) ∧ (↑i : Int).toNat * (1 : Nat) < (intsC b).length) (.ob ((intsC b)[(↑i : Int).toNat * (1 : Nat)]? = some (AV.int IntKind.i64 (b.getD i (0 : Int)))) (.ob ((!decide (a.getD i (0 : Int) = b.getD i (0 : Int))) = false) (.head (pt Try.f14 0) ({ tmps := [((0 : Nat), AV.sl none a.length (intsC a) Own.no), ((1 : Nat), AV.sl none b.length (intsC b) Own.no), ((5 : Nat), AV.int IntKind.i64 (IntKind.i64.wrap ((↑i : Int) + (1 : Int))))], heap := [], tags := [] })))))))) (.ob (true = true) (.tt))) (by kernel_rfl) (by
    have h0 : decide ((i : Int) < a.length) = false := by simp; omega
    simp only [PT.holds, h0, true_implies, Bool.false_eq_true, Bool.true_eq_false, false_implies, true_and, and_true])
theorem same_l (a b : List Int) (hab : a.length = b.length) (hN : a.length ≤ 1000000) : ∀ d i, i + d = a.length → (∀ j, j < i → a.getD j 0 = b.getD j 0) → HT Try.prog Try.f14.ntmps (pt Try.f14 0) (stSm a b i) (EndsA Γ (.pure [] (.bool (decide (a = b)))) Try.f14) := by
  intro d
  induction d with
  | zero =>
    intro i h hj
    have e : a = b := ext_getD 0 hab fun j hj' => hj j (by omega)
    have e1 : decide (a = b) = true := by simp [e]
    rw [e1]
    exact same_e a b i (by omega)
  | succ d ih =>
    intro i h hj
    refine same_h a b i _ hab hN (by omega) (fun he => ih (i + 1) (by omega) fun j hj' => ?_) (fun hne => ?_)
    · rcases Nat.lt_or_eq_of_le (Nat.lt_succ_iff.1 hj') with h1 | h1
      · exact hj j h1
      · rw [h1]; exact he
    · exact decide_eq_false fun e => hne (by rw [e])

theorem same_ctr (a b : List Int) (hN : a.length ≤ 1000000) : Ctr Try.prog 14 [(.sl none a.length (intsC a) .no), (.sl none b.length (intsC b) .no)] (.bool (decide (a = b))) :=
  Ctr.mk Γ_ok Try.func14 (by kernel_rfl) Try.call14 [] (by kernel_rfl) (HT.walk Γ_ok mo_ok (⟨[], sp14, hd14 [] [] [] [], dsp14, .pure [] (.bool (decide (a = b)))⟩ : Wk) 4000 (T := .split (!decide ((↑a.length : Int) = (↑b.length : Int))) (.ob (false = decide (a = b)) (.tt)) (.head (pt Try.f14 0) ({ tmps := [((0 : Nat), AV.sl none a.length (intsC a) Own.no), ((1 : Nat), AV.sl none b.length (intsC b) Own.no), ((5 : Nat), AV.int IntKind.i64 (0 : Int))], heap := [], tags := [] }))) (by kernel_rfl) (by
    by_cases hab : a.length = b.length
    · have h0 : (!decide ((a.length : Int) = b.length)) = false := by simp; omega
      simp only [PT.holds, h0, true_implies, Bool.false_eq_true, Bool.true_eq_false, false_implies, true_and, and_true]
      exact same_l a b hab hN a.length 0 (Nat.zero_add _) (fun j hj => absurd hj (Nat.not_lt_zero j))
    · have h0 : (!decide ((a.length : Int) = b.length)) = true := by simp; omega
      have h1 : decide (a = b) = false := decide_eq_false fun e => hab (by rw [e])
      simp only [PT.holds, h0, h1, true_implies, Bool.false_eq_true, Bool.true_eq_false, false_implies, true_and, and_true]))
theorem num_h (l : List Ev) (ns : List Int) (n : Int) (i : Nat) (R : Int) (hi : i < ns.length) (hN : ns.length ≤ 1000000) (k : ns.getD i 0 ≠ n → HT Try.prog Try.f53.ntmps (pt Try.f53 0) (stNu l ns n (i + 1)) (EndsA Γ (.pure [] (.int .i64 R)) Try.f53)) (hr : ns.getD i 0 = n → R = i) : HT Try.prog Try.f53.ntmps (pt Try.f53 0) (stNu l ns n i) (EndsA Γ (.pure [] (.int .i64 R)) Try.f53) :=
  HT.walk Γ_ok mo_ok (⟨([(17, .val (.int .i64 (ns.getD i 0)))] ++ []), sp53, hd53 [] [] [] [], [], .pure [] (.int .i64 R)⟩ : Wk) 4000 (T := .split (decide ((↑i : Int) < (↑ns.length : Int))) (.ob ((0 : Int) ≤ (↑i : Int) ∧ (↑i : Int) < (↑ns.length : Int) ∧ (↑i : Int).toNat * (1 : Nat) < (intsC ns).length) (.ob ((intsC ns)[(↑i : Int).toNat * (1 : Nat)]? = some (AV.int IntKind.i64 (ns.getD i (0 : Int)))) (.split (decide (ns.getD i (0 : Int) = n)) (.ob ((↑i : Int) = R) (.tt)) (.head (pt Try.f53 0) ({ tmps := [((1 : Nat), AV.int IntKind.i64 n), ((2 : Nat), AV.ptr (2 : Nat) (0 : Nat)), ((5 : Nat), AV.int IntKind.i64 (IntKind.i64.wrap ((↑i : Int) + (1 : Int))))], heap := [((2 : Nat), Blk.var true [AV.sl none l.length (evsC l) Own.no, AV.sl none ns.length (intsC ns) Own.no])], tags := [] }))))) (.ob ((-1 : Int) = R) (.tt))) (by kernel_rfl) (by
    have w2 : IntKind.i64.wrap ((i : Int) + 1) = ((i + 1 : Nat) : Int) := by rw [i64_wrap (by omega) (by omega)]; rfl
    have h0 : decide ((i : Int) < ns.length) = true := by simp; omega
    simp only [PT.holds, w2, h0, Int.toNat_natCast, Nat.mul_one, intsC_len', intsC_nth ns i hi, decide_eq_true_eq, decide_eq_false_iff_not, true_implies, Bool.false_eq_true, Bool.true_eq_false, false_implies, true_and, and_true]
    exact ⟨by omega, fun h => (hr h).symm, fun h => k h⟩)
theorem num_e (l : List Ev) (ns : List Int) (n : Int) (i : Nat) (hi : i = ns.length) : HT Try.prog Try.f53.ntmps (pt Try.f53 0) (stNu l ns n i) (EndsA Γ (.pure [] (.int .i64 (-1))) Try.f53) :=
  HT.walk Γ_ok mo_ok (⟨([(17, .val (.int .i64 (ns.getD i 0)))] ++ []), sp53, hd53 [] [] [] [], [], .pure [] (.int .i64 (-1))⟩ : Wk) 4000 (T := .split (decide ((↑i : Int) < (↑ns.length : Int))) (.ob ((0 : Int) ≤ (↑i : Int) ∧ (↑i : Int) < (↑ns.length : Int) ∧ (↑i : Int).toNat * (1 : Nat) < (intsC ns).length) (.ob ((intsC ns)[(↑i : Int).toNat * (1 : Nat)]? = some (AV.int IntKind.i64 (ns.getD i (0 : Int)))) (.split (decide (ns.getD i (0 : Int) = n)) (.ob ((↑i : Int) = (-1 : Int)) (.tt)) (.head (pt Try.f53 0) ({ tmps := [((1 : Nat), AV.int IntKind.i64 n), ((2 : Nat), AV.ptr (2 : Nat) (0 : Nat)), ((5 : Nat), AV.int IntKind.i64 (IntKind.i64.wrap ((↑i : Int) + (1 : Int))))], heap := [((2 : Nat), Blk.var true [AV.sl none l.length (evsC l) Own.no, AV.sl none ns.length (intsC ns) Own.no])], tags := [] }))))) (.ob ((-1 : Int) = (-1 : Int)) (.tt))) (by kernel_rfl) (by
    have h0 : decide ((i : Int) < ns.length) = false := by simp; omega
    simp only [PT.holds, h0, true_implies, Bool.false_eq_true, Bool.true_eq_false, false_implies, true_and, and_true])
end Go.Proofs.Ytpffjbbolaehpaa
end

section
set_option linter.unusedVariables false
set_option linter.unusedSimpArgs false
set_option maxRecDepth 100000
namespace Go.Proofs.Ytpffjbbolaehpaa
open Go Go.AX

/-! ### Select, From, Holds of whatever tree -/
theorem select_all (t : Tr) (ht : t.okA) (hN : cntT t ≤ 1000000) (p : Pth) (hr : p.r) (hok : p.ok) (n : Int) : Ctr Try.prog 16 [.agg (pthL p), .agg (trL t), .int .i64 n] (.sl none (fromJ (visitS t (-1) pln0) p n).length (intsC (fromJ (visitS t (-1) pln0) p n)) .no) := by
  obtain ⟨N, hP, _, _⟩ := make_pw t ht hN
  exact from_p _ p t n N hP _ rfl _ rfl (make_ex t hN _ rfl) (fun s hs => leads_ctr _ N hP p hr hok s hs)
theorem holds_all (t : Tr) (ht : t.okA) (hN : cntT t ≤ 1000000) (f : Flt) (hr : f.r) (hok : f.ok) (n : Int) : Ctr Try.prog 17 [.agg (fltL f), .agg (trL t), .int .i64 n] (.bool (decide (0 ≤ n) && (decide (n < (visitS t (-1) pln0).tr.length) && holdsJ (visitS t (-1) pln0) f n.toNat))) := by
  obtain ⟨N, hP, _, _⟩ := make_pw t ht hN
  refine holdsf_ctr _ f t n _ (make_ex t hN _ rfl) (fun h1 h2 => ?_)
  have h3 := holds_ctr _ N hP f hr hok n.toNat (by have := hP.tr; omega)
  have e : ((n.toNat : Nat) : Int) = n := by omega
  rw [e] at h3
  exact h3
def pA : Pth := .mk 4 [.mk 2 [] [], .mk 6 [.mk 3 [] []] []] []
def tA : Tr := .mk false ⟨#[]⟩ ⟨⟨#[]⟩, ⟨#[97]⟩⟩ [] [.mk false ⟨#[]⟩ ⟨⟨#[]⟩, ⟨#[98]⟩⟩ [] [], .mk true ⟨#[116]⟩ nm0 [] []]
def fA : Flt := .mk 4 ⟨⟨#[]⟩, ⟨#[98]⟩⟩ ⟨#[]⟩ [] []
def fB : Flt := .mk 1 nm0 ⟨#[]⟩ [] []
theorem tA_ok : tA.okA := by simp [tA, Tr.okA, okAs]
theorem pA_ok : pA.ok := by simp [pA, Pth.ok, oksP, oksF]
theorem fA_ok : fA.ok := by simp [fA, Flt.ok, oksP, oksF, Nm.ok, ByteArray.size]
theorem fB_ok : fB.ok := by simp [fB, Flt.ok, oksP, oksF, Nm.ok, nm0, ByteArray.size]
theorem fA_r : fA.r := .mk _ ⟨by decide, by decide, by decide, by decide, by decide, by decide⟩ (fun q hq => by simp [fA, Flt.sub] at hq) (fun q hq => by simp [fA, Flt.way] at hq)
theorem fB_r : fB.r := .mk _ ⟨by decide, by decide, by decide, by decide, by decide, by decide⟩ (fun q hq => by simp [fB, Flt.sub] at hq) (fun q hq => by simp [fB, Flt.way] at hq)
theorem leaf_r (op : Int) (h : op = 2 ∨ op = 3) : (Pth.mk op [] []).r := .mk _ ⟨by simp only [Pth.op]; omega, by simp only [Pth.op]; omega, by simp only [Pth.op]; omega, fun _ => rfl, by simp [Pth.op, Pth.test]; omega, by simp [Pth.test]⟩ (fun q hq => by simp [Pth.sub] at hq) (fun q hq => by simp [Pth.test] at hq)
theorem pA_r : pA.r := by
  refine .mk _ ⟨by decide, by decide, by decide, by decide, by decide, by decide⟩ (fun q hq => ?_) (fun q hq => by simp [pA, Pth.test] at hq)
  simp only [pA, Pth.sub, List.mem_cons, List.not_mem_nil, or_false] at hq
  rcases hq with rfl | rfl
  · exact leaf_r 2 (.inl rfl)
  · refine .mk _ ⟨by decide, by decide, by decide, by decide, by decide, by decide⟩ (fun q hq => ?_) (fun q hq => by simp [Pth.test] at hq)
    simp only [Pth.sub, List.mem_cons, List.not_mem_nil, or_false] at hq
    subst hq
    exact leaf_r 3 (.inr rfl)
theorem fromA : fromJ (visitS tA (-1) pln0) pA 0 = [1, 2] := by rfl

theorem awake_p (h15 : Ctr Try.prog 15 [.agg (pthL pA), .agg (trL tA)] (.sl none 2 [.int .i64 1, .int .i64 2] .no)) (h14 : Ctr Try.prog 14 [.sl none 2 [.int .i64 1, .int .i64 2] .no, .sl none 2 [.int .i64 1, .int .i64 2] .no] (.bool true)) (h1 : Ctr Try.prog 17 [.agg (fltL fA), .agg (trL tA), .int .i64 1] (.bool true)) (h2 : Ctr Try.prog 17 [.agg (fltL fB), .agg (trL tA), .int .i64 3] (.bool false)) : Ctr Try.prog 8 [] (.bool true) :=
  Ctr.mk Γ_ok Try.func8 (by kernel_rfl) Try.call8 [] (by kernel_rfl) (HT.walk Γ_ok mo_ok (⟨([(17, .call [] (.sl none 2 [.int .i64 1, .int .i64 2] .no)), (19, .call [] (.bool true)), (24, .call [] (.bool true)), (29, .call [] (.bool false))] ++ []), sp8, [], [], .pure [] (.bool true)⟩ : Wk) 4000 (T := .ob ((3 : Nat) ≤ (3 : Nat)) (.ob ((6 : Nat) ≤ (6 : Nat)) (.ob (Ctr Try.prog (15 : Nat) [AV.agg [AV.int IntKind.i64 (4 : Int), AV.sl (some false) (2 : Nat) [AV.int IntKind.i64 (2 : Int), AV.sl none (0 : Nat) [] Own.no, AV.sl none (0 : Nat) [] Own.no, AV.int IntKind.i64 (6 : Int), AV.sl none (1 : Nat) [AV.int IntKind.i64 (3 : Int), AV.sl none (0 : Nat) [] Own.no, AV.sl none (0 : Nat) [] Own.no] Own.no, AV.sl none (0 : Nat) [] Own.no] Own.clip, AV.sl (some true) (0 : Nat) [] Own.clip], AV.agg [AV.bool false, AV.str (ByteArray.mk #[]), AV.str (ByteArray.mk #[]), AV.str (ByteArray.mk #[(97 : UInt8)]), AV.sl (some true) (0 : Nat) [] Own.clip, AV.sl (some false) (2 : Nat) [AV.bool false, AV.str (ByteArray.mk #[]), AV.str (ByteArray.mk #[]), AV.str (ByteArray.mk #[(98 : UInt8)]), AV.sl none (0 : Nat) [] Own.no, AV.sl none (0 : Nat) [] Own.no, AV.bool true, AV.str (ByteArray.mk #[(116 : UInt8)]), AV.str (ByteArray.mk #[]), AV.str (ByteArray.mk #[]), AV.sl none (0 : Nat) [] Own.no, AV.sl none (0 : Nat) [] Own.no] Own.clip]] (AV.sl none (2 : Nat) [AV.int IntKind.i64 (1 : Int), AV.int IntKind.i64 (2 : Int)] Own.no)) (.ob (Ctr Try.prog (14 : Nat) [AV.sl none (2 : Nat) [AV.int IntKind.i64 (1 : Int), AV.int IntKind.i64 (2 : Int)] Own.no, AV.sl (some false) (2 : Nat) [AV.int IntKind.i64 (1 : Int), AV.int IntKind.i64 (2 : Int)] Own.clip] (AV.bool true)) (.split (true) (.ob ((6 : Nat) ≤ (6 : Nat)) (.ob (Ctr Try.prog (17 : Nat) [AV.agg [AV.int IntKind.i64 (4 : Int), AV.str (ByteArray.mk #[]), AV.str (ByteArray.mk #[(98 : UInt8)]), AV.str (ByteArray.mk #[]), AV.sl (some true) (0 : Nat) [] Own.clip, AV.sl (some true) (0 : Nat) [] Own.clip], AV.agg [AV.bool false, AV.str (ByteArray.mk #[]), AV.str (ByteArray.mk #[]), AV.str (ByteArray.mk #[(97 : UInt8)]), AV.sl (some true) (0 : Nat) [] Own.clip, AV.sl (some false) (2 : Nat) [AV.bool false, AV.str (ByteArray.mk #[]), AV.str (ByteArray.mk #[]), AV.str (ByteArray.mk #[(98 : UInt8)]), AV.sl none (0 : Nat) [] Own.no, AV.sl none (0 : Nat) [] Own.no, AV.bool true, AV.str (ByteArray.mk #[(116 : UInt8)]), AV.str (ByteArray.mk #[]), AV.str (ByteArray.mk #[]), AV.sl none (0 : Nat) [] Own.no, AV.sl none (0 : Nat) [] Own.no] Own.clip], AV.int IntKind.i64 (1 : Int)] (AV.bool true)) (.split (true) (.ob ((6 : Nat) ≤ (6 : Nat)) (.ob (Ctr Try.prog (17 : Nat) [AV.agg [AV.int IntKind.i64 (1 : Int), AV.str (ByteArray.mk #[]), AV.str (ByteArray.mk #[]), AV.str (ByteArray.mk #[]), AV.sl (some true) (0 : Nat) [] Own.clip, AV.sl (some true) (0 : Nat) [] Own.clip], AV.agg [AV.bool false, AV.str (ByteArray.mk #[]), AV.str (ByteArray.mk #[]), AV.str (ByteArray.mk #[(97 : UInt8)]), AV.sl (some true) (0 : Nat) [] Own.clip, AV.sl (some false) (2 : Nat) [AV.bool false, AV.str (ByteArray.mk #[]), AV.str (ByteArray.mk #[]), AV.str (ByteArray.mk #[(98 : UInt8)]), AV.sl none (0 : Nat) [] Own.no, AV.sl none (0 : Nat) [] Own.no, AV.bool true, AV.str (ByteArray.mk #[(116 : UInt8)]), AV.str (ByteArray.mk #[]), AV.str (ByteArray.mk #[]), AV.sl none (0 : Nat) [] Own.no, AV.sl none (0 : Nat) [] Own.no] Own.clip], AV.int IntKind.i64 (3 : Int)] (AV.bool false)) (.ob (true = true) (.tt)))) (.ob (false = true) (.tt))))) (.ob (false = true) (.tt))))))) (by kernel_rfl) (by
    simp only [PT.holds, true_implies, Bool.false_eq_true, Bool.true_eq_false, false_implies, true_and, and_true]
    have ar : True := trivial
    refine ⟨by omega, by omega, h15.args rfl ?_, h14.args rfl ?_, by omega, h1.args rfl ?_, by omega, h2.args rfl ?_⟩
    all_goals (repeat' first | exact rfl | refine And.intro ?_ ?_)))
theorem awake_ctr : Ctr Try.prog 8 [] (.bool true) := by
  have h15 := select_ctr pA tA _ (select_all tA tA_ok (by decide) pA pA_r pA_ok 0)
  rw [fromA] at h15
  have h14 := same_ctr [1, 2] [1, 2] (by decide)
  have h1 := holds_all tA tA_ok (by decide) fA fA_r fA_ok 1
  have h2 := holds_all tA tA_ok (by decide) fB fB_r fB_ok 3
  exact awake_p h15 h14 h1 h2

end Go.Proofs.Ytpffjbbolaehpaa
end

section
set_option linter.unusedVariables false
set_option linter.unusedSimpArgs false
set_option maxRecDepth 100000
namespace Go.Proofs.Ytpffjbbolaehpaa
open Go Go.AX

def stFw (p : Pth) (m k : Int) (out : List Int) (i : Nat) : AS := ⟨[(7, .int .i64 m), (8, .int .i64 k), (9, .sl none out.length (intsC out) .no), (10, .int .i64 i)], [(3, .var true (pthL p))], []⟩

theorem fw_h (p : Pth) (m k : Int) (out : List Int) (i : Nat) (hi : i < out.length) (hl : out.length ≤ 1000000) (h1 : k ≤ out.getD i 0 ∧ out.getD i 0 < m) (h2 : 0 < i → out.getD (i - 1) 0 < out.getD i 0) (kk : HT Try.prog Try.f5.ntmps (pt Try.f5 0) (stFw p m k out (i + 1)) (EndsA Γ (.pure [] (.bool true)) Try.f5)) : HT Try.prog Try.f5.ntmps (pt Try.f5 0) (stFw p m k out i) (EndsA Γ (.pure [] (.bool true)) Try.f5) :=
  HT.walk Γ_ok mo_ok (⟨([(46, .val (.int .i64 (out.getD i 0))), (53, .val (.int .i64 (out.getD i 0))), (65, .val (.int .i64 (out.getD (i - 1) 0))), (69, .val (.int .i64 (out.getD i 0)))] ++ []), sp5, hd5 [] [] [] [], [(9, [[(48, false), (55, false), (59, true), (70, false)], [(48, false), (55, false), (59, false)]])], .pure [] (.bool true)⟩ : Wk) 4000 (T := .split (decide ((↑i : Int) < (↑out.length : Int))) (.or (.ob ((0 : Int) ≤ (↑i : Int) ∧ (↑i : Int) < (↑out.length : Int) ∧ (↑i : Int).toNat * (1 : Nat) < (intsC out).length) (.ob ((intsC out)[(↑i : Int).toNat * (1 : Nat)]? = some (AV.int IntKind.i64 (out.getD i (0 : Int)))) (.ob (decide (out.getD i (0 : Int) < k) = false) (.ob ((0 : Int) ≤ (↑i : Int) ∧ (↑i : Int) < (↑out.length : Int) ∧ (↑i : Int).toNat * (1 : Nat) < (intsC out).length) (.ob ((intsC out)[(↑i : Int).toNat * (1 : Nat)]? = some (AV.int IntKind.i64 (out.getD i (0 : Int)))) (.ob (decide (m ≤ out.getD i (0 : Int)) = false) (.ob (decide ((0 : Int) < (↑i : Int)) = true) (.ob ((0 : Int) ≤ IntKind.i64.wrap ((↑i : Int) - (1 : Int)) ∧ IntKind.i64.wrap ((↑i : Int) - (1 : Int)) < (↑out.length : Int) ∧ (IntKind.i64.wrap ((↑i : Int) - (1 : Int))).toNat * (1 : Nat) < (intsC out).length) (.ob ((intsC out)[(IntKind.i64.wrap ((↑i : Int) - (1 : Int))).toNat * (1 : Nat)]? = some (AV.int IntKind.i64 (out.getD (i - (1 : Nat)) (0 : Int)))) (.ob ((0 : Int) ≤ (↑i : Int) ∧ (↑i : Int) < (↑out.length : Int) ∧ (↑i : Int).toNat * (1 : Nat) < (intsC out).length) (.ob ((intsC out)[(↑i : Int).toNat * (1 : Nat)]? = some (AV.int IntKind.i64 (out.getD i (0 : Int)))) (.ob (decide (out.getD i (0 : Int) ≤ out.getD (i - (1 : Nat)) (0 : Int)) = false) (.head (pt Try.f5 0) ({ tmps := [((7 : Nat), AV.int IntKind.i64 m), ((8 : Nat), AV.int IntKind.i64 k), ((9 : Nat), AV.sl none out.length (intsC out) Own.no), ((10 : Nat), AV.int IntKind.i64 (IntKind.i64.wrap ((↑i : Int) + (1 : Int))))], heap := [((3 : Nat), Blk.var true [AV.int IntKind.i64 p.op, AV.sl none p.sub.length (pthsC p.sub) Own.no, AV.sl none p.test.length (fltsC p.test) Own.no])], tags := [] })))))))))))))) (.ob ((0 : Int) ≤ (↑i : Int) ∧ (↑i : Int) < (↑out.length : Int) ∧ (↑i : Int).toNat * (1 : Nat) < (intsC out).length) (.ob ((intsC out)[(↑i : Int).toNat * (1 : Nat)]? = some (AV.int IntKind.i64 (out.getD i (0 : Int)))) (.ob (decide (out.getD i (0 : Int) < k) = false) (.ob ((0 : Int) ≤ (↑i : Int) ∧ (↑i : Int) < (↑out.length : Int) ∧ (↑i : Int).toNat * (1 : Nat) < (intsC out).length) (.ob ((intsC out)[(↑i : Int).toNat * (1 : Nat)]? = some (AV.int IntKind.i64 (out.getD i (0 : Int)))) (.ob (decide (m ≤ out.getD i (0 : Int)) = false) (.ob (decide ((0 : Int) < (↑i : Int)) = false) (.head (pt Try.f5 0) ({ tmps := [((7 : Nat), AV.int IntKind.i64 m), ((8 : Nat), AV.int IntKind.i64 k), ((9 : Nat), AV.sl none out.length (intsC out) Own.no), ((10 : Nat), AV.int IntKind.i64 (IntKind.i64.wrap ((↑i : Int) + (1 : Int))))], heap := [((3 : Nat), Blk.var true [AV.int IntKind.i64 p.op, AV.sl none p.sub.length (pthsC p.sub) Own.no, AV.sl none p.test.length (fltsC p.test) Own.no])], tags := [] })))))))))) (.ob (true = true) (.tt))) (by kernel_rfl) (by
    have w2 : IntKind.i64.wrap ((i : Int) + 1) = ((i + 1 : Nat) : Int) := by rw [i64_wrap (by omega) (by omega)]; rfl
    have w3 : IntKind.i64.wrap ((i : Int) - 1) = (i : Int) - 1 := i64_wrap (by omega) (by omega)
    have w7 : ((i : Int) - 1).toNat = i - 1 := by omega
    have hi1 : i - 1 < out.length := by omega
    have h0 : decide ((i : Int) < out.length) = true := by simp; omega
    simp only [PT.holds, w2, w3, w7, h0, Int.toNat_natCast, Nat.mul_one, intsC_len', intsC_nth out i hi, intsC_nth out (i - 1) hi1, true_implies, Bool.false_eq_true, Bool.true_eq_false, false_implies, true_and, and_true]
    have a1 : decide (out.getD i 0 < k) = false := decide_eq_false (by omega)
    have a2 : decide (m ≤ out.getD i 0) = false := decide_eq_false (by omega)
    by_cases h : 0 < i
    · have a3 := h2 h
      have a4 : decide (out.getD i 0 ≤ out.getD (i - 1) 0) = false := decide_eq_false (by omega)
      have a5 : decide ((0 : Int) < (i : Int)) = true := decide_eq_true (by omega)
      exact .inl ⟨by omega, a1, by omega, a2, a5, by omega, by omega, a4, kk⟩
    · have a5 : decide ((0 : Int) < (i : Int)) = false := decide_eq_false (by omega)
      exact .inr ⟨by omega, a1, by omega, a2, a5, kk⟩)
theorem fw_e (p : Pth) (m k : Int) (out : List Int) (i : Nat) (hi : i = out.length) : HT Try.prog Try.f5.ntmps (pt Try.f5 0) (stFw p m k out i) (EndsA Γ (.pure [] (.bool true)) Try.f5) :=
  HT.walk Γ_ok mo_ok (⟨([(46, .val (.int .i64 (out.getD i 0))), (53, .val (.int .i64 (out.getD i 0))), (65, .val (.int .i64 (out.getD (i - 1) 0))), (69, .val (.int .i64 (out.getD i 0)))] ++ []), sp5, hd5 [] [] [] [], [(9, [[(48, false), (55, false), (59, true), (70, false)], [(48, false), (55, false), (59, false)]])], .pure [] (.bool true)⟩ : Wk) 4000 (T := .split (decide ((↑i : Int) < (↑out.length : Int))) (.or (.ob ((0 : Int) ≤ (↑i : Int) ∧ (↑i : Int) < (↑out.length : Int) ∧ (↑i : Int).toNat * (1 : Nat) < (intsC out).length) (.ob ((intsC out)[(↑i : Int).toNat * (1 : Nat)]? = some (AV.int IntKind.i64 (out.getD i (0 : Int)))) (.ob (decide (out.getD i (0 : Int) < k) = false) (.ob ((0 : Int) ≤ (↑i : Int) ∧ (↑i : Int) < (↑out.length : Int) ∧ (↑i : Int).toNat * (1 : Nat) < (intsC out).length) (.ob ((intsC out)[(↑i : Int).toNat * (1 : Nat)]? = some (AV.int IntKind.i64 (out.getD i (0 : Int)))) (.ob (decide (m ≤ out.getD i (0 : Int)) = false) (.ob (decide ((0 : Int) < (↑i : Int)) = true) (.ob ((0 : Int) ≤ IntKind.i64.wrap ((↑i : Int) - (1 : Int)) ∧ IntKind.i64.wrap ((↑i : Int) - (1 : Int)) < (↑out.length : Int) ∧ (IntKind.i64.wrap ((↑i : Int) - (1 : Int))).toNat * (1 : Nat) < (intsC out).length) (.ob ((intsC out)[(IntKind.i64.wrap ((↑i : Int) - (1 : Int))).toNat * (1 : Nat)]? = some (AV.int IntKind.i64 (out.getD (i - (1 : Nat)) (0 : Int)))) (.ob ((0 : Int) ≤ (↑i : Int) ∧ (↑i : Int) < (↑out.length : Int) ∧ (↑i : Int).toNat * (1 : Nat) < (intsC out).length) (.ob ((intsC out)[(↑i : Int).toNat * (1 : Nat)]? = some (AV.int IntKind.i64 (out.getD i (0 : Int)))) (.ob (decide (out.getD i (0 : Int) ≤ out.getD (i - (1 : Nat)) (0 : Int)) = false) (.head (pt Try.f5 0) ({ tmps := [((7 : Nat), AV.int IntKind.i64 m), ((8 : Nat), AV.int IntKind.i64 k), ((9 : Nat), AV.sl none out.length (intsC out) Own.no), ((10 : Nat), AV.int IntKind.i64 (IntKind.i64.wrap ((↑i : Int) + (1 : Int))))], heap := [((3 : Nat), Blk.var true [AV.int IntKind.i64 p.op, AV.sl none p.sub.length (pthsC p.sub) Own.no, AV.sl none p.test.length (fltsC p.test) Own.no])], tags := [] })))))))))))))) (.ob ((0 : Int) ≤ (↑i : Int) ∧ (↑i : Int) < (↑out.length : Int) ∧ (↑i : Int).toNat * (1 : Nat) < (intsC out).length) (.ob ((intsC out)[(↑i : Int).toNat * (1 : Nat)]? = some (AV.int IntKind.i64 (out.getD i (0 : Int)))) (.ob (decide (out.getD i (0 : Int) < k) = false) (.ob ((0 : Int) ≤ (↑i : Int) ∧ (↑i : Int) < (↑out.length : Int) ∧ (↑i : Int).toNat * (1 : Nat) < (intsC out).length) (.ob ((intsC out)[(↑i : Int).toNat * (1 : Nat)]? = some (AV.int IntKind.i64 (out.getD i (0 : Int)))) (.ob (decide (m ≤ out.getD i (0 : Int)) = false) (.ob (decide ((0 : Int) < (↑i : Int)) = false) (.head (pt Try.f5 0) ({ tmps := [((7 : Nat), AV.int IntKind.i64 m), ((8 : Nat), AV.int IntKind.i64 k), ((9 : Nat), AV.sl none out.length (intsC out) Own.no), ((10 : Nat), AV.int IntKind.i64 (IntKind.i64.wrap ((↑i : Int) + (1 : Int))))], heap := [((3 : Nat), Blk.var true [AV.int IntKind.i64 p.op, AV.sl none p.sub.length (pthsC p.sub) Own.no, AV.sl none p.test.length (fltsC p.test) Own.no])], tags := [] })))))))))) (.ob (true = true) (.tt))) (by kernel_rfl) (by
    have h0 : decide ((i : Int) < out.length) = false := by simp; omega
    simp only [PT.holds, h0, true_implies, Bool.false_eq_true, Bool.true_eq_false, false_implies, true_and, and_true])
theorem fw_p (p : Pth) (l : List Ev) (n : Int) (T : Tr) (b1 b2 : Bool) (out : List Int) (h9 : Ctr Try.prog 9 [.agg (pthL p)] (.bool b1)) (h10 : Ctr Try.prog 10 [.sl none l.length (evsC l) .no] (.bool b2)) (hm : b2 = true → (nodJ l).length ≠ 0 ∧ Ctr Try.prog 11 [.sl none l.length (evsC l) .no] (.agg (wldL l (nodJ l))) ∧ Ctr Try.prog 12 [.sl none l.length (evsC l) .no, .int .i64 0] (.agg (trL T))) (hc : b1 = true → b2 = true → Ctr Try.prog 16 [.agg (pthL p), .agg (trL T), .int .i64 ((IntKind.i64.wrap n).tmod (nodJ l).length)] (.sl none out.length (intsC out) .no) ∧ HT Try.prog Try.f5.ntmps (pt Try.f5 0) (stFw p (nodJ l).length ((IntKind.i64.wrap n).tmod (nodJ l).length) out 0) (EndsA Γ (.pure [] (.bool true)) Try.f5)) : Ctr Try.prog 5 [.agg (pthL p), .sl none l.length (evsC l) .no, .int .u8 n] (.bool true) :=
  Ctr.mk Γ_ok Try.func5 (by kernel_rfl) Try.call5 [] (by kernel_rfl) (HT.walk Γ_ok mo_ok (⟨([(11, .call [] (.bool true)), (15, .call [] (.bool b1)), (20, .call [] (.bool b2)), (23, .call [] (.bool true)), (25, .call [] (.agg (wldL l (nodJ l)))), (34, .call [] (.agg (trL T))), (36, .call [] (.sl none out.length (intsC out) .no))] ++ []), sp5, hd5 [] [] [] [], dsp5, .pure [] (.bool true)⟩ : Wk) 4000 (T := .ob (Ctr Try.prog (8 : Nat) [] (AV.bool true)) (.split (true) (.ob ((3 : Nat) ≤ (3 : Nat)) (.ob (Ctr Try.prog (9 : Nat) [AV.agg [AV.int IntKind.i64 p.op, AV.sl none p.sub.length (pthsC p.sub) Own.no, AV.sl none p.test.length (fltsC p.test) Own.no]] (AV.bool b1)) (.split (b1) (.ob (Ctr Try.prog (10 : Nat) [AV.sl none l.length (evsC l) Own.no] (AV.bool b2)) (.split (b2) (.ob (Ctr Try.prog (11 : Nat) [AV.sl none l.length (evsC l) Own.no] (AV.agg [AV.sl none l.length (evsC l) Own.no, AV.sl none (nodJ l).length (intsC (nodJ l)) Own.no])) (.ob ((↑(nodJ l).length : Int) ≠ (0 : Int)) (.ob ((3 : Nat) ≤ (3 : Nat)) (.ob (Ctr Try.prog (12 : Nat) [AV.sl none l.length (evsC l) Own.no, AV.int IntKind.i64 (0 : Int)] (AV.agg [AV.bool T.isText, AV.str T.text, AV.str T.nm.sp, AV.str T.nm.lo, AV.sl none T.attrs.length (atsC T.attrs) Own.no, AV.sl none T.kids.length (trsC T.kids) Own.no])) (.ob (Ctr Try.prog (16 : Nat) [AV.agg [AV.int IntKind.i64 p.op, AV.sl none p.sub.length (pthsC p.sub) Own.no, AV.sl none p.test.length (fltsC p.test) Own.no], AV.agg [AV.bool T.isText, AV.str T.text, AV.str T.nm.sp, AV.str T.nm.lo, AV.sl none T.attrs.length (atsC T.attrs) Own.no, AV.sl none T.kids.length (trsC T.kids) Own.no], AV.int IntKind.i64 ((IntKind.i64.wrap n).tmod (↑(nodJ l).length : Int))] (AV.sl none out.length (intsC out) Own.no)) (.head (pt Try.f5 0) ({ tmps := [((7 : Nat), AV.int IntKind.i64 (↑(nodJ l).length : Int)), ((8 : Nat), AV.int IntKind.i64 ((IntKind.i64.wrap n).tmod (↑(nodJ l).length : Int))), ((9 : Nat), AV.sl none out.length (intsC out) Own.no), ((10 : Nat), AV.int IntKind.i64 (0 : Int))], heap := [((3 : Nat), Blk.var true [AV.int IntKind.i64 p.op, AV.sl none p.sub.length (pthsC p.sub) Own.no, AV.sl none p.test.length (fltsC p.test) Own.no])], tags := [] }))))))) (.ob (Ctr Try.prog (8 : Nat) [] (AV.bool true)) (.ob (true = true) (.tt))))) (.ob (Ctr Try.prog (8 : Nat) [] (AV.bool true)) (.ob (true = true) (.tt)))))) (.ob (Ctr Try.prog (8 : Nat) [] (AV.bool true)) (.ob (true = true) (.tt))))) (by kernel_rfl) (by
    simp only [PT.holds, true_implies, Bool.false_eq_true, Bool.true_eq_false, false_implies, true_and, and_true]
    refine ⟨awake_ctr, by omega, h9, fun e1 => ⟨h10, fun e2 => ?_, fun _ => awake_ctr⟩, fun _ => awake_ctr⟩
    obtain ⟨m0, m1, m2⟩ := hm e2
    obtain ⟨c1, c2⟩ := hc e1 e2
    exact ⟨m1, by omega, by omega, m2, c1, c2⟩))
end Go.Proofs.Ytpffjbbolaehpaa
end

section
set_option linter.unusedVariables false
set_option linter.unusedSimpArgs false
namespace Go.Proofs.Ytpffjbbolaehpaa
open Go Go.AX

/-! ### A document has as many nodes as its tree -/
mutual
theorem visit_cnt {l : List Ev} {i j : Nat} (t : Tr) (h : Nod l i t j) (p : Int) (S : Pln) (N : Nat) (hg : S.Good N) : (visitS t p S).Good (N + cntT t) := by
  match t, h with
  | _, .text i h hk => simpa [visitS, cntT, cntL] using hg.push _ p
  | .mk _ _ _ _ ks, .elem i _ e h hk hks he hke =>
    have := kids_cnt ks hks S.tr.length 0 (-1) _ (N + 1) (hg.push (.mk false ⟨#[]⟩ (l.getD i ev0).nm (l.getD i ev0).attrs ks) p)
    have e1 : N + 1 + cntL ks = N + cntT (.mk false ⟨#[]⟩ (l.getD i ev0).nm (l.getD i ev0).attrs ks) := by simp [cntT]; omega
    rw [e1] at this
    simpa [visitS] using this
theorem kids_cnt {l : List Ev} {i j : Nat} (r : List Tr) (h : Nods l i r j) (n m : Nat) (la : Int) (S : Pln) (N : Nat) (hg : S.Good N) : (kidsS r n m la S).Good (N + cntL r) := by
  match r, h with
  | [], .nil _ => simpa [kidsS, cntL] using hg
  | t :: r, .cons _ _ _ _ _ h1 h2 =>
    have g1 := visit_cnt t h1 n S N hg
    have := kids_cnt r h2 n (m + 1) S.tr.length _ _ (g1.link n S.tr.length la m)
    have e1 : N + cntT t + cntL r = N + cntL (t :: r) := by simp [cntL]; omega
    rw [e1] at this
    simpa [kidsS] using this
end
/-- How many nodes lie between two places. -/
def nodN (l : List Ev) (i d : Nat) : Nat := (nodF l d i).length
theorem nodF_add (l : List Ev) : ∀ d1 d2 i, nodF l (d1 + d2) i = nodF l d1 i ++ nodF l d2 (i + d1)
  | 0, d2, i => by simp [nodF]
  | d1 + 1, d2, i => by
    have e : d1 + 1 + d2 = (d1 + d2) + 1 := by omega
    have e2 : i + (d1 + 1) = i + 1 + d1 := by omega
    rw [e, e2]
    simp only [nodF, nodF_add l d1 d2 (i + 1)]
    split <;> simp
mutual
theorem nod_cnt {l : List Ev} {i j : Nat} (t : Tr) (h : Nod l i t j) : (nodF l (j - i) i).length = cntT t := by
  match t, h with
  | _, .text i h hk =>
    have e : i + 1 - i = 1 := by omega
    rw [e]
    simp [nodF, cntT, cntL, -List.getD_eq_getElem?_getD, hk]
  | .mk _ _ _ _ ks, .elem i _ e h hk hks he hke =>
    have h1 := nods_cnt ks hks
    have hle := nods_le hks
    have e1 : e + 1 - i = 1 + ((e - (i + 1)) + 1) := by omega
    have e2 : i + 1 + (e - (i + 1)) = e := by omega
    rw [e1, nodF_add, nodF_add, e2, List.length_append, List.length_append, h1]
    simp [nodF, cntT, -List.getD_eq_getElem?_getD, hk, hke]
theorem nods_cnt {l : List Ev} {i j : Nat} (r : List Tr) (h : Nods l i r j) : (nodF l (j - i) i).length = cntL r := by
  match r, h with
  | [], .nil _ => simp [nodF, cntL]
  | t :: r, .cons _ _ k _ _ h1 h2 =>
    have g1 := nod_cnt t h1
    have g2 := nods_cnt r h2
    have l1 := nod_le h1
    have l2 := nods_le h2
    have e1 : j - i = (k - i) + (j - k) := by omega
    have e2 : i + (k - i) = k := by omega
    rw [e1, nodF_add, List.length_append, e2, g1, g2]
    simp [cntL]
end
end Go.Proofs.Ytpffjbbolaehpaa
end

section
set_option linter.unusedVariables false
set_option linter.unusedSimpArgs false
namespace Go.Proofs.Ytpffjbbolaehpaa
open Go Go.AX
mutual
theorem nod_okA {l : List Ev} (ho : okEvs l) {i j : Nat} (t : Tr) (h : Nod l i t j) : t.okA := by
  match t, h with
  | _, .text i h hk => simp [Tr.okA, okAs]
  | .mk _ _ _ _ ks, .elem i _ e h hk hks he hke =>
    have := (ho _ (getD_mem l i ev0 h)).2.2.1
    simp only [Tr.okA]
    exact ⟨this, nods_okA ho ks hks⟩
theorem nods_okA {l : List Ev} (ho : okEvs l) {i j : Nat} (r : List Tr) (h : Nods l i r j) : okAs r := by
  match r, h with
  | [], .nil _ => simp [okAs]
  | t :: r, .cons _ _ k _ _ h1 h2 => simp only [okAs]; exact ⟨nod_okA ho t h1, nods_okA ho r h2⟩
end
theorem fw_l (p : Pth) (m k : Int) (out : List Int) (hl : out.length ≤ 1000000) (h1 : ∀ i, i < out.length → k ≤ out.getD i 0 ∧ out.getD i 0 < m) (h2 : ∀ i, i < out.length → 0 < i → out.getD (i - 1) 0 < out.getD i 0) : ∀ d i, i + d = out.length → HT Try.prog Try.f5.ntmps (pt Try.f5 0) (stFw p m k out i) (EndsA Γ (.pure [] (.bool true)) Try.f5) := by
  intro d
  induction d with
  | zero => exact fun i h => fw_e p m k out i (by omega)
  | succ d ih => exact fun i h => fw_h p m k out i (by omega) hl (h1 i (by omega)) (h2 i (by omega)) (ih (i + 1) (by omega))
theorem nodF_le (l : List Ev) : ∀ d i, (nodF l d i).length ≤ d
  | 0, i => Nat.le_refl _
  | d + 1, i => by
    have := nodF_le l d (i + 1)
    simp only [nodF]
    split
    · omega
    · rw [List.length_cons]; omega
theorem placesJ_le (s : List Bool) : ∀ d i, (placesJ s d i).length ≤ d
  | 0, i => Nat.le_refl _
  | d + 1, i => by
    have := placesJ_le s d (i + 1)
    simp only [placesJ]
    split
    · rw [List.length_cons]; omega
    · omega
theorem forward_ctr (p : Pth) (hp : p.ok) (l : List Ev) (hl : l.length ≤ 1048600) (ho : okEvs l) (n : Int) (hn : 0 ≤ n ∧ n ≤ 255) : Ctr Try.prog 5 [.agg (pthL p), .sl none l.length (evsC l) .no, .int .u8 n] (.bool true) := by
  obtain ⟨b1, hb1, h9⟩ := rightp_ex p hp
  obtain ⟨b2, hb2, h10⟩ := few_ex l hl ho
  have wn : IntKind.i64.wrap n = n := i64_wrap (by omega) (by omega)
  cases e2 : b2 with
  | false =>
    rw [e2] at h10
    exact fw_p p l n tr0 b1 false [] h9 h10 (fun h => by cases h) (fun _ h => by cases h)
  | true =>
    rw [e2] at h10
    have hd := hb2 e2
    obtain ⟨T, hT, _⟩ := doc_tree hd
    have hcnt := nod_cnt T hT
    have hok := nod_okA ho T hT
    have hlen : (nodJ l).length = cntT T := by simpa [nodJ] using hcnt
    have hpos : 1 ≤ cntT T := by cases T; simp [cntT]
    have hsmall : cntT T ≤ 1000000 := by
      have h1 := nodF_le l l.length 0
      have h2 := hd.len.2
      unfold nodJ at hlen
      omega
    obtain ⟨N, hP, hf, hx⟩ := make_pw T hok hsmall
    have hg := visit_cnt T hT (-1) pln0 0 ⟨rfl, rfl, rfl, rfl, rfl⟩
    have hNc : N = cntT T := by have := hP.tr; have := hg.tr; omega
    have hk := Int.tmod_nonneg ((nodJ l).length : Int) hn.1
    have hk2 := Int.tmod_lt_of_pos n (show (0 : Int) < (nodJ l).length by omega)
    refine fw_p p l n T b1 true (fromJ (visitS T (-1) pln0) p ((IntKind.i64.wrap n).tmod (nodJ l).length)) h9 h10 (fun _ => ⟨by omega, mk_ctr l hd.len.2, tree_ctr hd.len.2 T 0 _ hT⟩) (fun e1 _ => ⟨select_all T hok hsmall p (hb1 e1) hp _, ?_⟩)
    rw [wn]
    generalize hkk : n.tmod ((nodJ l).length : Int) = k at hk hk2
    have hfr : fromJ (visitS T (-1) pln0) p k = placesJ (leadsJ (visitS T (-1) pln0) p ((noneL N).set k.toNat true)) N 0 := by
      rw [fromJ, if_pos ⟨hk, by rw [hP.tr]; omega⟩, hP.tr]
    rw [hfr]
    have hs : ((noneL N).set k.toNat true).length = N := by simp [noneL_len]
    have hno : NoB ((noneL N).set k.toNat true) k.toNat := by
      intro j hj
      rw [getD_set _ _ _ _ _ (by rw [noneL_len]; omega), if_neg (by omega)]
      exact NoB.none N _ j hj
    have hfw := leads_fwd _ N k.toNat hP hf hx p _ hs hno
    have hmem : ∀ i, i < (placesJ (leadsJ (visitS T (-1) pln0) p ((noneL N).set k.toNat true)) N 0).length → k ≤ (placesJ (leadsJ (visitS T (-1) pln0) p ((noneL N).set k.toNat true)) N 0).getD i 0 ∧ (placesJ (leadsJ (visitS T (-1) pln0) p ((noneL N).set k.toNat true)) N 0).getD i 0 < ((nodJ l).length : Int) := by
      intro i hi
      obtain ⟨j, a, b, c, d⟩ := places_mem _ N 0 _ (getD_mem _ i 0 hi)
      rw [a]
      refine ⟨?_, by omega⟩
      rcases Nat.lt_or_ge j k.toNat with h1 | h1
      · rw [hfw j h1] at d; cases d
      · omega
    refine fw_l p _ k _ ?_ hmem (fun i hi h0 => ?_) _ 0 (Nat.zero_add _)
    · have h1 := placesJ_le (leadsJ (visitS T (-1) pln0) p ((noneL N).set k.toNat true)) N 0
      omega
    · have := List.pairwise_iff_getElem.1 (places_sorted (leadsJ (visitS T (-1) pln0) p ((noneL N).set k.toNat true)) N 0) (i - 1) i (by omega) hi (by omega)
      simpa [List.getD_eq_getElem?_getD, hi, show i - 1 < (placesJ (leadsJ (visitS T (-1) pln0) p ((noneL N).set k.toNat true)) N 0).length by omega] using this
end Go.Proofs.Ytpffjbbolaehpaa
end
