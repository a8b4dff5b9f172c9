import Derived.Test.YtpffjbbolaehpaaP6
import Derived.Test.YtpffjbbolaehpaaP5
section
set_option linter.unusedVariables false
set_option linter.unusedSimpArgs false
set_option maxRecDepth 100000
namespace Go.Proofs.Ytpffjbbolaehpaa
open Go Go.AX

def stEq (a b : List Bool) (i : Nat) : AS := ⟨[(0, .sl none a.length (boolsC a) .no), (1, .sl none b.length (boolsC b) .no), (12, .int .i64 a.length), (13, .int .i64 i)], [], []⟩
def stIx (a : List Bool) (i : Nat) : AS := ⟨[(0, .sl none a.length (boolsC a) .no), (1, .bool true), (7, .int .i64 a.length), (8, .int .i64 i)], [], []⟩
def stSt (s out : List Bool) (to : List Int) (i : Nat) : AS := ⟨[(0, .sl none to.length (intsC to) .no), (2, .ptr 1000007 0), (6, .sl none s.length (boolsC s) .no), (7, .int .i64 s.length), (8, .int .i64 i)], [(1000005, .var true [.sl none s.length (boolsC s) .no]), (1000007, .var true [.row 1000017 0 out.length]), (1000017, .rows true (boolsC out))], []⟩
def setM (s out : List Bool) : MemS := ⟨[(1000005, .var true [.sl none s.length (boolsC s) .no]), (1000007, .var true [.row 1000017 0 out.length]), (1000017, .rows true (boolsC out))], []⟩
def stAt (t : Tr) (n : Nm) (i : Nat) : AS := ⟨[(2, .ptr 2 0), (3, .ptr 3 0), (9, .sl none t.attrs.length (atsC t.attrs) .no), (10, .int .i64 t.attrs.length), (11, .int .i64 i)], [(2, .var true (trL t)), (3, .var true (nmC n))], []⟩
theorem intsC_nth (l : List Int) (i : Nat) (hi : i < l.length) : (intsC l)[i]? = some (.int .i64 (l.getD i 0)) := by simp [intsC, hi, List.getD_eq_getElem?_getD]
theorem intsC_len' (l : List Int) : (intsC l).length = l.length := by simp [intsC]
theorem boolsC_set' (l : List Bool) (n : Nat) (a : Bool) : (boolsC l).set n (.bool a) = boolsC (l.set n a) := by simp [boolsC, List.map_set]
/-- One step from the nodes of a set. -/
def stepF (to : List Int) (s : List Bool) : Nat → Nat → List Bool → List Bool
  | 0, _, out => out
  | d + 1, i, out => stepF to s d (i + 1) (if s.getD i false && decide (0 ≤ to.getD i 0) then out.set (to.getD i 0).toNat true else out)
def attrL (b : Bool) (n : Nm) : List Atr → Option ByteArray
  | [] => none
  | a :: r => if a.nm = n ∧ b = false then some a.v else attrL b n r
theorem nm_eq (a b : Nm) : (decide (a.sp = b.sp) && (decide (a.lo = b.lo) && true)) = decide (a = b) := by
  cases a; cases b
  simp only [Bool.and_true, Nm.mk.injEq, Bool.decide_and]

theorem eq_h (a b : List Bool) (i : Nat) (R : Bool) (hab : a.length = b.length) (hN : a.length ≤ 1000000) (hi : i < a.length) (k : a.getD i false = b.getD i false → HT Try.prog Try.f55.ntmps (pt Try.f55 0) (stEq a b (i + 1)) (EndsA Γ (.pure [] (.bool R)) Try.f55)) (hr : a.getD i false ≠ b.getD i false → R = false) : HT Try.prog Try.f55.ntmps (pt Try.f55 0) (stEq a b i) (EndsA Γ (.pure [] (.bool R)) Try.f55) :=
  HT.walk Γ_ok mo_ok (⟨([(19, .val (.bool (a.getD i false))), (23, .val (.bool (b.getD i false)))] ++ []), sp55, hd55 [] [] [] [], dsp55, .pure [] (.bool R)⟩ : Wk) 4000 (T := .split (decide ((↑i : Int) < (↑a.length : Int))) (.or (.ob ((0 : Int) ≤ (↑i : Int) ∧ (↑i : Int) < (↑a.length : Int) ∧ (↑i : Int).toNat * (1 : Nat) < (boolsC a).length) (.ob ((boolsC a)[(↑i : Int).toNat * (1 : Nat)]? = some (AV.bool (a.getD i false))) (.ob ((0 : Int) ≤ (↑i : Int) ∧ (↑i : Int) < (↑b.length : Int) ∧ (↑i : Int).toNat * (1 : Nat) < (boolsC b).length) (.ob ((boolsC b)[(↑i : Int).toNat * (1 : Nat)]? = some (AV.bool (b.getD i false))) (.ob ((!a.getD i false == b.getD i false) = true) (.ob (false = R) (.tt))))))) (.ob ((0 : Int) ≤ (↑i : Int) ∧ (↑i : Int) < (↑a.length : Int) ∧ (↑i : Int).toNat * (1 : Nat) < (boolsC a).length) (.ob ((boolsC a)[(↑i : Int).toNat * (1 : Nat)]? = some (AV.bool (a.getD i false))) (.ob ((0 : Int) ≤ (↑i : Int) ∧ (↑i : Int) < (↑b.length : Int) ∧ (↑i : Int).toNat * (1 : Nat) < (boolsC b).length) (.ob ((boolsC b)[(↑i : Int).toNat * (1 : Nat)]? = some (AV.bool (b.getD i false))) (.ob ((!a.getD i false == b.getD i false) = false) (.head (pt Try.f55 0) ({ tmps := [(0, AV.sl none a.length (boolsC a) .no), (1, AV.sl none b.length (boolsC b) .no), (12, AV.int .i64 (↑a.length : Int)), (13, AV.int .i64 (IntKind.i64.wrap ((↑i : Int) + (1 : Int))))], heap := [], tags := [] })))))))) (.ob (true = R) (.tt))) (by kernel_rfl) (by
    have w2 : IntKind.i64.wrap ((i : Int) + 1) = ((i + 1 : Nat) : Int) := by rw [i64_wrap (by omega) (by omega)]; rfl
    have h0 : decide ((i : Int) < a.length) = true := by simp; omega
    have hib : i < b.length := by omega
    simp only [PT.holds, w2, h0, Int.toNat_natCast, Nat.mul_one, boolsC_len, boolsC_nth a i hi, boolsC_nth b i hib, true_implies, Bool.false_eq_true, Bool.true_eq_false, false_implies, true_and, and_true]
    by_cases h : a.getD i false = b.getD i false
    · refine .inr ⟨by omega, by omega, ?_, k h⟩
      rw [h]; simp
    · refine .inl ⟨by omega, by omega, ?_, (hr h).symm⟩
      revert h
      cases a.getD i false <;> cases b.getD i false <;> simp)
theorem eq_e (a b : List Bool) : HT Try.prog Try.f55.ntmps (pt Try.f55 0) (stEq a b a.length) (EndsA Γ (.pure [] (.bool true)) Try.f55) :=
  HT.walk Γ_ok mo_ok (⟨([(19, .val (.bool (a.getD 0 false))), (23, .val (.bool (b.getD 0 false)))] ++ []), sp55, hd55 [] [] [] [], dsp55, .pure [] (.bool true)⟩ : Wk) 4000 (T := .split (decide ((↑a.length : Int) < (↑a.length : Int))) (.or (.ob ((0 : Int) ≤ (↑a.length : Int) ∧ (↑a.length : Int) < (↑a.length : Int) ∧ (↑a.length : Int).toNat * (1 : Nat) < (boolsC a).length) (.ob ((boolsC a)[(↑a.length : Int).toNat * (1 : Nat)]? = some (AV.bool (a.getD (0 : Nat) false))) (.ob ((0 : Int) ≤ (↑a.length : Int) ∧ (↑a.length : Int) < (↑b.length : Int) ∧ (↑a.length : Int).toNat * (1 : Nat) < (boolsC b).length) (.ob ((boolsC b)[(↑a.length : Int).toNat * (1 : Nat)]? = some (AV.bool (b.getD (0 : Nat) false))) (.ob ((!a.getD (0 : Nat) false == b.getD (0 : Nat) false) = true) (.ob (false = true) (.tt))))))) (.ob ((0 : Int) ≤ (↑a.length : Int) ∧ (↑a.length : Int) < (↑a.length : Int) ∧ (↑a.length : Int).toNat * (1 : Nat) < (boolsC a).length) (.ob ((boolsC a)[(↑a.length : Int).toNat * (1 : Nat)]? = some (AV.bool (a.getD (0 : Nat) false))) (.ob ((0 : Int) ≤ (↑a.length : Int) ∧ (↑a.length : Int) < (↑b.length : Int) ∧ (↑a.length : Int).toNat * (1 : Nat) < (boolsC b).length) (.ob ((boolsC b)[(↑a.length : Int).toNat * (1 : Nat)]? = some (AV.bool (b.getD (0 : Nat) false))) (.ob ((!a.getD (0 : Nat) false == b.getD (0 : Nat) false) = false) (.head (pt Try.f55 0) ({ tmps := [(0, AV.sl none a.length (boolsC a) .no), (1, AV.sl none b.length (boolsC b) .no), (12, AV.int .i64 (↑a.length : Int)), (13, AV.int .i64 (IntKind.i64.wrap ((↑a.length : Int) + (1 : Int))))], heap := [], tags := [] })))))))) (.ob (true = true) (.tt))) (by kernel_rfl) (by
    have h0 : decide ((a.length : Int) < a.length) = false := by simp
    simp only [PT.holds, h0, true_implies, Bool.false_eq_true, Bool.true_eq_false, false_implies, true_and, and_true])
theorem eq_l (a b : List Bool) (hab : a.length = b.length) (hN : a.length ≤ 1000000) : ∀ d i, i + d = a.length → (∀ j, j < i → a.getD j false = b.getD j false) → HT Try.prog Try.f55.ntmps (pt Try.f55 0) (stEq a b i) (EndsA Γ (.pure [] (.bool (decide (a = b)))) Try.f55) := by
  intro d
  induction d with
  | zero =>
    intro i h hj
    have hi : i = a.length := by omega
    subst hi
    have e : a = b := ext_getD false hab fun j hj' => hj j (by omega)
    have e1 : decide (a = b) = true := by simp [e]
    rw [e1]
    exact eq_e a b
  | succ d ih =>
    intro i h hj
    refine eq_h a b i _ hab hN (by omega) (fun he => ih (i + 1) (by omega) fun j hj' => ?_) (fun hne => ?_)
    · rcases Nat.lt_or_eq_of_le (Nat.lt_succ_iff.1 hj') with h1 | h1
      · exact hj j h1
      · rw [h1]; exact he
    · exact decide_eq_false fun e => hne (by rw [e])

theorem eq_ctr (a b : List Bool) (hab : a.length = b.length) (hN : a.length ≤ 1000000) : Ctr Try.prog 55 [.sl none a.length (boolsC a) .no, .sl none b.length (boolsC b) .no] (.bool (decide (a = b))) :=
  Ctr.mk Γ_ok Try.func55 (by kernel_rfl) Try.call55 [] (by kernel_rfl) (HT.walk Γ_ok mo_ok (⟨[], sp55, hd55 [] [] [] [], dsp55, .pure [] (.bool (decide (a = b)))⟩ : Wk) 4000 (T := .split (!decide ((↑a.length : Int) = (↑b.length : Int))) (.ob (false = decide (a = b)) (.tt)) (.head (pt Try.f55 0) ({ tmps := [(0, AV.sl none a.length (boolsC a) .no), (1, AV.sl none b.length (boolsC b) .no), (12, AV.int .i64 (↑a.length : Int)), (13, AV.int .i64 (0 : Int))], heap := [], tags := [] }))) (by kernel_rfl) (by
    have h0 : (!decide ((a.length : Int) = b.length)) = false := by simp; omega
    simp only [PT.holds, h0, true_implies, Bool.false_eq_true, Bool.true_eq_false, false_implies, true_and, and_true]
    exact eq_l a b hab hN a.length 0 (Nat.zero_add _) (fun j hj => absurd hj (Nat.not_lt_zero j))))
theorem ix_h (a : List Bool) (i : Nat) (hi : i < a.length) (hN : a.length ≤ 1000000) (k : ∃ x : Int, (0 ≤ x ↔ ∃ j, i + 1 ≤ j ∧ j < a.length ∧ a.getD j false = true) ∧ HT Try.prog Try.f57.ntmps (pt Try.f57 0) (stIx a (i + 1)) (EndsA Γ (.pure [] (.int .i64 x)) Try.f57)) : ∃ x : Int, (0 ≤ x ↔ ∃ j, i ≤ j ∧ j < a.length ∧ a.getD j false = true) ∧ HT Try.prog Try.f57.ntmps (pt Try.f57 0) (stIx a i) (EndsA Γ (.pure [] (.int .i64 x)) Try.f57) := by
    have H : ∃ x : Int, (0 ≤ x ↔ ∃ j, i ≤ j ∧ j < a.length ∧ a.getD j false = true) ∧ PT.holds Try.prog Try.f57.ntmps (EndsA Γ (.pure [] (.int .i64 x)) Try.f57) (.split (decide ((↑i : Int) < (↑a.length : Int))) (.ob ((0 : Int) ≤ (↑i : Int) ∧ (↑i : Int) < (↑a.length : Int) ∧ (↑i : Int).toNat * (1 : Nat) < (boolsC a).length) (.ob ((boolsC a)[(↑i : Int).toNat * (1 : Nat)]? = some (AV.bool (a.getD i false))) (.split (true == a.getD i false) (.ob ((↑i : Int) = x) (.tt)) (.head (pt Try.f57 0) ({ tmps := [(0, AV.sl none a.length (boolsC a) .no), (1, AV.bool true), (7, AV.int .i64 (↑a.length : Int)), (8, AV.int .i64 (IntKind.i64.wrap ((↑i : Int) + (1 : Int))))], heap := [], tags := [] }))))) (.ob ((-1 : Int) = x) (.tt))) := by
      have w2 : IntKind.i64.wrap ((i : Int) + 1) = ((i + 1 : Nat) : Int) := by rw [i64_wrap (by omega) (by omega)]; rfl
      have h0 : decide ((i : Int) < a.length) = true := by simp; omega
      simp only [PT.holds, w2, h0, Int.toNat_natCast, Nat.mul_one, boolsC_len, boolsC_nth a i hi, true_implies, Bool.false_eq_true, Bool.true_eq_false, false_implies, true_and, and_true]
      cases hb : a.getD i false
      · obtain ⟨x, hx, hk⟩ := k
        refine ⟨x, hx.trans ⟨fun ⟨j, h1, h2, h3⟩ => ⟨j, by omega, h2, h3⟩, fun ⟨j, h1, h2, h3⟩ => ⟨j, ?_, h2, h3⟩⟩, by omega, fun h => absurd h (by decide), fun _ => hk⟩
        rcases Nat.lt_or_eq_of_le h1 with h4 | h4
        · exact h4
        · rw [← h4, hb] at h3; cases h3
      · exact ⟨i, ⟨fun _ => ⟨i, Nat.le_refl _, hi, hb⟩, fun _ => by omega⟩, by omega, fun _ => rfl, fun h => absurd h (by decide)⟩
    obtain ⟨x, hR, hx⟩ := H
    exact ⟨x, hR, HT.walk Γ_ok mo_ok (⟨([(15, .val (.bool (a.getD i false)))] ++ []), sp57, hd57 [] [] [] [], [], .pure [] (.int .i64 x)⟩ : Wk) 4000 (by kernel_rfl) hx⟩
theorem ix_e (a : List Bool) (i : Nat) (hi : i = a.length) : ∃ x : Int, (0 ≤ x ↔ ∃ j, i ≤ j ∧ j < a.length ∧ a.getD j false = true) ∧ HT Try.prog Try.f57.ntmps (pt Try.f57 0) (stIx a i) (EndsA Γ (.pure [] (.int .i64 x)) Try.f57) := by
    have H : ∃ x : Int, (0 ≤ x ↔ ∃ j, i ≤ j ∧ j < a.length ∧ a.getD j false = true) ∧ PT.holds Try.prog Try.f57.ntmps (EndsA Γ (.pure [] (.int .i64 x)) Try.f57) (.split (decide ((↑i : Int) < (↑a.length : Int))) (.ob ((0 : Int) ≤ (↑i : Int) ∧ (↑i : Int) < (↑a.length : Int) ∧ (↑i : Int).toNat * (1 : Nat) < (boolsC a).length) (.ob ((boolsC a)[(↑i : Int).toNat * (1 : Nat)]? = some (AV.bool (a.getD i false))) (.split (true == a.getD i false) (.ob ((↑i : Int) = x) (.tt)) (.head (pt Try.f57 0) ({ tmps := [(0, AV.sl none a.length (boolsC a) .no), (1, AV.bool true), (7, AV.int .i64 (↑a.length : Int)), (8, AV.int .i64 (IntKind.i64.wrap ((↑i : Int) + (1 : Int))))], heap := [], tags := [] }))))) (.ob ((-1 : Int) = x) (.tt))) := by
      have h0 : decide ((i : Int) < a.length) = false := by simp; omega
      simp only [PT.holds, h0, true_implies, Bool.false_eq_true, Bool.true_eq_false, false_implies, true_and, and_true]
      exact ⟨-1, ⟨fun h => absurd h (by decide), fun ⟨j, h1, h2, _⟩ => by omega⟩, rfl⟩
    obtain ⟨x, hR, hx⟩ := H
    exact ⟨x, hR, HT.walk Γ_ok mo_ok (⟨([(15, .val (.bool (a.getD i false)))] ++ []), sp57, hd57 [] [] [] [], [], .pure [] (.int .i64 x)⟩ : Wk) 4000 (by kernel_rfl) hx⟩
theorem ix_l (a : List Bool) (hN : a.length ≤ 1000000) : ∀ d i, i + d = a.length → ∃ x : Int, (0 ≤ x ↔ ∃ j, i ≤ j ∧ j < a.length ∧ a.getD j false = true) ∧ HT Try.prog Try.f57.ntmps (pt Try.f57 0) (stIx a i) (EndsA Γ (.pure [] (.int .i64 x)) Try.f57) := by
  intro d
  induction d with
  | zero => exact fun i h => ix_e a i (by omega)
  | succ d ih => exact fun i h => ix_h a i (by omega) hN (ih (i + 1) (by omega))

theorem ix_ex (a : List Bool) (hN : a.length ≤ 1000000) : ∃ x : Int, (0 ≤ x ↔ ∃ j, 0 ≤ j ∧ j < a.length ∧ a.getD j false = true) ∧ Ctr Try.prog 57 [.sl none a.length (boolsC a) .no, .bool true] (.int .i64 x) := by
    have H : ∃ x : Int, (0 ≤ x ↔ ∃ j, 0 ≤ j ∧ j < a.length ∧ a.getD j false = true) ∧ PT.holds Try.prog Try.f57.ntmps (EndsA Γ (.pure [] (.int .i64 x)) Try.f57) (.head (pt Try.f57 0) ({ tmps := [(0, AV.sl none a.length (boolsC a) .no), (1, AV.bool true), (7, AV.int .i64 (↑a.length : Int)), (8, AV.int .i64 (0 : Int))], heap := [], tags := [] })) := by
      simp only [PT.holds]
      exact ix_l a hN a.length 0 (Nat.zero_add _)
    obtain ⟨x, hR, hx⟩ := H
    exact ⟨x, hR, Ctr.mk Γ_ok Try.func57 (by kernel_rfl) Try.call57 [] (by kernel_rfl) (HT.walk Γ_ok mo_ok (⟨[], sp57, hd57 [] [] [] [], [], .pure [] (.int .i64 x)⟩ : Wk) 4000 (by kernel_rfl) hx)⟩
theorem has_ctr0 (a : List Bool) (x : Int) (hx : 0 ≤ x ↔ ∃ j, 0 ≤ j ∧ j < a.length ∧ a.getD j false = true) (hc : Ctr Try.prog 57 [.sl none a.length (boolsC a) .no, .bool true] (.int .i64 x)) : Ctr Try.prog 48 [.sl none a.length (boolsC a) .no, .bool true] (.bool (decide (∃ j, j < a.length ∧ a.getD j false = true))) :=
  Ctr.mk Γ_ok Try.func48 (by kernel_rfl) Try.call48 [] (by kernel_rfl) (HT.walk Γ_ok mo_ok (⟨([(7, .call [] (.int .i64 x))] ++ []), sp48, [], [], .pure [] (.bool (decide (∃ j, j < a.length ∧ a.getD j false = true)))⟩ : Wk) 4000 (T := .ob (Ctr Try.prog 57 [AV.sl none a.length (boolsC a) .no, AV.bool true] (AV.int .i64 x)) (.ob (decide ((0 : Int) ≤ x) = decide (∃ j, j < a.length ∧ a.getD j false = true)) (.tt))) (by kernel_rfl) (by
    simp only [PT.holds, and_true]
    refine ⟨hc, decide_eq_decide.2 (hx.trans ⟨fun ⟨j, _, h2, h3⟩ => ⟨j, h2, h3⟩, fun ⟨j, h2, h3⟩ => ⟨j, Nat.zero_le _, h2, h3⟩⟩)⟩))
theorem has_ctr (a : List Bool) (hN : a.length ≤ 1000000) : Ctr Try.prog 48 [.sl none a.length (boolsC a) .no, .bool true] (.bool (decide (∃ j, j < a.length ∧ a.getD j false = true))) := by
  obtain ⟨x, hx, hc⟩ := ix_ex a hN
  exact has_ctr0 a x hx hc

theorem one_ctr (P : Pln) (k : Nat) (hk : k < P.tr.length) (hN : P.tr.length ≤ 1000000) : Ctr Try.prog 32 [.agg (planL P), .int .i64 k] (.sl (some false) P.tr.length (boolsC ((List.replicate P.tr.length false).set k true)) .no) :=
  Ctr.mk Γ_ok Try.func32 (by kernel_rfl) Try.call32 [10] (by kernel_rfl) (HT.walk Γ_ok mo_ok (⟨[], sp32, [], [], .pure [10] (.sl (some false) P.tr.length (boolsC ((List.replicate P.tr.length false).set k true)) .no)⟩ : Wk) 4000 (T := .ob ((↑P.tr.length : Int) = (↑P.tr.length : Int) ∧ (0 : Int) ≤ (↑P.tr.length : Int) ∧ (↑P.tr.length : Int) * (↑(1 : Nat) : Int) ≤ (281474976710656 : Int) ∧ (↑P.tr.length : Int) ≤ (9223372036854775807 : Int)) (.ob ((0 : Int) ≤ (↑k : Int) ∧ (↑k : Int) < (↑(↑P.tr.length : Int).toNat : Int)) (.ob ((0 : Nat) + (↑k : Int).toNat * (1 : Nat) < (List.replicate (↑P.tr.length : Int).toNat (zn (AV.bool false))).length) (.ob ((↑P.tr.length : Int).toNat = P.tr.length) (.ob (List.drop (0 : Nat) ((List.replicate (↑P.tr.length : Int).toNat (zn (AV.bool false))).set ((0 : Nat) + (↑k : Int).toNat * (1 : Nat)) (AV.bool true)) = boolsC ((List.replicate P.tr.length false).set k true)) (.tt)))))) (by kernel_rfl) (by
    simp only [PT.holds, Int.toNat_natCast, Nat.mul_one, Nat.zero_add, List.length_replicate, true_implies, Bool.false_eq_true, Bool.true_eq_false, false_implies, true_and, and_true]
    refine ⟨by omega, by omega, by omega, ?_⟩
    simp [boolsC, zn, List.map_set]))
theorem step_h (s out out' : List Bool) (to : List Int) (i : Nat) (hi : i < s.length) (hts : to.length = s.length) (hos : out.length = s.length) (hN : s.length ≤ 1000000) (ht : ∀ j, j < to.length → to.getD j 0 < s.length) (k : HT Try.prog Try.f41.ntmps (pt Try.f41 0) (stSt s (if s.getD i false && decide (0 ≤ to.getD i 0) then out.set (to.getD i 0).toNat true else out) to (i + 1)) (EndsA Γ (.mem [] (setM s out') (.tup [])) Try.f41)) : HT Try.prog Try.f41.ntmps (pt Try.f41 0) (stSt s out to i) (EndsA Γ (.mem [] (setM s out') (.tup [])) Try.f41) :=
  HT.walk Γ_ok mo_ok (⟨([(12, .val (.bool (s.getD i false))), (18, .val (.int .i64 (to.getD i 0))), (25, .val (.int .i64 (to.getD i 0)))] ++ []), sp41, hd41 [] [] [1000005, 1000007, 1000017] [], [], .mem [] (setM s out') (.tup [])⟩ : Wk) 4000 (T := .split (decide ((↑i : Int) < (↑s.length : Int))) (.ob ((0 : Int) ≤ (↑i : Int) ∧ (↑i : Int) < (↑s.length : Int) ∧ (↑i : Int).toNat * (1 : Nat) < (boolsC s).length) (.ob ((boolsC s)[(↑i : Int).toNat * (1 : Nat)]? = some (AV.bool (s.getD i false))) (.split (s.getD i false) (.ob ((0 : Int) ≤ (↑i : Int) ∧ (↑i : Int) < (↑to.length : Int) ∧ (↑i : Int).toNat * (1 : Nat) < (intsC to).length) (.ob ((intsC to)[(↑i : Int).toNat * (1 : Nat)]? = some (AV.int .i64 (to.getD i (0 : Int)))) (.split (decide ((0 : Int) ≤ to.getD i (0 : Int))) (.ob ((0 : Int) ≤ (↑i : Int) ∧ (↑i : Int) < (↑to.length : Int) ∧ (↑i : Int).toNat * (1 : Nat) < (intsC to).length) (.ob ((intsC to)[(↑i : Int).toNat * (1 : Nat)]? = some (AV.int .i64 (to.getD i (0 : Int)))) (.ob ((0 : Int) ≤ to.getD i (0 : Int) ∧ to.getD i (0 : Int) < (↑out.length : Int)) (.ob ((0 : Nat) + (to.getD i (0 : Int)).toNat * (1 : Nat) < (boolsC out).length) (.head (pt Try.f41 0) ({ tmps := [(0, AV.sl none to.length (intsC to) .no), (2, AV.ptr 1000007 0), (6, AV.sl none s.length (boolsC s) .no), (7, AV.int .i64 (↑s.length : Int)), (8, AV.int .i64 (IntKind.i64.wrap ((↑i : Int) + (1 : Int))))], heap := [(1000005, .var true [AV.sl none s.length (boolsC s) .no]), (1000007, .var true [AV.row (1000017 : Nat) (0 : Nat) out.length]), (1000017, Blk.rows true ((boolsC out).set ((0 : Nat) + (to.getD i (0 : Int)).toNat * (1 : Nat)) (AV.bool true)))], tags := [] })))))) (.head (pt Try.f41 0) ({ tmps := [(0, AV.sl none to.length (intsC to) .no), (2, AV.ptr 1000007 0), (6, AV.sl none s.length (boolsC s) .no), (7, AV.int .i64 (↑s.length : Int)), (8, AV.int .i64 (IntKind.i64.wrap ((↑i : Int) + (1 : Int))))], heap := [(1000005, .var true [AV.sl none s.length (boolsC s) .no]), (1000007, .var true [AV.row (1000017 : Nat) (0 : Nat) out.length]), (1000017, Blk.rows true (boolsC out))], tags := [] }))))) (.head (pt Try.f41 0) ({ tmps := [(0, AV.sl none to.length (intsC to) .no), (2, AV.ptr 1000007 0), (6, AV.sl none s.length (boolsC s) .no), (7, AV.int .i64 (↑s.length : Int)), (8, AV.int .i64 (IntKind.i64.wrap ((↑i : Int) + (1 : Int))))], heap := [(1000005, .var true [AV.sl none s.length (boolsC s) .no]), (1000007, .var true [AV.row (1000017 : Nat) (0 : Nat) out.length]), (1000017, Blk.rows true (boolsC out))], tags := [] }))))) (.ob (s.length = s.length) (.ob (boolsC s = boolsC s) (.ob ((0 : Nat) = (0 : Nat)) (.ob (out.length = out'.length) (.ob (boolsC out = boolsC out') (.tt))))))) (by kernel_rfl) (by
    have w2 : IntKind.i64.wrap ((i : Int) + 1) = ((i + 1 : Nat) : Int) := by rw [i64_wrap (by omega) (by omega)]; rfl
    have h0 : decide ((i : Int) < s.length) = true := by simp; omega
    have hit : i < to.length := by omega
    have htt := ht i hit
    simp only [PT.holds, w2, h0, Int.toNat_natCast, Nat.mul_one, Nat.zero_add, boolsC_len, intsC_len', boolsC_nth s i hi, intsC_nth to i hit, boolsC_set', true_implies, Bool.false_eq_true, Bool.true_eq_false, false_implies, true_and, and_true]
    refine ⟨by omega, fun h1 => ⟨by omega, fun h2 => ⟨by omega, by simp only [decide_eq_true_eq] at h2; omega, by simp only [decide_eq_true_eq] at h2; omega, ?_⟩, fun h2 => ?_⟩, fun h1 => ?_⟩
    · refine head_eq k ?_
      simp only [stSt, h1, h2, Bool.true_and, if_true, List.length_set]
    · refine head_eq k ?_
      simp only [stSt, h1, h2, Bool.true_and, Bool.false_eq_true, if_false]
    · refine head_eq k ?_
      simp only [stSt, h1, Bool.false_and, Bool.false_eq_true, if_false])
theorem step_e (s out : List Bool) (to : List Int) (i : Nat) (hi : i = s.length) : HT Try.prog Try.f41.ntmps (pt Try.f41 0) (stSt s out to i) (EndsA Γ (.mem [] (setM s out) (.tup [])) Try.f41) :=
  HT.walk Γ_ok mo_ok (⟨([(12, .val (.bool (s.getD i false))), (18, .val (.int .i64 (to.getD i 0))), (25, .val (.int .i64 (to.getD i 0)))] ++ []), sp41, hd41 [] [] [1000005, 1000007, 1000017] [], [], .mem [] (setM s out) (.tup [])⟩ : Wk) 4000 (T := .split (decide ((↑i : Int) < (↑s.length : Int))) (.ob ((0 : Int) ≤ (↑i : Int) ∧ (↑i : Int) < (↑s.length : Int) ∧ (↑i : Int).toNat * (1 : Nat) < (boolsC s).length) (.ob ((boolsC s)[(↑i : Int).toNat * (1 : Nat)]? = some (AV.bool (s.getD i false))) (.split (s.getD i false) (.ob ((0 : Int) ≤ (↑i : Int) ∧ (↑i : Int) < (↑to.length : Int) ∧ (↑i : Int).toNat * (1 : Nat) < (intsC to).length) (.ob ((intsC to)[(↑i : Int).toNat * (1 : Nat)]? = some (AV.int .i64 (to.getD i (0 : Int)))) (.split (decide ((0 : Int) ≤ to.getD i (0 : Int))) (.ob ((0 : Int) ≤ (↑i : Int) ∧ (↑i : Int) < (↑to.length : Int) ∧ (↑i : Int).toNat * (1 : Nat) < (intsC to).length) (.ob ((intsC to)[(↑i : Int).toNat * (1 : Nat)]? = some (AV.int .i64 (to.getD i (0 : Int)))) (.ob ((0 : Int) ≤ to.getD i (0 : Int) ∧ to.getD i (0 : Int) < (↑out.length : Int)) (.ob ((0 : Nat) + (to.getD i (0 : Int)).toNat * (1 : Nat) < (boolsC out).length) (.head (pt Try.f41 0) ({ tmps := [(0, AV.sl none to.length (intsC to) .no), (2, AV.ptr 1000007 0), (6, AV.sl none s.length (boolsC s) .no), (7, AV.int .i64 (↑s.length : Int)), (8, AV.int .i64 (IntKind.i64.wrap ((↑i : Int) + (1 : Int))))], heap := [(1000005, .var true [AV.sl none s.length (boolsC s) .no]), (1000007, .var true [AV.row (1000017 : Nat) (0 : Nat) out.length]), (1000017, Blk.rows true ((boolsC out).set ((0 : Nat) + (to.getD i (0 : Int)).toNat * (1 : Nat)) (AV.bool true)))], tags := [] })))))) (.head (pt Try.f41 0) ({ tmps := [(0, AV.sl none to.length (intsC to) .no), (2, AV.ptr 1000007 0), (6, AV.sl none s.length (boolsC s) .no), (7, AV.int .i64 (↑s.length : Int)), (8, AV.int .i64 (IntKind.i64.wrap ((↑i : Int) + (1 : Int))))], heap := [(1000005, .var true [AV.sl none s.length (boolsC s) .no]), (1000007, .var true [AV.row (1000017 : Nat) (0 : Nat) out.length]), (1000017, Blk.rows true (boolsC out))], tags := [] }))))) (.head (pt Try.f41 0) ({ tmps := [(0, AV.sl none to.length (intsC to) .no), (2, AV.ptr 1000007 0), (6, AV.sl none s.length (boolsC s) .no), (7, AV.int .i64 (↑s.length : Int)), (8, AV.int .i64 (IntKind.i64.wrap ((↑i : Int) + (1 : Int))))], heap := [(1000005, .var true [AV.sl none s.length (boolsC s) .no]), (1000007, .var true [AV.row (1000017 : Nat) (0 : Nat) out.length]), (1000017, Blk.rows true (boolsC out))], tags := [] }))))) (.ob (s.length = s.length) (.ob (boolsC s = boolsC s) (.ob ((0 : Nat) = (0 : Nat)) (.ob (out.length = out.length) (.ob (boolsC out = boolsC out) (.tt))))))) (by kernel_rfl) (by
    have h0 : decide ((i : Int) < s.length) = false := by simp; omega
    simp only [PT.holds, h0, true_implies, Bool.false_eq_true, Bool.true_eq_false, false_implies, true_and, and_true])
theorem stepF_len (to : List Int) (s : List Bool) : ∀ d i out, (stepF to s d i out).length = out.length
  | 0, i, out => rfl
  | d + 1, i, out => by
    simp only [stepF]
    rw [stepF_len]
    split <;> simp
theorem step_l (s : List Bool) (to : List Int) (hts : to.length = s.length) (hN : s.length ≤ 1000000) (ht : ∀ j, j < to.length → to.getD j 0 < s.length) : ∀ d i out, i + d = s.length → out.length = s.length → HT Try.prog Try.f41.ntmps (pt Try.f41 0) (stSt s out to i) (EndsA Γ (.mem [] (setM s (stepF to s d i out)) (.tup [])) Try.f41) := by
  intro d
  induction d with
  | zero => exact fun i out h ho => step_e s out to i (by omega)
  | succ d ih =>
    intro i out h ho
    exact step_h s out _ to i (by omega) hts ho hN ht (ih (i + 1) _ (by omega) (by split <;> simp [ho]))

theorem step_ctr (s out : List Bool) (to : List Int) (hts : to.length = s.length) (hN : s.length ≤ 1000000) (ht : ∀ j, j < to.length → to.getD j 0 < s.length) (ho : out.length = s.length) : CtrM Try.prog 41 (setM s out) [.sl none to.length (intsC to) .no, .ptr 1000005 0, .ptr 1000007 0] (setM s (stepF to s s.length 0 out)) (.tup []) :=
  CtrM.mk Γ_ok Try.func41 (by kernel_rfl) Try.call41 [] (by kernel_rfl) (by kernel_rfl) (by kernel_rfl) (HT.walk Γ_ok mo_ok (⟨[], sp41, hd41 [] [] [1000005, 1000007, 1000017] [], [], .mem [] (setM s (stepF to s s.length 0 out)) (.tup [])⟩ : Wk) 4000 (T := .head (pt Try.f41 0) ({ tmps := [(0, AV.sl none to.length (intsC to) .no), (2, AV.ptr 1000007 0), (6, AV.sl none s.length (boolsC s) .no), (7, AV.int .i64 (↑s.length : Int)), (8, AV.int .i64 (0 : Int))], heap := [(1000005, .var true [AV.sl none s.length (boolsC s) .no]), (1000007, .var true [AV.row (1000017 : Nat) (0 : Nat) out.length]), (1000017, Blk.rows true (boolsC out))], tags := [] })) (by kernel_rfl) (by
    simp only [PT.holds]
    exact step_l s to hts hN ht s.length 0 out (Nat.zero_add _) ho))
theorem attr_h (t : Tr) (n : Nm) (i : Nat) (v : ByteArray) (ok : Bool) (hi : i < t.attrs.length) (hN : t.attrs.length ≤ 1048600) (k : ¬ ((t.attrs.getD i atr0).nm = n ∧ t.isText = false) → HT Try.prog Try.f45.ntmps (pt Try.f45 0) (stAt t n (i + 1)) (EndsA Γ (.pure [] (.tup [.str v, .bool ok])) Try.f45)) (hr : (t.attrs.getD i atr0).nm = n ∧ t.isText = false → v = (t.attrs.getD i atr0).v ∧ ok = true) : HT Try.prog Try.f45.ntmps (pt Try.f45 0) (stAt t n i) (EndsA Γ (.pure [] (.tup [.str v, .bool ok])) Try.f45) :=
  HT.walk Γ_ok mo_ok (⟨([(14, .val (.agg (atC (t.attrs.getD i atr0))))] ++ []), sp45, hd45 [] [] [] [], [], .pure [] (.tup [.str v, .bool ok])⟩ : Wk) 4000 (T := .split (decide ((↑i : Int) < (↑t.attrs.length : Int))) (.ob ((0 : Int) ≤ (↑i : Int) ∧ (↑i : Int) < (↑t.attrs.length : Int) ∧ (↑i : Int).toNat * (3 : Nat) < (atsC t.attrs).length) (.ob (List.take (3 : Nat) (List.drop ((↑i : Int).toNat * (3 : Nat)) (atsC t.attrs)) = [AV.str (t.attrs.getD i atr0).nm.sp, AV.str (t.attrs.getD i atr0).nm.lo, AV.str (t.attrs.getD i atr0).v]) (.ob ((2 : Nat) ≤ (3 : Nat)) (.ob ((2 : Nat) ≤ (2 : Nat)) (.split (decide ((t.attrs.getD i atr0).nm.sp = n.sp) && (decide ((t.attrs.getD i atr0).nm.lo = n.lo) && true)) (.split (t.isText) (.head (pt Try.f45 0) ({ tmps := [(2, AV.ptr 2 0), (3, AV.ptr 3 0), (9, AV.sl none t.attrs.length (atsC t.attrs) .no), (10, AV.int .i64 (↑t.attrs.length : Int)), (11, AV.int .i64 (IntKind.i64.wrap ((↑i : Int) + (1 : Int))))], heap := [(2, .var true (trL t)), (3, .var true [AV.str n.sp, AV.str n.lo])], tags := [] })) (.ob ((t.attrs.getD i atr0).v = v) (.ob (true = ok) (.tt)))) (.head (pt Try.f45 0) ({ tmps := [(2, AV.ptr 2 0), (3, AV.ptr 3 0), (9, AV.sl none t.attrs.length (atsC t.attrs) .no), (10, AV.int .i64 (↑t.attrs.length : Int)), (11, AV.int .i64 (IntKind.i64.wrap ((↑i : Int) + (1 : Int))))], heap := [(2, .var true (trL t)), (3, .var true [AV.str n.sp, AV.str n.lo])], tags := [] }))))))) (.ob ((ByteArray.mk #[]) = v) (.ob (false = ok) (.tt)))) (by kernel_rfl) (by
    have w2 : IntKind.i64.wrap ((i : Int) + 1) = ((i + 1 : Nat) : Int) := by rw [i64_wrap (by omega) (by omega)]; rfl
    have h0 : decide ((i : Int) < t.attrs.length) = true := by simp; omega
    simp only [PT.holds, w2, h0, Int.toNat_natCast, atsC_len, nm_eq, true_implies, Bool.false_eq_true, Bool.true_eq_false, false_implies, true_and, and_true]
    refine ⟨by omega, by ((try simp only [Nat.add_assoc, Nat.reduceAdd, Nat.add_zero]) <;> first | (rw [ats_take _ _ _ _ hi (by decide)]; rfl) | (rw [ats_nth _ _ _ hi (by decide)]; rfl) | (rw [ats_take0 _ _ _ hi (by decide)]; rfl) | (rw [ats_nth0 _ _ hi]; rfl)), by omega, by omega, fun h1 => ⟨fun h2 => k ?_, fun h2 => ?_⟩, fun h1 => k ?_⟩
    · intro hh; rw [hh.2] at h2; cases h2
    · have := hr ⟨by simpa using h1, h2⟩
      exact ⟨this.1.symm, this.2.symm⟩
    · intro hh; simp only [decide_eq_false_iff_not] at h1; exact h1 hh.1)
theorem attr_e (t : Tr) (n : Nm) (i : Nat) (hi : i = t.attrs.length) : HT Try.prog Try.f45.ntmps (pt Try.f45 0) (stAt t n i) (EndsA Γ (.pure [] (.tup [.str ⟨#[]⟩, .bool false])) Try.f45) :=
  HT.walk Γ_ok mo_ok (⟨([(14, .val (.agg (atC (t.attrs.getD i atr0))))] ++ []), sp45, hd45 [] [] [] [], [], .pure [] (.tup [.str ⟨#[]⟩, .bool false])⟩ : Wk) 4000 (T := .split (decide ((↑i : Int) < (↑t.attrs.length : Int))) (.ob ((0 : Int) ≤ (↑i : Int) ∧ (↑i : Int) < (↑t.attrs.length : Int) ∧ (↑i : Int).toNat * (3 : Nat) < (atsC t.attrs).length) (.ob (List.take (3 : Nat) (List.drop ((↑i : Int).toNat * (3 : Nat)) (atsC t.attrs)) = [AV.str (t.attrs.getD i atr0).nm.sp, AV.str (t.attrs.getD i atr0).nm.lo, AV.str (t.attrs.getD i atr0).v]) (.ob ((2 : Nat) ≤ (3 : Nat)) (.ob ((2 : Nat) ≤ (2 : Nat)) (.split (decide ((t.attrs.getD i atr0).nm.sp = n.sp) && (decide ((t.attrs.getD i atr0).nm.lo = n.lo) && true)) (.split (t.isText) (.head (pt Try.f45 0) ({ tmps := [(2, AV.ptr 2 0), (3, AV.ptr 3 0), (9, AV.sl none t.attrs.length (atsC t.attrs) .no), (10, AV.int .i64 (↑t.attrs.length : Int)), (11, AV.int .i64 (IntKind.i64.wrap ((↑i : Int) + (1 : Int))))], heap := [(2, .var true (trL t)), (3, .var true [AV.str n.sp, AV.str n.lo])], tags := [] })) (.ob ((t.attrs.getD i atr0).v = (ByteArray.mk #[])) (.ob (true = false) (.tt)))) (.head (pt Try.f45 0) ({ tmps := [(2, AV.ptr 2 0), (3, AV.ptr 3 0), (9, AV.sl none t.attrs.length (atsC t.attrs) .no), (10, AV.int .i64 (↑t.attrs.length : Int)), (11, AV.int .i64 (IntKind.i64.wrap ((↑i : Int) + (1 : Int))))], heap := [(2, .var true (trL t)), (3, .var true [AV.str n.sp, AV.str n.lo])], tags := [] }))))))) (.ob ((ByteArray.mk #[]) = (ByteArray.mk #[])) (.ob (false = false) (.tt)))) (by kernel_rfl) (by
    have h0 : decide ((i : Int) < t.attrs.length) = false := by simp; omega
    simp only [PT.holds, h0, true_implies, Bool.false_eq_true, Bool.true_eq_false, false_implies, true_and, and_true])
theorem attr_l (t : Tr) (n : Nm) (hN : t.attrs.length ≤ 1048600) : ∀ d i, i + d = t.attrs.length → HT Try.prog Try.f45.ntmps (pt Try.f45 0) (stAt t n i) (EndsA Γ (.pure [] (.tup [.str ((attrL t.isText n (t.attrs.drop i)).getD ⟨#[]⟩), .bool (attrL t.isText n (t.attrs.drop i)).isSome])) Try.f45) := by
  intro d
  induction d with
  | zero =>
    intro i h
    rw [List.drop_of_length_le (by omega)]
    exact attr_e t n i (by omega)
  | succ d ih =>
    intro i h
    have hlt : i < t.attrs.length := by omega
    have hd : t.attrs.drop i = t.attrs.getD i atr0 :: t.attrs.drop (i + 1) := by
      rw [List.drop_eq_getElem_cons hlt, List.getD_eq_getElem?_getD, List.getElem?_eq_getElem hlt]
      rfl
    refine attr_h t n i _ _ hlt hN (fun hh => ?_) (fun hh => ?_)
    · rw [hd]
      simp only [attrL, if_neg hh]
      exact ih (i + 1) (by omega)
    · rw [hd]
      simp only [attrL, if_pos hh]
      exact ⟨rfl, rfl⟩

theorem attr_ctr (t : Tr) (n : Nm) (hN : t.attrs.length ≤ 1048600) : Ctr Try.prog 45 [.agg (trL t), .agg (nmC n)] (.tup [.str ((attrL t.isText n t.attrs).getD ⟨#[]⟩), .bool (attrL t.isText n t.attrs).isSome]) :=
  Ctr.mk Γ_ok Try.func45 (by kernel_rfl) Try.call45 [] (by kernel_rfl) (HT.walk Γ_ok mo_ok (⟨[], sp45, hd45 [] [] [] [], [], .pure [] (.tup [.str ((attrL t.isText n t.attrs).getD ⟨#[]⟩), .bool (attrL t.isText n t.attrs).isSome])⟩ : Wk) 4000 (T := .head (pt Try.f45 0) ({ tmps := [(2, AV.ptr 2 0), (3, AV.ptr 3 0), (9, AV.sl none t.attrs.length (atsC t.attrs) .no), (10, AV.int .i64 (↑t.attrs.length : Int)), (11, AV.int .i64 (0 : Int))], heap := [(2, .var true (trL t)), (3, .var true [AV.str n.sp, AV.str n.lo])], tags := [] })) (by kernel_rfl) (by
    simp only [PT.holds]
    exact attr_l t n hN t.attrs.length 0 (Nat.zero_add _)))
end Go.Proofs.Ytpffjbbolaehpaa
end

section
set_option linter.unusedVariables false
set_option linter.unusedSimpArgs false
namespace Go.Proofs.Ytpffjbbolaehpaa
open Go Go.AX

/-! ### judge, as plain data -/
def noneL (n : Nat) : List Bool := List.replicate n false
def starF (f : List Bool → List Bool) : Nat → List Bool → List Bool
  | 0, s => s
  | d + 1, s => if orZ s (f s) = s then s else starF f d (orZ s (f s))
def whereF (g : Nat → Bool) (s : List Bool) : List Bool := (List.range s.length).map fun n => s.getD n false && g n
def anyT (s : List Bool) : Bool := decide (∃ j, j < s.length ∧ s.getD j false = true)
mutual
def leadsJ (P : Pln) : Pth → List Bool → List Bool
  | .mk op sub test, s =>
    if op = 1 then s
    else if op = 2 then stepF P.fst s s.length 0 (noneL s.length)
    else if op = 3 then stepF P.nxt s s.length 0 (noneL s.length)
    else if op = 4 then seqJ P sub s
    else if op = 5 then altJ P sub s (noneL s.length)
    else if op = 6 then starJ P sub s
    else if op = 7 then whereJ P test s
    else noneL s.length
def seqJ (P : Pln) : List Pth → List Bool → List Bool
  | [], s => s
  | p :: r, s => seqJ P r (leadsJ P p s)
def altJ (P : Pln) : List Pth → List Bool → List Bool → List Bool
  | [], s, out => out
  | p :: r, s, out => altJ P r s (orZ out (leadsJ P p s))
def starJ (P : Pln) : List Pth → List Bool → List Bool
  | [], s => s
  | p :: _, s => starF (leadsJ P p) (s.length + 1) s
def whereJ (P : Pln) : List Flt → List Bool → List Bool
  | [], s => s
  | f :: _, s => whereF (holdsJ P f) s
def holdsJ (P : Pln) : Flt → Nat → Bool
  | .mk op n v sub way, k =>
    if op = 1 then true
    else if op = 2 then !(P.tr.getD k tr0).isText
    else if op = 3 then (P.tr.getD k tr0).isText
    else if op = 4 then !(P.tr.getD k tr0).isText && decide ((P.tr.getD k tr0).nm = n)
    else if op = 5 then (attrL (P.tr.getD k tr0).isText n (P.tr.getD k tr0).attrs).isSome
    else if op = 6 then (attrL (P.tr.getD k tr0).isText n (P.tr.getD k tr0).attrs).isSome && decide ((attrL (P.tr.getD k tr0).isText n (P.tr.getD k tr0).attrs).getD ⟨#[]⟩ = v)
    else if op = 7 then (P.tr.getD k tr0).isText && decide ((P.tr.getD k tr0).text = v)
    else if op = 8 then notJ P sub k
    else if op = 9 then allJ P sub k
    else if op = 10 then anyJ P sub k
    else if op = 11 then someJ P way k
    else false
def notJ (P : Pln) : List Flt → Nat → Bool
  | [], k => true
  | f :: _, k => !holdsJ P f k
def allJ (P : Pln) : List Flt → Nat → Bool
  | [], k => true
  | f :: r, k => holdsJ P f k && allJ P r k
def anyJ (P : Pln) : List Flt → Nat → Bool
  | [], k => false
  | f :: r, k => holdsJ P f k || anyJ P r k
def someJ (P : Pln) : List Pth → Nat → Bool
  | [], k => false
  | p :: _, k => anyT (leadsJ P p ((noneL P.tr.length).set k true))
end
structure PW (P : Pln) (N : Nat) : Prop where
  n : 0 < N ∧ N ≤ 1000000
  par : P.par.length = N
  fst : P.fst.length = N
  nxt : P.nxt.length = N
  siz : P.siz.length = N
  tr : P.tr.length = N
  fok : ∀ j, j < N → P.fst.getD j 0 < N
  nok : ∀ j, j < N → P.nxt.getD j 0 < N
  ats : ∀ t ∈ P.tr, t.attrs.length ≤ 1048600
theorem noneL_len (n : Nat) : (noneL n).length = n := by simp [noneL]
theorem starF_len (f : List Bool → List Bool) (N : Nat) (hf : ∀ s, s.length = N → (f s).length = N) : ∀ d s, s.length = N → (starF f d s).length = N
  | 0, s, h => h
  | d + 1, s, h => by
    simp only [starF]
    split
    · exact h
    · exact starF_len f N hf d _ (by rw [orZ_len _ _ (by rw [h, hf s h]), hf s h])
mutual
theorem leads_len (P : Pln) (N : Nat) (p : Pth) (s : List Bool) (h : s.length = N) : (leadsJ P p s).length = N := by
  match p with
  | .mk op sub test =>
    simp only [leadsJ]
    split
    · exact h
    split
    · rw [stepF_len, noneL_len, h]
    split
    · rw [stepF_len, noneL_len, h]
    split
    · exact seq_len P N sub s h
    split
    · exact alt_len P N sub s _ h (by rw [noneL_len, h])
    split
    · exact star_len P N sub s h
    split
    · cases test with
      | nil => simp only [whereJ]; exact h
      | cons f r => simp [whereJ, whereF, h]
    · rw [noneL_len, h]
theorem seq_len (P : Pln) (N : Nat) (r : List Pth) (s : List Bool) (h : s.length = N) : (seqJ P r s).length = N := by
  match r with
  | [] => simpa [seqJ] using h
  | p :: r => simp only [seqJ]; exact seq_len P N r _ (leads_len P N p s h)
theorem alt_len (P : Pln) (N : Nat) (r : List Pth) (s out : List Bool) (h : s.length = N) (ho : out.length = N) : (altJ P r s out).length = N := by
  match r with
  | [] => simpa [altJ] using ho
  | p :: r =>
    simp only [altJ]
    have := leads_len P N p s h
    exact alt_len P N r s _ h (by rw [orZ_len _ _ (by omega), this])
theorem star_len (P : Pln) (N : Nat) (r : List Pth) (s : List Bool) (h : s.length = N) : (starJ P r s).length = N := by
  match r with
  | [] => simpa [starJ] using h
  | p :: r => simp only [starJ]; exact starF_len _ N (fun s hs => leads_len P N p s hs) _ s h
end
end Go.Proofs.Ytpffjbbolaehpaa
end

section
set_option linter.unusedVariables false
set_option linter.unusedSimpArgs false
set_option maxRecDepth 100000
namespace Go.Proofs.Ytpffjbbolaehpaa
open Go Go.AX

def stS0 (P : Pln) (p : Pth) (N : Nat) (s : List Bool) (i : Nat) : AS := ⟨[(3, .ptr 3 0), (5, .ptr 1000005 0), (41, .sl none p.sub.length (pthsC p.sub) .no), (42, .int .i64 p.sub.length), (43, .int .i64 i)], [(3, .var true (planL P)), (4, .var true (pthL p)), (1000005, .var true [.sl none s.length (boolsC s) .no]), (1000007, .var true [.row 1000017 0 N]), (1000017, .rows true (boolsC (noneL N)))], []⟩
def stS1 (P : Pln) (p : Pth) (N : Nat) (s : List Bool) (i : Nat) : AS := ⟨[(3, .ptr 3 0), (5, .ptr 1000005 0), (7, .ptr 1000007 0), (56, .sl none p.sub.length (pthsC p.sub) .no), (57, .int .i64 p.sub.length), (58, .int .i64 i)], [(3, .var true (planL P)), (4, .var true (pthL p)), (1000005, .var true [.sl none s.length (boolsC s) .no]), (1000007, .var true [.row 1000017 0 N]), (1000017, .rows true (boolsC (noneL N)))], []⟩
def stS2 (P : Pln) (p : Pth) (N : Nat) (s out : List Bool) (i : Nat) : AS := ⟨[(3, .ptr 3 0), (5, .ptr 1000005 0), (7, .ptr 1000007 0), (56, .sl none p.sub.length (pthsC p.sub) .no), (57, .int .i64 p.sub.length), (58, .int .i64 i)], [(3, .var true (planL P)), (4, .var true (pthL p)), (1000005, .var true [.sl none s.length (boolsC s) .no]), (1000007, .var true [.sl none out.length (boolsC out) .no]), (1000017, .rows false (boolsC (noneL N)))], []⟩
def stS3 (P : Pln) (p : Pth) (s out : List Bool) (i : Nat) : AS := ⟨[(3, .ptr 3 0), (4, .ptr 4 0), (7, .ptr 1000007 0), (80, .sl none s.length (boolsC s) .no), (81, .int .i64 s.length), (82, .int .i64 i)], [(3, .var true (planL P)), (4, .var true (pthL p)), (1000005, .var true [.sl none s.length (boolsC s) .no]), (1000007, .var true [.row 1000017 0 out.length]), (1000017, .rows true (boolsC out))], []⟩

theorem seq_h (P : Pln) (p : Pth) (N : Nat) (s s1 R : List Bool) (i : Nat) (hi : i < p.sub.length) (hl : p.sub.length ≤ 1048600) (hc : Ctr Try.prog 31 [.agg (planL P), .agg (pthL (p.sub.getD i pth0)), (.sl none (s).length (boolsC (s)) .no)] (.sl none (s1).length (boolsC (s1)) .no)) (k : HT Try.prog Try.f31.ntmps (pt Try.f31 0) (stS0 P p N s1 (i + 1)) (EndsA Γ (.pure [1000017] (.sl none R.length (boolsC R) .no)) Try.f31)) : HT Try.prog Try.f31.ntmps (pt Try.f31 0) (stS0 P p N s i) (EndsA Γ (.pure [1000017] (.sl none R.length (boolsC R) .no)) Try.f31) :=
  HT.walk Γ_ok mo_ok (⟨([(46, .val (.agg (pthL (p.sub.getD i pth0)))), (50, .call [] (.sl none (s1).length (boolsC (s1)) .no))] ++ []), sp31, hd31 [] [] [1000005, 1000007, 1000017] [], dsp31, .pure [1000017] (.sl none R.length (boolsC R) .no)⟩ : Wk) 4000 (T := .split (decide ((↑i : Int) < (↑p.sub.length : Int))) (.ob ((0 : Int) ≤ (↑i : Int) ∧ (↑i : Int) < (↑p.sub.length : Int) ∧ (↑i : Int).toNat * (3 : Nat) < (pthsC p.sub).length) (.ob (List.take (3 : Nat) (List.drop ((↑i : Int).toNat * (3 : Nat)) (pthsC p.sub)) = (pthL (p.sub.getD i pth0))) (.ob ((5 : Nat) ≤ (5 : Nat)) (.ob ((3 : Nat) ≤ (3 : Nat)) (.ob (Ctr Try.prog 31 [AV.agg (planL P), AV.agg (pthL (p.sub.getD i pth0)), AV.sl none s.length (boolsC s) .no] (AV.sl none s1.length (boolsC s1) .no)) (.head (pt Try.f31 0) ({ tmps := [(3, AV.ptr 3 0), (5, AV.ptr 1000005 0), (41, AV.sl none p.sub.length (pthsC p.sub) .no), (42, AV.int .i64 (↑p.sub.length : Int)), (43, AV.int .i64 (IntKind.i64.wrap ((↑i : Int) + (1 : Int))))], heap := [(3, .var true (planL P)), (4, .var true (pthL p)), (1000005, .var true [AV.sl none s1.length (boolsC s1) .no]), (1000007, .var true [AV.row (1000017 : Nat) (0 : Nat) N]), (1000017, Blk.rows true (boolsC (noneL N)))], tags := [] }))))))) (.ob (s.length = R.length) (.ob (boolsC s = boolsC R) (.tt)))) (by kernel_rfl) (by
    have w2 : IntKind.i64.wrap ((i : Int) + 1) = ((i + 1 : Nat) : Int) := by rw [i64_wrap (by omega) (by omega)]; rfl
    have h0 : decide ((i : Int) < p.sub.length) = true := by simp; omega
    simp only [PT.holds, w2, h0, Int.toNat_natCast, pthsC_len, true_implies, Bool.false_eq_true, Bool.true_eq_false, false_implies, true_and, and_true]
    exact ⟨by omega, by ((try simp only [Nat.add_assoc, Nat.reduceAdd, Nat.add_zero]) <;> first | (rw [ats_take _ _ _ _ hi (by decide)]; rfl) | (rw [ats_nth _ _ _ hi (by decide)]; rfl) | (rw [pths_take _ _ _ _ hi (by decide)]; rfl) | (rw [pths_nth _ _ _ hi (by decide)]; rfl) | (rw [flts_take _ _ _ _ hi (by decide)]; rfl) | (rw [flts_nth _ _ _ hi (by decide)]; rfl) | (rw [ats_take0 _ _ _ hi (by decide)]; rfl) | (rw [ats_nth0 _ _ hi]; rfl) | (rw [pths_take0 _ _ _ hi (by decide)]; rfl) | (rw [pths_nth0 _ _ hi]; rfl) | (rw [flts_take0 _ _ _ hi (by decide)]; rfl) | (rw [flts_nth0 _ _ hi]; rfl)), by omega, by omega, hc, k⟩)
theorem seq_e (P : Pln) (p : Pth) (N : Nat) (s : List Bool) (i : Nat) (hi : i = p.sub.length) : HT Try.prog Try.f31.ntmps (pt Try.f31 0) (stS0 P p N s i) (EndsA Γ (.pure [1000017] ((.sl none (s).length (boolsC (s)) .no))) Try.f31) :=
  HT.walk Γ_ok mo_ok (⟨([(46, .val (.agg (pthL (p.sub.getD i pth0)))), (50, .call [] (.sl none (s).length (boolsC (s)) .no))] ++ []), sp31, hd31 [] [] [1000005, 1000007, 1000017] [], dsp31, .pure [1000017] ((.sl none (s).length (boolsC (s)) .no))⟩ : Wk) 4000 (T := .split (decide ((↑i : Int) < (↑p.sub.length : Int))) (.ob ((0 : Int) ≤ (↑i : Int) ∧ (↑i : Int) < (↑p.sub.length : Int) ∧ (↑i : Int).toNat * (3 : Nat) < (pthsC p.sub).length) (.ob (List.take (3 : Nat) (List.drop ((↑i : Int).toNat * (3 : Nat)) (pthsC p.sub)) = (pthL (p.sub.getD i pth0))) (.ob ((5 : Nat) ≤ (5 : Nat)) (.ob ((3 : Nat) ≤ (3 : Nat)) (.ob (Ctr Try.prog 31 [AV.agg (planL P), AV.agg (pthL (p.sub.getD i pth0)), AV.sl none s.length (boolsC s) .no] (AV.sl none s.length (boolsC s) .no)) (.head (pt Try.f31 0) ({ tmps := [(3, AV.ptr 3 0), (5, AV.ptr 1000005 0), (41, AV.sl none p.sub.length (pthsC p.sub) .no), (42, AV.int .i64 (↑p.sub.length : Int)), (43, AV.int .i64 (IntKind.i64.wrap ((↑i : Int) + (1 : Int))))], heap := [(3, .var true (planL P)), (4, .var true (pthL p)), (1000005, .var true [AV.sl none s.length (boolsC s) .no]), (1000007, .var true [AV.row (1000017 : Nat) (0 : Nat) N]), (1000017, Blk.rows true (boolsC (noneL N)))], tags := [] }))))))) (.ob (s.length = s.length) (.ob (boolsC s = boolsC s) (.tt)))) (by kernel_rfl) (by
    have h0 : decide ((i : Int) < p.sub.length) = false := by simp; omega
    simp only [PT.holds, h0, true_implies, Bool.false_eq_true, Bool.true_eq_false, false_implies, true_and, and_true])
theorem alt_h1 (P : Pln) (p : Pth) (N : Nat) (s s1 s2 R : List Bool) (i : Nat) (hi : i < p.sub.length) (hl : p.sub.length ≤ 1048600) (hc : Ctr Try.prog 31 [.agg (planL P), .agg (pthL (p.sub.getD i pth0)), (.sl none (s).length (boolsC (s)) .no)] (.sl none (s1).length (boolsC (s1)) .no)) (hc2 : Ctr Try.prog 42 [(.sl none (noneL N).length (boolsC (noneL N)) .no), (.sl none (s1).length (boolsC (s1)) .no)] (.sl none (s2).length (boolsC (s2)) .no)) (k : HT Try.prog Try.f31.ntmps (pt Try.f31 1) (stS2 P p N s s2 (i + 1)) (EndsA Γ (.pure [1000017] (.sl none R.length (boolsC R) .no)) Try.f31)) : HT Try.prog Try.f31.ntmps (pt Try.f31 1) (stS1 P p N s i) (EndsA Γ (.pure [1000017] (.sl none R.length (boolsC R) .no)) Try.f31) :=
  HT.walk Γ_ok mo_ok (⟨([(61, .val (.agg (pthL (p.sub.getD i pth0)))), (66, .call [] (.sl none (s1).length (boolsC (s1)) .no)), (67, .call [1000017] (.sl none (s2).length (boolsC (s2)) .no))] ++ []), sp31, hd31 [] [] [1000005, 1000007, 1000017] [], dsp31, .pure [1000017] (.sl none R.length (boolsC R) .no)⟩ : Wk) 4000 (T := .split (decide ((↑i : Int) < (↑p.sub.length : Int))) (.ob ((0 : Int) ≤ (↑i : Int) ∧ (↑i : Int) < (↑p.sub.length : Int) ∧ (↑i : Int).toNat * (3 : Nat) < (pthsC p.sub).length) (.ob (List.take (3 : Nat) (List.drop ((↑i : Int).toNat * (3 : Nat)) (pthsC p.sub)) = (pthL (p.sub.getD i pth0))) (.ob ((5 : Nat) ≤ (5 : Nat)) (.ob ((3 : Nat) ≤ (3 : Nat)) (.ob (Ctr Try.prog 31 [AV.agg (planL P), AV.agg (pthL (p.sub.getD i pth0)), AV.sl none s.length (boolsC s) .no] (AV.sl none s1.length (boolsC s1) .no)) (.ob (Ctr Try.prog 42 [AV.sl (some false) N (List.drop (0 : Nat) (boolsC (noneL N))) .no, AV.sl none s1.length (boolsC s1) .no] (AV.sl none s2.length (boolsC s2) .no)) (.head (pt Try.f31 1) ({ tmps := [(3, AV.ptr 3 0), (5, AV.ptr 1000005 0), (7, AV.ptr 1000007 0), (56, AV.sl none p.sub.length (pthsC p.sub) .no), (57, AV.int .i64 (↑p.sub.length : Int)), (58, AV.int .i64 (IntKind.i64.wrap ((↑i : Int) + (1 : Int))))], heap := [(3, .var true (planL P)), (4, .var true (pthL p)), (1000005, .var true [AV.sl none s.length (boolsC s) .no]), (1000007, .var true [AV.sl none s2.length (boolsC s2) .no]), (1000017, Blk.rows false (boolsC (noneL N)))], tags := [] })))))))) (.ob (N = R.length) (.ob (List.drop (0 : Nat) (boolsC (noneL N)) = boolsC R) (.tt)))) (by kernel_rfl) (by
    have w2 : IntKind.i64.wrap ((i : Int) + 1) = ((i + 1 : Nat) : Int) := by rw [i64_wrap (by omega) (by omega)]; rfl
    have h0 : decide ((i : Int) < p.sub.length) = true := by simp; omega
    simp only [PT.holds, w2, h0, Int.toNat_natCast, pthsC_len, true_implies, Bool.false_eq_true, Bool.true_eq_false, false_implies, true_and, and_true]
    exact ⟨by omega, by ((try simp only [Nat.add_assoc, Nat.reduceAdd, Nat.add_zero]) <;> first | (rw [ats_take _ _ _ _ hi (by decide)]; rfl) | (rw [ats_nth _ _ _ hi (by decide)]; rfl) | (rw [pths_take _ _ _ _ hi (by decide)]; rfl) | (rw [pths_nth _ _ _ hi (by decide)]; rfl) | (rw [flts_take _ _ _ _ hi (by decide)]; rfl) | (rw [flts_nth _ _ _ hi (by decide)]; rfl) | (rw [ats_take0 _ _ _ hi (by decide)]; rfl) | (rw [ats_nth0 _ _ hi]; rfl) | (rw [pths_take0 _ _ _ hi (by decide)]; rfl) | (rw [pths_nth0 _ _ hi]; rfl) | (rw [flts_take0 _ _ _ hi (by decide)]; rfl) | (rw [flts_nth0 _ _ hi]; rfl)), by omega, by omega, hc, hc2.args rfl ⟨(noneL_len N).symm, rfl, rfl, rfl⟩, k⟩)
theorem alt_h2 (P : Pln) (p : Pth) (N : Nat) (s out s1 s2 R : List Bool) (i : Nat) (hi : i < p.sub.length) (hl : p.sub.length ≤ 1048600) (hc : Ctr Try.prog 31 [.agg (planL P), .agg (pthL (p.sub.getD i pth0)), (.sl none (s).length (boolsC (s)) .no)] (.sl none (s1).length (boolsC (s1)) .no)) (hc2 : Ctr Try.prog 42 [(.sl none (out).length (boolsC (out)) .no), (.sl none (s1).length (boolsC (s1)) .no)] (.sl none (s2).length (boolsC (s2)) .no)) (k : HT Try.prog Try.f31.ntmps (pt Try.f31 1) (stS2 P p N s s2 (i + 1)) (EndsA Γ (.pure [1000017] (.sl none R.length (boolsC R) .no)) Try.f31)) : HT Try.prog Try.f31.ntmps (pt Try.f31 1) (stS2 P p N s out i) (EndsA Γ (.pure [1000017] (.sl none R.length (boolsC R) .no)) Try.f31) :=
  HT.walk Γ_ok mo_ok (⟨([(61, .val (.agg (pthL (p.sub.getD i pth0)))), (66, .call [] (.sl none (s1).length (boolsC (s1)) .no)), (67, .call [] (.sl none (s2).length (boolsC (s2)) .no))] ++ []), sp31, hd31 [] [] [1000005, 1000007, 1000017] [], dsp31, .pure [1000017] (.sl none R.length (boolsC R) .no)⟩ : Wk) 4000 (T := .split (decide ((↑i : Int) < (↑p.sub.length : Int))) (.ob ((0 : Int) ≤ (↑i : Int) ∧ (↑i : Int) < (↑p.sub.length : Int) ∧ (↑i : Int).toNat * (3 : Nat) < (pthsC p.sub).length) (.ob (List.take (3 : Nat) (List.drop ((↑i : Int).toNat * (3 : Nat)) (pthsC p.sub)) = (pthL (p.sub.getD i pth0))) (.ob ((5 : Nat) ≤ (5 : Nat)) (.ob ((3 : Nat) ≤ (3 : Nat)) (.ob (Ctr Try.prog 31 [AV.agg (planL P), AV.agg (pthL (p.sub.getD i pth0)), AV.sl none s.length (boolsC s) .no] (AV.sl none s1.length (boolsC s1) .no)) (.ob (Ctr Try.prog 42 [AV.sl none out.length (boolsC out) .no, AV.sl none s1.length (boolsC s1) .no] (AV.sl none s2.length (boolsC s2) .no)) (.head (pt Try.f31 1) ({ tmps := [(3, AV.ptr 3 0), (5, AV.ptr 1000005 0), (7, AV.ptr 1000007 0), (56, AV.sl none p.sub.length (pthsC p.sub) .no), (57, AV.int .i64 (↑p.sub.length : Int)), (58, AV.int .i64 (IntKind.i64.wrap ((↑i : Int) + (1 : Int))))], heap := [(3, .var true (planL P)), (4, .var true (pthL p)), (1000005, .var true [AV.sl none s.length (boolsC s) .no]), (1000007, .var true [AV.sl none s2.length (boolsC s2) .no]), (1000017, Blk.rows false (boolsC (noneL N)))], tags := [] })))))))) (.ob (out.length = R.length) (.ob (boolsC out = boolsC R) (.tt)))) (by kernel_rfl) (by
    have w2 : IntKind.i64.wrap ((i : Int) + 1) = ((i + 1 : Nat) : Int) := by rw [i64_wrap (by omega) (by omega)]; rfl
    have h0 : decide ((i : Int) < p.sub.length) = true := by simp; omega
    simp only [PT.holds, w2, h0, Int.toNat_natCast, pthsC_len, true_implies, Bool.false_eq_true, Bool.true_eq_false, false_implies, true_and, and_true]
    exact ⟨by omega, by ((try simp only [Nat.add_assoc, Nat.reduceAdd, Nat.add_zero]) <;> first | (rw [ats_take _ _ _ _ hi (by decide)]; rfl) | (rw [ats_nth _ _ _ hi (by decide)]; rfl) | (rw [pths_take _ _ _ _ hi (by decide)]; rfl) | (rw [pths_nth _ _ _ hi (by decide)]; rfl) | (rw [flts_take _ _ _ _ hi (by decide)]; rfl) | (rw [flts_nth _ _ _ hi (by decide)]; rfl) | (rw [ats_take0 _ _ _ hi (by decide)]; rfl) | (rw [ats_nth0 _ _ hi]; rfl) | (rw [pths_take0 _ _ _ hi (by decide)]; rfl) | (rw [pths_nth0 _ _ hi]; rfl) | (rw [flts_take0 _ _ _ hi (by decide)]; rfl) | (rw [flts_nth0 _ _ hi]; rfl)), by omega, by omega, hc, hc2, k⟩)
theorem alt_e (P : Pln) (p : Pth) (N : Nat) (s out : List Bool) (i : Nat) (hi : i = p.sub.length) : HT Try.prog Try.f31.ntmps (pt Try.f31 1) (stS2 P p N s out i) (EndsA Γ (.pure [1000017] ((.sl none (out).length (boolsC (out)) .no))) Try.f31) :=
  HT.walk Γ_ok mo_ok (⟨([(61, .val (.agg (pthL (p.sub.getD i pth0)))), (66, .call [] (.sl none (s).length (boolsC (s)) .no)), (67, .call [] (.sl none (s).length (boolsC (s)) .no))] ++ []), sp31, hd31 [] [] [1000005, 1000007, 1000017] [], dsp31, .pure [1000017] ((.sl none (out).length (boolsC (out)) .no))⟩ : Wk) 4000 (T := .split (decide ((↑i : Int) < (↑p.sub.length : Int))) (.ob ((0 : Int) ≤ (↑i : Int) ∧ (↑i : Int) < (↑p.sub.length : Int) ∧ (↑i : Int).toNat * (3 : Nat) < (pthsC p.sub).length) (.ob (List.take (3 : Nat) (List.drop ((↑i : Int).toNat * (3 : Nat)) (pthsC p.sub)) = (pthL (p.sub.getD i pth0))) (.ob ((5 : Nat) ≤ (5 : Nat)) (.ob ((3 : Nat) ≤ (3 : Nat)) (.ob (Ctr Try.prog 31 [AV.agg (planL P), AV.agg (pthL (p.sub.getD i pth0)), AV.sl none s.length (boolsC s) .no] (AV.sl none s.length (boolsC s) .no)) (.ob (Ctr Try.prog 42 [AV.sl none out.length (boolsC out) .no, AV.sl none s.length (boolsC s) .no] (AV.sl none s.length (boolsC s) .no)) (.head (pt Try.f31 1) ({ tmps := [(3, AV.ptr 3 0), (5, AV.ptr 1000005 0), (7, AV.ptr 1000007 0), (56, AV.sl none p.sub.length (pthsC p.sub) .no), (57, AV.int .i64 (↑p.sub.length : Int)), (58, AV.int .i64 (IntKind.i64.wrap ((↑i : Int) + (1 : Int))))], heap := [(3, .var true (planL P)), (4, .var true (pthL p)), (1000005, .var true [AV.sl none s.length (boolsC s) .no]), (1000007, .var true [AV.sl none s.length (boolsC s) .no]), (1000017, Blk.rows false (boolsC (noneL N)))], tags := [] })))))))) (.ob (out.length = out.length) (.ob (boolsC out = boolsC out) (.tt)))) (by kernel_rfl) (by
    have h0 : decide ((i : Int) < p.sub.length) = false := by simp; omega
    simp only [PT.holds, h0, true_implies, Bool.false_eq_true, Bool.true_eq_false, false_implies, true_and, and_true])
theorem where_h (P : Pln) (p : Pth) (s out R : List Bool) (i : Nat) (b : Bool) (hi : i < s.length) (ho : out.length = s.length) (hN : s.length ≤ 1000000) (ht : 0 < p.test.length) (hc : Ctr Try.prog 33 [.agg (planL P), .agg (fltL (p.test.getD 0 flt0)), .int .i64 i] (.bool b)) (k : HT Try.prog Try.f31.ntmps (pt Try.f31 2) (stS3 P p s (out.set i (s.getD i false && b)) (i + 1)) (EndsA Γ (.pure [1000017] (.sl none R.length (boolsC R) .no)) Try.f31)) : HT Try.prog Try.f31.ntmps (pt Try.f31 2) (stS3 P p s out i) (EndsA Γ (.pure [1000017] (.sl none R.length (boolsC R) .no)) Try.f31) :=
  HT.walk Γ_ok mo_ok (⟨([(86, .val (.bool (s.getD i false))), (95, .val (.agg (fltL (p.test.getD 0 flt0)))), (97, .call [] (.bool b))] ++ []), sp31, hd31 [] [] [1000005, 1000007, 1000017] [], dsp31, .pure [1000017] (.sl none R.length (boolsC R) .no)⟩ : Wk) 4000 (T := .split (decide ((↑i : Int) < (↑s.length : Int))) (.ob ((0 : Int) ≤ (↑i : Int) ∧ (↑i : Int) < (↑s.length : Int) ∧ (↑i : Int).toNat * (1 : Nat) < (boolsC s).length) (.ob ((boolsC s)[(↑i : Int).toNat * (1 : Nat)]? = some (AV.bool (s.getD i false))) (.or (.ob (s.getD i false = true) (.ob ((5 : Nat) ≤ (5 : Nat)) (.ob ((0 : Int) ≤ (0 : Int) ∧ (0 : Int) < (↑p.test.length : Int) ∧ Int.toNat (0 : Int) * (6 : Nat) < (fltsC p.test).length) (.ob (List.take (6 : Nat) (List.drop (Int.toNat (0 : Int) * (6 : Nat)) (fltsC p.test)) = (fltL (p.test.getD (0 : Nat) flt0))) (.ob (Ctr Try.prog 33 [AV.agg (planL P), AV.agg (fltL (p.test.getD (0 : Nat) flt0)), AV.int .i64 (↑i : Int)] (AV.bool b)) (.ob ((0 : Int) ≤ (↑i : Int) ∧ (↑i : Int) < (↑out.length : Int)) (.ob ((0 : Nat) + (↑i : Int).toNat * (1 : Nat) < (boolsC out).length) (.head (pt Try.f31 2) ({ tmps := [(3, AV.ptr 3 0), (4, AV.ptr 4 0), (7, AV.ptr 1000007 0), (80, AV.sl none s.length (boolsC s) .no), (81, AV.int .i64 (↑s.length : Int)), (82, AV.int .i64 (IntKind.i64.wrap ((↑i : Int) + (1 : Int))))], heap := [(3, .var true (planL P)), (4, .var true (pthL p)), (1000005, .var true [AV.sl none s.length (boolsC s) .no]), (1000007, .var true [AV.row (1000017 : Nat) (0 : Nat) out.length]), (1000017, Blk.rows true ((boolsC out).set ((0 : Nat) + (↑i : Int).toNat * (1 : Nat)) (AV.bool b)))], tags := [] }))))))))) (.ob (s.getD i false = false) (.ob ((0 : Int) ≤ (↑i : Int) ∧ (↑i : Int) < (↑out.length : Int)) (.ob ((0 : Nat) + (↑i : Int).toNat * (1 : Nat) < (boolsC out).length) (.head (pt Try.f31 2) ({ tmps := [(3, AV.ptr 3 0), (4, AV.ptr 4 0), (7, AV.ptr 1000007 0), (80, AV.sl none s.length (boolsC s) .no), (81, AV.int .i64 (↑s.length : Int)), (82, AV.int .i64 (IntKind.i64.wrap ((↑i : Int) + (1 : Int))))], heap := [(3, .var true (planL P)), (4, .var true (pthL p)), (1000005, .var true [AV.sl none s.length (boolsC s) .no]), (1000007, .var true [AV.row (1000017 : Nat) (0 : Nat) out.length]), (1000017, Blk.rows true ((boolsC out).set ((0 : Nat) + (↑i : Int).toNat * (1 : Nat)) (AV.bool false)))], tags := [] })))))))) (.ob (out.length = R.length) (.ob (List.drop (0 : Nat) (boolsC out) = boolsC R) (.tt)))) (by kernel_rfl) (by
    have w2 : IntKind.i64.wrap ((i : Int) + 1) = ((i + 1 : Nat) : Int) := by rw [i64_wrap (by omega) (by omega)]; rfl
    have h0 : decide ((i : Int) < s.length) = true := by simp; omega
    simp only [PT.holds, w2, h0, Int.toNat_natCast, Int.toNat_zero, Nat.mul_one, Nat.zero_add, boolsC_len, boolsC_nth s i hi, fltsC_len, boolsC_set', true_implies, Bool.false_eq_true, Bool.true_eq_false, false_implies, true_and, and_true]
    refine ⟨by omega, ?_⟩
    cases hb : s.getD i false
    · refine .inr ⟨rfl, by omega, by omega, head_eq k ?_⟩
      simp only [stS3, hb, Bool.false_and, List.length_set] <;> rfl
    · refine .inl ⟨rfl, by omega, by omega, by ((try simp only [Nat.add_assoc, Nat.reduceAdd, Nat.add_zero]) <;> first | (rw [ats_take _ _ _ _ ht (by decide)]; rfl) | (rw [ats_nth _ _ _ ht (by decide)]; rfl) | (rw [pths_take _ _ _ _ ht (by decide)]; rfl) | (rw [pths_nth _ _ _ ht (by decide)]; rfl) | (rw [flts_take _ _ _ _ ht (by decide)]; rfl) | (rw [flts_nth _ _ _ ht (by decide)]; rfl) | (rw [ats_take0 _ _ _ ht (by decide)]; rfl) | (rw [ats_nth0 _ _ ht]; rfl) | (rw [pths_take0 _ _ _ ht (by decide)]; rfl) | (rw [pths_nth0 _ _ ht]; rfl) | (rw [flts_take0 _ _ _ ht (by decide)]; rfl) | (rw [flts_nth0 _ _ ht]; rfl)), hc, by omega, by omega, head_eq k ?_⟩
      simp only [stS3, hb, Bool.true_and, List.length_set] <;> rfl)
theorem where_e (P : Pln) (p : Pth) (s out : List Bool) (i : Nat) (hi : i = s.length) : HT Try.prog Try.f31.ntmps (pt Try.f31 2) (stS3 P p s out i) (EndsA Γ (.pure [1000017] ((.sl none (out).length (boolsC (out)) .no))) Try.f31) :=
  HT.walk Γ_ok mo_ok (⟨([(86, .val (.bool (s.getD i false))), (95, .val (.agg (fltL (p.test.getD 0 flt0)))), (97, .call [] (.bool false))] ++ []), sp31, hd31 [] [] [1000005, 1000007, 1000017] [], dsp31, .pure [1000017] ((.sl none (out).length (boolsC (out)) .no))⟩ : Wk) 4000 (T := .split (decide ((↑i : Int) < (↑s.length : Int))) (.ob ((0 : Int) ≤ (↑i : Int) ∧ (↑i : Int) < (↑s.length : Int) ∧ (↑i : Int).toNat * (1 : Nat) < (boolsC s).length) (.ob ((boolsC s)[(↑i : Int).toNat * (1 : Nat)]? = some (AV.bool (s.getD i false))) (.or (.ob (s.getD i false = true) (.ob ((5 : Nat) ≤ (5 : Nat)) (.ob ((0 : Int) ≤ (0 : Int) ∧ (0 : Int) < (↑p.test.length : Int) ∧ Int.toNat (0 : Int) * (6 : Nat) < (fltsC p.test).length) (.ob (List.take (6 : Nat) (List.drop (Int.toNat (0 : Int) * (6 : Nat)) (fltsC p.test)) = (fltL (p.test.getD (0 : Nat) flt0))) (.ob (Ctr Try.prog 33 [AV.agg (planL P), AV.agg (fltL (p.test.getD (0 : Nat) flt0)), AV.int .i64 (↑i : Int)] (AV.bool false)) (.ob ((0 : Int) ≤ (↑i : Int) ∧ (↑i : Int) < (↑out.length : Int)) (.ob ((0 : Nat) + (↑i : Int).toNat * (1 : Nat) < (boolsC out).length) (.head (pt Try.f31 2) ({ tmps := [(3, AV.ptr 3 0), (4, AV.ptr 4 0), (7, AV.ptr 1000007 0), (80, AV.sl none s.length (boolsC s) .no), (81, AV.int .i64 (↑s.length : Int)), (82, AV.int .i64 (IntKind.i64.wrap ((↑i : Int) + (1 : Int))))], heap := [(3, .var true (planL P)), (4, .var true (pthL p)), (1000005, .var true [AV.sl none s.length (boolsC s) .no]), (1000007, .var true [AV.row (1000017 : Nat) (0 : Nat) out.length]), (1000017, Blk.rows true ((boolsC out).set ((0 : Nat) + (↑i : Int).toNat * (1 : Nat)) (AV.bool false)))], tags := [] }))))))))) (.ob (s.getD i false = false) (.ob ((0 : Int) ≤ (↑i : Int) ∧ (↑i : Int) < (↑out.length : Int)) (.ob ((0 : Nat) + (↑i : Int).toNat * (1 : Nat) < (boolsC out).length) (.head (pt Try.f31 2) ({ tmps := [(3, AV.ptr 3 0), (4, AV.ptr 4 0), (7, AV.ptr 1000007 0), (80, AV.sl none s.length (boolsC s) .no), (81, AV.int .i64 (↑s.length : Int)), (82, AV.int .i64 (IntKind.i64.wrap ((↑i : Int) + (1 : Int))))], heap := [(3, .var true (planL P)), (4, .var true (pthL p)), (1000005, .var true [AV.sl none s.length (boolsC s) .no]), (1000007, .var true [AV.row (1000017 : Nat) (0 : Nat) out.length]), (1000017, Blk.rows true ((boolsC out).set ((0 : Nat) + (↑i : Int).toNat * (1 : Nat)) (AV.bool false)))], tags := [] })))))))) (.ob (out.length = out.length) (.ob (List.drop (0 : Nat) (boolsC out) = boolsC out) (.tt)))) (by kernel_rfl) (by
    have h0 : decide ((i : Int) < s.length) = false := by simp; omega
    simp only [PT.holds, h0, true_implies, Bool.false_eq_true, Bool.true_eq_false, false_implies, true_and, and_true]
    rfl)
end Go.Proofs.Ytpffjbbolaehpaa
end

section
set_option linter.unusedVariables false
set_option linter.unusedSimpArgs false
set_option maxRecDepth 100000
namespace Go.Proofs.Ytpffjbbolaehpaa
open Go Go.AX

def annS (P : Pln) (p : Pth) (s : List Bool) : List (Nat × Ann) := [(5, .id 1000005), (17, .id 1000017), (7, .id 1000007),
  (30, .callM [] [] [1000005, 1000007, 1000017] [] (setM s (stepF P.fst s s.length 0 (noneL s.length))).heap [] (.tup [])),
  (37, .callM [] [] [1000005, 1000007, 1000017] [] (setM s (stepF P.nxt s s.length 0 (noneL s.length))).heap [] (.tup [])),
  (75, .val (.agg (pthL (p.sub.getD 0 pth0)))), (77, .call [] (.sl none (starJ P p.sub s).length (boolsC (starJ P p.sub s)) .no))]
theorem rep_none (n : Nat) : List.replicate n (zn (.bool false)) = boolsC (noneL n) := by simp [boolsC, noneL, zn]
theorem leadsJ_eq (P : Pln) (p : Pth) (s : List Bool) : leadsJ P p s = if p.op = 1 then s
    else if p.op = 2 then stepF P.fst s s.length 0 (noneL s.length)
    else if p.op = 3 then stepF P.nxt s s.length 0 (noneL s.length)
    else if p.op = 4 then seqJ P p.sub s
    else if p.op = 5 then altJ P p.sub s (noneL s.length)
    else if p.op = 6 then starJ P p.sub s
    else if p.op = 7 then whereJ P p.test s
    else noneL s.length := by cases p; rfl

theorem leads_p (P : Pln) (p : Pth) (s R : List Bool) (N : Nat) (hP : PW P N) (hs : s.length = N) (hr : p.r1) (hR : R = leadsJ P p s) (k4 : p.op = 4 → HT Try.prog Try.f31.ntmps (pt Try.f31 0) (stS0 P p s.length s 0) (EndsA Γ (.pure [1000017] (.sl none R.length (boolsC R) .no)) Try.f31)) (k5 : p.op = 5 → HT Try.prog Try.f31.ntmps (pt Try.f31 1) (stS1 P p s.length s 0) (EndsA Γ (.pure [1000017] (.sl none R.length (boolsC R) .no)) Try.f31)) (k6 : p.op = 6 → Ctr Try.prog 43 [.agg (planL P), .agg (pthL (p.sub.getD 0 pth0)), (.sl none (s).length (boolsC (s)) .no)] (.sl none (starJ P p.sub s).length (boolsC (starJ P p.sub s)) .no)) (k7 : p.op = 7 → HT Try.prog Try.f31.ntmps (pt Try.f31 2) (stS3 P p s (noneL s.length) 0) (EndsA Γ (.pure [1000017] (.sl none R.length (boolsC R) .no)) Try.f31)) : Ctr Try.prog 31 [.agg (planL P), .agg (pthL p), .sl none s.length (boolsC s) .no] (.sl none R.length (boolsC R) .no) :=
  Ctr.mk Γ_ok Try.func31 (by kernel_rfl) Try.call31 [1000017] (by kernel_rfl) (HT.walk Γ_ok mo_ok (⟨annS P p s, sp31, hd31 [] [] [1000005, 1000007, 1000017] [], dsp31, .pure [1000017] (.sl none R.length (boolsC R) .no)⟩ : Wk) 4000 (T := .ob ((↑s.length : Int) = (↑s.length : Int) ∧ (0 : Int) ≤ (↑s.length : Int) ∧ (↑s.length : Int) * (↑(1 : Nat) : Int) ≤ (281474976710656 : Int) ∧ (↑s.length : Int) ≤ (9223372036854775807 : Int)) (.split (decide (p.op = (1 : Int))) (.ob (s.length = R.length) (.ob (boolsC s = boolsC R) (.tt))) (.split (decide (p.op = (2 : Int))) (.ob (CtrM Try.prog (41 : Nat) { heap := [(1000005, .var true [AV.sl none s.length (boolsC s) .no]), (1000007, .var true [AV.row (1000017 : Nat) (0 : Nat) (↑s.length : Int).toNat]), (1000017, Blk.rows true (List.replicate (↑s.length : Int).toNat (zn (AV.bool false))))], tags := [] } [AV.sl none P.fst.length (intsC P.fst) .no, AV.ptr 1000005 0, AV.ptr 1000007 0] { heap := [(1000005, .var true [AV.sl none s.length (boolsC s) .no]), (1000007, .var true [AV.row (1000017 : Nat) (0 : Nat) (stepF P.fst s s.length (0 : Nat) (noneL s.length)).length]), (1000017, Blk.rows true (boolsC (stepF P.fst s s.length (0 : Nat) (noneL s.length))))], tags := [] } (AV.tup [])) (.ob ((stepF P.fst s s.length (0 : Nat) (noneL s.length)).length = R.length) (.ob (List.drop (0 : Nat) (boolsC (stepF P.fst s s.length (0 : Nat) (noneL s.length))) = boolsC R) (.tt)))) (.split (decide (p.op = (3 : Int))) (.ob (CtrM Try.prog (41 : Nat) { heap := [(1000005, .var true [AV.sl none s.length (boolsC s) .no]), (1000007, .var true [AV.row (1000017 : Nat) (0 : Nat) (↑s.length : Int).toNat]), (1000017, Blk.rows true (List.replicate (↑s.length : Int).toNat (zn (AV.bool false))))], tags := [] } [AV.sl none P.nxt.length (intsC P.nxt) .no, AV.ptr 1000005 0, AV.ptr 1000007 0] { heap := [(1000005, .var true [AV.sl none s.length (boolsC s) .no]), (1000007, .var true [AV.row (1000017 : Nat) (0 : Nat) (stepF P.nxt s s.length (0 : Nat) (noneL s.length)).length]), (1000017, Blk.rows true (boolsC (stepF P.nxt s s.length (0 : Nat) (noneL s.length))))], tags := [] } (AV.tup [])) (.ob ((stepF P.nxt s s.length (0 : Nat) (noneL s.length)).length = R.length) (.ob (List.drop (0 : Nat) (boolsC (stepF P.nxt s s.length (0 : Nat) (noneL s.length))) = boolsC R) (.tt)))) (.split (decide (p.op = (4 : Int))) (.head (pt Try.f31 0) ({ tmps := [(3, AV.ptr 3 0), (5, AV.ptr 1000005 0), (41, AV.sl none p.sub.length (pthsC p.sub) .no), (42, AV.int .i64 (↑p.sub.length : Int)), (43, AV.int .i64 (0 : Int))], heap := [(3, .var true (planL P)), (4, .var true (pthL p)), (1000005, .var true [AV.sl none s.length (boolsC s) .no]), (1000007, .var true [AV.row (1000017 : Nat) (0 : Nat) (↑s.length : Int).toNat]), (1000017, Blk.rows true (List.replicate (↑s.length : Int).toNat (zn (AV.bool false))))], tags := [] })) (.split (decide (p.op = (5 : Int))) (.head (pt Try.f31 1) ({ tmps := [(3, AV.ptr 3 0), (5, AV.ptr 1000005 0), (7, AV.ptr 1000007 0), (56, AV.sl none p.sub.length (pthsC p.sub) .no), (57, AV.int .i64 (↑p.sub.length : Int)), (58, AV.int .i64 (0 : Int))], heap := [(3, .var true (planL P)), (4, .var true (pthL p)), (1000005, .var true [AV.sl none s.length (boolsC s) .no]), (1000007, .var true [AV.row (1000017 : Nat) (0 : Nat) (↑s.length : Int).toNat]), (1000017, Blk.rows true (List.replicate (↑s.length : Int).toNat (zn (AV.bool false))))], tags := [] })) (.split (decide (p.op = (6 : Int))) (.ob ((5 : Nat) ≤ (5 : Nat)) (.ob ((0 : Int) ≤ (0 : Int) ∧ (0 : Int) < (↑p.sub.length : Int) ∧ Int.toNat (0 : Int) * (3 : Nat) < (pthsC p.sub).length) (.ob (List.take (3 : Nat) (List.drop (Int.toNat (0 : Int) * (3 : Nat)) (pthsC p.sub)) = (pthL (p.sub.getD (0 : Nat) pth0))) (.ob (Ctr Try.prog 43 [AV.agg (planL P), AV.agg (pthL (p.sub.getD (0 : Nat) pth0)), AV.sl none s.length (boolsC s) .no] (AV.sl none (starJ P p.sub s).length (boolsC (starJ P p.sub s)) .no)) (.ob ((starJ P p.sub s).length = R.length) (.ob (boolsC (starJ P p.sub s) = boolsC R) (.tt))))))) (.split (decide (p.op = (7 : Int))) (.head (pt Try.f31 2) ({ tmps := [(3, AV.ptr 3 0), (4, AV.ptr 4 0), (7, AV.ptr 1000007 0), (80, AV.sl none s.length (boolsC s) .no), (81, AV.int .i64 (↑s.length : Int)), (82, AV.int .i64 (0 : Int))], heap := [(3, .var true (planL P)), (4, .var true (pthL p)), (1000005, .var true [AV.sl none s.length (boolsC s) .no]), (1000007, .var true [AV.row (1000017 : Nat) (0 : Nat) (↑s.length : Int).toNat]), (1000017, Blk.rows true (List.replicate (↑s.length : Int).toNat (zn (AV.bool false))))], tags := [] })) (.ob ((↑s.length : Int).toNat = R.length) (.ob (List.drop (0 : Nat) (List.replicate (↑s.length : Int).toNat (zn (AV.bool false))) = boolsC R) (.tt))))))))))) (by kernel_rfl) (by
    have hN := hP.n
    have hf : CtrM Try.prog 41 (setM s (noneL s.length)) [.sl none P.fst.length (intsC P.fst) .no, .ptr 1000005 0, .ptr 1000007 0] (setM s (stepF P.fst s s.length 0 (noneL s.length))) (.tup []) := step_ctr s _ P.fst (by rw [hP.fst, hs]) (by omega) (fun j hj => by rw [hs]; exact hP.fok j (by rw [hP.fst] at hj; exact hj)) (noneL_len _)
    have hx : CtrM Try.prog 41 (setM s (noneL s.length)) [.sl none P.nxt.length (intsC P.nxt) .no, .ptr 1000005 0, .ptr 1000007 0] (setM s (stepF P.nxt s s.length 0 (noneL s.length))) (.tup []) := step_ctr s _ P.nxt (by rw [hP.nxt, hs]) (by omega) (fun j hj => by rw [hs]; exact hP.nok j (by rw [hP.nxt] at hj; exact hj)) (noneL_len _)
    unfold setM at hf hx
    rw [leadsJ_eq] at hR
    simp only [noneL_len] at hf hx
    simp only [PT.holds, Int.toNat_natCast, Int.toNat_zero, rep_none, List.drop_zero, decide_eq_true_eq, decide_eq_false_iff_not, pthsC_len, and_true]
    refine ⟨⟨trivial, by omega, by omega, by omega⟩, fun h1 => ?_, fun h1 => ⟨fun h2 => ?_, fun h2 => ⟨fun h3 => ?_, fun h3 => ⟨fun h4 => k4 h4, fun h4 => ⟨fun h5 => k5 h5, fun h5 => ⟨fun h6 => ?_, fun h6 => ⟨fun h7 => head_eq (k7 h7) (by simp only [stS3, noneL_len]; rfl), fun h7 => ?_⟩⟩⟩⟩⟩⟩⟩
    · rw [if_pos h1] at hR
      rw [hR]
      exact ⟨rfl, rfl⟩
    · rw [if_neg h1, if_pos h2] at hR
      rw [hR]
      exact ⟨hf, rfl, rfl⟩
    · rw [if_neg h1, if_neg h2, if_pos h3] at hR
      rw [hR]
      exact ⟨hx, rfl, rfl⟩
    · rw [if_neg h1, if_neg h2, if_neg h3, if_neg h4, if_neg h5, if_pos h6] at hR
      rw [hR]
      have hl := hr.one h6
      exact ⟨by omega, by omega, by ((try simp only [Nat.add_assoc, Nat.reduceAdd, Nat.add_zero]) <;> first | (rw [ats_take _ _ _ _ (show 0 < p.sub.length by omega) (by decide)]; rfl) | (rw [pths_take _ _ _ _ (show 0 < p.sub.length by omega) (by decide)]; rfl) | (rw [ats_take0 _ _ _ (show 0 < p.sub.length by omega) (by decide)]; rfl) | (rw [pths_take0 _ _ _ (show 0 < p.sub.length by omega) (by decide)]; rfl)), k6 h6, rfl, rfl⟩
    · exfalso
      have := hr.op
      omega))
def stSt43 (P : Pln) (p : Pth) (s : List Bool) : AS := ⟨[(2, .sl none s.length (boolsC s) .no), (3, .ptr 3 0), (4, .ptr 4 0)], [(3, .var true (planL P)), (4, .var true (pthL p))], []⟩

theorem star_h (P : Pln) (p : Pth) (s s1 R : List Bool) (h1 : s1.length = s.length) (hN : 0 < s.length ∧ s.length ≤ 1000000) (hc : Ctr Try.prog 31 [.agg (planL P), .agg (pthL p), (.sl none (s).length (boolsC (s)) .no)] (.sl none (s1).length (boolsC (s1)) .no)) (k : orZ s s1 ≠ s → HT Try.prog Try.f43.ntmps (pt Try.f43 0) (stSt43 P p (orZ s s1)) (EndsA Γ (.pure [] (.sl none R.length (boolsC R) .no)) Try.f43)) (he : orZ s s1 = s → R = s) : HT Try.prog Try.f43.ntmps (pt Try.f43 0) (stSt43 P p s) (EndsA Γ (.pure [] (.sl none R.length (boolsC R) .no)) Try.f43) :=
  HT.walk Γ_ok mo_ok (⟨([(12, .call [] (.sl none (s1).length (boolsC (s1)) .no)), (13, .call [] (.sl none (orZ s s1).length (boolsC (orZ s s1)) .no)), (16, .call [] (.bool (decide (orZ s s1 = s))))] ++ annS P p s), sp43, hd43 [] [] [] [], [], .pure [] (.sl none R.length (boolsC R) .no)⟩ : Wk) 4000 (T := .ob ((5 : Nat) ≤ (5 : Nat)) (.ob ((3 : Nat) ≤ (3 : Nat)) (.ob (Ctr Try.prog 31 [AV.agg (planL P), AV.agg (pthL p), AV.sl none s.length (boolsC s) .no] (AV.sl none s1.length (boolsC s1) .no)) (.ob (Ctr Try.prog 42 [AV.sl none s.length (boolsC s) .no, AV.sl none s1.length (boolsC s1) .no] (AV.sl none (orZ s s1).length (boolsC (orZ s s1)) .no)) (.ob (Ctr Try.prog 55 [AV.sl none (orZ s s1).length (boolsC (orZ s s1)) .no, AV.sl none s.length (boolsC s) .no] (AV.bool (decide (orZ s s1 = s)))) (.split (decide (orZ s s1 = s)) (.ob (s.length = R.length) (.ob (boolsC s = boolsC R) (.tt))) (.head (pt Try.f43 0) ({ tmps := [(2, AV.sl none (orZ s s1).length (boolsC (orZ s s1)) .no), (3, AV.ptr 3 0), (4, AV.ptr 4 0)], heap := [(3, .var true (planL P)), (4, .var true (pthL p))], tags := [] })))))))) (by kernel_rfl) (by
    have hl : (orZ s s1).length = s.length := by rw [orZ_len _ _ h1.symm, h1]
    simp only [PT.holds, decide_eq_true_eq, decide_eq_false_iff_not, and_true]
    refine ⟨by omega, by omega, hc, either_ctr s s1 h1.symm (by omega), eq_ctr _ _ hl (by omega), fun h => ?_, fun h => k h⟩
    rw [he h]
    exact ⟨rfl, rfl⟩)
end Go.Proofs.Ytpffjbbolaehpaa
end

section
set_option linter.unusedVariables false
set_option linter.unusedSimpArgs false
set_option maxRecDepth 100000
namespace Go.Proofs.Ytpffjbbolaehpaa
open Go Go.AX

theorem in_ctr (P : Pln) (k : Nat) (f : Flt) (b : Bool) (hc : Ctr Try.prog 33 [.agg (planL P), .agg (fltL f), .int .i64 k] (.bool b)) : Ctr Try.prog 44 [.agg (fltL f), .rop (planL P) 0, .rop [.int .i64 k] 0] (.bool b) :=
  Ctr.mk Γ_ok Try.func44 (by kernel_rfl) Try.call44 [] (by kernel_rfl) (HT.walk Γ_ok mo_ok (⟨([(8, .call [] (.bool b)), (5, .val (.agg (planL P))), (7, .val (.int .i64 k))] ++ []), sp44, [], [], .pure [] (.bool b)⟩ : Wk) 4000 (T := .ob ((planL P) = (planL P)) (.ob ((6 : Nat) ≤ (6 : Nat)) (.ob (some (AV.int .i64 (↑k : Int)) = some (AV.int .i64 (↑k : Int))) (.ob (Ctr Try.prog 33 [AV.agg (planL P), AV.agg (fltL f), AV.int .i64 (↑k : Int)] (AV.bool b)) (.ob (b = b) (.tt)))))) (by kernel_rfl) (by
    simp only [PT.holds, and_true, true_and]
    exact ⟨by omega, hc⟩))
theorem notin_ctr (P : Pln) (k : Nat) (f : Flt) (b : Bool) (hc : Ctr Try.prog 44 [.agg (fltL f), .rop (planL P) 0, .rop [.int .i64 k] 0] (.bool b)) : Ctr Try.prog 47 [.agg (fltL f), .rop [.fn 44 [.rop (planL P) 0, .rop [.int .i64 k] 0]] 0] (.bool (!b)) :=
  Ctr.mk Γ_ok Try.func47 (by kernel_rfl) Try.call47 [] (by kernel_rfl) (HT.walk Γ_ok mo_ok (⟨([(4, .val (.fn 44 [.rop (planL P) 0, .rop [.int .i64 k] 0])), (6, .call [] (.bool b))] ++ []), sp47, [], [], .pure [] (.bool (!b))⟩ : Wk) 4000 (T := .ob (some (AV.fn (44 : Nat) [AV.rop (planL P) (0 : Nat), AV.rop [AV.int .i64 (↑k : Int)] (0 : Nat)]) = some (AV.fn (44 : Nat) [AV.rop (planL P) (0 : Nat), AV.rop [AV.int .i64 (↑k : Int)] (0 : Nat)])) (.ob ((6 : Nat) ≤ (6 : Nat)) (.ob (Ctr Try.prog 44 [AV.agg (fltL f), AV.rop (planL P) (0 : Nat), AV.rop [AV.int .i64 (↑k : Int)] (0 : Nat)] (AV.bool b)) (.ob ((!b) = !b) (.tt))))) (by kernel_rfl) (by
    simp only [PT.holds, and_true, true_and]
    exact ⟨by omega, hc⟩))
def stIfa (P : Pln) (k : Nat) (l : List Flt) (i : Nat) : AS := ⟨[(0, .sl none l.length (fltsC l) .no), (1, .fn 44 [.rop (planL P) 0, .rop [.int .i64 k] 0]), (7, .int .i64 l.length), (8, .int .i64 i)], [], []⟩
theorem ifa_h (P : Pln) (k : Nat) (l : List Flt) (g : Flt → Bool) (i : Nat) (hi : i < l.length) (hN : l.length ≤ 1048600) (hc : ∀ q ∈ l, Ctr Try.prog 44 (.agg (fltL q) :: [.rop (planL P) 0, .rop [.int .i64 k] 0]) (.bool (g q))) (k1 : ∃ x : Int, (0 ≤ x ↔ ∃ j, i + 1 ≤ j ∧ j < l.length ∧ g (l.getD j flt0) = true) ∧ HT Try.prog Try.f56.ntmps (pt Try.f56 0) (stIfa P k l (i + 1)) (EndsA Γ (.pure [] (.int .i64 x)) Try.f56)) : ∃ x : Int, (0 ≤ x ↔ ∃ j, i ≤ j ∧ j < l.length ∧ g (l.getD j flt0) = true) ∧ HT Try.prog Try.f56.ntmps (pt Try.f56 0) (stIfa P k l i) (EndsA Γ (.pure [] (.int .i64 x)) Try.f56) := by
    have H : ∃ x : Int, (0 ≤ x ↔ ∃ j, i ≤ j ∧ j < l.length ∧ g (l.getD j flt0) = true) ∧ PT.holds Try.prog Try.f56.ntmps (EndsA Γ (.pure [] (.int .i64 x)) Try.f56) (.split (decide ((↑i : Int) < (↑l.length : Int))) (.ob ((0 : Int) ≤ (↑i : Int) ∧ (↑i : Int) < (↑l.length : Int) ∧ (↑i : Int).toNat * (6 : Nat) < (fltsC l).length) (.ob (List.take (6 : Nat) (List.drop ((↑i : Int).toNat * (6 : Nat)) (fltsC l)) = (fltL (l.getD i flt0))) (.ob (Ctr Try.prog 44 [AV.agg (fltL (l.getD i flt0)), AV.rop (planL P) (0 : Nat), AV.rop [AV.int .i64 (↑k : Int)] (0 : Nat)] (AV.bool (g (l.getD i flt0)))) (.split (g (l.getD i flt0)) (.ob ((↑i : Int) = x) (.tt)) (.head (pt Try.f56 0) ({ tmps := [(0, AV.sl none l.length (fltsC l) .no), (1, AV.fn (44 : Nat) [AV.rop (planL P) (0 : Nat), AV.rop [AV.int .i64 (↑k : Int)] (0 : Nat)]), (7, AV.int .i64 (↑l.length : Int)), (8, AV.int .i64 (IntKind.i64.wrap ((↑i : Int) + (1 : Int))))], heap := [], tags := [] })))))) (.ob ((-1 : Int) = x) (.tt))) := by
      have w2 : IntKind.i64.wrap ((i : Int) + 1) = ((i + 1 : Nat) : Int) := by rw [i64_wrap (by omega) (by omega)]; rfl
      have h0 : decide ((i : Int) < l.length) = true := by simp; omega
      simp only [PT.holds, w2, h0, Int.toNat_natCast, fltsC_len, true_implies, Bool.false_eq_true, Bool.true_eq_false, false_implies, true_and, and_true]
      have hcc := hc _ (getD_mem l i flt0 hi)
      cases hb : g (l.getD i flt0)
      · obtain ⟨x, hx, hk⟩ := k1
        rw [hb] at hcc
        refine ⟨x, hx.trans ⟨fun ⟨j, h1, h2, h3⟩ => ⟨j, by omega, h2, h3⟩, fun ⟨j, h1, h2, h3⟩ => ⟨j, ?_, h2, h3⟩⟩, by omega, by ((try simp only [Nat.add_assoc, Nat.reduceAdd, Nat.add_zero]) <;> first | (rw [ats_take _ _ _ _ hi (by decide)]; rfl) | (rw [flts_take _ _ _ _ hi (by decide)]; rfl) | (rw [ats_take0 _ _ _ hi (by decide)]; rfl) | (rw [flts_take0 _ _ _ hi (by decide)]; rfl)), hcc, fun h => absurd h (by decide), fun _ => hk⟩
        rcases Nat.lt_or_eq_of_le h1 with h4 | h4
        · exact h4
        · rw [← h4, hb] at h3; cases h3
      · rw [hb] at hcc
        exact ⟨i, ⟨fun _ => ⟨i, Nat.le_refl _, hi, hb⟩, fun _ => by omega⟩, by omega, by ((try simp only [Nat.add_assoc, Nat.reduceAdd, Nat.add_zero]) <;> first | (rw [ats_take _ _ _ _ hi (by decide)]; rfl) | (rw [flts_take _ _ _ _ hi (by decide)]; rfl) | (rw [ats_take0 _ _ _ hi (by decide)]; rfl) | (rw [flts_take0 _ _ _ hi (by decide)]; rfl)), hcc, fun _ => rfl, fun h => absurd h (by decide)⟩
    obtain ⟨x, hR, hx⟩ := H
    exact ⟨x, hR, HT.walk Γ_ok mo_ok (⟨([(15, .val (.agg (fltL (l.getD i flt0)))), (16, .call [] (.bool (g (l.getD i flt0))))] ++ []), sp56, hd56 [] [] [] [], [], .pure [] (.int .i64 x)⟩ : Wk) 4000 (by kernel_rfl) hx⟩
theorem ifa_e (P : Pln) (k : Nat) (l : List Flt) (g : Flt → Bool) (i : Nat) (hi : i = l.length) : ∃ x : Int, (0 ≤ x ↔ ∃ j, i ≤ j ∧ j < l.length ∧ g (l.getD j flt0) = true) ∧ HT Try.prog Try.f56.ntmps (pt Try.f56 0) (stIfa P k l i) (EndsA Γ (.pure [] (.int .i64 x)) Try.f56) := by
    have H : ∃ x : Int, (0 ≤ x ↔ ∃ j, i ≤ j ∧ j < l.length ∧ g (l.getD j flt0) = true) ∧ PT.holds Try.prog Try.f56.ntmps (EndsA Γ (.pure [] (.int .i64 x)) Try.f56) (.split (decide ((↑i : Int) < (↑l.length : Int))) (.ob ((0 : Int) ≤ (↑i : Int) ∧ (↑i : Int) < (↑l.length : Int) ∧ (↑i : Int).toNat * (6 : Nat) < (fltsC l).length) (.ob (List.take (6 : Nat) (List.drop ((↑i : Int).toNat * (6 : Nat)) (fltsC l)) = (fltL (l.getD i flt0))) (.ob (Ctr Try.prog 44 [AV.agg (fltL (l.getD i flt0)), AV.rop (planL P) (0 : Nat), AV.rop [AV.int .i64 (↑k : Int)] (0 : Nat)] (AV.bool (g (l.getD i flt0)))) (.split (g (l.getD i flt0)) (.ob ((↑i : Int) = x) (.tt)) (.head (pt Try.f56 0) ({ tmps := [(0, AV.sl none l.length (fltsC l) .no), (1, AV.fn (44 : Nat) [AV.rop (planL P) (0 : Nat), AV.rop [AV.int .i64 (↑k : Int)] (0 : Nat)]), (7, AV.int .i64 (↑l.length : Int)), (8, AV.int .i64 (IntKind.i64.wrap ((↑i : Int) + (1 : Int))))], heap := [], tags := [] })))))) (.ob ((-1 : Int) = x) (.tt))) := by
      have h0 : decide ((i : Int) < l.length) = false := by simp; omega
      simp only [PT.holds, h0, true_implies, Bool.false_eq_true, Bool.true_eq_false, false_implies, true_and, and_true]
      exact ⟨-1, ⟨fun h => absurd h (by decide), fun ⟨j, h1, h2, _⟩ => by omega⟩, rfl⟩
    obtain ⟨x, hR, hx⟩ := H
    exact ⟨x, hR, HT.walk Γ_ok mo_ok (⟨([(15, .val (.agg (fltL (l.getD i flt0)))), (16, .call [] (.bool (g (l.getD i flt0))))] ++ []), sp56, hd56 [] [] [] [], [], .pure [] (.int .i64 x)⟩ : Wk) 4000 (by kernel_rfl) hx⟩
theorem ifa_l (P : Pln) (k : Nat) (l : List Flt) (g : Flt → Bool) (hN : l.length ≤ 1048600) (hc : ∀ q ∈ l, Ctr Try.prog 44 (.agg (fltL q) :: [.rop (planL P) 0, .rop [.int .i64 k] 0]) (.bool (g q))) : ∀ d i, i + d = l.length → ∃ x : Int, (0 ≤ x ↔ ∃ j, i ≤ j ∧ j < l.length ∧ g (l.getD j flt0) = true) ∧ HT Try.prog Try.f56.ntmps (pt Try.f56 0) (stIfa P k l i) (EndsA Γ (.pure [] (.int .i64 x)) Try.f56) := by
  intro d
  induction d with
  | zero => exact fun i h => ifa_e P k l g i (by omega)
  | succ d ih => exact fun i h => ifa_h P k l g i (by omega) hN hc (ih (i + 1) (by omega))

theorem ifa_ex (P : Pln) (k : Nat) (l : List Flt) (g : Flt → Bool) (hN : l.length ≤ 1048600) (hc : ∀ q ∈ l, Ctr Try.prog 44 (.agg (fltL q) :: [.rop (planL P) 0, .rop [.int .i64 k] 0]) (.bool (g q))) : ∃ x : Int, (0 ≤ x ↔ ∃ j, 0 ≤ j ∧ j < l.length ∧ g (l.getD j flt0) = true) ∧ Ctr Try.prog 56 [.sl none l.length (fltsC l) .no, .fn 44 [.rop (planL P) 0, .rop [.int .i64 k] 0]] (.int .i64 x) := by
    have H : ∃ x : Int, (0 ≤ x ↔ ∃ j, 0 ≤ j ∧ j < l.length ∧ g (l.getD j flt0) = true) ∧ PT.holds Try.prog Try.f56.ntmps (EndsA Γ (.pure [] (.int .i64 x)) Try.f56) (.head (pt Try.f56 0) ({ tmps := [(0, AV.sl none l.length (fltsC l) .no), (1, AV.fn (44 : Nat) [AV.rop (planL P) (0 : Nat), AV.rop [AV.int .i64 (↑k : Int)] (0 : Nat)]), (7, AV.int .i64 (↑l.length : Int)), (8, AV.int .i64 (0 : Int))], heap := [], tags := [] })) := by
      simp only [PT.holds]
      exact ifa_l P k l g hN hc l.length 0 (Nat.zero_add _)
    obtain ⟨x, hR, hx⟩ := H
    exact ⟨x, hR, Ctr.mk Γ_ok Try.func56 (by kernel_rfl) Try.call56 [] (by kernel_rfl) (HT.walk Γ_ok mo_ok (⟨[], sp56, hd56 [] [] [] [], [], .pure [] (.int .i64 x)⟩ : Wk) 4000 (by kernel_rfl) hx)⟩
theorem cfa0 (P : Pln) (k : Nat) (l : List Flt) (g : Flt → Bool) (x : Int) (hx : 0 ≤ x ↔ ∃ j, 0 ≤ j ∧ j < l.length ∧ g (l.getD j flt0) = true) (hc : Ctr Try.prog 56 [.sl none l.length (fltsC l) .no, .fn 44 [.rop (planL P) 0, .rop [.int .i64 k] 0]] (.int .i64 x)) : Ctr Try.prog 46 [.sl none l.length (fltsC l) .no, .fn 44 [.rop (planL P) 0, .rop [.int .i64 k] 0]] (.bool (l.any g)) :=
  Ctr.mk Γ_ok Try.func46 (by kernel_rfl) Try.call46 [] (by kernel_rfl) (HT.walk Γ_ok mo_ok (⟨([(7, .call [] (.int .i64 x))] ++ []), sp46, [], [], .pure [] (.bool (l.any g))⟩ : Wk) 4000 (T := .ob (Ctr Try.prog 56 [AV.sl none l.length (fltsC l) .no, AV.fn (44 : Nat) [AV.rop (planL P) (0 : Nat), AV.rop [AV.int .i64 (↑k : Int)] (0 : Nat)]] (AV.int .i64 x)) (.ob (decide ((0 : Int) ≤ x) = l.any g) (.tt))) (by kernel_rfl) (by
    simp only [PT.holds, and_true]
    refine ⟨hc, ?_⟩
    rw [Bool.eq_iff_iff, decide_eq_true_eq, hx, List.any_eq_true]
    constructor
    · rintro ⟨j, _, h2, h3⟩
      exact ⟨_, getD_mem l j flt0 h2, h3⟩
    · rintro ⟨q, hq, h3⟩
      obtain ⟨j, hj, rfl⟩ := List.getElem_of_mem hq
      exact ⟨j, Nat.zero_le _, hj, by rw [List.getD_eq_getElem?_getD, List.getElem?_eq_getElem hj]; exact h3⟩))
theorem cfa_ctr (P : Pln) (k : Nat) (l : List Flt) (g : Flt → Bool) (hN : l.length ≤ 1048600) (hc : ∀ q ∈ l, Ctr Try.prog 44 (.agg (fltL q) :: [.rop (planL P) 0, .rop [.int .i64 k] 0]) (.bool (g q))) : Ctr Try.prog 46 [.sl none l.length (fltsC l) .no, .fn 44 [.rop (planL P) 0, .rop [.int .i64 k] 0]] (.bool (l.any g)) := by
  obtain ⟨x, hx, h⟩ := ifa_ex P k l g hN hc
  exact cfa0 P k l g x hx h

def stIfb (P : Pln) (k : Nat) (l : List Flt) (i : Nat) : AS := ⟨[(0, .sl none l.length (fltsC l) .no), (1, .fn 47 [.rop [.fn 44 [.rop (planL P) 0, .rop [.int .i64 k] 0]] 0]), (7, .int .i64 l.length), (8, .int .i64 i)], [], []⟩
theorem ifb_h (P : Pln) (k : Nat) (l : List Flt) (g : Flt → Bool) (i : Nat) (hi : i < l.length) (hN : l.length ≤ 1048600) (hc : ∀ q ∈ l, Ctr Try.prog 47 (.agg (fltL q) :: [.rop [.fn 44 [.rop (planL P) 0, .rop [.int .i64 k] 0]] 0]) (.bool (g q))) (k1 : ∃ x : Int, (0 ≤ x ↔ ∃ j, i + 1 ≤ j ∧ j < l.length ∧ g (l.getD j flt0) = true) ∧ HT Try.prog Try.f56.ntmps (pt Try.f56 0) (stIfb P k l (i + 1)) (EndsA Γ (.pure [] (.int .i64 x)) Try.f56)) : ∃ x : Int, (0 ≤ x ↔ ∃ j, i ≤ j ∧ j < l.length ∧ g (l.getD j flt0) = true) ∧ HT Try.prog Try.f56.ntmps (pt Try.f56 0) (stIfb P k l i) (EndsA Γ (.pure [] (.int .i64 x)) Try.f56) := by
    have H : ∃ x : Int, (0 ≤ x ↔ ∃ j, i ≤ j ∧ j < l.length ∧ g (l.getD j flt0) = true) ∧ PT.holds Try.prog Try.f56.ntmps (EndsA Γ (.pure [] (.int .i64 x)) Try.f56) (.split (decide ((↑i : Int) < (↑l.length : Int))) (.ob ((0 : Int) ≤ (↑i : Int) ∧ (↑i : Int) < (↑l.length : Int) ∧ (↑i : Int).toNat * (6 : Nat) < (fltsC l).length) (.ob (List.take (6 : Nat) (List.drop ((↑i : Int).toNat * (6 : Nat)) (fltsC l)) = (fltL (l.getD i flt0))) (.ob (Ctr Try.prog 47 [AV.agg (fltL (l.getD i flt0)), AV.rop [AV.fn (44 : Nat) [AV.rop (planL P) (0 : Nat), AV.rop [AV.int .i64 (↑k : Int)] (0 : Nat)]] (0 : Nat)] (AV.bool (g (l.getD i flt0)))) (.split (g (l.getD i flt0)) (.ob ((↑i : Int) = x) (.tt)) (.head (pt Try.f56 0) ({ tmps := [(0, AV.sl none l.length (fltsC l) .no), (1, AV.fn (47 : Nat) [AV.rop [AV.fn (44 : Nat) [AV.rop (planL P) (0 : Nat), AV.rop [AV.int .i64 (↑k : Int)] (0 : Nat)]] (0 : Nat)]), (7, AV.int .i64 (↑l.length : Int)), (8, AV.int .i64 (IntKind.i64.wrap ((↑i : Int) + (1 : Int))))], heap := [], tags := [] })))))) (.ob ((-1 : Int) = x) (.tt))) := by
      have w2 : IntKind.i64.wrap ((i : Int) + 1) = ((i + 1 : Nat) : Int) := by rw [i64_wrap (by omega) (by omega)]; rfl
      have h0 : decide ((i : Int) < l.length) = true := by simp; omega
      simp only [PT.holds, w2, h0, Int.toNat_natCast, fltsC_len, true_implies, Bool.false_eq_true, Bool.true_eq_false, false_implies, true_and, and_true]
      have hcc := hc _ (getD_mem l i flt0 hi)
      cases hb : g (l.getD i flt0)
      · obtain ⟨x, hx, hk⟩ := k1
        rw [hb] at hcc
        refine ⟨x, hx.trans ⟨fun ⟨j, h1, h2, h3⟩ => ⟨j, by omega, h2, h3⟩, fun ⟨j, h1, h2, h3⟩ => ⟨j, ?_, h2, h3⟩⟩, by omega, by ((try simp only [Nat.add_assoc, Nat.reduceAdd, Nat.add_zero]) <;> first | (rw [ats_take _ _ _ _ hi (by decide)]; rfl) | (rw [flts_take _ _ _ _ hi (by decide)]; rfl) | (rw [ats_take0 _ _ _ hi (by decide)]; rfl) | (rw [flts_take0 _ _ _ hi (by decide)]; rfl)), hcc, fun h => absurd h (by decide), fun _ => hk⟩
        rcases Nat.lt_or_eq_of_le h1 with h4 | h4
        · exact h4
        · rw [← h4, hb] at h3; cases h3
      · rw [hb] at hcc
        exact ⟨i, ⟨fun _ => ⟨i, Nat.le_refl _, hi, hb⟩, fun _ => by omega⟩, by omega, by ((try simp only [Nat.add_assoc, Nat.reduceAdd, Nat.add_zero]) <;> first | (rw [ats_take _ _ _ _ hi (by decide)]; rfl) | (rw [flts_take _ _ _ _ hi (by decide)]; rfl) | (rw [ats_take0 _ _ _ hi (by decide)]; rfl) | (rw [flts_take0 _ _ _ hi (by decide)]; rfl)), hcc, fun _ => rfl, fun h => absurd h (by decide)⟩
    obtain ⟨x, hR, hx⟩ := H
    exact ⟨x, hR, HT.walk Γ_ok mo_ok (⟨([(15, .val (.agg (fltL (l.getD i flt0)))), (16, .call [] (.bool (g (l.getD i flt0))))] ++ []), sp56, hd56 [] [] [] [], [], .pure [] (.int .i64 x)⟩ : Wk) 4000 (by kernel_rfl) hx⟩
theorem ifb_e (P : Pln) (k : Nat) (l : List Flt) (g : Flt → Bool) (i : Nat) (hi : i = l.length) : ∃ x : Int, (0 ≤ x ↔ ∃ j, i ≤ j ∧ j < l.length ∧ g (l.getD j flt0) = true) ∧ HT Try.prog Try.f56.ntmps (pt Try.f56 0) (stIfb P k l i) (EndsA Γ (.pure [] (.int .i64 x)) Try.f56) := by
    have H : ∃ x : Int, (0 ≤ x ↔ ∃ j, i ≤ j ∧ j < l.length ∧ g (l.getD j flt0) = true) ∧ PT.holds Try.prog Try.f56.ntmps (EndsA Γ (.pure [] (.int .i64 x)) Try.f56) (.split (decide ((↑i : Int) < (↑l.length : Int))) (.ob ((0 : Int) ≤ (↑i : Int) ∧ (↑i : Int) < (↑l.length : Int) ∧ (↑i : Int).toNat * (6 : Nat) < (fltsC l).length) (.ob (List.take (6 : Nat) (List.drop ((↑i : Int).toNat * (6 : Nat)) (fltsC l)) = (fltL (l.getD i flt0))) (.ob (Ctr Try.prog 47 [AV.agg (fltL (l.getD i flt0)), AV.rop [AV.fn (44 : Nat) [AV.rop (planL P) (0 : Nat), AV.rop [AV.int .i64 (↑k : Int)] (0 : Nat)]] (0 : Nat)] (AV.bool (g (l.getD i flt0)))) (.split (g (l.getD i flt0)) (.ob ((↑i : Int) = x) (.tt)) (.head (pt Try.f56 0) ({ tmps := [(0, AV.sl none l.length (fltsC l) .no), (1, AV.fn (47 : Nat) [AV.rop [AV.fn (44 : Nat) [AV.rop (planL P) (0 : Nat), AV.rop [AV.int .i64 (↑k : Int)] (0 : Nat)]] (0 : Nat)]), (7, AV.int .i64 (↑l.length : Int)), (8, AV.int .i64 (IntKind.i64.wrap ((↑i : Int) + (1 : Int))))], heap := [], tags := [] })))))) (.ob ((-1 : Int) = x) (.tt))) := by
      have h0 : decide ((i : Int) < l.length) = false := by simp; omega
      simp only [PT.holds, h0, true_implies, Bool.false_eq_true, Bool.true_eq_false, false_implies, true_and, and_true]
      exact ⟨-1, ⟨fun h => absurd h (by decide), fun ⟨j, h1, h2, _⟩ => by omega⟩, rfl⟩
    obtain ⟨x, hR, hx⟩ := H
    exact ⟨x, hR, HT.walk Γ_ok mo_ok (⟨([(15, .val (.agg (fltL (l.getD i flt0)))), (16, .call [] (.bool (g (l.getD i flt0))))] ++ []), sp56, hd56 [] [] [] [], [], .pure [] (.int .i64 x)⟩ : Wk) 4000 (by kernel_rfl) hx⟩
theorem ifb_l (P : Pln) (k : Nat) (l : List Flt) (g : Flt → Bool) (hN : l.length ≤ 1048600) (hc : ∀ q ∈ l, Ctr Try.prog 47 (.agg (fltL q) :: [.rop [.fn 44 [.rop (planL P) 0, .rop [.int .i64 k] 0]] 0]) (.bool (g q))) : ∀ d i, i + d = l.length → ∃ x : Int, (0 ≤ x ↔ ∃ j, i ≤ j ∧ j < l.length ∧ g (l.getD j flt0) = true) ∧ HT Try.prog Try.f56.ntmps (pt Try.f56 0) (stIfb P k l i) (EndsA Γ (.pure [] (.int .i64 x)) Try.f56) := by
  intro d
  induction d with
  | zero => exact fun i h => ifb_e P k l g i (by omega)
  | succ d ih => exact fun i h => ifb_h P k l g i (by omega) hN hc (ih (i + 1) (by omega))

theorem ifb_ex (P : Pln) (k : Nat) (l : List Flt) (g : Flt → Bool) (hN : l.length ≤ 1048600) (hc : ∀ q ∈ l, Ctr Try.prog 47 (.agg (fltL q) :: [.rop [.fn 44 [.rop (planL P) 0, .rop [.int .i64 k] 0]] 0]) (.bool (g q))) : ∃ x : Int, (0 ≤ x ↔ ∃ j, 0 ≤ j ∧ j < l.length ∧ g (l.getD j flt0) = true) ∧ Ctr Try.prog 56 [.sl none l.length (fltsC l) .no, .fn 47 [.rop [.fn 44 [.rop (planL P) 0, .rop [.int .i64 k] 0]] 0]] (.int .i64 x) := by
    have H : ∃ x : Int, (0 ≤ x ↔ ∃ j, 0 ≤ j ∧ j < l.length ∧ g (l.getD j flt0) = true) ∧ PT.holds Try.prog Try.f56.ntmps (EndsA Γ (.pure [] (.int .i64 x)) Try.f56) (.head (pt Try.f56 0) ({ tmps := [(0, AV.sl none l.length (fltsC l) .no), (1, AV.fn (47 : Nat) [AV.rop [AV.fn (44 : Nat) [AV.rop (planL P) (0 : Nat), AV.rop [AV.int .i64 (↑k : Int)] (0 : Nat)]] (0 : Nat)]), (7, AV.int .i64 (↑l.length : Int)), (8, AV.int .i64 (0 : Int))], heap := [], tags := [] })) := by
      simp only [PT.holds]
      exact ifb_l P k l g hN hc l.length 0 (Nat.zero_add _)
    obtain ⟨x, hR, hx⟩ := H
    exact ⟨x, hR, Ctr.mk Γ_ok Try.func56 (by kernel_rfl) Try.call56 [] (by kernel_rfl) (HT.walk Γ_ok mo_ok (⟨[], sp56, hd56 [] [] [] [], [], .pure [] (.int .i64 x)⟩ : Wk) 4000 (by kernel_rfl) hx)⟩
theorem cfb0 (P : Pln) (k : Nat) (l : List Flt) (g : Flt → Bool) (x : Int) (hx : 0 ≤ x ↔ ∃ j, 0 ≤ j ∧ j < l.length ∧ g (l.getD j flt0) = true) (hc : Ctr Try.prog 56 [.sl none l.length (fltsC l) .no, .fn 47 [.rop [.fn 44 [.rop (planL P) 0, .rop [.int .i64 k] 0]] 0]] (.int .i64 x)) : Ctr Try.prog 46 [.sl none l.length (fltsC l) .no, .fn 47 [.rop [.fn 44 [.rop (planL P) 0, .rop [.int .i64 k] 0]] 0]] (.bool (l.any g)) :=
  Ctr.mk Γ_ok Try.func46 (by kernel_rfl) Try.call46 [] (by kernel_rfl) (HT.walk Γ_ok mo_ok (⟨([(7, .call [] (.int .i64 x))] ++ []), sp46, [], [], .pure [] (.bool (l.any g))⟩ : Wk) 4000 (T := .ob (Ctr Try.prog 56 [AV.sl none l.length (fltsC l) .no, AV.fn (47 : Nat) [AV.rop [AV.fn (44 : Nat) [AV.rop (planL P) (0 : Nat), AV.rop [AV.int .i64 (↑k : Int)] (0 : Nat)]] (0 : Nat)]] (AV.int .i64 x)) (.ob (decide ((0 : Int) ≤ x) = l.any g) (.tt))) (by kernel_rfl) (by
    simp only [PT.holds, and_true]
    refine ⟨hc, ?_⟩
    rw [Bool.eq_iff_iff, decide_eq_true_eq, hx, List.any_eq_true]
    constructor
    · rintro ⟨j, _, h2, h3⟩
      exact ⟨_, getD_mem l j flt0 h2, h3⟩
    · rintro ⟨q, hq, h3⟩
      obtain ⟨j, hj, rfl⟩ := List.getElem_of_mem hq
      exact ⟨j, Nat.zero_le _, hj, by rw [List.getD_eq_getElem?_getD, List.getElem?_eq_getElem hj]; exact h3⟩))
theorem cfb_ctr (P : Pln) (k : Nat) (l : List Flt) (g : Flt → Bool) (hN : l.length ≤ 1048600) (hc : ∀ q ∈ l, Ctr Try.prog 47 (.agg (fltL q) :: [.rop [.fn 44 [.rop (planL P) 0, .rop [.int .i64 k] 0]] 0]) (.bool (g q))) : Ctr Try.prog 46 [.sl none l.length (fltsC l) .no, .fn 47 [.rop [.fn 44 [.rop (planL P) 0, .rop [.int .i64 k] 0]] 0]] (.bool (l.any g)) := by
  obtain ⟨x, hx, h⟩ := ifb_ex P k l g hN hc
  exact cfb0 P k l g x hx h

end Go.Proofs.Ytpffjbbolaehpaa
end

section
set_option linter.unusedVariables false
set_option linter.unusedSimpArgs false
set_option maxRecDepth 100000
namespace Go.Proofs.Ytpffjbbolaehpaa
open Go Go.AX

def annHo (P : Pln) (f : Flt) (k : Nat) (b8 b9 b10 : Bool) : List (Nat × Ann) := [(18, .val (.agg (trL (P.tr.getD k tr0)))),
  (51, .call [] (.tup [.str ((attrL (P.tr.getD k tr0).isText f.nm (P.tr.getD k tr0).attrs).getD ⟨#[]⟩), .bool (attrL (P.tr.getD k tr0).isText f.nm (P.tr.getD k tr0).attrs).isSome])),
  (61, .call [] (.tup [.str ((attrL (P.tr.getD k tr0).isText f.nm (P.tr.getD k tr0).attrs).getD ⟨#[]⟩), .bool (attrL (P.tr.getD k tr0).isText f.nm (P.tr.getD k tr0).attrs).isSome])),
  (88, .val (.agg (fltL (f.sub.getD 0 flt0)))), (89, .call [3, 5] (.bool b8)), (96, .call [3, 5, 8] (.bool b9)), (103, .call [3, 5] (.bool b10)),
  (110, .val (.agg (pthL (f.way.getD 0 pth0)))), (113, .call [] (.sl (some false) P.tr.length (boolsC ((List.replicate P.tr.length false).set k true)) .no)),
  (114, .call [] (.sl none (leadsJ P (f.way.getD 0 pth0) ((noneL P.tr.length).set k true)).length (boolsC (leadsJ P (f.way.getD 0 pth0) ((noneL P.tr.length).set k true))) .no)),
  (115, .call [] (.bool (anyT (leadsJ P (f.way.getD 0 pth0) ((noneL P.tr.length).set k true)))))]
theorem holdsJ_eq (P : Pln) (f : Flt) (k : Nat) : holdsJ P f k = if f.op = 1 then true
    else if f.op = 2 then !(P.tr.getD k tr0).isText
    else if f.op = 3 then (P.tr.getD k tr0).isText
    else if f.op = 4 then !(P.tr.getD k tr0).isText && decide ((P.tr.getD k tr0).nm = f.nm)
    else if f.op = 5 then (attrL (P.tr.getD k tr0).isText f.nm (P.tr.getD k tr0).attrs).isSome
    else if f.op = 6 then (attrL (P.tr.getD k tr0).isText f.nm (P.tr.getD k tr0).attrs).isSome && decide ((attrL (P.tr.getD k tr0).isText f.nm (P.tr.getD k tr0).attrs).getD ⟨#[]⟩ = f.val)
    else if f.op = 7 then (P.tr.getD k tr0).isText && decide ((P.tr.getD k tr0).text = f.val)
    else if f.op = 8 then notJ P f.sub k
    else if f.op = 9 then allJ P f.sub k
    else if f.op = 10 then anyJ P f.sub k
    else if f.op = 11 then someJ P f.way k
    else false := by cases f; rfl
theorem notJ_eq (P : Pln) (l : List Flt) (k : Nat) (h : 0 < l.length) : notJ P l k = !holdsJ P (l.getD 0 flt0) k := by
  cases l with
  | nil => simp at h
  | cons f r => simp [notJ]
theorem allJ_eq (P : Pln) (k : Nat) : ∀ l : List Flt, allJ P l k = !(l.any fun q => !holdsJ P q k)
  | [] => by simp [allJ]
  | f :: r => by simp only [allJ, allJ_eq P k r, List.any_cons]; cases holdsJ P f k <;> simp
theorem anyJ_eq (P : Pln) (k : Nat) : ∀ l : List Flt, anyJ P l k = l.any fun q => holdsJ P q k
  | [] => by simp [anyJ]
  | f :: r => by simp only [anyJ, anyJ_eq P k r, List.any_cons]
theorem someJ_eq (P : Pln) (l : List Pth) (k : Nat) (h : 0 < l.length) : someJ P l k = anyT (leadsJ P (l.getD 0 pth0) ((noneL P.tr.length).set k true)) := by
  cases l with
  | nil => simp at h
  | cons f r => simp [someJ]

theorem holds_p (P : Pln) (f : Flt) (k : Nat) (N : Nat) (R : Bool) (hP : PW P N) (hk : k < N) (hr : f.r1) (hR : R = holdsJ P f k) (h8 : f.op = 8 → Ctr Try.prog 44 [.agg (fltL (f.sub.getD 0 flt0)), .rop (planL P) 0, .rop [.int .i64 k] 0] (.bool (holdsJ P (f.sub.getD 0 flt0) k))) (h9 : f.op = 9 → Ctr Try.prog 46 [.sl none f.sub.length (fltsC f.sub) .no, .fn 47 [.rop [.fn 44 [.rop (planL P) 0, .rop [.int .i64 k] 0]] 0]] (.bool (f.sub.any fun q => !holdsJ P q k))) (h10 : f.op = 10 → Ctr Try.prog 46 [.sl none f.sub.length (fltsC f.sub) .no, .fn 44 [.rop (planL P) 0, .rop [.int .i64 k] 0]] (.bool (f.sub.any fun q => holdsJ P q k))) (h11 : f.op = 11 → ∀ s : List Bool, s.length = N → Ctr Try.prog 31 [.agg (planL P), .agg (pthL (f.way.getD 0 pth0)), .sl none s.length (boolsC s) .no] (.sl none (leadsJ P (f.way.getD 0 pth0) s).length (boolsC (leadsJ P (f.way.getD 0 pth0) s)) .no)) : Ctr Try.prog 33 [.agg (planL P), .agg (fltL f), .int .i64 k] (.bool R) :=
  Ctr.mk Γ_ok Try.func33 (by kernel_rfl) Try.call33 [] (by kernel_rfl) (HT.walk Γ_ok mo_ok (⟨annHo P f k (holdsJ P (f.sub.getD 0 flt0) k) (f.sub.any fun q => !holdsJ P q k) (f.sub.any fun q => holdsJ P q k), sp33, [], [], .pure [] (.bool R)⟩ : Wk) 4000 (T := .ob ((0 : Int) ≤ (↑k : Int) ∧ (↑k : Int) < (↑P.tr.length : Int) ∧ (↑k : Int).toNat * (6 : Nat) < (trsC P.tr).length) (.ob (List.take (6 : Nat) (List.drop ((↑k : Int).toNat * (6 : Nat)) (trsC P.tr)) = (trL (P.tr.getD k tr0))) (.split (decide (f.op = (1 : Int))) (.ob (true = R) (.tt)) (.split (decide (f.op = (2 : Int))) (.ob ((!(P.tr.getD k tr0).isText) = R) (.tt)) (.split (decide (f.op = (3 : Int))) (.ob ((P.tr.getD k tr0).isText = R) (.tt)) (.split (decide (f.op = (4 : Int))) (.split ((P.tr.getD k tr0).isText) (.ob (false = R) (.tt)) (.ob ((4 : Nat) ≤ (6 : Nat)) (.ob ((3 : Nat) ≤ (6 : Nat)) (.ob ((decide ((P.tr.getD k tr0).nm.sp = f.nm.sp) && (decide ((P.tr.getD k tr0).nm.lo = f.nm.lo) && true)) = R) (.tt))))) (.split (decide (f.op = (5 : Int))) (.ob ((6 : Nat) ≤ (6 : Nat)) (.ob ((3 : Nat) ≤ (6 : Nat)) (.ob (Ctr Try.prog 45 [AV.agg (trL (P.tr.getD k tr0)), AV.agg [AV.str f.nm.sp, AV.str f.nm.lo]] (AV.tup [AV.str ((attrL (P.tr.getD k tr0).isText f.nm (P.tr.getD k tr0).attrs).getD (ByteArray.mk #[])), AV.bool (attrL (P.tr.getD k tr0).isText f.nm (P.tr.getD k tr0).attrs).isSome])) (.ob ((attrL (P.tr.getD k tr0).isText f.nm (P.tr.getD k tr0).attrs).isSome = R) (.tt))))) (.split (decide (f.op = (6 : Int))) (.ob ((6 : Nat) ≤ (6 : Nat)) (.ob ((3 : Nat) ≤ (6 : Nat)) (.ob (Ctr Try.prog 45 [AV.agg (trL (P.tr.getD k tr0)), AV.agg [AV.str f.nm.sp, AV.str f.nm.lo]] (AV.tup [AV.str ((attrL (P.tr.getD k tr0).isText f.nm (P.tr.getD k tr0).attrs).getD (ByteArray.mk #[])), AV.bool (attrL (P.tr.getD k tr0).isText f.nm (P.tr.getD k tr0).attrs).isSome])) (.split ((attrL (P.tr.getD k tr0).isText f.nm (P.tr.getD k tr0).attrs).isSome) (.ob (decide ((attrL (P.tr.getD k tr0).isText f.nm (P.tr.getD k tr0).attrs).getD (ByteArray.mk #[]) = f.val) = R) (.tt)) (.ob (false = R) (.tt)))))) (.split (decide (f.op = (7 : Int))) (.split ((P.tr.getD k tr0).isText) (.ob (decide ((P.tr.getD k tr0).text = f.val) = R) (.tt)) (.ob (false = R) (.tt))) (.split (decide (f.op = (8 : Int))) (.ob ((0 : Int) ≤ (0 : Int) ∧ (0 : Int) < (↑f.sub.length : Int) ∧ Int.toNat (0 : Int) * (6 : Nat) < (fltsC f.sub).length) (.ob (List.take (6 : Nat) (List.drop (Int.toNat (0 : Int) * (6 : Nat)) (fltsC f.sub)) = (fltL (f.sub.getD (0 : Nat) flt0))) (.ob (Ctr Try.prog 44 [AV.agg (fltL (f.sub.getD (0 : Nat) flt0)), AV.rop (planL P) (0 : Nat), AV.rop [AV.int .i64 (↑k : Int)] (0 : Nat)] (AV.bool (holdsJ P (f.sub.getD (0 : Nat) flt0) k))) (.ob ((!holdsJ P (f.sub.getD (0 : Nat) flt0) k) = R) (.tt))))) (.split (decide (f.op = (9 : Int))) (.ob (Ctr Try.prog 46 [AV.sl none f.sub.length (fltsC f.sub) .no, AV.fn (47 : Nat) [AV.rop [AV.fn (44 : Nat) [AV.rop (planL P) (0 : Nat), AV.rop [AV.int .i64 (↑k : Int)] (0 : Nat)]] (0 : Nat)]] (AV.bool (f.sub.any fun q => !holdsJ P q k))) (.ob ((!f.sub.any fun q => !holdsJ P q k) = R) (.tt))) (.split (decide (f.op = (10 : Int))) (.ob (Ctr Try.prog 46 [AV.sl none f.sub.length (fltsC f.sub) .no, AV.fn (44 : Nat) [AV.rop (planL P) (0 : Nat), AV.rop [AV.int .i64 (↑k : Int)] (0 : Nat)]] (AV.bool (f.sub.any fun q => holdsJ P q k))) (.ob ((f.sub.any fun q => holdsJ P q k) = R) (.tt))) (.split (decide (f.op = (11 : Int))) (.ob ((5 : Nat) ≤ (5 : Nat)) (.ob ((0 : Int) ≤ (0 : Int) ∧ (0 : Int) < (↑f.way.length : Int) ∧ Int.toNat (0 : Int) * (3 : Nat) < (pthsC f.way).length) (.ob (List.take (3 : Nat) (List.drop (Int.toNat (0 : Int) * (3 : Nat)) (pthsC f.way)) = (pthL (f.way.getD (0 : Nat) pth0))) (.ob ((5 : Nat) ≤ (5 : Nat)) (.ob (Ctr Try.prog 32 [AV.agg (planL P), AV.int .i64 (↑k : Int)] (AV.sl (some false) P.tr.length (boolsC ((List.replicate P.tr.length false).set k true)) .no)) (.ob (Ctr Try.prog 31 [AV.agg (planL P), AV.agg (pthL (f.way.getD (0 : Nat) pth0)), AV.sl (some false) P.tr.length (boolsC ((List.replicate P.tr.length false).set k true)) .no] (AV.sl none (leadsJ P (f.way.getD (0 : Nat) pth0) ((noneL P.tr.length).set k true)).length (boolsC (leadsJ P (f.way.getD (0 : Nat) pth0) ((noneL P.tr.length).set k true))) .no)) (.ob (Ctr Try.prog 48 [AV.sl none (leadsJ P (f.way.getD (0 : Nat) pth0) ((noneL P.tr.length).set k true)).length (boolsC (leadsJ P (f.way.getD (0 : Nat) pth0) ((noneL P.tr.length).set k true))) .no, AV.bool true] (AV.bool (anyT (leadsJ P (f.way.getD (0 : Nat) pth0) ((noneL P.tr.length).set k true))))) (.ob (anyT (leadsJ P (f.way.getD (0 : Nat) pth0) ((noneL P.tr.length).set k true)) = R) (.tt))))))))) (.ob (false = R) (.tt))))))))))))))) (by kernel_rfl) (by
    have hN := hP.n
    have hkt : k < P.tr.length := by rw [hP.tr]; exact hk
    have ha := hP.ats _ (getD_mem P.tr k tr0 hkt)
    have hat := attr_ctr (P.tr.getD k tr0) f.nm ha
    have hs : ((noneL P.tr.length).set k true).length = P.tr.length := by simp [noneL_len]
    rw [holdsJ_eq] at hR
    simp only [PT.holds, and_true, true_and, Int.toNat_natCast, Int.toNat_zero, trsC_len, fltsC_len, pthsC_len, nm_eq, decide_eq_true_eq, decide_eq_false_iff_not]
    refine ⟨by omega, by ((try simp only [Nat.add_assoc, Nat.reduceAdd, Nat.add_zero]) <;> first | (rw [ats_take _ _ _ _ hkt (by decide)]; rfl) | (rw [trs_take _ _ _ _ hkt (by decide)]; rfl) | (rw [pths_take _ _ _ _ hkt (by decide)]; rfl) | (rw [flts_take _ _ _ _ hkt (by decide)]; rfl) | (rw [ats_take0 _ _ _ hkt (by decide)]; rfl) | (rw [trs_take0 _ _ _ hkt (by decide)]; rfl) | (rw [pths_take0 _ _ _ hkt (by decide)]; rfl) | (rw [flts_take0 _ _ _ hkt (by decide)]; rfl)), fun h1 => ?_, fun h1 => ⟨fun h2 => ?_, fun h2 => ⟨fun h3 => ?_, fun h3 => ⟨fun h4 => ?_, fun h4 => ⟨fun h5 => ?_, fun h5 => ⟨fun h6 => ?_, fun h6 => ⟨fun h7 => ?_, fun h7 => ⟨fun h8' => ?_, fun h8' => ⟨fun h9' => ?_, fun h9' => ⟨fun h10' => ?_, fun h10' => ⟨fun h11' => ?_, fun h11' => ?_⟩⟩⟩⟩⟩⟩⟩⟩⟩⟩⟩
    · rw [if_pos h1] at hR; exact hR.symm
    · rw [if_neg h1, if_pos h2] at hR; exact hR.symm
    · rw [if_neg h1, if_neg h2, if_pos h3] at hR; exact hR.symm
    · rw [if_neg h1, if_neg h2, if_neg h3, if_pos h4] at hR
      refine ⟨fun ht => ?_, fun ht => ⟨by omega, by omega, ?_⟩⟩
      · rw [hR, ht]; rfl
      · rw [hR, ht]; rfl
    · rw [if_neg h1, if_neg h2, if_neg h3, if_neg h4, if_pos h5] at hR
      exact ⟨by omega, by omega, hat, hR.symm⟩
    · rw [if_neg h1, if_neg h2, if_neg h3, if_neg h4, if_neg h5, if_pos h6] at hR
      refine ⟨by omega, by omega, hat, fun ht => ?_, fun ht => ?_⟩
      · rw [hR, ht]; rfl
      · rw [hR, ht]; rfl
    · rw [if_neg h1, if_neg h2, if_neg h3, if_neg h4, if_neg h5, if_neg h6, if_pos h7] at hR
      refine ⟨fun ht => ?_, fun ht => ?_⟩
      · rw [hR, ht]; rfl
      · rw [hR, ht]; rfl
    · have h0 : 0 < f.sub.length := by have := hr.one h8'; omega
      rw [if_neg h1, if_neg h2, if_neg h3, if_neg h4, if_neg h5, if_neg h6, if_neg h7, if_pos h8', notJ_eq P _ k h0] at hR
      exact ⟨by omega, by ((try simp only [Nat.add_assoc, Nat.reduceAdd, Nat.add_zero]) <;> first | (rw [ats_take _ _ _ _ h0 (by decide)]; rfl) | (rw [trs_take _ _ _ _ h0 (by decide)]; rfl) | (rw [pths_take _ _ _ _ h0 (by decide)]; rfl) | (rw [flts_take _ _ _ _ h0 (by decide)]; rfl) | (rw [ats_take0 _ _ _ h0 (by decide)]; rfl) | (rw [trs_take0 _ _ _ h0 (by decide)]; rfl) | (rw [pths_take0 _ _ _ h0 (by decide)]; rfl) | (rw [flts_take0 _ _ _ h0 (by decide)]; rfl)), h8 h8', hR.symm⟩
    · rw [if_neg h1, if_neg h2, if_neg h3, if_neg h4, if_neg h5, if_neg h6, if_neg h7, if_neg h8', if_pos h9', allJ_eq] at hR
      exact ⟨h9 h9', hR.symm⟩
    · rw [if_neg h1, if_neg h2, if_neg h3, if_neg h4, if_neg h5, if_neg h6, if_neg h7, if_neg h8', if_neg h9', if_pos h10', anyJ_eq] at hR
      exact ⟨h10 h10', hR.symm⟩
    · have h0 : 0 < f.way.length := by have := hr.way.1 h11'; omega
      rw [if_neg h1, if_neg h2, if_neg h3, if_neg h4, if_neg h5, if_neg h6, if_neg h7, if_neg h8', if_neg h9', if_neg h10', if_pos h11', someJ_eq P _ k h0] at hR
      have hl := leads_len P N (f.way.getD 0 pth0) ((noneL P.tr.length).set k true) (by rw [hs, hP.tr])
      have hc := h11 h11' ((noneL P.tr.length).set k true) (by rw [hs, hP.tr])
      refine ⟨by omega, by omega, by ((try simp only [Nat.add_assoc, Nat.reduceAdd, Nat.add_zero]) <;> first | (rw [ats_take _ _ _ _ h0 (by decide)]; rfl) | (rw [trs_take _ _ _ _ h0 (by decide)]; rfl) | (rw [pths_take _ _ _ _ h0 (by decide)]; rfl) | (rw [flts_take _ _ _ _ h0 (by decide)]; rfl) | (rw [ats_take0 _ _ _ h0 (by decide)]; rfl) | (rw [trs_take0 _ _ _ h0 (by decide)]; rfl) | (rw [pths_take0 _ _ _ h0 (by decide)]; rfl) | (rw [flts_take0 _ _ _ h0 (by decide)]; rfl)), by omega, one_ctr P k hkt (by rw [hP.tr]; omega), hc.args rfl ⟨rfl, rfl, rfl, rfl, rfl, rfl, rfl, rfl, rfl, rfl, rfl, rfl, rfl, rfl, rfl, hs.symm, rfl⟩, has_ctr _ (by rw [hl]; omega), hR.symm⟩
    · exfalso
      have := hr.op
      omega))
end Go.Proofs.Ytpffjbbolaehpaa
end

section
set_option linter.unusedVariables false
set_option linter.unusedSimpArgs false
set_option maxRecDepth 100000
namespace Go.Proofs.Ytpffjbbolaehpaa
open Go Go.AX
noncomputable def annM : List (Nat × Ann) := (1000026, .callF [] (fun args => .bool (exB Try.prog 26 args))) :: (1000027, .callF [] (fun args => .bool (exB Try.prog 27 args))) :: (1000037, .callF [] (fun args => .bool (exB Try.prog 37 args))) :: (1000025, .callF [] (fun args => .bool (exB Try.prog 25 args))) :: (1000036, .callF [] (fun args => .bool (exB Try.prog 36 args))) :: (1000009, .callF [] (fun args => .bool (exB Try.prog 9 args))) :: (1000010, .callF [] (fun args => .bool (exB Try.prog 10 args))) :: (1000035, .callF [] (fun args => .int .i64 (exI Try.prog 35 args))) :: (1000049, .callF [] (fun args => .int .i64 (exI Try.prog 49 args))) :: (1000024, .callF [] (fun args => .int .i64 (exI Try.prog 24 args))) :: annL

def stF0 (l : List Ev) (n : Int) (i : Nat) : AS := ⟨[(0, .sl none l.length (evsC l) .no), (3, .int .i64 n), (4, .int .i64 i)], [], []⟩
def stF1 (l : List Ev) (n : Int) (i k : Nat) : AS := ⟨[(0, .sl none l.length (evsC l) .no), (3, .int .i64 n), (4, .int .i64 i), (5, .int .i64 k)], [], []⟩
theorem fewe_h1 (l : List Ev) (n : Int) (i k : Nat) (hi : i < l.length) (hl : l.length ≤ 1048600) (hk : k ≤ 100) (ih : k < 100 → ∃ x : Bool, (x = true → (∀ k2, k + 1 ≤ k2 → k2 < 100 → k2 < (l.getD i ev0).attrs.length → ((l.getD i ev0).attrs.getD k2 atr0).ok) ∧ n ≤ 400 ∧ ∀ j, i + 1 ≤ j → j < l.length → (l.getD j ev0).sm) ∧ HT Try.prog Try.f26.ntmps (pt Try.f26 1) (stF1 l n i (k + 1)) (EndsA Γ (.pure [] (.bool x)) Try.f26)) (k0 : ∃ x : Bool, (x = true → n ≤ 400 ∧ ∀ j, i + 1 ≤ j → j < l.length → (l.getD j ev0).sm) ∧ HT Try.prog Try.f26.ntmps (pt Try.f26 0) (stF0 l n (i + 1)) (EndsA Γ (.pure [] (.bool x)) Try.f26)) : ∃ x : Bool, (x = true → (∀ k2, k ≤ k2 → k2 < 100 → k2 < (l.getD i ev0).attrs.length → ((l.getD i ev0).attrs.getD k2 atr0).ok) ∧ n ≤ 400 ∧ ∀ j, i + 1 ≤ j → j < l.length → (l.getD j ev0).sm) ∧ HT Try.prog Try.f26.ntmps (pt Try.f26 1) (stF1 l n i k) (EndsA Γ (.pure [] (.bool x)) Try.f26) := by
    have H : ∃ x : Bool, (x = true → (∀ k2, k ≤ k2 → k2 < 100 → k2 < (l.getD i ev0).attrs.length → ((l.getD i ev0).attrs.getD k2 atr0).ok) ∧ n ≤ 400 ∧ ∀ j, i + 1 ≤ j → j < l.length → (l.getD j ev0).sm) ∧ PT.holds Try.prog Try.f26.ntmps (EndsA Γ (.pure [] (.bool x)) Try.f26) (.ob ((0 : Int) ≤ (↑i : Int) ∧ (↑i : Int) < (↑l.length : Int) ∧ (↑i : Int).toNat * (5 : Nat) < (evsC l).length) (.ob ((evsC l)[(↑i : Int).toNat * (5 : Nat) + (3 : Nat)]? = some (AV.sl none (l.getD i ev0).attrs.length (atsC (l.getD i ev0).attrs) .no)) (.split (decide ((↑k : Int) < (↑(l.getD i ev0).attrs.length : Int))) (.split (decide ((↑k : Int) < (100 : Int))) (.ob ((0 : Int) ≤ (↑i : Int) ∧ (↑i : Int) < (↑l.length : Int) ∧ (↑i : Int).toNat * (5 : Nat) < (evsC l).length) (.ob ((evsC l)[(↑i : Int).toNat * (5 : Nat) + (3 : Nat)]? = some (AV.sl none (l.getD i ev0).attrs.length (atsC (l.getD i ev0).attrs) .no)) (.ob ((0 : Int) ≤ (↑k : Int) ∧ (↑k : Int) < (↑(l.getD i ev0).attrs.length : Int) ∧ (↑k : Int).toNat * (3 : Nat) < (atsC (l.getD i ev0).attrs).length) (.ob ((atsC (l.getD i ev0).attrs)[(↑k : Int).toNat * (3 : Nat) + (2 : Nat)]? = some (AV.str ((l.getD i ev0).attrs.getD k atr0).v)) (.split (decide ((300 : Int) < (↑((l.getD i ev0).attrs.getD k atr0).v.size : Int))) (.ob (false = x) (.tt)) (.ob ((0 : Int) ≤ (↑i : Int) ∧ (↑i : Int) < (↑l.length : Int) ∧ (↑i : Int).toNat * (5 : Nat) < (evsC l).length) (.ob ((evsC l)[(↑i : Int).toNat * (5 : Nat) + (3 : Nat)]? = some (AV.sl none (l.getD i ev0).attrs.length (atsC (l.getD i ev0).attrs) .no)) (.ob ((0 : Int) ≤ (↑k : Int) ∧ (↑k : Int) < (↑(l.getD i ev0).attrs.length : Int) ∧ (↑k : Int).toNat * (3 : Nat) < (atsC (l.getD i ev0).attrs).length) (.ob ((atsC (l.getD i ev0).attrs)[(↑k : Int).toNat * (3 : Nat) + (0 : Nat) + (1 : Nat)]? = some (AV.str ((l.getD i ev0).attrs.getD k atr0).nm.lo)) (.split (decide ((100 : Int) < (↑((l.getD i ev0).attrs.getD k atr0).nm.lo.size : Int))) (.ob (false = x) (.tt)) (.ob ((0 : Int) ≤ (↑i : Int) ∧ (↑i : Int) < (↑l.length : Int) ∧ (↑i : Int).toNat * (5 : Nat) < (evsC l).length) (.ob ((evsC l)[(↑i : Int).toNat * (5 : Nat) + (3 : Nat)]? = some (AV.sl none (l.getD i ev0).attrs.length (atsC (l.getD i ev0).attrs) .no)) (.ob ((0 : Int) ≤ (↑k : Int) ∧ (↑k : Int) < (↑(l.getD i ev0).attrs.length : Int) ∧ (↑k : Int).toNat * (3 : Nat) < (atsC (l.getD i ev0).attrs).length) (.ob ((atsC (l.getD i ev0).attrs)[(↑k : Int).toNat * (3 : Nat) + (0 : Nat) + (0 : Nat)]? = some (AV.str ((l.getD i ev0).attrs.getD k atr0).nm.sp)) (.split (decide ((100 : Int) < (↑((l.getD i ev0).attrs.getD k atr0).nm.sp.size : Int))) (.ob (false = x) (.tt)) (.head (pt Try.f26 1) ({ tmps := [(0, AV.sl none l.length (evsC l) .no), (3, AV.int .i64 n), (4, AV.int .i64 (↑i : Int)), (5, AV.int .i64 (IntKind.i64.wrap ((↑k : Int) + (1 : Int))))], heap := [], tags := [] }))))))))))))))))) (.head (pt Try.f26 0) ({ tmps := [(0, AV.sl none l.length (evsC l) .no), (3, AV.int .i64 n), (4, AV.int .i64 (IntKind.i64.wrap ((↑i : Int) + (1 : Int))))], heap := [], tags := [] }))) (.head (pt Try.f26 0) ({ tmps := [(0, AV.sl none l.length (evsC l) .no), (3, AV.int .i64 n), (4, AV.int .i64 (IntKind.i64.wrap ((↑i : Int) + (1 : Int))))], heap := [], tags := [] }))))) := by
      have w2 : IntKind.i64.wrap ((i : Int) + 1) = ((i + 1 : Nat) : Int) := by rw [i64_wrap (by omega) (by omega)]; rfl
      have w3 : IntKind.i64.wrap ((k : Int) + 1) = ((k + 1 : Nat) : Int) := by rw [i64_wrap (by omega) (by omega)]; rfl
      simp only [PT.holds, w2, w3, Int.toNat_natCast, evsC_len, atsC_len]
      have e0 : (k < 100 → k < (l.getD i ev0).attrs.length → False) → ∃ x : Bool, (x = true → (∀ k2, k ≤ k2 → k2 < 100 → k2 < (l.getD i ev0).attrs.length → ((l.getD i ev0).attrs.getD k2 atr0).ok) ∧ n ≤ 400 ∧ ∀ j, i + 1 ≤ j → j < l.length → (l.getD j ev0).sm) ∧ HT Try.prog Try.f26.ntmps (pt Try.f26 0) (stF0 l n (i + 1)) (EndsA Γ (.pure [] (.bool x)) Try.f26) := fun hf => ex_imp k0 (fun x hx h => ⟨fun k2 h1 h2 h3 => (hf (by omega) (by omega)).elim, hx h⟩)
      have e1 : k < 100 → ((l.getD i ev0).attrs.getD k atr0).ok → ∃ x : Bool, (x = true → (∀ k2, k ≤ k2 → k2 < 100 → k2 < (l.getD i ev0).attrs.length → ((l.getD i ev0).attrs.getD k2 atr0).ok) ∧ n ≤ 400 ∧ ∀ j, i + 1 ≤ j → j < l.length → (l.getD j ev0).sm) ∧ HT Try.prog Try.f26.ntmps (pt Try.f26 1) (stF1 l n i (k + 1)) (EndsA Γ (.pure [] (.bool x)) Try.f26) := fun h100 hok => ex_imp (ih h100) (fun x hx h => ⟨fun k2 h1 h2 h3 => (Nat.lt_or_eq_of_le h1).elim (fun h4 => (hx h).1 k2 h4 h2 h3) (fun h4 => h4 ▸ hok), (hx h).2⟩)
      by_cases hka : k < (l.getD i ev0).attrs.length
      · (repeat' first | exact ⟨_, triv, rfl, trivial⟩ | exact ⟨_, triv, rfl⟩ | refine ex_split (fun _ => ?_) (fun _ => ?_) | refine ex_ob ?_ ?_)
        all_goals first | exact e1 (by (first | omega | (simp only [decide_eq_true_eq, decide_eq_false_iff_not, Bool.not_eq_true', Bool.not_eq_false'] at *; omega))) ⟨⟨by (first | omega | (simp only [decide_eq_true_eq, decide_eq_false_iff_not, Bool.not_eq_true', Bool.not_eq_false'] at *; omega)), by (first | omega | (simp only [decide_eq_true_eq, decide_eq_false_iff_not, Bool.not_eq_true', Bool.not_eq_false'] at *; omega))⟩, by (first | omega | (simp only [decide_eq_true_eq, decide_eq_false_iff_not, Bool.not_eq_true', Bool.not_eq_false'] at *; omega))⟩ | exact e0 (fun h _ => by (first | omega | (simp only [decide_eq_true_eq, decide_eq_false_iff_not, Bool.not_eq_true', Bool.not_eq_false'] at *; omega))) | omega | (first | exact ⟨_, (fun h => absurd h (by decide)), rfl, trivial⟩ | exact ⟨_, (fun h => absurd h (by decide)), rfl⟩) | ((try simp only [Nat.add_assoc, Nat.reduceAdd, Nat.add_zero]) <;> first | (rw [ats_nth _ _ _ hi (by decide)]; rfl) | (rw [evs_nth _ _ _ hi (by decide)]; rfl) | (rw [ats_nth0 _ _ hi]; rfl) | (rw [evs_nth0 _ _ hi]; rfl)) | ((try simp only [Nat.add_assoc, Nat.reduceAdd, Nat.add_zero]) <;> first | (rw [ats_nth _ _ _ hka (by decide)]; rfl) | (rw [evs_nth _ _ _ hka (by decide)]; rfl) | (rw [ats_nth0 _ _ hka]; rfl) | (rw [evs_nth0 _ _ hka]; rfl))
      · (repeat' first | exact ⟨_, triv, rfl, trivial⟩ | exact ⟨_, triv, rfl⟩ | refine ex_split (fun _ => ?_) (fun _ => ?_) | refine ex_ob ?_ ?_)
        all_goals first | exact e0 (fun _ h => hka h) | omega | ((try simp only [Nat.add_assoc, Nat.reduceAdd, Nat.add_zero]) <;> first | (rw [ats_nth _ _ _ hi (by decide)]; rfl) | (rw [evs_nth _ _ _ hi (by decide)]; rfl) | (rw [ats_nth0 _ _ hi]; rfl) | (rw [evs_nth0 _ _ hi]; rfl)) | (exfalso; (first | omega | (simp only [decide_eq_true_eq, decide_eq_false_iff_not, Bool.not_eq_true', Bool.not_eq_false'] at *; omega)))
    obtain ⟨x, hR, hx⟩ := H
    exact ⟨x, hR, HT.walk Γ_ok mo_ok (⟨([(23, .val (.sl none (l.getD i ev0).attrs.length (atsC (l.getD i ev0).attrs) .no)), (30, .val (.str (l.getD i ev0).text)), (39, .val (.str (l.getD i ev0).nm.lo)), (49, .val (.str (l.getD i ev0).nm.sp)), (58, .val (.sl none (l.getD i ev0).attrs.length (atsC (l.getD i ev0).attrs) .no)), (71, .val (.sl none (l.getD i ev0).attrs.length (atsC (l.getD i ev0).attrs) .no)), (83, .val (.sl none (l.getD i ev0).attrs.length (atsC (l.getD i ev0).attrs) .no)), (97, .val (.sl none (l.getD i ev0).attrs.length (atsC (l.getD i ev0).attrs) .no)), (75, .val (.str ((l.getD i ev0).attrs.getD k atr0).v)), (88, .val (.str ((l.getD i ev0).attrs.getD k atr0).nm.lo)), (102, .val (.str ((l.getD i ev0).attrs.getD k atr0).nm.sp))] ++ annM), sp26, hd26 [] [] [] [], [], .pure [] (.bool x)⟩ : Wk) 4000 (by kernel_rfl) hx⟩
theorem fewe_h0 (l : List Ev) (n : Int) (i : Nat) (hl : l.length ≤ 1048600) (ha : ∀ e ∈ l, e.attrs.length ≤ 1125899906842624) (hn : 0 ≤ n) (k1 : i < l.length → ∀ n', 0 ≤ n' → ∃ x : Bool, (x = true → (∀ k2, 0 ≤ k2 → k2 < 100 → k2 < (l.getD i ev0).attrs.length → ((l.getD i ev0).attrs.getD k2 atr0).ok) ∧ n' ≤ 400 ∧ ∀ j, i + 1 ≤ j → j < l.length → (l.getD j ev0).sm) ∧ HT Try.prog Try.f26.ntmps (pt Try.f26 1) (stF1 l n' i 0) (EndsA Γ (.pure [] (.bool x)) Try.f26)) : ∃ x : Bool, (x = true → n ≤ 400 ∧ ∀ j, i ≤ j → j < l.length → (l.getD j ev0).sm) ∧ HT Try.prog Try.f26.ntmps (pt Try.f26 0) (stF0 l n i) (EndsA Γ (.pure [] (.bool x)) Try.f26) := by
    have H : ∃ x : Bool, (x = true → n ≤ 400 ∧ ∀ j, i ≤ j → j < l.length → (l.getD j ev0).sm) ∧ PT.holds Try.prog Try.f26.ntmps (EndsA Γ (.pure [] (.bool x)) Try.f26) (.split (decide ((↑i : Int) < (↑l.length : Int))) (.split (decide (n ≤ (400 : Int))) (.ob ((0 : Int) ≤ (↑i : Int) ∧ (↑i : Int) < (↑l.length : Int) ∧ (↑i : Int).toNat * (5 : Nat) < (evsC l).length) (.ob ((evsC l)[(↑i : Int).toNat * (5 : Nat) + (3 : Nat)]? = some (AV.sl none (l.getD i ev0).attrs.length (atsC (l.getD i ev0).attrs) .no)) (.ob ((0 : Int) ≤ (↑i : Int) ∧ (↑i : Int) < (↑l.length : Int) ∧ (↑i : Int).toNat * (5 : Nat) < (evsC l).length) (.ob ((evsC l)[(↑i : Int).toNat * (5 : Nat) + (4 : Nat)]? = some (AV.str (l.getD i ev0).text)) (.split (decide ((300 : Int) < (↑(l.getD i ev0).text.size : Int))) (.ob (false = x) (.tt)) (.ob ((0 : Int) ≤ (↑i : Int) ∧ (↑i : Int) < (↑l.length : Int) ∧ (↑i : Int).toNat * (5 : Nat) < (evsC l).length) (.ob ((evsC l)[(↑i : Int).toNat * (5 : Nat) + (1 : Nat) + (1 : Nat)]? = some (AV.str (l.getD i ev0).nm.lo)) (.split (decide ((100 : Int) < (↑(l.getD i ev0).nm.lo.size : Int))) (.ob (false = x) (.tt)) (.ob ((0 : Int) ≤ (↑i : Int) ∧ (↑i : Int) < (↑l.length : Int) ∧ (↑i : Int).toNat * (5 : Nat) < (evsC l).length) (.ob ((evsC l)[(↑i : Int).toNat * (5 : Nat) + (1 : Nat) + (0 : Nat)]? = some (AV.str (l.getD i ev0).nm.sp)) (.split (decide ((100 : Int) < (↑(l.getD i ev0).nm.sp.size : Int))) (.ob (false = x) (.tt)) (.head (pt Try.f26 1) ({ tmps := [(0, AV.sl none l.length (evsC l) .no), (3, AV.int .i64 (IntKind.i64.wrap (n + (↑(l.getD i ev0).attrs.length : Int)))), (4, AV.int .i64 (↑i : Int)), (5, AV.int .i64 (0 : Int))], heap := [], tags := [] }))))))))))))) (.ob (decide (n ≤ (400 : Int)) = x) (.tt))) (.ob (decide (n ≤ (400 : Int)) = x) (.tt))) := by
      simp only [PT.holds, Int.toNat_natCast, evsC_len, atsC_len]
      by_cases hi : i < l.length
      · have hai := ha _ (getD_mem l i ev0 hi)
        have e1 : n ≤ 400 → (l.getD i ev0).nm.ok → (l.getD i ev0).text.size ≤ 1048600 → ∃ x : Bool, (x = true → n ≤ 400 ∧ ∀ j, i ≤ j → j < l.length → (l.getD j ev0).sm) ∧ HT Try.prog Try.f26.ntmps (pt Try.f26 1) (stF1 l (IntKind.i64.wrap (n + ((l.getD i ev0).attrs.length : Int))) i 0) (EndsA Γ (.pure [] (.bool x)) Try.f26) := fun h4 h5 h6 => by
          have w : IntKind.i64.wrap (n + ((l.getD i ev0).attrs.length : Int)) = n + ((l.getD i ev0).attrs.length : Int) := i64_wrap (by omega) (by omega)
          rw [w]
          refine ex_imp (k1 hi _ (by omega)) (fun x hx h => ?_)
          obtain ⟨g1, g2, g3⟩ := hx h
          refine ⟨by omega, fun j h1 h2 => ?_⟩
          rcases Nat.lt_or_eq_of_le h1 with h7 | h7
          · exact g3 j h7 h2
          · subst h7
            exact ⟨by omega, h5, h6, fun k2 h8 h9 => g1 k2 (Nat.zero_le _) h8 h9⟩
        (repeat' first | exact ⟨_, triv, rfl, trivial⟩ | exact ⟨_, triv, rfl⟩ | refine ex_split (fun _ => ?_) (fun _ => ?_) | refine ex_ob ?_ ?_)
        all_goals first | exact e1 (by (first | omega | (simp only [decide_eq_true_eq, decide_eq_false_iff_not, Bool.not_eq_true', Bool.not_eq_false'] at *; omega))) ⟨by (first | omega | (simp only [decide_eq_true_eq, decide_eq_false_iff_not, Bool.not_eq_true', Bool.not_eq_false'] at *; omega)), by (first | omega | (simp only [decide_eq_true_eq, decide_eq_false_iff_not, Bool.not_eq_true', Bool.not_eq_false'] at *; omega))⟩ (by (first | omega | (simp only [decide_eq_true_eq, decide_eq_false_iff_not, Bool.not_eq_true', Bool.not_eq_false'] at *; omega))) | (first | exact ⟨_, (fun h => absurd h (by decide)), rfl, trivial⟩ | exact ⟨_, (fun h => absurd h (by decide)), rfl⟩) | (first | exact ⟨_, (fun h => by rw [‹decide (n ≤ (400 : Int)) = false›] at h; cases h), rfl, trivial⟩ | exact ⟨_, (fun h => by rw [‹decide (n ≤ (400 : Int)) = false›] at h; cases h), rfl⟩) | omega | ((try simp only [Nat.add_assoc, Nat.reduceAdd, Nat.add_zero]) <;> first | (rw [ats_nth _ _ _ hi (by decide)]; rfl) | (rw [evs_nth _ _ _ hi (by decide)]; rfl) | (rw [ats_nth0 _ _ hi]; rfl) | (rw [evs_nth0 _ _ hi]; rfl)) | (exfalso; (first | omega | (simp only [decide_eq_true_eq, decide_eq_false_iff_not, Bool.not_eq_true', Bool.not_eq_false'] at *; omega)))
      · (repeat' first | exact ⟨_, triv, rfl, trivial⟩ | exact ⟨_, triv, rfl⟩ | refine ex_split (fun _ => ?_) (fun _ => ?_) | refine ex_ob ?_ ?_)
        all_goals first | (first | exact ⟨_, (fun h => ⟨of_decide_eq_true h, fun j h1 h2 => absurd h2 (by omega)⟩), rfl, trivial⟩ | exact ⟨_, (fun h => ⟨of_decide_eq_true h, fun j h1 h2 => absurd h2 (by omega)⟩), rfl⟩) | omega | (exfalso; (first | omega | (simp only [decide_eq_true_eq, decide_eq_false_iff_not, Bool.not_eq_true', Bool.not_eq_false'] at *; omega)))
    obtain ⟨x, hR, hx⟩ := H
    exact ⟨x, hR, HT.walk Γ_ok mo_ok (⟨([(23, .val (.sl none (l.getD i ev0).attrs.length (atsC (l.getD i ev0).attrs) .no)), (30, .val (.str (l.getD i ev0).text)), (39, .val (.str (l.getD i ev0).nm.lo)), (49, .val (.str (l.getD i ev0).nm.sp))] ++ annM), sp26, hd26 [] [] [] [], [], .pure [] (.bool x)⟩ : Wk) 4000 (by kernel_rfl) hx⟩
theorem fewe_l1 (l : List Ev) (n : Int) (i : Nat) (hi : i < l.length) (hl : l.length ≤ 1048600) (k0 : ∃ x : Bool, (x = true → n ≤ 400 ∧ ∀ j, i + 1 ≤ j → j < l.length → (l.getD j ev0).sm) ∧ HT Try.prog Try.f26.ntmps (pt Try.f26 0) (stF0 l n (i + 1)) (EndsA Γ (.pure [] (.bool x)) Try.f26)) : ∀ d k, k + d = 100 → ∃ x : Bool, (x = true → (∀ k2, k ≤ k2 → k2 < 100 → k2 < (l.getD i ev0).attrs.length → ((l.getD i ev0).attrs.getD k2 atr0).ok) ∧ n ≤ 400 ∧ ∀ j, i + 1 ≤ j → j < l.length → (l.getD j ev0).sm) ∧ HT Try.prog Try.f26.ntmps (pt Try.f26 1) (stF1 l n i k) (EndsA Γ (.pure [] (.bool x)) Try.f26) := by
  intro d
  induction d with
  | zero => exact fun k h => fewe_h1 l n i k hi hl (by omega) (fun h => by omega) k0
  | succ d ih => exact fun k h => fewe_h1 l n i k hi hl (by omega) (fun h => ih (k + 1) (by omega)) k0
theorem fewe_l0 (l : List Ev) (hl : l.length ≤ 1048600) (ha : ∀ e ∈ l, e.attrs.length ≤ 1125899906842624) : ∀ d i n, 0 ≤ n → l.length ≤ i + d → ∃ x : Bool, (x = true → n ≤ 400 ∧ ∀ j, i ≤ j → j < l.length → (l.getD j ev0).sm) ∧ HT Try.prog Try.f26.ntmps (pt Try.f26 0) (stF0 l n i) (EndsA Γ (.pure [] (.bool x)) Try.f26) := by
  intro d
  induction d with
  | zero => exact fun i n hn h => fewe_h0 l n i hl ha hn (fun h => by omega)
  | succ d ih => exact fun i n hn h => fewe_h0 l n i hl ha hn (fun h n' hn' => fewe_l1 l n' i h hl (ih (i + 1) n' hn' (by omega)) 100 0 (by omega))

theorem fewe_ex (l : List Ev) (hl : l.length ≤ 1048600) (ha : ∀ e ∈ l, e.attrs.length ≤ 1125899906842624) : ∃ x : Bool, (x = true → smEvs l) ∧ Ctr Try.prog 26 [.sl none l.length (evsC l) .no] (.bool x) := by
    have H : ∃ x : Bool, (x = true → smEvs l) ∧ PT.holds Try.prog Try.f26.ntmps (EndsA Γ (.pure [] (.bool x)) Try.f26) (.head (pt Try.f26 0) ({ tmps := [(0, AV.sl none l.length (evsC l) .no), (3, AV.int .i64 (↑l.length : Int)), (4, AV.int .i64 (0 : Int))], heap := [], tags := [] })) := by
      simp only [PT.holds]
      exact ex_imp (fewe_l0 l hl ha _ 0 (l.length : Int) (by omega) (Nat.le_of_eq (Nat.zero_add _).symm)) (fun x hx h e he => by
        obtain ⟨k, hk, rfl⟩ := List.getElem_of_mem he
        have := (hx h).2 k (Nat.zero_le _) hk
        rwa [List.getD_eq_getElem?_getD, List.getElem?_eq_getElem hk] at this)
    obtain ⟨x, hR, hx⟩ := H
    exact ⟨x, hR, Ctr.mk Γ_ok Try.func26 (by kernel_rfl) Try.call26 [] (by kernel_rfl) (HT.walk Γ_ok mo_ok (⟨annM, sp26, hd26 [] [] [] [], [], .pure [] (.bool x)⟩ : Wk) 4000 (by kernel_rfl) hx)⟩
theorem whole_ex (l : List Ev) (hl : l.length ≤ 1048600) (ho : smEvs l) : ∃ x : Bool, (x = true → DocP l l.length ∧ dep l l.length = 0 ∧ 0 < l.length) ∧ Ctr Try.prog 27 [.sl none l.length (evsC l) .no] (.bool x) := by
  obtain ⟨d, hd, hc⟩ := depth_ex l hl ho
  exact whole_ex0 l hl d hd hc

theorem few_ex0 (l : List Ev) (bF b : Bool) (h26 : l.length ≤ 60 → Ctr Try.prog 26 [.sl none l.length (evsC l) .no] (.bool bF)) (hF : l.length ≤ 60 → bF = true → smEvs l) (hb : bF = true → b = true → DocP l l.length ∧ dep l l.length = 0 ∧ 0 < l.length) (hc : l.length ≤ 60 → bF = true → Ctr Try.prog 27 [.sl none l.length (evsC l) .no] (.bool b)) : ∃ x : Bool, (x = true → Doc l ∧ smEvs l) ∧ Ctr Try.prog 10 [.sl none l.length (evsC l) .no] (.bool x) := by
    have H : ∃ x : Bool, (x = true → Doc l ∧ smEvs l) ∧ PT.holds Try.prog Try.f10.ntmps (EndsA Γ (.pure [] (.bool x)) Try.f10) (.split (decide ((↑l.length : Int) ≤ (60 : Int))) (.ob (Ctr Try.prog 26 [AV.sl none l.length (evsC l) .no] (AV.bool bF)) (.split (bF) (.ob (Ctr Try.prog 27 [AV.sl none l.length (evsC l) .no] (AV.bool b)) (.ob (b = x) (.tt))) (.ob (false = x) (.tt)))) (.ob (false = x) (.tt))) := by
      simp only [PT.holds]
      (repeat' first | exact ⟨_, triv, rfl, trivial⟩ | exact ⟨_, triv, rfl⟩ | refine ex_split (fun _ => ?_) (fun _ => ?_) | refine ex_ob ?_ ?_)
      all_goals first | exact hc (by (first | omega | (simp only [decide_eq_true_eq, decide_eq_false_iff_not, Bool.not_eq_true', Bool.not_eq_false'] at *; omega))) (by assumption) | exact h26 (by (first | omega | (simp only [decide_eq_true_eq, decide_eq_false_iff_not, Bool.not_eq_true', Bool.not_eq_false'] at *; omega))) | (first | exact ⟨_, (fun h => absurd h (by decide)), rfl, trivial⟩ | exact ⟨_, (fun h => absurd h (by decide)), rfl⟩) | (first | exact ⟨_, (fun h => ⟨⟨(hb (by assumption) h).1, (hb (by assumption) h).2.1, (hb (by assumption) h).2.2, by (first | omega | (simp only [decide_eq_true_eq, decide_eq_false_iff_not, Bool.not_eq_true', Bool.not_eq_false', beq_iff_eq, beq_eq_false_iff_ne, decide_eq_decide, ne_eq, Bool.not_eq_eq_eq_not, Bool.not_true, Bool.not_false] at *; omega))⟩, hF (by (first | omega | (simp only [decide_eq_true_eq, decide_eq_false_iff_not, Bool.not_eq_true', Bool.not_eq_false'] at *; omega))) (by assumption)⟩), rfl, trivial⟩ | exact ⟨_, (fun h => ⟨⟨(hb (by assumption) h).1, (hb (by assumption) h).2.1, (hb (by assumption) h).2.2, by (first | omega | (simp only [decide_eq_true_eq, decide_eq_false_iff_not, Bool.not_eq_true', Bool.not_eq_false', beq_iff_eq, beq_eq_false_iff_ne, decide_eq_decide, ne_eq, Bool.not_eq_eq_eq_not, Bool.not_true, Bool.not_false] at *; omega))⟩, hF (by (first | omega | (simp only [decide_eq_true_eq, decide_eq_false_iff_not, Bool.not_eq_true', Bool.not_eq_false'] at *; omega))) (by assumption)⟩), rfl⟩)
    obtain ⟨x, hR, hx⟩ := H
    exact ⟨x, hR, Ctr.mk Γ_ok Try.func10 (by kernel_rfl) Try.call10 [] (by kernel_rfl) (HT.walk Γ_ok mo_ok (⟨([(8, .call [] (.bool bF)), (12, .call [] (.bool b))] ++ annM), sp10, [], [], .pure [] (.bool x)⟩ : Wk) 4000 (by kernel_rfl) hx)⟩
theorem few_exw (l : List Ev) (ha : ∀ e ∈ l, e.attrs.length ≤ 1125899906842624) : ∃ x : Bool, (x = true → Doc l ∧ smEvs l) ∧ Ctr Try.prog 10 [.sl none l.length (evsC l) .no] (.bool x) := by
  by_cases hl : l.length ≤ 60
  · obtain ⟨bF, hF, h26⟩ := fewe_ex l (by omega) ha
    cases bF with
    | false => exact few_ex0 l false false (fun _ => h26) (fun _ h => by cases h) (fun h => by cases h) (fun _ h => by cases h)
    | true =>
      obtain ⟨d, hd, hc⟩ := whole_ex l (by omega) (hF rfl)
      exact few_ex0 l true d (fun _ => h26) (fun _ _ => hF rfl) (fun _ => hd) (fun _ _ => hc)
  · exact few_ex0 l false false (fun h => absurd h hl) (fun h => absurd h hl) (fun h => by cases h) (fun h => absurd h hl)
end Go.Proofs.Ytpffjbbolaehpaa
end

section
set_option linter.unusedVariables false
set_option linter.unusedSimpArgs false
set_option maxRecDepth 100000
namespace Go.Proofs.Ytpffjbbolaehpaa
open Go Go.AX

theorem sub_lt (p q : Pth) (h : q ∈ p.sub) : SizeOf.sizeOf q < SizeOf.sizeOf p := by
  cases p
  have := List.sizeOf_lt_of_mem h
  simp only [Pth.sub] at this
  simp
  omega
theorem test_lt (p : Pth) (q : Flt) (h : q ∈ p.test) : SizeOf.sizeOf q < SizeOf.sizeOf p := by
  cases p
  have := List.sizeOf_lt_of_mem h
  simp only [Pth.test] at this
  simp
  omega
theorem fsub_lt (p q : Flt) (h : q ∈ p.sub) : SizeOf.sizeOf q < SizeOf.sizeOf p := by
  cases p
  have := List.sizeOf_lt_of_mem h
  simp only [Flt.sub] at this
  simp
  omega
theorem way_lt (p : Flt) (q : Pth) (h : q ∈ p.way) : SizeOf.sizeOf q < SizeOf.sizeOf p := by
  cases p
  have := List.sizeOf_lt_of_mem h
  simp only [Flt.way] at this
  simp
  omega

end Go.Proofs.Ytpffjbbolaehpaa
end

section
set_option linter.unusedVariables false
set_option linter.unusedSimpArgs false
set_option maxRecDepth 100000
namespace Go.Proofs.Ytpffjbbolaehpaa
open Go Go.AX

end Go.Proofs.Ytpffjbbolaehpaa
end

section
set_option linter.unusedVariables false
set_option linter.unusedSimpArgs false
set_option maxRecDepth 100000
namespace Go.Proofs.Ytpffjbbolaehpaa
open Go Go.AX


end Go.Proofs.Ytpffjbbolaehpaa
end
