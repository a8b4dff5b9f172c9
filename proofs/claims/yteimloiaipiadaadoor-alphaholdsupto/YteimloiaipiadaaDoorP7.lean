import Derived.Test.YteimloiaipiadaaDoorP6
section
set_option linter.unusedVariables false
set_option linter.unusedSimpArgs false
set_option maxRecDepth 100000
namespace Go.Proofs.YteimloiaipiadaaDoor
open Go Go.AX

theorem sP0_h (p : Pth) (m n i : Nat) (R : Int) (y : Nat) (hi : i < p.sub.length) (hl : p.sub.length ≤ 1048600) (hm : m ≤ 1000) (hn : n ≤ m) (hy : y ≤ 2000) (hc : Ctr Tryd.prog 48 [.agg (pthL (p.sub.getD i pth0)), .int .i64 (m - n : Nat)] (.int .i64 y)) (k : HT Tryd.prog Tryd.f48.ntmps (pt Tryd.f48 0) (stP0 p m (n + y : Nat) (i + 1)) (EndsA Γ (.pure [] (.int .i64 R)) Tryd.f48)) : HT Tryd.prog Tryd.f48.ntmps (pt Tryd.f48 0) (stP0 p m n i) (EndsA Γ (.pure [] (.int .i64 R)) Tryd.f48) :=
  HT.walk Γ_ok mo_ok (⟨([(25, .val (.agg (pthL (p.sub.getD i pth0)))), (48, .val (.agg (fltL (p.test.getD i flt0)))), (29, .call [] (.int .i64 y)), (52, .call [] (.int .i64 y))] ++ []), sp48, hd48 [] [] [] [], [], .pure [] (.int .i64 R)⟩ : Wk) 4000 (T := .split (decide ((↑i : Int) < (↑p.sub.length : Int))) (.split (decide ((↑n : Int) ≤ (↑m : Int))) (.ob ((0 : Int) ≤ (↑i : Int) ∧ (↑i : Int) < (↑p.sub.length : Int) ∧ (↑i : Int).toNat * (3 : Nat) < (pthsC p.sub).length) (.ob (List.take (3 : Nat) (List.drop ((↑i : Int).toNat * (3 : Nat)) (pthsC p.sub)) = (pthL (p.sub.getD i pth0))) (.ob (Ctr Tryd.prog 48 [AV.agg (pthL (p.sub.getD i pth0)), AV.int .i64 (IntKind.i64.wrap ((↑m : Int) - (↑n : Int)))] (AV.int .i64 (↑y : Int))) (.head (pt Tryd.f48 0) ({ tmps := [(1, AV.int .i64 (↑m : Int)), (2, AV.ptr 2 0), (5, AV.int .i64 (IntKind.i64.wrap ((↑n : Int) + (↑y : Int)))), (6, AV.int .i64 (IntKind.i64.wrap ((↑i : Int) + (1 : Int))))], heap := [(2, .var true (pthL p))], tags := [] }))))) (.head (pt Tryd.f48 1) ({ tmps := [(1, AV.int .i64 (↑m : Int)), (2, AV.ptr 2 0), (5, AV.int .i64 (↑n : Int)), (7, AV.int .i64 (0 : Int))], heap := [(2, .var true (pthL p))], tags := [] }))) (.head (pt Tryd.f48 1) ({ tmps := [(1, AV.int .i64 (↑m : Int)), (2, AV.ptr 2 0), (5, AV.int .i64 (↑n : Int)), (7, AV.int .i64 (0 : Int))], heap := [(2, .var true (pthL p))], tags := [] }))) (by kernel_rfl) (by
    have w2 : IntKind.i64.wrap ((i : Int) + 1) = ((i + 1 : Nat) : Int) := by rw [i64_wrap (by omega) (by omega)]; rfl
    have w3 : IntKind.i64.wrap ((m : Int) - (n : Int)) = ((m - n : Nat) : Int) := by rw [i64_wrap (by omega) (by omega)]; omega
    have w4 : IntKind.i64.wrap ((n : Int) + (y : Int)) = ((n + y : Nat) : Int) := by rw [i64_wrap (by omega) (by omega)]; rfl
    have h0 : decide ((i : Int) < p.sub.length) = true := by simp; omega
    have h1 : decide ((n : Int) ≤ (m : Int)) = true := by simp; omega
    simp only [PT.holds, w2, w3, w4, h0, h1, Int.toNat_natCast, pthsC_len, fltsC_len, true_implies, Bool.false_eq_true, Bool.true_eq_false, false_implies, true_and, and_true]
    exact ⟨by omega, by ((try simp only [Nat.add_assoc, Nat.reduceAdd, Nat.add_zero]) <;> first | (rw [ats_take _ _ _ _ hi (by decide)]; rfl) | (rw [pths_take _ _ _ _ hi (by decide)]; rfl) | (rw [flts_take _ _ _ _ hi (by decide)]; rfl) | (rw [ats_take0 _ _ _ hi (by decide)]; rfl) | (rw [pths_take0 _ _ _ hi (by decide)]; rfl) | (rw [flts_take0 _ _ _ hi (by decide)]; rfl)), hc, head_eq k (by simp [stP0, pthL])⟩)
theorem sP0_e (p : Pth) (m n i : Nat) (R : Int) (h : p.sub.length ≤ i ∨ m < n) (k : HT Tryd.prog Tryd.f48.ntmps (pt Tryd.f48 1) (stP1 p m n 0) (EndsA Γ (.pure [] (.int .i64 R)) Tryd.f48)) : HT Tryd.prog Tryd.f48.ntmps (pt Tryd.f48 0) (stP0 p m n i) (EndsA Γ (.pure [] (.int .i64 R)) Tryd.f48) :=
  HT.walk Γ_ok mo_ok (⟨([(25, .val (.agg (pthL (p.sub.getD i pth0)))), (48, .val (.agg (fltL (p.test.getD i flt0)))), (29, .call [] (.int .i64 0)), (52, .call [] (.int .i64 0))] ++ []), sp48, hd48 [] [] [] [], [], .pure [] (.int .i64 R)⟩ : Wk) 4000 (T := .split (decide ((↑i : Int) < (↑p.sub.length : Int))) (.split (decide ((↑n : Int) ≤ (↑m : Int))) (.ob ((0 : Int) ≤ (↑i : Int) ∧ (↑i : Int) < (↑p.sub.length : Int) ∧ (↑i : Int).toNat * (3 : Nat) < (pthsC p.sub).length) (.ob (List.take (3 : Nat) (List.drop ((↑i : Int).toNat * (3 : Nat)) (pthsC p.sub)) = (pthL (p.sub.getD i pth0))) (.ob (Ctr Tryd.prog 48 [AV.agg (pthL (p.sub.getD i pth0)), AV.int .i64 (IntKind.i64.wrap ((↑m : Int) - (↑n : Int)))] (AV.int .i64 (0 : Int))) (.head (pt Tryd.f48 0) ({ tmps := [(1, AV.int .i64 (↑m : Int)), (2, AV.ptr 2 0), (5, AV.int .i64 (IntKind.i64.wrap ((↑n : Int) + (0 : Int)))), (6, AV.int .i64 (IntKind.i64.wrap ((↑i : Int) + (1 : Int))))], heap := [(2, .var true (pthL p))], tags := [] }))))) (.head (pt Tryd.f48 1) ({ tmps := [(1, AV.int .i64 (↑m : Int)), (2, AV.ptr 2 0), (5, AV.int .i64 (↑n : Int)), (7, AV.int .i64 (0 : Int))], heap := [(2, .var true (pthL p))], tags := [] }))) (.head (pt Tryd.f48 1) ({ tmps := [(1, AV.int .i64 (↑m : Int)), (2, AV.ptr 2 0), (5, AV.int .i64 (↑n : Int)), (7, AV.int .i64 (0 : Int))], heap := [(2, .var true (pthL p))], tags := [] }))) (by kernel_rfl) (by
    simp only [PT.holds, true_implies, Bool.false_eq_true, Bool.true_eq_false, false_implies, true_and, and_true]
    refine ⟨fun a => ⟨fun b => ?_, fun b => ?_⟩, fun a => ?_⟩
    · exfalso; have := of_decide_eq_true a; have := of_decide_eq_true b; omega
    · exact head_eq k (by simp [stP1, pthL])
    · exact head_eq k (by simp [stP1, pthL]))
theorem sP1_h (p : Pth) (m n i : Nat) (R : Int) (y : Nat) (hi : i < p.test.length) (hl : p.test.length ≤ 1048600) (hm : m ≤ 1000) (hn : n ≤ m) (hy : y ≤ 2000) (hc : Ctr Tryd.prog 65 [.agg (fltL (p.test.getD i flt0)), .int .i64 (m - n : Nat)] (.int .i64 y)) (k : HT Tryd.prog Tryd.f48.ntmps (pt Tryd.f48 1) (stP1 p m (n + y : Nat) (i + 1)) (EndsA Γ (.pure [] (.int .i64 R)) Tryd.f48)) : HT Tryd.prog Tryd.f48.ntmps (pt Tryd.f48 1) (stP1 p m n i) (EndsA Γ (.pure [] (.int .i64 R)) Tryd.f48) :=
  HT.walk Γ_ok mo_ok (⟨([(25, .val (.agg (pthL (p.sub.getD i pth0)))), (48, .val (.agg (fltL (p.test.getD i flt0)))), (29, .call [] (.int .i64 y)), (52, .call [] (.int .i64 y))] ++ []), sp48, hd48 [] [] [] [], [], .pure [] (.int .i64 R)⟩ : Wk) 4000 (T := .split (decide ((↑i : Int) < (↑p.test.length : Int))) (.split (decide ((↑n : Int) ≤ (↑m : Int))) (.ob ((0 : Int) ≤ (↑i : Int) ∧ (↑i : Int) < (↑p.test.length : Int) ∧ (↑i : Int).toNat * (6 : Nat) < (fltsC p.test).length) (.ob (List.take (6 : Nat) (List.drop ((↑i : Int).toNat * (6 : Nat)) (fltsC p.test)) = (fltL (p.test.getD i flt0))) (.ob (Ctr Tryd.prog 65 [AV.agg (fltL (p.test.getD i flt0)), AV.int .i64 (IntKind.i64.wrap ((↑m : Int) - (↑n : Int)))] (AV.int .i64 (↑y : Int))) (.head (pt Tryd.f48 1) ({ tmps := [(1, AV.int .i64 (↑m : Int)), (2, AV.ptr 2 0), (5, AV.int .i64 (IntKind.i64.wrap ((↑n : Int) + (↑y : Int)))), (7, AV.int .i64 (IntKind.i64.wrap ((↑i : Int) + (1 : Int))))], heap := [(2, .var true (pthL p))], tags := [] }))))) (.ob ((↑n : Int) = R) (.tt))) (.ob ((↑n : Int) = R) (.tt))) (by kernel_rfl) (by
    have w2 : IntKind.i64.wrap ((i : Int) + 1) = ((i + 1 : Nat) : Int) := by rw [i64_wrap (by omega) (by omega)]; rfl
    have w3 : IntKind.i64.wrap ((m : Int) - (n : Int)) = ((m - n : Nat) : Int) := by rw [i64_wrap (by omega) (by omega)]; omega
    have w4 : IntKind.i64.wrap ((n : Int) + (y : Int)) = ((n + y : Nat) : Int) := by rw [i64_wrap (by omega) (by omega)]; rfl
    have h0 : decide ((i : Int) < p.test.length) = true := by simp; omega
    have h1 : decide ((n : Int) ≤ (m : Int)) = true := by simp; omega
    simp only [PT.holds, w2, w3, w4, h0, h1, Int.toNat_natCast, pthsC_len, fltsC_len, true_implies, Bool.false_eq_true, Bool.true_eq_false, false_implies, true_and, and_true]
    exact ⟨by omega, by ((try simp only [Nat.add_assoc, Nat.reduceAdd, Nat.add_zero]) <;> first | (rw [ats_take _ _ _ _ hi (by decide)]; rfl) | (rw [pths_take _ _ _ _ hi (by decide)]; rfl) | (rw [flts_take _ _ _ _ hi (by decide)]; rfl) | (rw [ats_take0 _ _ _ hi (by decide)]; rfl) | (rw [pths_take0 _ _ _ hi (by decide)]; rfl) | (rw [flts_take0 _ _ _ hi (by decide)]; rfl)), hc, head_eq k (by simp [stP1, pthL])⟩)
theorem sP1_e (p : Pth) (m n i : Nat) (h : p.test.length ≤ i ∨ m < n) : HT Tryd.prog Tryd.f48.ntmps (pt Tryd.f48 1) (stP1 p m n i) (EndsA Γ (.pure [] (.int .i64 n)) Tryd.f48) :=
  HT.walk Γ_ok mo_ok (⟨([(25, .val (.agg (pthL (p.sub.getD i pth0)))), (48, .val (.agg (fltL (p.test.getD i flt0)))), (29, .call [] (.int .i64 0)), (52, .call [] (.int .i64 0))] ++ []), sp48, hd48 [] [] [] [], [], .pure [] (.int .i64 n)⟩ : Wk) 4000 (T := .split (decide ((↑i : Int) < (↑p.test.length : Int))) (.split (decide ((↑n : Int) ≤ (↑m : Int))) (.ob ((0 : Int) ≤ (↑i : Int) ∧ (↑i : Int) < (↑p.test.length : Int) ∧ (↑i : Int).toNat * (6 : Nat) < (fltsC p.test).length) (.ob (List.take (6 : Nat) (List.drop ((↑i : Int).toNat * (6 : Nat)) (fltsC p.test)) = (fltL (p.test.getD i flt0))) (.ob (Ctr Tryd.prog 65 [AV.agg (fltL (p.test.getD i flt0)), AV.int .i64 (IntKind.i64.wrap ((↑m : Int) - (↑n : Int)))] (AV.int .i64 (0 : Int))) (.head (pt Tryd.f48 1) ({ tmps := [(1, AV.int .i64 (↑m : Int)), (2, AV.ptr 2 0), (5, AV.int .i64 (IntKind.i64.wrap ((↑n : Int) + (0 : Int)))), (7, AV.int .i64 (IntKind.i64.wrap ((↑i : Int) + (1 : Int))))], heap := [(2, .var true (pthL p))], tags := [] }))))) (.ob ((↑n : Int) = (↑n : Int)) (.tt))) (.ob ((↑n : Int) = (↑n : Int)) (.tt))) (by kernel_rfl) (by
    simp only [PT.holds, true_implies, Bool.false_eq_true, Bool.true_eq_false, false_implies, true_and, and_true]
    refine ⟨fun a => ⟨fun b => ?_, fun b => trivial⟩, fun a => trivial⟩
    exfalso; have := of_decide_eq_true a; have := of_decide_eq_true b; omega)
theorem sP_p (p : Pth) (m : Nat) (R : Int) (k : HT Tryd.prog Tryd.f48.ntmps (pt Tryd.f48 0) (stP0 p m 1 0) (EndsA Γ (.pure [] (.int .i64 R)) Tryd.f48)) : Ctr Tryd.prog 48 [.agg (pthL p), .int .i64 m] (.int .i64 R) :=
  Ctr.mk Γ_ok Tryd.func48 (by kernel_rfl) Tryd.call48 [] (by kernel_rfl) (HT.walk Γ_ok mo_ok (⟨([] ++ []), sp48, hd48 [] [] [] [], [], .pure [] (.int .i64 R)⟩ : Wk) 4000 (T := .head (pt Tryd.f48 0) ({ tmps := [(1, AV.int .i64 (↑m : Int)), (2, AV.ptr 2 0), (5, AV.int .i64 (1 : Int)), (6, AV.int .i64 (0 : Int))], heap := [(2, .var true (pthL p))], tags := [] })) (by kernel_rfl) (by
    simp only [PT.holds, true_implies, Bool.false_eq_true, Bool.true_eq_false, false_implies, true_and, and_true]
    exact head_eq k (by simp [stP0, pthL])))
theorem sQ0_h (p : Flt) (m n i : Nat) (R : Int) (y : Nat) (hi : i < p.sub.length) (hl : p.sub.length ≤ 1048600) (hm : m ≤ 1000) (hn : n ≤ m) (hy : y ≤ 2000) (hc : Ctr Tryd.prog 65 [.agg (fltL (p.sub.getD i flt0)), .int .i64 (m - n : Nat)] (.int .i64 y)) (k : HT Tryd.prog Tryd.f65.ntmps (pt Tryd.f65 0) (stQ0 p m (n + y : Nat) (i + 1)) (EndsA Γ (.pure [] (.int .i64 R)) Tryd.f65)) : HT Tryd.prog Tryd.f65.ntmps (pt Tryd.f65 0) (stQ0 p m n i) (EndsA Γ (.pure [] (.int .i64 R)) Tryd.f65) :=
  HT.walk Γ_ok mo_ok (⟨([(25, .val (.agg (fltL (p.sub.getD i flt0)))), (48, .val (.agg (pthL (p.way.getD i pth0)))), (29, .call [] (.int .i64 y)), (52, .call [] (.int .i64 y))] ++ []), sp65, hd65 [] [] [] [], [], .pure [] (.int .i64 R)⟩ : Wk) 4000 (T := .split (decide ((↑i : Int) < (↑p.sub.length : Int))) (.split (decide ((↑n : Int) ≤ (↑m : Int))) (.ob ((0 : Int) ≤ (↑i : Int) ∧ (↑i : Int) < (↑p.sub.length : Int) ∧ (↑i : Int).toNat * (6 : Nat) < (fltsC p.sub).length) (.ob (List.take (6 : Nat) (List.drop ((↑i : Int).toNat * (6 : Nat)) (fltsC p.sub)) = (fltL (p.sub.getD i flt0))) (.ob (Ctr Tryd.prog 65 [AV.agg (fltL (p.sub.getD i flt0)), AV.int .i64 (IntKind.i64.wrap ((↑m : Int) - (↑n : Int)))] (AV.int .i64 (↑y : Int))) (.head (pt Tryd.f65 0) ({ tmps := [(1, AV.int .i64 (↑m : Int)), (2, AV.ptr 2 0), (5, AV.int .i64 (IntKind.i64.wrap ((↑n : Int) + (↑y : Int)))), (6, AV.int .i64 (IntKind.i64.wrap ((↑i : Int) + (1 : Int))))], heap := [(2, .var true (fltL p))], tags := [] }))))) (.head (pt Tryd.f65 1) ({ tmps := [(1, AV.int .i64 (↑m : Int)), (2, AV.ptr 2 0), (5, AV.int .i64 (↑n : Int)), (7, AV.int .i64 (0 : Int))], heap := [(2, .var true (fltL p))], tags := [] }))) (.head (pt Tryd.f65 1) ({ tmps := [(1, AV.int .i64 (↑m : Int)), (2, AV.ptr 2 0), (5, AV.int .i64 (↑n : Int)), (7, AV.int .i64 (0 : Int))], heap := [(2, .var true (fltL p))], tags := [] }))) (by kernel_rfl) (by
    have w2 : IntKind.i64.wrap ((i : Int) + 1) = ((i + 1 : Nat) : Int) := by rw [i64_wrap (by omega) (by omega)]; rfl
    have w3 : IntKind.i64.wrap ((m : Int) - (n : Int)) = ((m - n : Nat) : Int) := by rw [i64_wrap (by omega) (by omega)]; omega
    have w4 : IntKind.i64.wrap ((n : Int) + (y : Int)) = ((n + y : Nat) : Int) := by rw [i64_wrap (by omega) (by omega)]; rfl
    have h0 : decide ((i : Int) < p.sub.length) = true := by simp; omega
    have h1 : decide ((n : Int) ≤ (m : Int)) = true := by simp; omega
    simp only [PT.holds, w2, w3, w4, h0, h1, Int.toNat_natCast, pthsC_len, fltsC_len, true_implies, Bool.false_eq_true, Bool.true_eq_false, false_implies, true_and, and_true]
    exact ⟨by omega, by ((try simp only [Nat.add_assoc, Nat.reduceAdd, Nat.add_zero]) <;> first | (rw [ats_take _ _ _ _ hi (by decide)]; rfl) | (rw [pths_take _ _ _ _ hi (by decide)]; rfl) | (rw [flts_take _ _ _ _ hi (by decide)]; rfl) | (rw [ats_take0 _ _ _ hi (by decide)]; rfl) | (rw [pths_take0 _ _ _ hi (by decide)]; rfl) | (rw [flts_take0 _ _ _ hi (by decide)]; rfl)), hc, head_eq k (by simp [stQ0, fltL])⟩)
theorem sQ0_e (p : Flt) (m n i : Nat) (R : Int) (h : p.sub.length ≤ i ∨ m < n) (k : HT Tryd.prog Tryd.f65.ntmps (pt Tryd.f65 1) (stQ1 p m n 0) (EndsA Γ (.pure [] (.int .i64 R)) Tryd.f65)) : HT Tryd.prog Tryd.f65.ntmps (pt Tryd.f65 0) (stQ0 p m n i) (EndsA Γ (.pure [] (.int .i64 R)) Tryd.f65) :=
  HT.walk Γ_ok mo_ok (⟨([(25, .val (.agg (fltL (p.sub.getD i flt0)))), (48, .val (.agg (pthL (p.way.getD i pth0)))), (29, .call [] (.int .i64 0)), (52, .call [] (.int .i64 0))] ++ []), sp65, hd65 [] [] [] [], [], .pure [] (.int .i64 R)⟩ : Wk) 4000 (T := .split (decide ((↑i : Int) < (↑p.sub.length : Int))) (.split (decide ((↑n : Int) ≤ (↑m : Int))) (.ob ((0 : Int) ≤ (↑i : Int) ∧ (↑i : Int) < (↑p.sub.length : Int) ∧ (↑i : Int).toNat * (6 : Nat) < (fltsC p.sub).length) (.ob (List.take (6 : Nat) (List.drop ((↑i : Int).toNat * (6 : Nat)) (fltsC p.sub)) = (fltL (p.sub.getD i flt0))) (.ob (Ctr Tryd.prog 65 [AV.agg (fltL (p.sub.getD i flt0)), AV.int .i64 (IntKind.i64.wrap ((↑m : Int) - (↑n : Int)))] (AV.int .i64 (0 : Int))) (.head (pt Tryd.f65 0) ({ tmps := [(1, AV.int .i64 (↑m : Int)), (2, AV.ptr 2 0), (5, AV.int .i64 (IntKind.i64.wrap ((↑n : Int) + (0 : Int)))), (6, AV.int .i64 (IntKind.i64.wrap ((↑i : Int) + (1 : Int))))], heap := [(2, .var true (fltL p))], tags := [] }))))) (.head (pt Tryd.f65 1) ({ tmps := [(1, AV.int .i64 (↑m : Int)), (2, AV.ptr 2 0), (5, AV.int .i64 (↑n : Int)), (7, AV.int .i64 (0 : Int))], heap := [(2, .var true (fltL p))], tags := [] }))) (.head (pt Tryd.f65 1) ({ tmps := [(1, AV.int .i64 (↑m : Int)), (2, AV.ptr 2 0), (5, AV.int .i64 (↑n : Int)), (7, AV.int .i64 (0 : Int))], heap := [(2, .var true (fltL p))], tags := [] }))) (by kernel_rfl) (by
    simp only [PT.holds, true_implies, Bool.false_eq_true, Bool.true_eq_false, false_implies, true_and, and_true]
    refine ⟨fun a => ⟨fun b => ?_, fun b => ?_⟩, fun a => ?_⟩
    · exfalso; have := of_decide_eq_true a; have := of_decide_eq_true b; omega
    · exact head_eq k (by simp [stQ1, fltL])
    · exact head_eq k (by simp [stQ1, fltL]))
theorem sQ1_h (p : Flt) (m n i : Nat) (R : Int) (y : Nat) (hi : i < p.way.length) (hl : p.way.length ≤ 1048600) (hm : m ≤ 1000) (hn : n ≤ m) (hy : y ≤ 2000) (hc : Ctr Tryd.prog 48 [.agg (pthL (p.way.getD i pth0)), .int .i64 (m - n : Nat)] (.int .i64 y)) (k : HT Tryd.prog Tryd.f65.ntmps (pt Tryd.f65 1) (stQ1 p m (n + y : Nat) (i + 1)) (EndsA Γ (.pure [] (.int .i64 R)) Tryd.f65)) : HT Tryd.prog Tryd.f65.ntmps (pt Tryd.f65 1) (stQ1 p m n i) (EndsA Γ (.pure [] (.int .i64 R)) Tryd.f65) :=
  HT.walk Γ_ok mo_ok (⟨([(25, .val (.agg (fltL (p.sub.getD i flt0)))), (48, .val (.agg (pthL (p.way.getD i pth0)))), (29, .call [] (.int .i64 y)), (52, .call [] (.int .i64 y))] ++ []), sp65, hd65 [] [] [] [], [], .pure [] (.int .i64 R)⟩ : Wk) 4000 (T := .split (decide ((↑i : Int) < (↑p.way.length : Int))) (.split (decide ((↑n : Int) ≤ (↑m : Int))) (.ob ((0 : Int) ≤ (↑i : Int) ∧ (↑i : Int) < (↑p.way.length : Int) ∧ (↑i : Int).toNat * (3 : Nat) < (pthsC p.way).length) (.ob (List.take (3 : Nat) (List.drop ((↑i : Int).toNat * (3 : Nat)) (pthsC p.way)) = (pthL (p.way.getD i pth0))) (.ob (Ctr Tryd.prog 48 [AV.agg (pthL (p.way.getD i pth0)), AV.int .i64 (IntKind.i64.wrap ((↑m : Int) - (↑n : Int)))] (AV.int .i64 (↑y : Int))) (.head (pt Tryd.f65 1) ({ tmps := [(1, AV.int .i64 (↑m : Int)), (2, AV.ptr 2 0), (5, AV.int .i64 (IntKind.i64.wrap ((↑n : Int) + (↑y : Int)))), (7, AV.int .i64 (IntKind.i64.wrap ((↑i : Int) + (1 : Int))))], heap := [(2, .var true (fltL p))], tags := [] }))))) (.ob ((↑n : Int) = R) (.tt))) (.ob ((↑n : Int) = R) (.tt))) (by kernel_rfl) (by
    have w2 : IntKind.i64.wrap ((i : Int) + 1) = ((i + 1 : Nat) : Int) := by rw [i64_wrap (by omega) (by omega)]; rfl
    have w3 : IntKind.i64.wrap ((m : Int) - (n : Int)) = ((m - n : Nat) : Int) := by rw [i64_wrap (by omega) (by omega)]; omega
    have w4 : IntKind.i64.wrap ((n : Int) + (y : Int)) = ((n + y : Nat) : Int) := by rw [i64_wrap (by omega) (by omega)]; rfl
    have h0 : decide ((i : Int) < p.way.length) = true := by simp; omega
    have h1 : decide ((n : Int) ≤ (m : Int)) = true := by simp; omega
    simp only [PT.holds, w2, w3, w4, h0, h1, Int.toNat_natCast, pthsC_len, fltsC_len, true_implies, Bool.false_eq_true, Bool.true_eq_false, false_implies, true_and, and_true]
    exact ⟨by omega, by ((try simp only [Nat.add_assoc, Nat.reduceAdd, Nat.add_zero]) <;> first | (rw [ats_take _ _ _ _ hi (by decide)]; rfl) | (rw [pths_take _ _ _ _ hi (by decide)]; rfl) | (rw [flts_take _ _ _ _ hi (by decide)]; rfl) | (rw [ats_take0 _ _ _ hi (by decide)]; rfl) | (rw [pths_take0 _ _ _ hi (by decide)]; rfl) | (rw [flts_take0 _ _ _ hi (by decide)]; rfl)), hc, head_eq k (by simp [stQ1, fltL])⟩)
theorem sQ1_e (p : Flt) (m n i : Nat) (h : p.way.length ≤ i ∨ m < n) : HT Tryd.prog Tryd.f65.ntmps (pt Tryd.f65 1) (stQ1 p m n i) (EndsA Γ (.pure [] (.int .i64 n)) Tryd.f65) :=
  HT.walk Γ_ok mo_ok (⟨([(25, .val (.agg (fltL (p.sub.getD i flt0)))), (48, .val (.agg (pthL (p.way.getD i pth0)))), (29, .call [] (.int .i64 0)), (52, .call [] (.int .i64 0))] ++ []), sp65, hd65 [] [] [] [], [], .pure [] (.int .i64 n)⟩ : Wk) 4000 (T := .split (decide ((↑i : Int) < (↑p.way.length : Int))) (.split (decide ((↑n : Int) ≤ (↑m : Int))) (.ob ((0 : Int) ≤ (↑i : Int) ∧ (↑i : Int) < (↑p.way.length : Int) ∧ (↑i : Int).toNat * (3 : Nat) < (pthsC p.way).length) (.ob (List.take (3 : Nat) (List.drop ((↑i : Int).toNat * (3 : Nat)) (pthsC p.way)) = (pthL (p.way.getD i pth0))) (.ob (Ctr Tryd.prog 48 [AV.agg (pthL (p.way.getD i pth0)), AV.int .i64 (IntKind.i64.wrap ((↑m : Int) - (↑n : Int)))] (AV.int .i64 (0 : Int))) (.head (pt Tryd.f65 1) ({ tmps := [(1, AV.int .i64 (↑m : Int)), (2, AV.ptr 2 0), (5, AV.int .i64 (IntKind.i64.wrap ((↑n : Int) + (0 : Int)))), (7, AV.int .i64 (IntKind.i64.wrap ((↑i : Int) + (1 : Int))))], heap := [(2, .var true (fltL p))], tags := [] }))))) (.ob ((↑n : Int) = (↑n : Int)) (.tt))) (.ob ((↑n : Int) = (↑n : Int)) (.tt))) (by kernel_rfl) (by
    simp only [PT.holds, true_implies, Bool.false_eq_true, Bool.true_eq_false, false_implies, true_and, and_true]
    refine ⟨fun a => ⟨fun b => ?_, fun b => trivial⟩, fun a => trivial⟩
    exfalso; have := of_decide_eq_true a; have := of_decide_eq_true b; omega)
theorem sQ_p (p : Flt) (m : Nat) (R : Int) (k : HT Tryd.prog Tryd.f65.ntmps (pt Tryd.f65 0) (stQ0 p m 1 0) (EndsA Γ (.pure [] (.int .i64 R)) Tryd.f65)) : Ctr Tryd.prog 65 [.agg (fltL p), .int .i64 m] (.int .i64 R) :=
  Ctr.mk Γ_ok Tryd.func65 (by kernel_rfl) Tryd.call65 [] (by kernel_rfl) (HT.walk Γ_ok mo_ok (⟨([] ++ []), sp65, hd65 [] [] [] [], [], .pure [] (.int .i64 R)⟩ : Wk) 4000 (T := .head (pt Tryd.f65 0) ({ tmps := [(1, AV.int .i64 (↑m : Int)), (2, AV.ptr 2 0), (5, AV.int .i64 (1 : Int)), (6, AV.int .i64 (0 : Int))], heap := [(2, .var true (fltL p))], tags := [] })) (by kernel_rfl) (by
    simp only [PT.holds, true_implies, Bool.false_eq_true, Bool.true_eq_false, false_implies, true_and, and_true]
    exact head_eq k (by simp [stQ0, fltL])))
end Go.Proofs.YteimloiaipiadaaDoor
end

section
set_option linter.unusedVariables false
set_option linter.unusedSimpArgs false
set_option maxRecDepth 100000
namespace Go.Proofs.YteimloiaipiadaaDoor
open Go Go.AX

def nmsC (l : List Nm) : List AV := l.flatMap nmC
def strsC (l : List ByteArray) : List AV := l.map .str
theorem nmC_len (a : Nm) : (nmC a).length = 2 := rfl
theorem nmsC_len (l : List Nm) : (nmsC l).length = l.length * 2 := flat_len nmC_len l
theorem nms_take0 (l : List Nm) (i m : Nat) (hi : i < l.length) (hm : m ≤ 2) : ((nmsC l).drop (i * 2)).take m = (nmC (l.getD i nm0)).take m := by have := flat_take nmC_len nm0 l i 0 m hi (by omega); rw [Nat.add_zero] at this; simpa [nmsC] using this
theorem strsC_len (l : List ByteArray) : (strsC l).length = l.length := by simp [strsC]
theorem strs_nth (l : List ByteArray) (i : Nat) (hi : i < l.length) : (strsC l)[i]? = some (.str (l.getD i ⟨#[]⟩)) := by simp [strsC, List.getD_eq_getElem?_getD, hi]
theorem nmsC_app (l : List Nm) (n : Nm) : nmsC (l ++ [n]) = nmsC l ++ [.str n.sp, .str n.lo] := by simp [nmsC, nmC]
theorem strsC_app (l : List ByteArray) (n : ByteArray) : strsC (l ++ [n]) = strsC l ++ [.str n] := by simp [strsC]
theorem nm_eq (a b : Nm) : (decide (a.sp = b.sp) && (decide (a.lo = b.lo) && true)) = decide (a = b) := by
  cases a; cases b
  simp only [Bool.and_true, Nm.mk.injEq, Bool.decide_and]
def hasB (l : List ByteArray) (n : ByteArray) : Bool := l.any fun x => decide (x = n)
theorem hasB_iff (l : List ByteArray) (n : ByteArray) : hasB l n = true ↔ n ∈ l := by
  simp only [hasB, List.any_eq_true, decide_eq_true_eq]
  exact ⟨fun ⟨x, h, e⟩ => e ▸ h, fun h => ⟨n, h, rfl⟩⟩
theorem hasB_false (l : List ByteArray) (n : ByteArray) (h : n ∉ l) : hasB l n = false := by
  cases e : hasB l n with
  | false => rfl
  | true => exact absurd ((hasB_iff l n).1 e) h
end Go.Proofs.YteimloiaipiadaaDoor
end

section
set_option linter.unusedVariables false
set_option linter.unusedSimpArgs false
set_option maxRecDepth 100000
namespace Go.Proofs.YteimloiaipiadaaDoor
open Go Go.AX

def stepN (a b : Int) (out : List Nm) (f : Flt) : List Nm := if a ≤ f.op ∧ f.op ≤ b ∧ f.nm ∉ out then out ++ [f.nm] else out
def stepV (o : Int) (n : Nm) (out : List ByteArray) (f : Flt) : List ByteArray := if f.op = o ∧ f.nm = n ∧ hasB out f.val = false then out ++ [f.val] else out
def namesF (a b : Int) (l : List Flt) : List Nm := l.foldl (stepN a b) []
def valuesF (o : Int) (n : Nm) (l : List Flt) : List ByteArray := l.foldl (stepV o n) []
theorem drop_cons {α : Type} (l : List α) (i : Nat) (d : α) (h : i < l.length) : l.drop i = l.getD i d :: l.drop (i + 1) := by
  rw [List.drop_eq_getElem_cons h, List.getD_eq_getElem?_getD, List.getElem?_eq_getElem h]
  rfl
end Go.Proofs.YteimloiaipiadaaDoor
end

section
set_option linter.unusedVariables false
set_option linter.unusedSimpArgs false
set_option maxRecDepth 100000
namespace Go.Proofs.YteimloiaipiadaaDoor
open Go Go.AX

theorem fltsC_app (a b : List Flt) : fltsC (a ++ b) = fltsC a ++ fltsC b := by simp [fltsC_eq]
def stFa (p : Pth) (out : List Flt) (i : Nat) : AS := ⟨[(1, .ptr 1 0), (3, .sl none out.length (fltsC out) (.own 1)), (4, .int .i64 i)], [(1, .var true (pthL p))], [(1, ⟨out.length, 55, 6, none⟩)]⟩
def stFb (p : Pth) (out : List Flt) (i : Nat) : AS := ⟨[(1, .ptr 1 0), (3, .sl none out.length (fltsC out) (.own 1)), (5, .int .i64 i)], [(1, .var true (pthL p))], [(1, ⟨out.length, 55, 6, none⟩)]⟩
def stWa (p : Flt) (out : List Flt) (i : Nat) : AS := ⟨[(1, .ptr 1 0), (3, .sl none out.length (fltsC out) (.own 1)), (4, .int .i64 i)], [(1, .var true (fltL p))], [(1, ⟨out.length, 55, 6, none⟩)]⟩
def stWb (p : Flt) (out : List Flt) (i : Nat) : AS := ⟨[(1, .ptr 1 0), (3, .sl none out.length (fltsC out) (.own 1)), (5, .int .i64 i)], [(1, .var true (fltL p))], [(1, ⟨out.length, 55, 6, none⟩)]⟩

theorem fa_h (p : Pth) (out m R : List Flt) (i : Nat) (hi : i < p.sub.length) (hs : p.sub.length ≤ 1048600) (ho : out.length + m.length ≤ 1000000) (hc : Ctr Tryd.prog 18 [.agg (pthL (p.sub.getD i pth0))] (.sl none m.length (fltsC m) .no)) (k : HT Tryd.prog Tryd.f18.ntmps (pt Tryd.f18 0) (stFa p (out ++ m) (i + 1)) (EndsA Γ (.pure [] (.sl none R.length (fltsC R) .no)) Tryd.f18)) : HT Tryd.prog Tryd.f18.ntmps (pt Tryd.f18 0) (stFa p out i) (EndsA Γ (.pure [] (.sl none R.length (fltsC R) .no)) Tryd.f18) :=
  HT.walk Γ_ok mo_ok (⟨[(10, .val (.bool true)), (18, .val (.agg (pthL (p.sub.getD i pth0)))), (19, .call [] (.sl none m.length (fltsC m) .no))], (sp18).filter (fun x => !Nat.beq x 10), hd18 [(3, 1, 55, 6)] [] [] [], [], .pure [] (.sl none R.length (fltsC R) .no)⟩ : Wk) 4000 (T := .ob (decide ((↑i : Int) < (↑p.sub.length : Int)) = true) (.ob ((0 : Int) ≤ (↑i : Int) ∧ (↑i : Int) < (↑p.sub.length : Int) ∧ (↑i : Int).toNat * (3 : Nat) < (pthsC p.sub).length) (.ob (List.take (3 : Nat) (List.drop ((↑i : Int).toNat * (3 : Nat)) (pthsC p.sub)) = (pthL (p.sub.getD i pth0))) (.ob (Ctr Tryd.prog 18 [AV.agg (pthL (p.sub.getD i pth0))] (AV.sl none m.length (fltsC m) .no)) (.ob (out.length = out.length) (.ob ((fltsC out).length = out.length * ((5 : Nat) + (1 : Nat)) ∧ (fltsC m).length = m.length * ((5 : Nat) + (1 : Nat)) ∧ (out.length + m.length) * ((103 : Nat) + (1 : Nat)) ≤ (140737488355328 : Nat)) (.head (pt Tryd.f18 0) ({ tmps := [(1, AV.ptr 1 0), (3, AV.sl none (out.length + m.length) (fltsC out ++ fltsC m) (.own (1 : Nat))), (4, AV.int .i64 (IntKind.i64.wrap ((↑i : Int) + (1 : Int))))], heap := [(1, .var true (pthL p))], tags := [(1, { n := out.length + m.length, e := (55 : Nat), sz := (6 : Nat) })] })))))))) (by kernel_rfl) (by
    have w2 : IntKind.i64.wrap ((i : Int) + 1) = ((i + 1 : Nat) : Int) := by rw [i64_wrap (by omega) (by omega)]; rfl
    have h0 : decide ((i : Int) < p.sub.length) = true := by simp; omega
    simp only [PT.holds, w2, h0, Int.toNat_natCast, pthsC_len, fltsC_len, true_implies, Bool.false_eq_true, Bool.true_eq_false, false_implies, true_and, and_true]
    refine ⟨by omega, by ((try simp only [Nat.add_assoc, Nat.reduceAdd, Nat.add_zero]) <;> first | (rw [ats_take _ _ _ _ hi (by decide)]; rfl) | (rw [pths_take _ _ _ _ hi (by decide)]; rfl) | (rw [flts_take _ _ _ _ hi (by decide)]; rfl) | (rw [ats_take0 _ _ _ hi (by decide)]; rfl) | (rw [pths_take0 _ _ _ hi (by decide)]; rfl) | (rw [flts_take0 _ _ _ hi (by decide)]; rfl)), hc, by omega, head_eq k ?_⟩
    simp [stFa, pthL, fltL, fltsC_app])
theorem fa_e (p : Pth) (out R : List Flt) (i : Nat) (hi : i = p.sub.length) (k : HT Tryd.prog Tryd.f18.ntmps (pt Tryd.f18 1) (stFb p out 0) (EndsA Γ (.pure [] (.sl none R.length (fltsC R) .no)) Tryd.f18)) : HT Tryd.prog Tryd.f18.ntmps (pt Tryd.f18 0) (stFa p out i) (EndsA Γ (.pure [] (.sl none R.length (fltsC R) .no)) Tryd.f18) :=
  HT.walk Γ_ok mo_ok (⟨[(10, .val (.bool false)), (18, .val (.agg (pthL pth0))), (19, .call [] (.sl none out.length (fltsC out) .no))], (sp18).filter (fun x => !Nat.beq x 10), hd18 [(3, 1, 55, 6)] [] [] [], [], .pure [] (.sl none R.length (fltsC R) .no)⟩ : Wk) 4000 (T := .ob (decide ((↑i : Int) < (↑p.sub.length : Int)) = false) (.head (pt Tryd.f18 1) ({ tmps := [(1, AV.ptr 1 0), (3, AV.sl none out.length (fltsC out) (.own (1 : Nat))), (5, AV.int .i64 (0 : Int))], heap := [(1, .var true (pthL p))], tags := [(1, { n := out.length, e := (55 : Nat), sz := (6 : Nat) })] }))) (by kernel_rfl) (by
    have h0 : decide ((i : Int) < p.sub.length) = false := by simp; omega
    simp only [PT.holds, h0, true_implies, Bool.false_eq_true, Bool.true_eq_false, false_implies, true_and, and_true]
    exact head_eq k (by simp [stFb, pthL]))
theorem fb_h (p : Pth) (out m R : List Flt) (i : Nat) (hi : i < p.test.length) (hs : p.test.length ≤ 1048600) (ho : out.length + m.length ≤ 1000000) (hc : Ctr Tryd.prog 44 [.agg (fltL (p.test.getD i flt0))] (.sl none m.length (fltsC m) .no)) (k : HT Tryd.prog Tryd.f18.ntmps (pt Tryd.f18 1) (stFb p (out ++ m) (i + 1)) (EndsA Γ (.pure [] (.sl none R.length (fltsC R) .no)) Tryd.f18)) : HT Tryd.prog Tryd.f18.ntmps (pt Tryd.f18 1) (stFb p out i) (EndsA Γ (.pure [] (.sl none R.length (fltsC R) .no)) Tryd.f18) :=
  HT.walk Γ_ok mo_ok (⟨[(25, .val (.bool true)), (33, .val (.agg (fltL (p.test.getD i flt0)))), (34, .call [] (.sl none m.length (fltsC m) .no))], (sp18).filter (fun x => !Nat.beq x 25), hd18 [(3, 1, 55, 6)] [] [] [], [], .pure [] (.sl none R.length (fltsC R) .no)⟩ : Wk) 4000 (T := .ob (decide ((↑i : Int) < (↑p.test.length : Int)) = true) (.ob ((0 : Int) ≤ (↑i : Int) ∧ (↑i : Int) < (↑p.test.length : Int) ∧ (↑i : Int).toNat * (6 : Nat) < (fltsC p.test).length) (.ob (List.take (6 : Nat) (List.drop ((↑i : Int).toNat * (6 : Nat)) (fltsC p.test)) = (fltL (p.test.getD i flt0))) (.ob (Ctr Tryd.prog 44 [AV.agg (fltL (p.test.getD i flt0))] (AV.sl none m.length (fltsC m) .no)) (.ob (out.length = out.length) (.ob ((fltsC out).length = out.length * ((5 : Nat) + (1 : Nat)) ∧ (fltsC m).length = m.length * ((5 : Nat) + (1 : Nat)) ∧ (out.length + m.length) * ((103 : Nat) + (1 : Nat)) ≤ (140737488355328 : Nat)) (.head (pt Tryd.f18 1) ({ tmps := [(1, AV.ptr 1 0), (3, AV.sl none (out.length + m.length) (fltsC out ++ fltsC m) (.own (1 : Nat))), (5, AV.int .i64 (IntKind.i64.wrap ((↑i : Int) + (1 : Int))))], heap := [(1, .var true (pthL p))], tags := [(1, { n := out.length + m.length, e := (55 : Nat), sz := (6 : Nat) })] })))))))) (by kernel_rfl) (by
    have w2 : IntKind.i64.wrap ((i : Int) + 1) = ((i + 1 : Nat) : Int) := by rw [i64_wrap (by omega) (by omega)]; rfl
    have h0 : decide ((i : Int) < p.test.length) = true := by simp; omega
    simp only [PT.holds, w2, h0, Int.toNat_natCast, pthsC_len, fltsC_len, true_implies, Bool.false_eq_true, Bool.true_eq_false, false_implies, true_and, and_true]
    refine ⟨by omega, by ((try simp only [Nat.add_assoc, Nat.reduceAdd, Nat.add_zero]) <;> first | (rw [ats_take _ _ _ _ hi (by decide)]; rfl) | (rw [pths_take _ _ _ _ hi (by decide)]; rfl) | (rw [flts_take _ _ _ _ hi (by decide)]; rfl) | (rw [ats_take0 _ _ _ hi (by decide)]; rfl) | (rw [pths_take0 _ _ _ hi (by decide)]; rfl) | (rw [flts_take0 _ _ _ hi (by decide)]; rfl)), hc, by omega, head_eq k ?_⟩
    simp [stFb, pthL, fltL, fltsC_app])
theorem fb_e (p : Pth) (out : List Flt) (i : Nat) (hi : i = p.test.length) : HT Tryd.prog Tryd.f18.ntmps (pt Tryd.f18 1) (stFb p out i) (EndsA Γ (.pure [] (.sl none out.length (fltsC out) .no)) Tryd.f18) :=
  HT.walk Γ_ok mo_ok (⟨[(25, .val (.bool false)), (33, .val (.agg (fltL flt0))), (34, .call [] (.sl none out.length (fltsC out) .no))], (sp18).filter (fun x => !Nat.beq x 25), hd18 [(3, 1, 55, 6)] [] [] [], [], .pure [] (.sl none out.length (fltsC out) .no)⟩ : Wk) 4000 (T := .ob (decide ((↑i : Int) < (↑p.test.length : Int)) = false) (.ob (out.length = out.length) (.ob (fltsC out = fltsC out) (.tt)))) (by kernel_rfl) (by
    have h0 : decide ((i : Int) < p.test.length) = false := by simp; omega
    simp only [PT.holds, h0, true_implies, Bool.false_eq_true, Bool.true_eq_false, false_implies, true_and, and_true])
theorem wa_h (p : Flt) (out m R : List Flt) (i : Nat) (hi : i < p.sub.length) (hs : p.sub.length ≤ 1048600) (ho : out.length + m.length ≤ 1000000) (hc : Ctr Tryd.prog 44 [.agg (fltL (p.sub.getD i flt0))] (.sl none m.length (fltsC m) .no)) (k : HT Tryd.prog Tryd.f44.ntmps (pt Tryd.f44 0) (stWa p (out ++ m) (i + 1)) (EndsA Γ (.pure [] (.sl none R.length (fltsC R) .no)) Tryd.f44)) : HT Tryd.prog Tryd.f44.ntmps (pt Tryd.f44 0) (stWa p out i) (EndsA Γ (.pure [] (.sl none R.length (fltsC R) .no)) Tryd.f44) :=
  HT.walk Γ_ok mo_ok (⟨[(12, .val (.bool true)), (20, .val (.agg (fltL (p.sub.getD i flt0)))), (21, .call [] (.sl none m.length (fltsC m) .no))], (sp44).filter (fun x => !Nat.beq x 12), hd44 [(3, 1, 55, 6)] [] [] [], [], .pure [] (.sl none R.length (fltsC R) .no)⟩ : Wk) 4000 (T := .ob (decide ((↑i : Int) < (↑p.sub.length : Int)) = true) (.ob ((0 : Int) ≤ (↑i : Int) ∧ (↑i : Int) < (↑p.sub.length : Int) ∧ (↑i : Int).toNat * (6 : Nat) < (fltsC p.sub).length) (.ob (List.take (6 : Nat) (List.drop ((↑i : Int).toNat * (6 : Nat)) (fltsC p.sub)) = (fltL (p.sub.getD i flt0))) (.ob (Ctr Tryd.prog 44 [AV.agg (fltL (p.sub.getD i flt0))] (AV.sl none m.length (fltsC m) .no)) (.ob (out.length = out.length) (.ob ((fltsC out).length = out.length * ((5 : Nat) + (1 : Nat)) ∧ (fltsC m).length = m.length * ((5 : Nat) + (1 : Nat)) ∧ (out.length + m.length) * ((103 : Nat) + (1 : Nat)) ≤ (140737488355328 : Nat)) (.head (pt Tryd.f44 0) ({ tmps := [(1, AV.ptr 1 0), (3, AV.sl none (out.length + m.length) (fltsC out ++ fltsC m) (.own (1 : Nat))), (4, AV.int .i64 (IntKind.i64.wrap ((↑i : Int) + (1 : Int))))], heap := [(1, .var true (fltL p))], tags := [(1, { n := out.length + m.length, e := (55 : Nat), sz := (6 : Nat) })] })))))))) (by kernel_rfl) (by
    have w2 : IntKind.i64.wrap ((i : Int) + 1) = ((i + 1 : Nat) : Int) := by rw [i64_wrap (by omega) (by omega)]; rfl
    have h0 : decide ((i : Int) < p.sub.length) = true := by simp; omega
    simp only [PT.holds, w2, h0, Int.toNat_natCast, pthsC_len, fltsC_len, true_implies, Bool.false_eq_true, Bool.true_eq_false, false_implies, true_and, and_true]
    refine ⟨by omega, by ((try simp only [Nat.add_assoc, Nat.reduceAdd, Nat.add_zero]) <;> first | (rw [ats_take _ _ _ _ hi (by decide)]; rfl) | (rw [pths_take _ _ _ _ hi (by decide)]; rfl) | (rw [flts_take _ _ _ _ hi (by decide)]; rfl) | (rw [ats_take0 _ _ _ hi (by decide)]; rfl) | (rw [pths_take0 _ _ _ hi (by decide)]; rfl) | (rw [flts_take0 _ _ _ hi (by decide)]; rfl)), hc, by omega, head_eq k ?_⟩
    simp [stWa, pthL, fltL, fltsC_app])
theorem wa_e (p : Flt) (out R : List Flt) (i : Nat) (hi : i = p.sub.length) (k : HT Tryd.prog Tryd.f44.ntmps (pt Tryd.f44 1) (stWb p out 0) (EndsA Γ (.pure [] (.sl none R.length (fltsC R) .no)) Tryd.f44)) : HT Tryd.prog Tryd.f44.ntmps (pt Tryd.f44 0) (stWa p out i) (EndsA Γ (.pure [] (.sl none R.length (fltsC R) .no)) Tryd.f44) :=
  HT.walk Γ_ok mo_ok (⟨[(12, .val (.bool false)), (20, .val (.agg (fltL flt0))), (21, .call [] (.sl none out.length (fltsC out) .no))], (sp44).filter (fun x => !Nat.beq x 12), hd44 [(3, 1, 55, 6)] [] [] [], [], .pure [] (.sl none R.length (fltsC R) .no)⟩ : Wk) 4000 (T := .ob (decide ((↑i : Int) < (↑p.sub.length : Int)) = false) (.head (pt Tryd.f44 1) ({ tmps := [(1, AV.ptr 1 0), (3, AV.sl none out.length (fltsC out) (.own (1 : Nat))), (5, AV.int .i64 (0 : Int))], heap := [(1, .var true (fltL p))], tags := [(1, { n := out.length, e := (55 : Nat), sz := (6 : Nat) })] }))) (by kernel_rfl) (by
    have h0 : decide ((i : Int) < p.sub.length) = false := by simp; omega
    simp only [PT.holds, h0, true_implies, Bool.false_eq_true, Bool.true_eq_false, false_implies, true_and, and_true]
    exact head_eq k (by simp [stWb, fltL]))
theorem wb_h (p : Flt) (out m R : List Flt) (i : Nat) (hi : i < p.way.length) (hs : p.way.length ≤ 1048600) (ho : out.length + m.length ≤ 1000000) (hc : Ctr Tryd.prog 18 [.agg (pthL (p.way.getD i pth0))] (.sl none m.length (fltsC m) .no)) (k : HT Tryd.prog Tryd.f44.ntmps (pt Tryd.f44 1) (stWb p (out ++ m) (i + 1)) (EndsA Γ (.pure [] (.sl none R.length (fltsC R) .no)) Tryd.f44)) : HT Tryd.prog Tryd.f44.ntmps (pt Tryd.f44 1) (stWb p out i) (EndsA Γ (.pure [] (.sl none R.length (fltsC R) .no)) Tryd.f44) :=
  HT.walk Γ_ok mo_ok (⟨[(27, .val (.bool true)), (35, .val (.agg (pthL (p.way.getD i pth0)))), (36, .call [] (.sl none m.length (fltsC m) .no))], (sp44).filter (fun x => !Nat.beq x 27), hd44 [(3, 1, 55, 6)] [] [] [], [], .pure [] (.sl none R.length (fltsC R) .no)⟩ : Wk) 4000 (T := .ob (decide ((↑i : Int) < (↑p.way.length : Int)) = true) (.ob ((0 : Int) ≤ (↑i : Int) ∧ (↑i : Int) < (↑p.way.length : Int) ∧ (↑i : Int).toNat * (3 : Nat) < (pthsC p.way).length) (.ob (List.take (3 : Nat) (List.drop ((↑i : Int).toNat * (3 : Nat)) (pthsC p.way)) = (pthL (p.way.getD i pth0))) (.ob (Ctr Tryd.prog 18 [AV.agg (pthL (p.way.getD i pth0))] (AV.sl none m.length (fltsC m) .no)) (.ob (out.length = out.length) (.ob ((fltsC out).length = out.length * ((5 : Nat) + (1 : Nat)) ∧ (fltsC m).length = m.length * ((5 : Nat) + (1 : Nat)) ∧ (out.length + m.length) * ((103 : Nat) + (1 : Nat)) ≤ (140737488355328 : Nat)) (.head (pt Tryd.f44 1) ({ tmps := [(1, AV.ptr 1 0), (3, AV.sl none (out.length + m.length) (fltsC out ++ fltsC m) (.own (1 : Nat))), (5, AV.int .i64 (IntKind.i64.wrap ((↑i : Int) + (1 : Int))))], heap := [(1, .var true (fltL p))], tags := [(1, { n := out.length + m.length, e := (55 : Nat), sz := (6 : Nat) })] })))))))) (by kernel_rfl) (by
    have w2 : IntKind.i64.wrap ((i : Int) + 1) = ((i + 1 : Nat) : Int) := by rw [i64_wrap (by omega) (by omega)]; rfl
    have h0 : decide ((i : Int) < p.way.length) = true := by simp; omega
    simp only [PT.holds, w2, h0, Int.toNat_natCast, pthsC_len, fltsC_len, true_implies, Bool.false_eq_true, Bool.true_eq_false, false_implies, true_and, and_true]
    refine ⟨by omega, by ((try simp only [Nat.add_assoc, Nat.reduceAdd, Nat.add_zero]) <;> first | (rw [ats_take _ _ _ _ hi (by decide)]; rfl) | (rw [pths_take _ _ _ _ hi (by decide)]; rfl) | (rw [flts_take _ _ _ _ hi (by decide)]; rfl) | (rw [ats_take0 _ _ _ hi (by decide)]; rfl) | (rw [pths_take0 _ _ _ hi (by decide)]; rfl) | (rw [flts_take0 _ _ _ hi (by decide)]; rfl)), hc, by omega, head_eq k ?_⟩
    simp [stWb, pthL, fltL, fltsC_app])
theorem wb_e (p : Flt) (out : List Flt) (i : Nat) (hi : i = p.way.length) : HT Tryd.prog Tryd.f44.ntmps (pt Tryd.f44 1) (stWb p out i) (EndsA Γ (.pure [] (.sl none out.length (fltsC out) .no)) Tryd.f44) :=
  HT.walk Γ_ok mo_ok (⟨[(27, .val (.bool false)), (35, .val (.agg (pthL pth0))), (36, .call [] (.sl none out.length (fltsC out) .no))], (sp44).filter (fun x => !Nat.beq x 27), hd44 [(3, 1, 55, 6)] [] [] [], [], .pure [] (.sl none out.length (fltsC out) .no)⟩ : Wk) 4000 (T := .ob (decide ((↑i : Int) < (↑p.way.length : Int)) = false) (.ob (out.length = out.length) (.ob (fltsC out = fltsC out) (.tt)))) (by kernel_rfl) (by
    have h0 : decide ((i : Int) < p.way.length) = false := by simp; omega
    simp only [PT.holds, h0, true_implies, Bool.false_eq_true, Bool.true_eq_false, false_implies, true_and, and_true])
theorem flts_p (p : Pth) (R : List Flt) (k : HT Tryd.prog Tryd.f18.ntmps (pt Tryd.f18 0) (stFa p [] 0) (EndsA Γ (.pure [] (.sl none R.length (fltsC R) .no)) Tryd.f18)) : Ctr Tryd.prog 18 [.agg (pthL p)] (.sl none R.length (fltsC R) .no) :=
  Ctr.mk Γ_ok Tryd.func18 (by kernel_rfl) Tryd.call18 [] (by kernel_rfl) (HT.walk Γ_ok mo_ok (⟨[], sp18, hd18 [(3, 1, 55, 6)] [] [] [], [], .pure [] (.sl none R.length (fltsC R) .no)⟩ : Wk) 4000 (T := .head (pt Tryd.f18 0) ({ tmps := [(1, AV.ptr 1 0), (3, AV.sl none (0 : Nat) [] (.own (1 : Nat))), (4, AV.int .i64 (0 : Int))], heap := [(1, .var true (pthL p))], tags := [(1, { n := (0 : Nat), e := (55 : Nat), sz := (6 : Nat) })] })) (by kernel_rfl) (by
    simp only [PT.holds]
    exact head_eq k (by simp [stFa, pthL, fltsC])))
theorem with_p (p : Flt) (R : List Flt) (k : HT Tryd.prog Tryd.f44.ntmps (pt Tryd.f44 0) (stWa p [p] 0) (EndsA Γ (.pure [] (.sl none R.length (fltsC R) .no)) Tryd.f44)) : Ctr Tryd.prog 44 [.agg (fltL p)] (.sl none R.length (fltsC R) .no) :=
  Ctr.mk Γ_ok Tryd.func44 (by kernel_rfl) Tryd.call44 [] (by kernel_rfl) (HT.walk Γ_ok mo_ok (⟨[], sp44, hd44 [(3, 1, 55, 6)] [] [] [], [], .pure [] (.sl none R.length (fltsC R) .no)⟩ : Wk) 4000 (T := .ob ((6 : Nat) ≤ (6 : Nat)) (.head (pt Tryd.f44 0) ({ tmps := [(1, AV.ptr 1 0), (3, AV.sl none (1 : Nat) (fltL p) (.own (1 : Nat))), (4, AV.int .i64 (0 : Int))], heap := [(1, .var true (fltL p))], tags := [(1, { n := (1 : Nat), e := (55 : Nat), sz := (6 : Nat) })] }))) (by kernel_rfl) (by
    simp only [PT.holds]
    exact ⟨by omega, head_eq k (by simp [stWa, fltL, fltsC, fltC_L])⟩))
mutual
def filtersP : Pth → List Flt
  | .mk _ sub test => filtersPs sub ++ withinFs test
def filtersPs : List Pth → List Flt
  | [] => []
  | p :: r => filtersP p ++ filtersPs r
def withinF : Flt → List Flt
  | .mk op n v sub way => .mk op n v sub way :: (withinFs sub ++ filtersPs way)
def withinFs : List Flt → List Flt
  | [] => []
  | p :: r => withinF p ++ withinFs r
end
theorem filtersP_eq (p : Pth) : filtersP p = filtersPs p.sub ++ withinFs p.test := by cases p; simp only [filtersP, Pth.sub, Pth.test]
theorem withinF_eq (p : Flt) : withinF p = p :: (withinFs p.sub ++ filtersPs p.way) := by cases p; simp only [withinF, Flt.sub, Flt.way]
theorem fa_l (p : Pth) (hs : p.sub.length ≤ 1048600) (T : List Flt) (R : List Flt) (hc : ∀ q ∈ p.sub, (filtersP q).length ≤ 1000000 → Ctr Tryd.prog 18 [.agg (pthL q)] (.sl none (filtersP q).length (fltsC (filtersP q)) .no)) (k : HT Tryd.prog Tryd.f18.ntmps (pt Tryd.f18 1) (stFb p T 0) (EndsA Γ (.pure [] (.sl none R.length (fltsC R) .no)) Tryd.f18)) (hT : T.length ≤ 1000000) : ∀ d i out, i + d = p.sub.length → T = out ++ filtersPs (p.sub.drop i) → HT Tryd.prog Tryd.f18.ntmps (pt Tryd.f18 0) (stFa p out i) (EndsA Γ (.pure [] (.sl none R.length (fltsC R) .no)) Tryd.f18) := by
  intro d
  induction d with
  | zero =>
    intro i out h e
    rw [List.drop_of_length_le (by omega)] at e
    simp only [filtersPs, List.append_nil] at e
    subst e
    exact fa_e p T R i (by omega) k
  | succ d ih =>
    intro i out h e
    have hlt : i < p.sub.length := by omega
    rw [drop_cons _ _ pth0 hlt] at e
    simp only [filtersPs] at e
    have hl : T.length = out.length + ((filtersP (p.sub.getD i pth0)).length + (filtersPs (p.sub.drop (i + 1))).length) := by rw [e]; simp
    exact fa_h p out _ R i hlt hs (by omega) (hc _ (getD_mem _ _ _ hlt) (by omega)) (ih (i + 1) _ (by omega) (by rw [e, List.append_assoc]))
theorem fb_l (p : Pth) (hs : p.test.length ≤ 1048600) (T : List Flt) (hc : ∀ q ∈ p.test, (withinF q).length ≤ 1000000 → Ctr Tryd.prog 44 [.agg (fltL q)] (.sl none (withinF q).length (fltsC (withinF q)) .no)) (hT : T.length ≤ 1000000) : ∀ d i out, i + d = p.test.length → T = out ++ withinFs (p.test.drop i) → HT Tryd.prog Tryd.f18.ntmps (pt Tryd.f18 1) (stFb p out i) (EndsA Γ (.pure [] (.sl none T.length (fltsC T) .no)) Tryd.f18) := by
  intro d
  induction d with
  | zero =>
    intro i out h e
    rw [List.drop_of_length_le (by omega)] at e
    simp only [withinFs, List.append_nil] at e
    subst e
    exact fb_e p T i (by omega)
  | succ d ih =>
    intro i out h e
    have hlt : i < p.test.length := by omega
    rw [drop_cons _ _ flt0 hlt] at e
    simp only [withinFs] at e
    have hl : T.length = out.length + ((withinF (p.test.getD i flt0)).length + (withinFs (p.test.drop (i + 1))).length) := by rw [e]; simp
    exact fb_h p out _ T i hlt hs (by omega) (hc _ (getD_mem _ _ _ hlt) (by omega)) (ih (i + 1) _ (by omega) (by rw [e, List.append_assoc]))
theorem wa_l (p : Flt) (hs : p.sub.length ≤ 1048600) (T : List Flt) (R : List Flt) (hc : ∀ q ∈ p.sub, (withinF q).length ≤ 1000000 → Ctr Tryd.prog 44 [.agg (fltL q)] (.sl none (withinF q).length (fltsC (withinF q)) .no)) (k : HT Tryd.prog Tryd.f44.ntmps (pt Tryd.f44 1) (stWb p T 0) (EndsA Γ (.pure [] (.sl none R.length (fltsC R) .no)) Tryd.f44)) (hT : T.length ≤ 1000000) : ∀ d i out, i + d = p.sub.length → T = out ++ withinFs (p.sub.drop i) → HT Tryd.prog Tryd.f44.ntmps (pt Tryd.f44 0) (stWa p out i) (EndsA Γ (.pure [] (.sl none R.length (fltsC R) .no)) Tryd.f44) := by
  intro d
  induction d with
  | zero =>
    intro i out h e
    rw [List.drop_of_length_le (by omega)] at e
    simp only [withinFs, List.append_nil] at e
    subst e
    exact wa_e p T R i (by omega) k
  | succ d ih =>
    intro i out h e
    have hlt : i < p.sub.length := by omega
    rw [drop_cons _ _ flt0 hlt] at e
    simp only [withinFs] at e
    have hl : T.length = out.length + ((withinF (p.sub.getD i flt0)).length + (withinFs (p.sub.drop (i + 1))).length) := by rw [e]; simp
    exact wa_h p out _ R i hlt hs (by omega) (hc _ (getD_mem _ _ _ hlt) (by omega)) (ih (i + 1) _ (by omega) (by rw [e, List.append_assoc]))
theorem wb_l (p : Flt) (hs : p.way.length ≤ 1048600) (T : List Flt) (hc : ∀ q ∈ p.way, (filtersP q).length ≤ 1000000 → Ctr Tryd.prog 18 [.agg (pthL q)] (.sl none (filtersP q).length (fltsC (filtersP q)) .no)) (hT : T.length ≤ 1000000) : ∀ d i out, i + d = p.way.length → T = out ++ filtersPs (p.way.drop i) → HT Tryd.prog Tryd.f44.ntmps (pt Tryd.f44 1) (stWb p out i) (EndsA Γ (.pure [] (.sl none T.length (fltsC T) .no)) Tryd.f44) := by
  intro d
  induction d with
  | zero =>
    intro i out h e
    rw [List.drop_of_length_le (by omega)] at e
    simp only [filtersPs, List.append_nil] at e
    subst e
    exact wb_e p T i (by omega)
  | succ d ih =>
    intro i out h e
    have hlt : i < p.way.length := by omega
    rw [drop_cons _ _ pth0 hlt] at e
    simp only [filtersPs] at e
    have hl : T.length = out.length + ((filtersP (p.way.getD i pth0)).length + (filtersPs (p.way.drop (i + 1))).length) := by rw [e]; simp
    exact wb_h p out _ T i hlt hs (by omega) (hc _ (getD_mem _ _ _ hlt) (by omega)) (ih (i + 1) _ (by omega) (by rw [e, List.append_assoc]))
mutual
theorem filters_ctr (p : Pth) (hok : p.ok) (hl : (filtersP p).length ≤ 1000000) : Ctr Tryd.prog 18 [.agg (pthL p)] (.sl none (filtersP p).length (fltsC (filtersP p)) .no) := by
  have ho := Pth.ok_i hok
  have e := filtersP_eq p
  have hlen : (filtersPs p.sub).length ≤ 1000000 := by rw [e] at hl; simp at hl; omega
  have k := fb_l p ho.2.1 (filtersP p) (fun q hq hq2 => have := test_lt p q hq; within_ctr q (ho.2.2.2 q hq) hq2) hl p.test.length 0 (filtersPs p.sub) (Nat.zero_add _) (by rw [List.drop_zero, e])
  exact flts_p p _ (fa_l p ho.1 (filtersPs p.sub) _ (fun q hq hq2 => have := sub_lt p q hq; filters_ctr q (ho.2.2.1 q hq) hq2) k hlen p.sub.length 0 [] (Nat.zero_add _) (by rw [List.drop_zero, List.nil_append]))
termination_by SizeOf.sizeOf p
theorem within_ctr (p : Flt) (hok : p.ok) (hl : (withinF p).length ≤ 1000000) : Ctr Tryd.prog 44 [.agg (fltL p)] (.sl none (withinF p).length (fltsC (withinF p)) .no) := by
  have ho := Flt.ok_i hok
  have e := withinF_eq p
  have hlen : (p :: withinFs p.sub).length ≤ 1000000 := by rw [e] at hl; simp at hl ⊢; omega
  have k := wb_l p ho.2.2.2.1 (withinF p) (fun q hq hq2 => have := way_lt p q hq; filters_ctr q (ho.2.2.2.2.2 q hq) hq2) hl p.way.length 0 (p :: withinFs p.sub) (Nat.zero_add _) (by rw [List.drop_zero, e]; rfl)
  exact with_p p _ (wa_l p ho.2.2.1 (p :: withinFs p.sub) _ (fun q hq hq2 => have := fsub_lt p q hq; within_ctr q (ho.2.2.2.2.1 q hq) hq2) k hlen p.sub.length 0 [p] (Nat.zero_add _) (by rw [List.drop_zero]; rfl))
termination_by SizeOf.sizeOf p
end

end Go.Proofs.YteimloiaipiadaaDoor
end

section
set_option linter.unusedVariables false
set_option linter.unusedSimpArgs false
set_option maxRecDepth 100000
namespace Go.Proofs.YteimloiaipiadaaDoor
open Go Go.AX

def digN (n : Nat) : ByteArray := if n < 10 then ⟨#[UInt8.ofNat (48 + n)]⟩ else digN (n / 10) ++ digN (n % 10)
termination_by n
decreasing_by all_goals omega
theorem digN_size (n : Nat) : (digN n).size ≤ n + 1 := by
  induction n using Nat.strongRecOn with
  | ind n ih =>
    rw [digN]
    split
    · simp [ByteArray.size]
    · rw [ByteArray.size_append]
      have h1 := ih (n / 10) (by omega)
      have h2 := ih (n % 10) (by omega)
      omega

end Go.Proofs.YteimloiaipiadaaDoor
end

section
set_option linter.unusedVariables false
set_option linter.unusedSimpArgs false
set_option maxRecDepth 100000
namespace Go.Proofs.YteimloiaipiadaaDoor
open Go Go.AX

/-! Digits tell numbers apart. -/
def valB (b : List UInt8) : Nat := b.foldl (fun a x => 10 * a + (x.toNat - 48)) 0
theorem valB_app (a : List UInt8) (x : UInt8) : valB (a ++ [x]) = 10 * valB a + (x.toNat - 48) := by simp [valB]
theorem digN_snoc (n : Nat) (h : ¬ n < 10) : (digN n).data.toList = (digN (n / 10)).data.toList ++ [UInt8.ofNat (48 + n % 10)] := by
  rw [digN, if_neg h]
  have e : digN (n % 10) = ⟨#[UInt8.ofNat (48 + n % 10)]⟩ := by rw [digN, if_pos (by omega)]
  rw [e, ByteArray.data_append, Array.toList_append]
theorem digN_val (n : Nat) : valB (digN n).data.toList = n := by
  induction n using Nat.strongRecOn with
  | ind n ih =>
    have hx : ∀ k, k < 10 → (UInt8.ofNat (48 + k)).toNat - 48 = k := fun k hk => by
      rw [UInt8.toNat_ofNat']
      omega
    by_cases h : n < 10
    · rw [digN, if_pos h]
      simp only [valB, List.foldl_cons, List.foldl_nil]
      have := hx n h
      omega
    · rw [digN_snoc n h, valB_app, ih (n / 10) (by omega), hx (n % 10) (by omega)]
      omega
theorem nodupB_le : ∀ (a l : List ByteArray), a.Nodup → (∀ v ∈ a, v ∈ l) → a.length ≤ l.length := by
  intro a
  induction a with
  | nil => intro l _ _; exact Nat.zero_le _
  | cons x r ih =>
    intro l hn h
    obtain ⟨hx, hr⟩ := List.nodup_cons.1 hn
    obtain ⟨s, t, rfl⟩ := List.append_of_mem (h x List.mem_cons_self)
    have := ih (s ++ t) hr fun v hv => by
      have h1 := h v (List.mem_cons_of_mem _ hv)
      rw [List.mem_append, List.mem_cons] at h1
      rw [List.mem_append]
      rcases h1 with h1 | h1 | h1
      · exact .inl h1
      · exact absurd (h1 ▸ hv) hx
      · exact .inr h1
    simp at this ⊢
    omega
/-- One of so many numbers is not there. -/
theorem dig_free (pre : ByteArray) (l : List ByteArray) : ∃ k, k ≤ l.length ∧ pre ++ digN k ∉ l := by
  rcases Classical.em (∃ k, k ≤ l.length ∧ pre ++ digN k ∉ l) with h | h
  · exact h
  · exfalso
    have hall : ∀ k, k ≤ l.length → pre ++ digN k ∈ l := fun k hk => Classical.byContradiction fun hc => h ⟨k, hk, hc⟩
    have := nodupB_le ((List.range (l.length + 1)).map fun k => pre ++ digN k) l (by
      rw [List.Nodup, List.pairwise_map]
      refine (List.nodup_range).imp fun {a b} hab e => hab ?_
      have e2 : (pre ++ digN a).data.toList = (pre ++ digN b).data.toList := by rw [e]
      rw [ByteArray.data_append, ByteArray.data_append, Array.toList_append, Array.toList_append] at e2
      have e3 := List.append_cancel_left e2
      rw [← digN_val a, e3, digN_val b]) (fun v hv => by
      obtain ⟨k, hk, rfl⟩ := List.mem_map.1 hv
      exact hall k (by have := List.mem_range.1 hk; omega))
    simp at this
    omega

/-- The first number that is not there. -/
structure First (pre : ByteArray) (l : List ByteArray) (k : Nat) : Prop where
  le : k ≤ l.length
  out : pre ++ digN k ∉ l
  low : ∀ j, j < k → pre ++ digN j ∈ l
theorem first_ex (pre : ByteArray) (l : List ByteArray) : ∃ k, First pre l k := by
  obtain ⟨k, hk, ho⟩ := dig_free pre l
  induction k using Nat.strongRecOn with
  | ind k ih =>
    by_cases h : ∃ j, j < k ∧ pre ++ digN j ∉ l
    · obtain ⟨j, hj, hjo⟩ := h
      exact ih j hj (by omega) hjo
    · exact ⟨k, hk, ho, fun j hj => Classical.byContradiction fun hc => h ⟨j, hj, hc⟩⟩
end Go.Proofs.YteimloiaipiadaaDoor
end

section
set_option linter.unusedVariables false
set_option linter.unusedSimpArgs false
set_option maxRecDepth 100000
namespace Go.Proofs.YteimloiaipiadaaDoor
open Go Go.AX

def valsC (l : List (List ByteArray)) : List AV := l.map fun v => .sl none v.length (strsC v) .no
theorem valsC_len (l : List (List ByteArray)) : (valsC l).length = l.length := by simp [valsC]
theorem valsC_app (l : List (List ByteArray)) (v : List ByteArray) : valsC (l ++ [v]) = valsC l ++ [.sl none v.length (strsC v) .no] := by simp [valsC]
def valsF (l : List Flt) (A : List Nm) : List (List ByteArray) := A.map fun n => valuesF 6 n l
def spkC (N A : List Nm) (V : List (List ByteArray)) (T : List ByteArray) : List AV := [.sl none N.length (nmsC N) .no, .sl none A.length (nmsC A) .no, .sl none V.length (valsC V) .no, .sl none T.length (strsC T) .no]
end Go.Proofs.YteimloiaipiadaaDoor
end

section
set_option linter.unusedVariables false
set_option linter.unusedSimpArgs false
set_option maxRecDepth 100000
namespace Go.Proofs.YteimloiaipiadaaDoor
open Go Go.AX

def bZ : ByteArray := ByteArray.mk #[122]
def nmZ (n : Nat) : Nm := if n = 0 then ⟨⟨#[]⟩, bZ⟩ else ⟨⟨#[]⟩, bZ ++ digN n⟩
theorem nmZ_inj {a b : Nat} (h : nmZ a = nmZ b) : a = b := by
  have hz : ∀ n, 0 < (digN n).size := fun n => by
    induction n using Nat.strongRecOn with
    | ind n ih =>
      rw [digN]
      split
      · simp [ByteArray.size]
      · rename_i hh
        rw [ByteArray.size_append]
        have := ih (n / 10) (by omega)
        omega
  have hs : ∀ n, (nmZ n).lo.size = if n = 0 then 1 else 1 + (digN n).size := fun n => by
    unfold nmZ
    split
    · rfl
    · rw [ByteArray.size_append]; rfl
  have e1 := congrArg (fun x : Nm => x.lo.size) h
  simp only [hs] at e1
  by_cases ha : a = 0 <;> by_cases hb : b = 0
  · omega
  · rw [if_pos ha, if_neg hb] at e1; have := hz b; omega
  · rw [if_neg ha, if_pos hb] at e1; have := hz a; omega
  · have e2 := congrArg (fun x : Nm => x.lo.data.toList) h
    simp only [nmZ, if_neg ha, if_neg hb, ByteArray.data_append, Array.toList_append] at e2
    have e3 := List.append_cancel_left e2
    rw [← digN_val a, e3, digN_val b]
theorem nmZ_sp (n : Nat) : (nmZ n).sp = ⟨#[]⟩ := by
  unfold nmZ
  split <;> rfl
/-- The first such name that is not there. -/
structure FirstZ (l : List Nm) (k : Nat) : Prop where
  le : k ≤ l.length
  out : nmZ k ∉ l
  low : ∀ j, j < k → nmZ j ∈ l
theorem firstZ_ex (l : List Nm) : ∃ k, FirstZ l k := by
  have hex : ∃ k, k ≤ l.length ∧ nmZ k ∉ l := by
    rcases Classical.em (∃ k, k ≤ l.length ∧ nmZ k ∉ l) with h | h
    · exact h
    · exfalso
      have hall : ∀ k, k ≤ l.length → nmZ k ∈ l := fun k hk => Classical.byContradiction fun hc => h ⟨k, hk, hc⟩
      have := nodupB_le ((List.range (l.length + 1)).map fun k => (nmZ k).lo) (l.map (·.lo)) (by
        rw [List.Nodup, List.pairwise_map]
        refine (List.nodup_range).imp fun {a b} hab e => hab (nmZ_inj ?_)
        have h1 := nmZ_sp a
        have h2 := nmZ_sp b
        generalize nmZ a = x at e h1
        generalize nmZ b = y at e h2
        cases x; cases y
        simp only at e h1 h2
        subst e; subst h1; subst h2
        rfl) (fun v hv => by
        obtain ⟨k, hk, rfl⟩ := List.mem_map.1 hv
        exact List.mem_map.2 ⟨nmZ k, hall k (by have := List.mem_range.1 hk; omega), rfl⟩)
      simp at this
      omega
  obtain ⟨k, hk, ho⟩ := hex
  induction k using Nat.strongRecOn with
  | ind k ih =>
    by_cases h : ∃ j, j < k ∧ nmZ j ∉ l
    · obtain ⟨j, hj, hjo⟩ := h
      exact ih j hj (by omega) hjo
    · exact ⟨k, hk, ho, fun j hj => Classical.byContradiction fun hc => h ⟨j, hj, hc⟩⟩
end Go.Proofs.YteimloiaipiadaaDoor
end

section
set_option linter.unusedVariables false
set_option linter.unusedSimpArgs false
set_option maxRecDepth 100000
namespace Go.Proofs.YteimloiaipiadaaDoor
open Go Go.AX

def stIn (l : List Nm) (n : Nm) (i : Nat) : AS := ⟨[(0, .sl none l.length (nmsC l) .no), (3, .ptr 3 0), (7, .int .i64 l.length), (8, .int .i64 i)], [(3, .var true (nmC n))], []⟩
def stIs (l : List ByteArray) (s : ByteArray) (i : Nat) : AS := ⟨[(0, .sl none l.length (strsC l) .no), (1, .str s), (7, .int .i64 l.length), (8, .int .i64 i)], [], []⟩
def ixG {α : Type} [DecidableEq α] (n : α) : List α → Nat → Int
  | [], _ => -1
  | a :: r, i => if a = n then (i : Int) else ixG n r (i + 1)
theorem ixG_spec {α : Type} [DecidableEq α] (n d : α) : ∀ (l : List α) (i : Nat), (n ∉ l ∧ ixG n l i = -1) ∨ ∃ j, j < l.length ∧ l.getD j d = n ∧ ixG n l i = ((i + j : Nat) : Int)
  | [], i => .inl ⟨by simp, rfl⟩
  | a :: r, i => by
    simp only [ixG]
    by_cases h : a = n
    · exact .inr ⟨0, by simp, by simpa using h, by simp [h]⟩
    · rw [if_neg h]
      rcases ixG_spec n d r (i + 1) with ⟨h1, h2⟩ | ⟨j, h1, h2, h3⟩
      · exact .inl ⟨fun hm => (List.mem_cons.1 hm).elim (fun e => h e.symm) h1, h2⟩
      · exact .inr ⟨j + 1, by simpa using h1, by simpa using h2, by rw [h3]; congr 1; omega⟩
theorem ixG_ge {α : Type} [DecidableEq α] (n d : α) (l : List α) : decide (0 ≤ ixG n l 0) = true ↔ n ∈ l := by
  rw [decide_eq_true_eq]
  rcases ixG_spec n d l 0 with ⟨h1, h2⟩ | ⟨j, h1, h2, h3⟩
  · rw [h2]
    exact ⟨fun h => by omega, fun h => absurd h h1⟩
  · rw [h3]
    refine ⟨fun _ => ?_, fun _ => by omega⟩
    rw [← h2, List.getD_eq_getElem?_getD, List.getElem?_eq_getElem h1]
    exact List.getElem_mem _

theorem in_h (l : List Nm) (n : Nm) (i : Nat) (R : Int) (hi : i < l.length) (hl : l.length ≤ 1000000) (k : l.getD i nm0 ≠ n → HT Tryd.prog Tryd.f83.ntmps (pt Tryd.f83 0) (stIn l n (i + 1)) (EndsA Γ (.pure [] (.int .i64 R)) Tryd.f83)) (hr : l.getD i nm0 = n → R = i) : HT Tryd.prog Tryd.f83.ntmps (pt Tryd.f83 0) (stIn l n i) (EndsA Γ (.pure [] (.int .i64 R)) Tryd.f83) :=
  HT.walk Γ_ok mo_ok (⟨[(9, .val (.bool true)), (15, .val (.agg (nmC (l.getD i nm0))))], (sp83).filter (fun x => !Nat.beq x 9), hd83 [] [] [] [], dsp83, .pure [] (.int .i64 R)⟩ : Wk) 4000 (T := .ob (decide ((↑i : Int) < (↑l.length : Int)) = true) (.or (.ob ((2 : Nat) ≤ (2 : Nat)) (.ob ((0 : Int) ≤ (↑i : Int) ∧ (↑i : Int) < (↑l.length : Int) ∧ (↑i : Int).toNat * (2 : Nat) < (nmsC l).length) (.ob (List.take (2 : Nat) (List.drop ((↑i : Int).toNat * (2 : Nat)) (nmsC l)) = [AV.str (l.getD i nm0).sp, AV.str (l.getD i nm0).lo]) (.ob ((decide (n.sp = (l.getD i nm0).sp) && (decide (n.lo = (l.getD i nm0).lo) && true)) = true) (.ob ((↑i : Int) = R) (.tt)))))) (.ob ((2 : Nat) ≤ (2 : Nat)) (.ob ((0 : Int) ≤ (↑i : Int) ∧ (↑i : Int) < (↑l.length : Int) ∧ (↑i : Int).toNat * (2 : Nat) < (nmsC l).length) (.ob (List.take (2 : Nat) (List.drop ((↑i : Int).toNat * (2 : Nat)) (nmsC l)) = [AV.str (l.getD i nm0).sp, AV.str (l.getD i nm0).lo]) (.ob ((decide (n.sp = (l.getD i nm0).sp) && (decide (n.lo = (l.getD i nm0).lo) && true)) = false) (.head (pt Tryd.f83 0) ({ tmps := [(0, AV.sl none l.length (nmsC l) .no), (3, AV.ptr 3 0), (7, AV.int .i64 (↑l.length : Int)), (8, AV.int .i64 (IntKind.i64.wrap ((↑i : Int) + (1 : Int))))], heap := [(3, .var true [AV.str n.sp, AV.str n.lo])], tags := [] })))))))) (by kernel_rfl) (by
    have w2 : IntKind.i64.wrap ((i : Int) + 1) = ((i + 1 : Nat) : Int) := by rw [i64_wrap (by omega) (by omega)]; rfl
    have h0 : decide ((i : Int) < l.length) = true := by simp; omega
    simp only [PT.holds, w2, h0, nm_eq, Int.toNat_natCast, nmsC_len, true_implies, Bool.false_eq_true, Bool.true_eq_false, false_implies, true_and, and_true]
    by_cases h : l.getD i nm0 = n
    · exact .inl ⟨by omega, by omega, by rw [nms_take0 _ _ _ hi (by decide)]; rfl, decide_eq_true h.symm, (hr h).symm⟩
    · exact .inr ⟨by omega, by omega, by rw [nms_take0 _ _ _ hi (by decide)]; rfl, decide_eq_false (fun e => h e.symm), head_eq (k h) (by simp [stIn, nmC])⟩)
theorem is_h (l : List ByteArray) (n : ByteArray) (i : Nat) (R : Int) (hi : i < l.length) (hl : l.length ≤ 1000000) (k : l.getD i ⟨#[]⟩ ≠ n → HT Tryd.prog Tryd.f68.ntmps (pt Tryd.f68 0) (stIs l n (i + 1)) (EndsA Γ (.pure [] (.int .i64 R)) Tryd.f68)) (hr : l.getD i ⟨#[]⟩ = n → R = i) : HT Tryd.prog Tryd.f68.ntmps (pt Tryd.f68 0) (stIs l n i) (EndsA Γ (.pure [] (.int .i64 R)) Tryd.f68) :=
  HT.walk Γ_ok mo_ok (⟨[(9, .val (.bool true)), (15, .val (.str (l.getD i ⟨#[]⟩)))], (sp68).filter (fun x => !Nat.beq x 9), hd68 [] [] [] [], [], .pure [] (.int .i64 R)⟩ : Wk) 4000 (T := .ob (decide ((↑i : Int) < (↑l.length : Int)) = true) (.ob ((0 : Int) ≤ (↑i : Int) ∧ (↑i : Int) < (↑l.length : Int) ∧ (↑i : Int).toNat * (1 : Nat) < (strsC l).length) (.ob ((strsC l)[(↑i : Int).toNat * (1 : Nat)]? = some (AV.str (l.getD i (ByteArray.mk #[])))) (.split (decide (n = l.getD i (ByteArray.mk #[]))) (.ob ((↑i : Int) = R) (.tt)) (.head (pt Tryd.f68 0) ({ tmps := [(0, AV.sl none l.length (strsC l) .no), (1, AV.str n), (7, AV.int .i64 (↑l.length : Int)), (8, AV.int .i64 (IntKind.i64.wrap ((↑i : Int) + (1 : Int))))], heap := [], tags := [] })))))) (by kernel_rfl) (by
    have w2 : IntKind.i64.wrap ((i : Int) + 1) = ((i + 1 : Nat) : Int) := by rw [i64_wrap (by omega) (by omega)]; rfl
    have h0 : decide ((i : Int) < l.length) = true := by simp; omega
    simp only [PT.holds, w2, h0, Int.toNat_natCast, Nat.mul_one, strsC_len, strs_nth l i hi, decide_eq_true_eq, decide_eq_false_iff_not, true_implies, Bool.false_eq_true, Bool.true_eq_false, false_implies, true_and, and_true]
    exact ⟨by omega, fun h => (hr h.symm).symm, fun h => head_eq (k (fun e => h e.symm)) (by simp [stIs])⟩)
theorem in_e (l : List Nm) (n : Nm) (i : Nat) (hi : i = l.length) : HT Tryd.prog Tryd.f83.ntmps (pt Tryd.f83 0) (stIn l n i) (EndsA Γ (.pure [] (.int .i64 (-1))) Tryd.f83) :=
  HT.walk Γ_ok mo_ok (⟨[(9, .val (.bool false)), (15, .val (.agg (nmC (l.getD i nm0))))], (sp83).filter (fun x => !Nat.beq x 9), hd83 [] [] [] [], dsp83, .pure [] (.int .i64 (-1))⟩ : Wk) 4000 (T := .ob (decide ((↑i : Int) < (↑l.length : Int)) = false) (.ob ((-1 : Int) = (-1 : Int)) (.tt))) (by kernel_rfl) (by
    have h0 : decide ((i : Int) < l.length) = false := by simp; omega
    simp only [PT.holds, h0, true_implies, Bool.false_eq_true, Bool.true_eq_false, false_implies, true_and, and_true]
    try trivial)
theorem is_e (l : List ByteArray) (n : ByteArray) (i : Nat) (hi : i = l.length) : HT Tryd.prog Tryd.f68.ntmps (pt Tryd.f68 0) (stIs l n i) (EndsA Γ (.pure [] (.int .i64 (-1))) Tryd.f68) :=
  HT.walk Γ_ok mo_ok (⟨[(9, .val (.bool false)), (15, .val (.str (l.getD i ⟨#[]⟩)))], (sp68).filter (fun x => !Nat.beq x 9), hd68 [] [] [] [], [], .pure [] (.int .i64 (-1))⟩ : Wk) 4000 (T := .ob (decide ((↑i : Int) < (↑l.length : Int)) = false) (.ob ((-1 : Int) = (-1 : Int)) (.tt))) (by kernel_rfl) (by
    have h0 : decide ((i : Int) < l.length) = false := by simp; omega
    simp only [PT.holds, h0, true_implies, Bool.false_eq_true, Bool.true_eq_false, false_implies, true_and, and_true]
    try trivial)
theorem in_l (l : List Nm) (n : Nm) (hl : l.length ≤ 1000000) : ∀ d i, i + d = l.length → HT Tryd.prog Tryd.f83.ntmps (pt Tryd.f83 0) (stIn l n i) (EndsA Γ (.pure [] (.int .i64 (ixG n (l.drop i) i))) Tryd.f83) := by
  intro d
  induction d with
  | zero =>
    intro i h
    rw [List.drop_of_length_le (by omega)]
    exact in_e l n i (by omega)
  | succ d ih =>
    intro i h
    rw [drop_cons l i nm0 (by omega)]
    simp only [ixG]
    refine in_h l n i _ (by omega) hl (fun hne => ?_) (fun he => by rw [if_pos he])
    rw [if_neg hne]
    exact ih (i + 1) (by omega)
theorem is_l (l : List ByteArray) (n : ByteArray) (hl : l.length ≤ 1000000) : ∀ d i, i + d = l.length → HT Tryd.prog Tryd.f68.ntmps (pt Tryd.f68 0) (stIs l n i) (EndsA Γ (.pure [] (.int .i64 (ixG n (l.drop i) i))) Tryd.f68) := by
  intro d
  induction d with
  | zero =>
    intro i h
    rw [List.drop_of_length_le (by omega)]
    exact is_e l n i (by omega)
  | succ d ih =>
    intro i h
    rw [drop_cons l i ⟨#[]⟩ (by omega)]
    simp only [ixG]
    refine is_h l n i _ (by omega) hl (fun hne => ?_) (fun he => by rw [if_pos he])
    rw [if_neg hne]
    exact ih (i + 1) (by omega)

theorem ixN_ctr (l : List Nm) (n : Nm) (hl : l.length ≤ 1000000) : Ctr Tryd.prog 83 [.sl none l.length (nmsC l) .no, .agg (nmC n)] (.int .i64 (ixG n l 0)) :=
  Ctr.mk Γ_ok Tryd.func83 (by kernel_rfl) Tryd.call83 [] (by kernel_rfl) (HT.walk Γ_ok mo_ok (⟨[], sp83, hd83 [] [] [] [], dsp83, .pure [] (.int .i64 (ixG n l 0))⟩ : Wk) 4000 (T := .head (pt Tryd.f83 0) ({ tmps := [(0, AV.sl none l.length (nmsC l) .no), (3, AV.ptr 3 0), (7, AV.int .i64 (↑l.length : Int)), (8, AV.int .i64 (0 : Int))], heap := [(3, .var true [AV.str n.sp, AV.str n.lo])], tags := [] })) (by kernel_rfl) (by
    simp only [PT.holds]
    exact head_eq (in_l l n hl l.length 0 (Nat.zero_add _)) (by simp [stIn, nmC])))
theorem ixB_ctr (l : List ByteArray) (n : ByteArray) (hl : l.length ≤ 1000000) : Ctr Tryd.prog 68 [.sl none l.length (strsC l) .no, .str n] (.int .i64 (ixG n l 0)) :=
  Ctr.mk Γ_ok Tryd.func68 (by kernel_rfl) Tryd.call68 [] (by kernel_rfl) (HT.walk Γ_ok mo_ok (⟨[], sp68, hd68 [] [] [] [], [], .pure [] (.int .i64 (ixG n l 0))⟩ : Wk) 4000 (T := .head (pt Tryd.f68 0) ({ tmps := [(0, AV.sl none l.length (strsC l) .no), (1, AV.str n), (7, AV.int .i64 (↑l.length : Int)), (8, AV.int .i64 (0 : Int))], heap := [], tags := [] })) (by kernel_rfl) (by
    simp only [PT.holds]
    exact head_eq (is_l l n hl l.length 0 (Nat.zero_add _)) (by simp [stIs])))
theorem ctN_ctr (l : List Nm) (n : Nm) (hl : l.length ≤ 1000000) : Ctr Tryd.prog 71 [.sl none l.length (nmsC l) .no, .agg (nmC n)] (.bool (decide (0 ≤ ixG n l 0))) :=
  Ctr.mk Γ_ok Tryd.func71 (by kernel_rfl) Tryd.call71 [] (by kernel_rfl) (HT.walk Γ_ok mo_ok (⟨[(7, .call [] (.int .i64 (ixG n l 0)))], sp71, [], [], .pure [] (.bool (decide (0 ≤ ixG n l 0)))⟩ : Wk) 4000 (T := .ob ((2 : Nat) ≤ (2 : Nat)) (.ob (Ctr Tryd.prog 83 [AV.sl none l.length (nmsC l) .no, AV.agg [AV.str n.sp, AV.str n.lo]] (AV.int .i64 (ixG n l (0 : Nat)))) (.ob (decide ((0 : Int) ≤ ixG n l (0 : Nat)) = decide ((0 : Int) ≤ ixG n l (0 : Nat))) (.tt)))) (by kernel_rfl) (by
    simp only [PT.holds]
    exact ⟨by omega, ixN_ctr l n hl, trivial, trivial⟩))
theorem ctB_ctr (l : List ByteArray) (n : ByteArray) (hl : l.length ≤ 1000000) : Ctr Tryd.prog 51 [.sl none l.length (strsC l) .no, .str n] (.bool (decide (0 ≤ ixG n l 0))) :=
  Ctr.mk Γ_ok Tryd.func51 (by kernel_rfl) Tryd.call51 [] (by kernel_rfl) (HT.walk Γ_ok mo_ok (⟨[(7, .call [] (.int .i64 (ixG n l 0)))], sp51, [], [], .pure [] (.bool (decide (0 ≤ ixG n l 0)))⟩ : Wk) 4000 (T := .ob (Ctr Tryd.prog 68 [AV.sl none l.length (strsC l) .no, AV.str n] (AV.int .i64 (ixG n l (0 : Nat)))) (.ob (decide ((0 : Int) ≤ ixG n l (0 : Nat)) = decide ((0 : Int) ≤ ixG n l (0 : Nat))) (.tt))) (by kernel_rfl) (by
    simp only [PT.holds]
    exact ⟨ixB_ctr l n hl, trivial, trivial⟩))
def addG {α : Type} [DecidableEq α] (l : List α) (n : α) : List α := if 0 ≤ ixG n l 0 then l else l ++ [n]

theorem addBT_ctr (l : List ByteArray) (n : ByteArray) (hl : l.length ≤ 1000000) : CtrM Tryd.prog 81 ⟨[], [(1000014, ⟨l.length, 9, 1, some (false, strsC l)⟩)]⟩ [.vec 1000014 l.length, .str n] ⟨[], [(1000014, ⟨(addG l n).length, 9, 1, some (false, strsC (addG l n))⟩)]⟩ (.vec 1000014 (addG l n).length) :=
  CtrM.mk Γ_ok Tryd.func81 (by kernel_rfl) Tryd.call81 [] (by kernel_rfl) (by kernel_rfl) (by kernel_rfl) (HT.walk Γ_ok mo_ok (⟨[(7, .call [] (.bool (decide (0 ≤ ixG n l 0))))], sp81, [], [], .mem [] ⟨[], [(1000014, ⟨(addG l n).length, 9, 1, some (false, strsC (addG l n))⟩)]⟩ (.vec 1000014 (addG l n).length)⟩ : Wk) 4000 (T := .ob (l.length = l.length) (.ob (Ctr Tryd.prog 51 [AV.sl none l.length (strsC l) .no, AV.str n] (AV.bool (decide ((0 : Int) ≤ ixG n l (0 : Nat))))) (.split (decide ((0 : Int) ≤ ixG n l (0 : Nat))) (.ob (l.length = (addG l n).length) (.ob (l.length = (addG l n).length) (.ob (strsC l = strsC (addG l n)) (.tt)))) (.ob (l.length = l.length ∧ (splice (repL (List.map zn [AV.str (ByteArray.mk #[])]) (1 : Nat)) ((0 : Nat) * (1 : Nat)) (cellsOf (AV.str n))).length = (1 : Nat) * ((0 : Nat) + (1 : Nat)) ∧ (l.length + (1 : Nat)) * ((15 : Nat) + (1 : Nat)) ≤ (140737488355328 : Nat)) (.ob (l.length + (1 : Nat) = (addG l n).length) (.ob (l.length + (1 : Nat) = (addG l n).length) (.ob (strsC l ++ splice (repL (List.map zn [AV.str (ByteArray.mk #[])]) (1 : Nat)) ((0 : Nat) * (1 : Nat)) (cellsOf (AV.str n)) = strsC (addG l n)) (.tt)))))))) (by kernel_rfl) (by
    simp only [PT.holds]
    refine ⟨trivial, ctB_ctr l n hl, fun h => ?_, fun h => ?_⟩
    · have e : addG l n = l := by simp only [addG]; rw [if_pos (of_decide_eq_true h)]
      rw [e]; exact ⟨rfl, rfl, rfl, trivial⟩
    · have e : addG l n = l ++ [n] := by simp only [addG]; rw [if_neg (of_decide_eq_false h)]
      rw [e]; refine ⟨⟨trivial, rfl, by omega⟩, by simp, by simp, by rw [strsC_app]; rfl, trivial⟩))
theorem addBK_ctr (l : List ByteArray) (n : ByteArray) (hl : l.length ≤ 1000000) : CtrM Tryd.prog 81 ⟨[], [(1000020, ⟨l.length, 9, 1, some (false, strsC l)⟩)]⟩ [.vec 1000020 l.length, .str n] ⟨[], [(1000020, ⟨(addG l n).length, 9, 1, some (false, strsC (addG l n))⟩)]⟩ (.vec 1000020 (addG l n).length) :=
  CtrM.mk Γ_ok Tryd.func81 (by kernel_rfl) Tryd.call81 [] (by kernel_rfl) (by kernel_rfl) (by kernel_rfl) (HT.walk Γ_ok mo_ok (⟨[(7, .call [] (.bool (decide (0 ≤ ixG n l 0))))], sp81, [], [], .mem [] ⟨[], [(1000020, ⟨(addG l n).length, 9, 1, some (false, strsC (addG l n))⟩)]⟩ (.vec 1000020 (addG l n).length)⟩ : Wk) 4000 (T := .ob (l.length = l.length) (.ob (Ctr Tryd.prog 51 [AV.sl none l.length (strsC l) .no, AV.str n] (AV.bool (decide ((0 : Int) ≤ ixG n l (0 : Nat))))) (.split (decide ((0 : Int) ≤ ixG n l (0 : Nat))) (.ob (l.length = (addG l n).length) (.ob (l.length = (addG l n).length) (.ob (strsC l = strsC (addG l n)) (.tt)))) (.ob (l.length = l.length ∧ (splice (repL (List.map zn [AV.str (ByteArray.mk #[])]) (1 : Nat)) ((0 : Nat) * (1 : Nat)) (cellsOf (AV.str n))).length = (1 : Nat) * ((0 : Nat) + (1 : Nat)) ∧ (l.length + (1 : Nat)) * ((15 : Nat) + (1 : Nat)) ≤ (140737488355328 : Nat)) (.ob (l.length + (1 : Nat) = (addG l n).length) (.ob (l.length + (1 : Nat) = (addG l n).length) (.ob (strsC l ++ splice (repL (List.map zn [AV.str (ByteArray.mk #[])]) (1 : Nat)) ((0 : Nat) * (1 : Nat)) (cellsOf (AV.str n)) = strsC (addG l n)) (.tt)))))))) (by kernel_rfl) (by
    simp only [PT.holds]
    refine ⟨trivial, ctB_ctr l n hl, fun h => ?_, fun h => ?_⟩
    · have e : addG l n = l := by simp only [addG]; rw [if_pos (of_decide_eq_true h)]
      rw [e]; exact ⟨rfl, rfl, rfl, trivial⟩
    · have e : addG l n = l ++ [n] := by simp only [addG]; rw [if_neg (of_decide_eq_false h)]
      rw [e]; refine ⟨⟨trivial, rfl, by omega⟩, by simp, by simp, by rw [strsC_app]; rfl, trivial⟩))
theorem addN_ctr (l : List Nm) (n : Nm) (hl : l.length ≤ 1000000) : CtrM Tryd.prog 79 ⟨[], [(1000010, ⟨l.length, 36, 2, some (false, nmsC l)⟩)]⟩ [.vec 1000010 l.length, .agg (nmC n)] ⟨[], [(1000010, ⟨(addG l n).length, 36, 2, some (false, nmsC (addG l n))⟩)]⟩ (.vec 1000010 (addG l n).length) :=
  CtrM.mk Γ_ok Tryd.func79 (by kernel_rfl) Tryd.call79 [] (by kernel_rfl) (by kernel_rfl) (by kernel_rfl) (HT.walk Γ_ok mo_ok (⟨[(7, .call [] (.bool (decide (0 ≤ ixG n l 0))))], sp79, [], [], .mem [] ⟨[], [(1000010, ⟨(addG l n).length, 36, 2, some (false, nmsC (addG l n))⟩)]⟩ (.vec 1000010 (addG l n).length)⟩ : Wk) 4000 (T := .ob ((2 : Nat) ≤ (2 : Nat)) (.ob (l.length = l.length) (.ob (Ctr Tryd.prog 71 [AV.sl none l.length (nmsC l) .no, AV.agg [AV.str n.sp, AV.str n.lo]] (AV.bool (decide ((0 : Int) ≤ ixG n l (0 : Nat))))) (.split (decide ((0 : Int) ≤ ixG n l (0 : Nat))) (.ob (l.length = (addG l n).length) (.ob (l.length = (addG l n).length) (.ob (nmsC l = nmsC (addG l n)) (.tt)))) (.ob ((2 : Nat) ≤ (2 : Nat)) (.ob (l.length = l.length ∧ (splice (repL (List.map zn [AV.str (ByteArray.mk #[]), AV.str (ByteArray.mk #[])]) (1 : Nat)) ((0 : Nat) * (2 : Nat)) (cellsOf (AV.agg [AV.str n.sp, AV.str n.lo]))).length = (1 : Nat) * ((1 : Nat) + (1 : Nat)) ∧ (l.length + (1 : Nat)) * ((31 : Nat) + (1 : Nat)) ≤ (140737488355328 : Nat)) (.ob (l.length + (1 : Nat) = (addG l n).length) (.ob (l.length + (1 : Nat) = (addG l n).length) (.ob (nmsC l ++ splice (repL (List.map zn [AV.str (ByteArray.mk #[]), AV.str (ByteArray.mk #[])]) (1 : Nat)) ((0 : Nat) * (2 : Nat)) (cellsOf (AV.agg [AV.str n.sp, AV.str n.lo])) = nmsC (addG l n)) (.tt)))))))))) (by kernel_rfl) (by
    simp only [PT.holds]
    refine ⟨by omega, trivial, ctN_ctr l n hl, fun h => ?_, fun h => ?_⟩
    · have e : addG l n = l := by simp only [addG]; rw [if_pos (of_decide_eq_true h)]
      rw [e]; exact ⟨rfl, rfl, rfl, trivial⟩
    · have e : addG l n = l ++ [n] := by simp only [addG]; rw [if_neg (of_decide_eq_false h)]
      rw [e]; refine ⟨by omega, ⟨trivial, rfl, by omega⟩, by simp, by simp, by rw [nmsC_app]; rfl, trivial⟩))
end Go.Proofs.YteimloiaipiadaaDoor
end

section
set_option linter.unusedVariables false
set_option linter.unusedSimpArgs false
set_option maxRecDepth 100000
namespace Go.Proofs.YteimloiaipiadaaDoor
open Go Go.AX

/-! What is gathered: names, attributes, their values, texts. -/
structure Wd where
  N : List Nm
  A : List Nm
  V : List (List ByteArray)
  T : List ByteArray
def gatC (W : Wd) : List AV := [.vec 1000010 W.N.length, .vec 1000011 W.A.length, .vec 1000777 W.V.length, .vec 1000014 W.T.length]
def gatT (b : Bool) (W : Wd) : List (Nat × Tag) := [(1000010, ⟨W.N.length, 36, 2, some (false, nmsC W.N)⟩), (1000011, ⟨W.A.length, 36, 2, some (false, nmsC W.A)⟩), (1000777, ⟨W.V.length, 64, 1, some (b, valsC W.V)⟩), (1000014, ⟨W.T.length, 9, 1, some (false, strsC W.T)⟩)]
def gatM (W : Wd) : MemS := ⟨[(1000003, .var true (gatC W))], gatT true W⟩
/-- An attribute is spoken of. -/
def attW (W : Wd) (n : Nm) : Wd := if 0 ≤ ixG n W.A 0 then W else ⟨W.N, W.A ++ [n], W.V ++ [[]], W.T⟩
def attI (W : Wd) (n : Nm) : Int := if 0 ≤ ixG n W.A 0 then ixG n W.A 0 else W.A.length

theorem attr_ctr (W : Wd) (n : Nm) (hA : W.A.length ≤ 1000000) (hV : W.V.length ≤ 1000000) : CtrM Tryd.prog 80 (gatM W) [.ptr 1000003 0, .agg (nmC n)] (gatM (attW W n)) (.int .i64 (attI W n)) :=
  CtrM.mk Γ_ok Tryd.func80 (by kernel_rfl) Tryd.call80 [] (by kernel_rfl) (by kernel_rfl) (by kernel_rfl) (HT.walk Γ_ok mo_ok (⟨([(12, .call [] (.int .i64 (ixG n W.A 0))), (31, .val (.bool true))] ++ []), sp80, [], [], .mem [] (gatM (attW W n)) (.int .i64 (attI W n))⟩ : Wk) 4000 (T := .ob ((2 : Nat) ≤ (2 : Nat)) (.ob (W.A.length = W.A.length) (.ob (Ctr Tryd.prog 83 [AV.sl none W.A.length (nmsC W.A) .no, AV.agg [AV.str n.sp, AV.str n.lo]] (AV.int .i64 (ixG n W.A (0 : Nat)))) (.split (decide ((0 : Int) ≤ ixG n W.A (0 : Nat))) (.ob (ixG n W.A (0 : Nat) = attI W n) (.ob (W.N.length = (attW W n).N.length) (.ob (W.A.length = (attW W n).A.length) (.ob (W.V.length = (attW W n).V.length) (.ob (W.T.length = (attW W n).T.length) (.ob (W.N.length = (attW W n).N.length) (.ob (nmsC W.N = nmsC (attW W n).N) (.ob (W.A.length = (attW W n).A.length) (.ob (nmsC W.A = nmsC (attW W n).A) (.ob (W.V.length = (attW W n).V.length) (.ob (valsC W.V = valsC (attW W n).V) (.ob (W.T.length = (attW W n).T.length) (.ob (strsC W.T = strsC (attW W n).T) (.tt)))))))))))))) (.ob ((2 : Nat) ≤ (2 : Nat)) (.ob (W.A.length = W.A.length ∧ (splice (repL (List.map zn [AV.str (ByteArray.mk #[]), AV.str (ByteArray.mk #[])]) (1 : Nat)) ((0 : Nat) * (2 : Nat)) (cellsOf (AV.agg [AV.str n.sp, AV.str n.lo]))).length = (1 : Nat) * ((1 : Nat) + (1 : Nat)) ∧ (W.A.length + (1 : Nat)) * ((31 : Nat) + (1 : Nat)) ≤ (140737488355328 : Nat)) (.ob (W.V.length = W.V.length ∧ (splice (repL (List.map zn [AV.sl (some true) (0 : Nat) [] .clip]) (1 : Nat)) ((0 : Nat) * (1 : Nat)) (cellsOf (AV.sl (some true) (0 : Nat) [] .clip))).length = (1 : Nat) * ((0 : Nat) + (1 : Nat)) ∧ (W.V.length + (1 : Nat)) * ((23 : Nat) + (1 : Nat)) ≤ (140737488355328 : Nat)) (.ob (W.A.length + (1 : Nat) = W.A.length + (1 : Nat)) (.ob (IntKind.i64.wrap ((↑(W.A.length + (1 : Nat)) : Int) - (1 : Int)) = attI W n) (.ob (W.N.length = (attW W n).N.length) (.ob (W.A.length + (1 : Nat) = (attW W n).A.length) (.ob (W.V.length + (1 : Nat) = (attW W n).V.length) (.ob (W.T.length = (attW W n).T.length) (.ob (W.N.length = (attW W n).N.length) (.ob (nmsC W.N = nmsC (attW W n).N) (.ob (W.A.length + (1 : Nat) = (attW W n).A.length) (.ob (nmsC W.A ++ splice (repL (List.map zn [AV.str (ByteArray.mk #[]), AV.str (ByteArray.mk #[])]) (1 : Nat)) ((0 : Nat) * (2 : Nat)) (cellsOf (AV.agg [AV.str n.sp, AV.str n.lo])) = nmsC (attW W n).A) (.ob (W.V.length + (1 : Nat) = (attW W n).V.length) (.ob (valsC W.V ++ [AV.sl none (0 : Nat) [] .no] = valsC (attW W n).V) (.ob (W.T.length = (attW W n).T.length) (.ob (strsC W.T = strsC (attW W n).T) (.tt)))))))))))))))))))))) (by kernel_rfl) (by
    simp only [PT.holds]
    refine ⟨by omega, trivial, ixN_ctr _ _ hA, fun h => ?_, fun h => ?_⟩
    · have e : attW W n = W := by simp only [attW]; rw [if_pos (of_decide_eq_true h)]
      have e2 : attI W n = ixG n W.A 0 := by simp only [attI]; rw [if_pos (of_decide_eq_true h)]
      rw [e, e2]
      exact ⟨rfl, rfl, rfl, rfl, rfl, rfl, rfl, rfl, rfl, rfl, rfl, rfl, rfl, trivial⟩
    · have e : attW W n = ⟨W.N, W.A ++ [n], W.V ++ [[]], W.T⟩ := by simp only [attW]; rw [if_neg (of_decide_eq_false h)]
      have e2 : attI W n = W.A.length := by simp only [attI]; rw [if_neg (of_decide_eq_false h)]
      have w3 : IntKind.i64.wrap (((W.A.length + 1 : Nat) : Int) - 1) = W.A.length := by rw [i64_wrap (by omega) (by omega)]; omega
      rw [e, e2, w3]
      exact ⟨by omega, ⟨trivial, rfl, by omega⟩, ⟨trivial, rfl, by omega⟩, trivial, rfl, rfl, by simp, by simp, rfl, rfl, rfl, by simp, by rw [nmsC_app]; rfl, by simp, by rw [valsC_app]; rfl, rfl, rfl, trivial⟩))
end Go.Proofs.YteimloiaipiadaaDoor
end

section
set_option linter.unusedVariables false
set_option linter.unusedSimpArgs false
set_option maxRecDepth 100000
namespace Go.Proofs.YteimloiaipiadaaDoor
open Go Go.AX

def gstep (W : Wd) (f : Flt) : Wd :=
  if f.op = 4 then ⟨addG W.N f.nm, W.A, W.V, W.T⟩ else if f.op = 5 then attW W f.nm
  else if f.op = 6 then ⟨(attW W f.nm).N, (attW W f.nm).A, (attW W f.nm).V.set (attI W f.nm).toNat (addG ((attW W f.nm).V.getD (attI W f.nm).toNat []) f.val), (attW W f.nm).T⟩
  else if f.op = 7 then ⟨W.N, W.A, W.V, addG W.T f.val⟩ else W
theorem attW_eq (W : Wd) (n : Nm) (h : W.V.length = W.A.length) : (attW W n).V.length = (attW W n).A.length := by
  unfold attW
  split
  · exact h
  · simp [h]
theorem attI_in (W : Wd) (n : Nm) (h : W.V.length = W.A.length) : 0 ≤ attI W n ∧ attI W n < ((attW W n).V.length : Int) := by
  unfold attI attW
  split
  · rename_i h0
    refine ⟨h0, ?_⟩
    rcases ixG_spec n nm0 W.A 0 with ⟨_, h2⟩ | ⟨j, h1, _, h3⟩
    · omega
    · rw [h3, h]; omega
  · simp [h]
    omega
theorem attV_mem (W : Wd) (n : Nm) (v : List ByteArray) (h : v ∈ (attW W n).V) : v ∈ W.V ∨ v = [] := by
  unfold attW at h
  split at h
  · exact .inl h
  · simpa using h
theorem vals_set (V : List (List ByteArray)) (i : Nat) (x : List ByteArray) : setAt ((valsC V).set i .undef) i [.sl none x.length (strsC x) .no] = valsC (V.set i x) := by
  simp [setAt, valsC, List.map_set]
theorem vals_nth (V : List (List ByteArray)) (i : Nat) (h : i < V.length) : (valsC V)[i]? = some (.sl none (V.getD i []).length (strsC (V.getD i [])) .no) := by
  simp [valsC, List.getD_eq_getElem?_getD, h]
def stGf (f : Flt) (W : Wd) : AS := ⟨[(0, .ptr 1000003 0), (3, .ptr 3 0)], [(3, .var true (fltL f)), (1000003, .var true (gatC W))], gatT true W⟩
def stGfK (f : Flt) (W : Wd) (j : Nat) : AS := ⟨[(0, .ptr 1000003 0), (3, .ptr 3 0)], [(3, .var true (fltL f)), (1000003, .var true (gatC W))], gatT true W ++ [(1000020, ⟨j, 9, 1, none⟩)]⟩

theorem gf_p (f : Flt) (W R : Wd) (hN : W.N.length ≤ 1000000) (hA : W.A.length ≤ 1000000) (hV : W.V.length ≤ 1000000) (hT : W.T.length ≤ 1000000) (hAV : W.V.length = W.A.length) (hVs : ∀ v ∈ W.V, v.length ≤ 1000000) (k : f.op ≠ 6 → HT Tryd.prog Tryd.f67.ntmps (pr Tryd.f67 11) (stGf f (gstep W f)) (EndsA Γ (.mem [] (gatM R) (.tup [])) Tryd.f67)) (k6 : f.op = 6 → ∀ j, HT Tryd.prog Tryd.f67.ntmps (pr Tryd.f67 11) (stGfK f (gstep W f) j) (EndsA Γ (.mem [] (gatM R) (.tup [])) Tryd.f67)) : CtrM Tryd.prog 67 (gatM W) [.ptr 1000003 0, .agg (fltL f)] (gatM R) (.tup []) :=
  CtrM.mk Γ_ok Tryd.func67 (by kernel_rfl) Tryd.call67 [] (by kernel_rfl) (by kernel_rfl) (by kernel_rfl) (HT.walk Γ_ok mo_ok (⟨([(21, .callM [] [] [] [1000010] [] [(1000010, ⟨(addG W.N f.nm).length, 36, 2, some (false, nmsC (addG W.N f.nm))⟩)] (.vec 1000010 (addG W.N f.nm).length)), (30, .callM [] [] [1000003] [1000010, 1000011, 1000777, 1000014] (gatM (attW W f.nm)).heap (gatM (attW W f.nm)).tags (.int .i64 (attI W f.nm))), (36, .callM [] [] [1000003] [1000010, 1000011, 1000777, 1000014] (gatM (attW W f.nm)).heap (gatM (attW W f.nm)).tags (.int .i64 (attI W f.nm))), (50, .val (.tup [.vec 1000020 ((attW W f.nm).V.getD (attI W f.nm).toNat []).length, .agg (strsC ((attW W f.nm).V.getD (attI W f.nm).toNat []))])), (53, .callM [] [] [] [1000020] [] [(1000020, ⟨(addG ((attW W f.nm).V.getD (attI W f.nm).toNat []) f.val).length, 9, 1, some (false, strsC (addG ((attW W f.nm).V.getD (attI W f.nm).toNat []) f.val))⟩)] (.vec 1000020 (addG ((attW W f.nm).V.getD (attI W f.nm).toNat []) f.val).length)), (65, .callM [] [] [] [1000014] [] [(1000014, ⟨(addG W.T f.val).length, 9, 1, some (false, strsC (addG W.T f.val))⟩)] (.vec 1000014 (addG W.T f.val).length))] ++ []), sp67, (hd67 [] [] [1000003] [1000010, 1000011, 1000777, 1000014, 1000020] ++ [(7000011, ⟨[0, 3], [3, 1000003], [1000010, 1000011, 1000777, 1000014, 1000020], [], []⟩)]), [], .mem [] (gatM R) (.tup [])⟩ : Wk) 4000 (T := .split (decide (f.op = (4 : Int))) (.ob ((3 : Nat) ≤ (6 : Nat)) (.ob (CtrM Tryd.prog (79 : Nat) { heap := [], tags := [(1000010, { n := W.N.length, e := (36 : Nat), sz := (2 : Nat), cs := some (false, nmsC W.N) })] } [AV.vec (1000010 : Nat) W.N.length, AV.agg [AV.str f.nm.sp, AV.str f.nm.lo]] { heap := [], tags := [(1000010, { n := (addG W.N f.nm).length, e := (36 : Nat), sz := (2 : Nat), cs := some (false, nmsC (addG W.N f.nm)) })] } (AV.vec (1000010 : Nat) (addG W.N f.nm).length)) (.head (pr Tryd.f67 11) ({ tmps := [(0, AV.ptr 1000003 0), (3, AV.ptr 3 0)], heap := [(3, .var true (fltL f)), (1000003, .var true [AV.vec (1000010 : Nat) (addG W.N f.nm).length, AV.vec (1000011 : Nat) W.A.length, AV.vec (1000777 : Nat) W.V.length, AV.vec (1000014 : Nat) W.T.length])], tags := [(1000010, { n := (addG W.N f.nm).length, e := (36 : Nat), sz := (2 : Nat), cs := some (false, nmsC (addG W.N f.nm)) }), (1000011, { n := W.A.length, e := (36 : Nat), sz := (2 : Nat), cs := some (false, nmsC W.A) }), (1000777, { n := W.V.length, e := (64 : Nat), sz := (1 : Nat), cs := some (true, valsC W.V) }), (1000014, { n := W.T.length, e := (9 : Nat), sz := (1 : Nat), cs := some (false, strsC W.T) })] })))) (.split (decide (f.op = (5 : Int))) (.ob ((3 : Nat) ≤ (6 : Nat)) (.ob (CtrM Tryd.prog (80 : Nat) { heap := [(1000003, .var true [AV.vec (1000010 : Nat) W.N.length, AV.vec (1000011 : Nat) W.A.length, AV.vec (1000777 : Nat) W.V.length, AV.vec (1000014 : Nat) W.T.length])], tags := [(1000010, { n := W.N.length, e := (36 : Nat), sz := (2 : Nat), cs := some (false, nmsC W.N) }), (1000011, { n := W.A.length, e := (36 : Nat), sz := (2 : Nat), cs := some (false, nmsC W.A) }), (1000777, { n := W.V.length, e := (64 : Nat), sz := (1 : Nat), cs := some (true, valsC W.V) }), (1000014, { n := W.T.length, e := (9 : Nat), sz := (1 : Nat), cs := some (false, strsC W.T) })] } [AV.ptr 1000003 0, AV.agg [AV.str f.nm.sp, AV.str f.nm.lo]] { heap := [(1000003, .var true [AV.vec (1000010 : Nat) (attW W f.nm).N.length, AV.vec (1000011 : Nat) (attW W f.nm).A.length, AV.vec (1000777 : Nat) (attW W f.nm).V.length, AV.vec (1000014 : Nat) (attW W f.nm).T.length])], tags := [(1000010, { n := (attW W f.nm).N.length, e := (36 : Nat), sz := (2 : Nat), cs := some (false, nmsC (attW W f.nm).N) }), (1000011, { n := (attW W f.nm).A.length, e := (36 : Nat), sz := (2 : Nat), cs := some (false, nmsC (attW W f.nm).A) }), (1000777, { n := (attW W f.nm).V.length, e := (64 : Nat), sz := (1 : Nat), cs := some (true, valsC (attW W f.nm).V) }), (1000014, { n := (attW W f.nm).T.length, e := (9 : Nat), sz := (1 : Nat), cs := some (false, strsC (attW W f.nm).T) })] } (AV.int .i64 (attI W f.nm))) (.head (pr Tryd.f67 11) ({ tmps := [(0, AV.ptr 1000003 0), (3, AV.ptr 3 0)], heap := [(3, .var true (fltL f)), (1000003, .var true [AV.vec (1000010 : Nat) (attW W f.nm).N.length, AV.vec (1000011 : Nat) (attW W f.nm).A.length, AV.vec (1000777 : Nat) (attW W f.nm).V.length, AV.vec (1000014 : Nat) (attW W f.nm).T.length])], tags := [(1000010, { n := (attW W f.nm).N.length, e := (36 : Nat), sz := (2 : Nat), cs := some (false, nmsC (attW W f.nm).N) }), (1000011, { n := (attW W f.nm).A.length, e := (36 : Nat), sz := (2 : Nat), cs := some (false, nmsC (attW W f.nm).A) }), (1000777, { n := (attW W f.nm).V.length, e := (64 : Nat), sz := (1 : Nat), cs := some (true, valsC (attW W f.nm).V) }), (1000014, { n := (attW W f.nm).T.length, e := (9 : Nat), sz := (1 : Nat), cs := some (false, strsC (attW W f.nm).T) })] })))) (.split (decide (f.op = (6 : Int))) (.ob ((3 : Nat) ≤ (6 : Nat)) (.ob (CtrM Tryd.prog (80 : Nat) { heap := [(1000003, .var true [AV.vec (1000010 : Nat) W.N.length, AV.vec (1000011 : Nat) W.A.length, AV.vec (1000777 : Nat) W.V.length, AV.vec (1000014 : Nat) W.T.length])], tags := [(1000010, { n := W.N.length, e := (36 : Nat), sz := (2 : Nat), cs := some (false, nmsC W.N) }), (1000011, { n := W.A.length, e := (36 : Nat), sz := (2 : Nat), cs := some (false, nmsC W.A) }), (1000777, { n := W.V.length, e := (64 : Nat), sz := (1 : Nat), cs := some (true, valsC W.V) }), (1000014, { n := W.T.length, e := (9 : Nat), sz := (1 : Nat), cs := some (false, strsC W.T) })] } [AV.ptr 1000003 0, AV.agg [AV.str f.nm.sp, AV.str f.nm.lo]] { heap := [(1000003, .var true [AV.vec (1000010 : Nat) (attW W f.nm).N.length, AV.vec (1000011 : Nat) (attW W f.nm).A.length, AV.vec (1000777 : Nat) (attW W f.nm).V.length, AV.vec (1000014 : Nat) (attW W f.nm).T.length])], tags := [(1000010, { n := (attW W f.nm).N.length, e := (36 : Nat), sz := (2 : Nat), cs := some (false, nmsC (attW W f.nm).N) }), (1000011, { n := (attW W f.nm).A.length, e := (36 : Nat), sz := (2 : Nat), cs := some (false, nmsC (attW W f.nm).A) }), (1000777, { n := (attW W f.nm).V.length, e := (64 : Nat), sz := (1 : Nat), cs := some (true, valsC (attW W f.nm).V) }), (1000014, { n := (attW W f.nm).T.length, e := (9 : Nat), sz := (1 : Nat), cs := some (false, strsC (attW W f.nm).T) })] } (AV.int .i64 (attI W f.nm))) (.ob ((0 : Int) ≤ attI W f.nm ∧ attI W f.nm < (↑(attW W f.nm).V.length : Int) ∧ (attW W f.nm).V.length = (attW W f.nm).V.length) (.ob ((attW W f.nm).V.length = (attW W f.nm).V.length ∧ (valsC (attW W f.nm).V)[(attI W f.nm).toNat * (1 : Nat)]? = some (AV.sl none ((attW W f.nm).V.getD (attI W f.nm).toNat []).length (strsC ((attW W f.nm).V.getD (attI W f.nm).toNat [])) .no) ∧ (strsC ((attW W f.nm).V.getD (attI W f.nm).toNat [])).length = ((attW W f.nm).V.getD (attI W f.nm).toNat []).length) (.ob (CtrM Tryd.prog (81 : Nat) { heap := [], tags := [(1000020, { n := ((attW W f.nm).V.getD (attI W f.nm).toNat []).length, e := (9 : Nat), sz := (1 : Nat), cs := some (false, strsC ((attW W f.nm).V.getD (attI W f.nm).toNat [])) })] } [AV.vec (1000020 : Nat) ((attW W f.nm).V.getD (attI W f.nm).toNat []).length, AV.str f.val] { heap := [], tags := [(1000020, { n := (addG ((attW W f.nm).V.getD (attI W f.nm).toNat []) f.val).length, e := (9 : Nat), sz := (1 : Nat), cs := some (false, strsC (addG ((attW W f.nm).V.getD (attI W f.nm).toNat []) f.val)) })] } (AV.vec (1000020 : Nat) (addG ((attW W f.nm).V.getD (attI W f.nm).toNat []) f.val).length)) (.ob ((0 : Int) ≤ attI W f.nm ∧ attI W f.nm < (↑(attW W f.nm).V.length : Int) ∧ (attW W f.nm).V.length = (attW W f.nm).V.length) (.ob ((attW W f.nm).V.length = (attW W f.nm).V.length ∧ (attI W f.nm).toNat * (1 : Nat) + (1 : Nat) ≤ ((valsC (attW W f.nm).V).set ((attI W f.nm).toNat * (1 : Nat)) AV.undef).length ∧ (addG ((attW W f.nm).V.getD (attI W f.nm).toNat []) f.val).length = (addG ((attW W f.nm).V.getD (attI W f.nm).toNat []) f.val).length) (.head (pr Tryd.f67 11) ({ tmps := [(0, AV.ptr 1000003 0), (3, AV.ptr 3 0)], heap := [(3, .var true (fltL f)), (1000003, .var true [AV.vec (1000010 : Nat) (attW W f.nm).N.length, AV.vec (1000011 : Nat) (attW W f.nm).A.length, AV.vec (1000777 : Nat) (attW W f.nm).V.length, AV.vec (1000014 : Nat) (attW W f.nm).T.length])], tags := [(1000010, { n := (attW W f.nm).N.length, e := (36 : Nat), sz := (2 : Nat), cs := some (false, nmsC (attW W f.nm).N) }), (1000011, { n := (attW W f.nm).A.length, e := (36 : Nat), sz := (2 : Nat), cs := some (false, nmsC (attW W f.nm).A) }), (1000777, { n := (attW W f.nm).V.length, e := (64 : Nat), sz := (1 : Nat), cs := some (true, setAt ((valsC (attW W f.nm).V).set ((attI W f.nm).toNat * (1 : Nat)) AV.undef) ((attI W f.nm).toNat * (1 : Nat)) [AV.sl none (addG ((attW W f.nm).V.getD (attI W f.nm).toNat []) f.val).length (strsC (addG ((attW W f.nm).V.getD (attI W f.nm).toNat []) f.val)) .no]) }), (1000014, { n := (attW W f.nm).T.length, e := (9 : Nat), sz := (1 : Nat), cs := some (false, strsC (attW W f.nm).T) }), (1000020, { n := (addG ((attW W f.nm).V.getD (attI W f.nm).toNat []) f.val).length + (1 : Nat), e := (9 : Nat), sz := (1 : Nat) })] }))))))))) (.split (decide (f.op = (7 : Int))) (.ob (CtrM Tryd.prog (81 : Nat) { heap := [], tags := [(1000014, { n := W.T.length, e := (9 : Nat), sz := (1 : Nat), cs := some (false, strsC W.T) })] } [AV.vec (1000014 : Nat) W.T.length, AV.str f.val] { heap := [], tags := [(1000014, { n := (addG W.T f.val).length, e := (9 : Nat), sz := (1 : Nat), cs := some (false, strsC (addG W.T f.val)) })] } (AV.vec (1000014 : Nat) (addG W.T f.val).length)) (.head (pr Tryd.f67 11) ({ tmps := [(0, AV.ptr 1000003 0), (3, AV.ptr 3 0)], heap := [(3, .var true (fltL f)), (1000003, .var true [AV.vec (1000010 : Nat) W.N.length, AV.vec (1000011 : Nat) W.A.length, AV.vec (1000777 : Nat) W.V.length, AV.vec (1000014 : Nat) (addG W.T f.val).length])], tags := [(1000010, { n := W.N.length, e := (36 : Nat), sz := (2 : Nat), cs := some (false, nmsC W.N) }), (1000011, { n := W.A.length, e := (36 : Nat), sz := (2 : Nat), cs := some (false, nmsC W.A) }), (1000777, { n := W.V.length, e := (64 : Nat), sz := (1 : Nat), cs := some (true, valsC W.V) }), (1000014, { n := (addG W.T f.val).length, e := (9 : Nat), sz := (1 : Nat), cs := some (false, strsC (addG W.T f.val)) })] }))) (.head (pr Tryd.f67 11) ({ tmps := [(0, AV.ptr 1000003 0), (3, AV.ptr 3 0)], heap := [(3, .var true (fltL f)), (1000003, .var true [AV.vec (1000010 : Nat) W.N.length, AV.vec (1000011 : Nat) W.A.length, AV.vec (1000777 : Nat) W.V.length, AV.vec (1000014 : Nat) W.T.length])], tags := [(1000010, { n := W.N.length, e := (36 : Nat), sz := (2 : Nat), cs := some (false, nmsC W.N) }), (1000011, { n := W.A.length, e := (36 : Nat), sz := (2 : Nat), cs := some (false, nmsC W.A) }), (1000777, { n := W.V.length, e := (64 : Nat), sz := (1 : Nat), cs := some (true, valsC W.V) }), (1000014, { n := W.T.length, e := (9 : Nat), sz := (1 : Nat), cs := some (false, strsC W.T) })] })))))) (by kernel_rfl) (by
    simp only [PT.holds]
    have hI := attI_in W f.nm hAV
    have hV0 : ((attW W f.nm).V.getD (attI W f.nm).toNat []).length ≤ 1000000 := by
      have hm := getD_mem (attW W f.nm).V (attI W f.nm).toNat [] (by omega)
      rcases attV_mem W f.nm _ hm with h | h
      · exact hVs _ h
      · rw [h]; simp
    refine ⟨fun h => ?_, fun h4 => ⟨fun h => ?_, fun h5 => ⟨fun h => ?_, fun h6 => ⟨fun h => ?_, fun h7 => ?_⟩⟩⟩⟩
    · have e := of_decide_eq_true h
      refine ⟨by omega, addN_ctr _ _ hN, head_eq (k (by omega)) ?_⟩
      simp [stGf, gstep, e, gatC, gatT, fltL]
    · have e := of_decide_eq_true h
      refine ⟨by omega, attr_ctr W f.nm hA hV, head_eq (k (by omega)) ?_⟩
      simp [stGf, gstep, e, gatC, gatT, fltL]
    · have e := of_decide_eq_true h
      refine ⟨by omega, attr_ctr W f.nm hA hV, ⟨hI.1, hI.2, trivial⟩, ⟨trivial, by rw [Nat.mul_one]; exact vals_nth _ _ (by omega), strsC_len _⟩, addBK_ctr _ _ hV0, ⟨hI.1, hI.2, trivial⟩, ⟨trivial, by rw [List.length_set, valsC_len]; omega, trivial⟩, head_eq (k6 e ((addG ((attW W f.nm).V.getD (attI W f.nm).toNat []) f.val).length + 1)) ?_⟩
      simp only [stGfK, gstep, e, gatC, gatT, fltL, Nat.mul_one, vals_set, List.length_set]
      simp
    · have e := of_decide_eq_true h
      refine ⟨addBT_ctr _ _ hT, head_eq (k (by omega)) ?_⟩
      simp [stGf, gstep, e, gatC, gatT, fltL]
    · have e4 := of_decide_eq_false h4
      have e5 := of_decide_eq_false h5
      have e6 := of_decide_eq_false h6
      have e7 := of_decide_eq_false h7
      refine head_eq (k e6) ?_
      simp [stGf, gstep, e4, e5, e6, e7, gatC, gatT, fltL]))
end Go.Proofs.YteimloiaipiadaaDoor
end

section
set_option linter.unusedVariables false
set_option linter.unusedSimpArgs false
set_option maxRecDepth 100000
namespace Go.Proofs.YteimloiaipiadaaDoor
open Go Go.AX

def stFu (p : Flt) (W : Wd) (i : Nat) : AS := ⟨[(0, .ptr 1000003 0), (3, .ptr 3 0), (70, .sl none p.sub.length (fltsC p.sub) .no), (71, .int .i64 p.sub.length), (72, .int .i64 i)], [(3, .var true (fltL p)), (1000003, .var true (gatC W))], gatT true W⟩
def stFw (p : Flt) (W : Wd) (i : Nat) : AS := ⟨[(0, .ptr 1000003 0), (81, .sl none p.way.length (pthsC p.way) .no), (82, .int .i64 p.way.length), (83, .int .i64 i)], [(3, .var true (fltL p)), (1000003, .var true (gatC W))], gatT true W⟩
def stFuK (p : Flt) (W : Wd) (j : Nat) (i : Nat) : AS := ⟨[(0, .ptr 1000003 0), (3, .ptr 3 0), (70, .sl none p.sub.length (fltsC p.sub) .no), (71, .int .i64 p.sub.length), (72, .int .i64 i)], [(3, .var true (fltL p)), (1000003, .var true (gatC W))], gatT true W ++ [(1000020, ⟨j, 9, 1, none⟩)]⟩
def stFwK (p : Flt) (W : Wd) (j : Nat) (i : Nat) : AS := ⟨[(0, .ptr 1000003 0), (81, .sl none p.way.length (pthsC p.way) .no), (82, .int .i64 p.way.length), (83, .int .i64 i)], [(3, .var true (fltL p)), (1000003, .var true (gatC W))], gatT true W ++ [(1000020, ⟨j, 9, 1, none⟩)]⟩
def stPu (p : Pth) (W : Wd) (i : Nat) : AS := ⟨[(0, .ptr 1000003 0), (3, .ptr 3 0), (9, .sl none p.sub.length (pthsC p.sub) .no), (10, .int .i64 p.sub.length), (11, .int .i64 i)], [(3, .var true (pthL p)), (1000003, .var true (gatC W))], gatT true W⟩
def stPw (p : Pth) (W : Wd) (i : Nat) : AS := ⟨[(0, .ptr 1000003 0), (20, .sl none p.test.length (fltsC p.test) .no), (21, .int .i64 p.test.length), (22, .int .i64 i)], [(3, .var true (pthL p)), (1000003, .var true (gatC W))], gatT true W⟩

theorem fr11 (p : Flt) (W R : Wd) (k : HT Tryd.prog Tryd.f67.ntmps (pt Tryd.f67 0) (stFu p W 0) (EndsA Γ (.mem [] (gatM R) (.tup [])) Tryd.f67)) : HT Tryd.prog Tryd.f67.ntmps (pr Tryd.f67 11) (stGf p W) (EndsA Γ (.mem [] (gatM R) (.tup [])) Tryd.f67) :=
  HT.walk Γ_ok mo_ok (⟨[], sp67, hd67 [] [] [1000003] [1000010, 1000011, 1000777, 1000014], [], .mem [] (gatM R) (.tup [])⟩ : Wk) 4000 (T := .head (pt Tryd.f67 0) ({ tmps := [(0, AV.ptr 1000003 0), (3, AV.ptr 3 0), (70, AV.sl none p.sub.length (fltsC p.sub) .no), (71, AV.int .i64 (↑p.sub.length : Int)), (72, AV.int .i64 (0 : Int))], heap := [(3, .var true (fltL p)), (1000003, .var true [AV.vec (1000010 : Nat) W.N.length, AV.vec (1000011 : Nat) W.A.length, AV.vec (1000777 : Nat) W.V.length, AV.vec (1000014 : Nat) W.T.length])], tags := [(1000010, { n := W.N.length, e := (36 : Nat), sz := (2 : Nat), cs := some (false, nmsC W.N) }), (1000011, { n := W.A.length, e := (36 : Nat), sz := (2 : Nat), cs := some (false, nmsC W.A) }), (1000777, { n := W.V.length, e := (64 : Nat), sz := (1 : Nat), cs := some (true, valsC W.V) }), (1000014, { n := W.T.length, e := (9 : Nat), sz := (1 : Nat), cs := some (false, strsC W.T) })] })) (by kernel_rfl) (by
    simp only [PT.holds]
    exact head_eq k (by simp [stFu, fltL, gatC, gatT]))
theorem fu_h (p : Flt) (W V R : Wd) (i : Nat) (hi : i < p.sub.length) (hs : p.sub.length ≤ 1048600) (hc : CtrM Tryd.prog 67 (gatM W) [.ptr 1000003 0, .agg (fltL (p.sub.getD i flt0))] (gatM V) (.tup [])) (k : HT Tryd.prog Tryd.f67.ntmps (pt Tryd.f67 0) (stFu p V (i + 1)) (EndsA Γ (.mem [] (gatM R) (.tup [])) Tryd.f67)) : HT Tryd.prog Tryd.f67.ntmps (pt Tryd.f67 0) (stFu p W i) (EndsA Γ (.mem [] (gatM R) (.tup [])) Tryd.f67) :=
  HT.walk Γ_ok mo_ok (⟨[(73, .val (.bool true)), (75, .val (.agg (fltL (p.sub.getD i flt0)))), (78, .callM [] [] [1000003] [1000010, 1000011, 1000777, 1000014] (gatM V).heap (gatM V).tags (.tup []))], (sp67).filter (fun x => !Nat.beq x 73), hd67 [] [] [1000003] [1000010, 1000011, 1000777, 1000014], [], .mem [] (gatM R) (.tup [])⟩ : Wk) 4000 (T := .ob (decide ((↑i : Int) < (↑p.sub.length : Int)) = true) (.ob ((0 : Int) ≤ (↑i : Int) ∧ (↑i : Int) < (↑p.sub.length : Int) ∧ (↑i : Int).toNat * (6 : Nat) < (fltsC p.sub).length) (.ob (List.take (6 : Nat) (List.drop ((↑i : Int).toNat * (6 : Nat)) (fltsC p.sub)) = (fltL (p.sub.getD i flt0))) (.ob ((6 : Nat) ≤ (6 : Nat)) (.ob (CtrM Tryd.prog (67 : Nat) { heap := [(1000003, .var true [AV.vec (1000010 : Nat) W.N.length, AV.vec (1000011 : Nat) W.A.length, AV.vec (1000777 : Nat) W.V.length, AV.vec (1000014 : Nat) W.T.length])], tags := [(1000010, { n := W.N.length, e := (36 : Nat), sz := (2 : Nat), cs := some (false, nmsC W.N) }), (1000011, { n := W.A.length, e := (36 : Nat), sz := (2 : Nat), cs := some (false, nmsC W.A) }), (1000777, { n := W.V.length, e := (64 : Nat), sz := (1 : Nat), cs := some (true, valsC W.V) }), (1000014, { n := W.T.length, e := (9 : Nat), sz := (1 : Nat), cs := some (false, strsC W.T) })] } [AV.ptr 1000003 0, AV.agg (fltL (p.sub.getD i flt0))] { heap := [(1000003, .var true [AV.vec (1000010 : Nat) V.N.length, AV.vec (1000011 : Nat) V.A.length, AV.vec (1000777 : Nat) V.V.length, AV.vec (1000014 : Nat) V.T.length])], tags := [(1000010, { n := V.N.length, e := (36 : Nat), sz := (2 : Nat), cs := some (false, nmsC V.N) }), (1000011, { n := V.A.length, e := (36 : Nat), sz := (2 : Nat), cs := some (false, nmsC V.A) }), (1000777, { n := V.V.length, e := (64 : Nat), sz := (1 : Nat), cs := some (true, valsC V.V) }), (1000014, { n := V.T.length, e := (9 : Nat), sz := (1 : Nat), cs := some (false, strsC V.T) })] } (AV.tup [])) (.head (pt Tryd.f67 0) ({ tmps := [(0, AV.ptr 1000003 0), (3, AV.ptr 3 0), (70, AV.sl none p.sub.length (fltsC p.sub) .no), (71, AV.int .i64 (↑p.sub.length : Int)), (72, AV.int .i64 (IntKind.i64.wrap ((↑i : Int) + (1 : Int))))], heap := [(3, .var true (fltL p)), (1000003, .var true [AV.vec (1000010 : Nat) V.N.length, AV.vec (1000011 : Nat) V.A.length, AV.vec (1000777 : Nat) V.V.length, AV.vec (1000014 : Nat) V.T.length])], tags := [(1000010, { n := V.N.length, e := (36 : Nat), sz := (2 : Nat), cs := some (false, nmsC V.N) }), (1000011, { n := V.A.length, e := (36 : Nat), sz := (2 : Nat), cs := some (false, nmsC V.A) }), (1000777, { n := V.V.length, e := (64 : Nat), sz := (1 : Nat), cs := some (true, valsC V.V) }), (1000014, { n := V.T.length, e := (9 : Nat), sz := (1 : Nat), cs := some (false, strsC V.T) })] }))))))) (by kernel_rfl) (by
    have w2 : IntKind.i64.wrap ((i : Int) + 1) = ((i + 1 : Nat) : Int) := by rw [i64_wrap (by omega) (by omega)]; rfl
    have h0 : decide ((i : Int) < p.sub.length) = true := by simp; omega
    simp only [PT.holds, w2, h0, Int.toNat_natCast, pthsC_len, fltsC_len, true_implies, Bool.false_eq_true, Bool.true_eq_false, false_implies, true_and, and_true]
    exact ⟨by omega, by ((try simp only [Nat.add_assoc, Nat.reduceAdd, Nat.add_zero]) <;> first | (rw [ats_take _ _ _ _ hi (by decide)]; rfl) | (rw [pths_take _ _ _ _ hi (by decide)]; rfl) | (rw [flts_take _ _ _ _ hi (by decide)]; rfl) | (rw [ats_take0 _ _ _ hi (by decide)]; rfl) | (rw [pths_take0 _ _ _ hi (by decide)]; rfl) | (rw [flts_take0 _ _ _ hi (by decide)]; rfl)), by omega, hc, head_eq k (by simp [stFu, fltL, gatC, gatT, gatM])⟩)
theorem fu_e (p : Flt) (W R : Wd) (i : Nat) (hi : i = p.sub.length) (k : HT Tryd.prog Tryd.f67.ntmps (pt Tryd.f67 1) (stFw p W 0) (EndsA Γ (.mem [] (gatM R) (.tup [])) Tryd.f67)) : HT Tryd.prog Tryd.f67.ntmps (pt Tryd.f67 0) (stFu p W i) (EndsA Γ (.mem [] (gatM R) (.tup [])) Tryd.f67) :=
  HT.walk Γ_ok mo_ok (⟨[(73, .val (.bool false)), (75, .val (.agg (fltL flt0))), (78, .callM [] [] [1000003] [1000010, 1000011, 1000777, 1000014] (gatM W).heap (gatM W).tags (.tup []))], (sp67).filter (fun x => !Nat.beq x 73), hd67 [] [] [1000003] [1000010, 1000011, 1000777, 1000014], [], .mem [] (gatM R) (.tup [])⟩ : Wk) 4000 (T := .ob (decide ((↑i : Int) < (↑p.sub.length : Int)) = false) (.head (pt Tryd.f67 1) ({ tmps := [(0, AV.ptr 1000003 0), (81, AV.sl none p.way.length (pthsC p.way) .no), (82, AV.int .i64 (↑p.way.length : Int)), (83, AV.int .i64 (0 : Int))], heap := [(3, .var true (fltL p)), (1000003, .var true [AV.vec (1000010 : Nat) W.N.length, AV.vec (1000011 : Nat) W.A.length, AV.vec (1000777 : Nat) W.V.length, AV.vec (1000014 : Nat) W.T.length])], tags := [(1000010, { n := W.N.length, e := (36 : Nat), sz := (2 : Nat), cs := some (false, nmsC W.N) }), (1000011, { n := W.A.length, e := (36 : Nat), sz := (2 : Nat), cs := some (false, nmsC W.A) }), (1000777, { n := W.V.length, e := (64 : Nat), sz := (1 : Nat), cs := some (true, valsC W.V) }), (1000014, { n := W.T.length, e := (9 : Nat), sz := (1 : Nat), cs := some (false, strsC W.T) })] }))) (by kernel_rfl) (by
    have h0 : decide ((i : Int) < p.sub.length) = false := by simp; omega
    simp only [PT.holds, h0, true_implies, Bool.false_eq_true, Bool.true_eq_false, false_implies, true_and, and_true]
    exact head_eq k (by simp [stFw, pthL, fltL, gatC, gatT]))
theorem fw_h (p : Flt) (W V R : Wd) (i : Nat) (hi : i < p.way.length) (hs : p.way.length ≤ 1048600) (hc : CtrM Tryd.prog 50 (gatM W) [.ptr 1000003 0, .agg (pthL (p.way.getD i pth0))] (gatM V) (.tup [])) (k : HT Tryd.prog Tryd.f67.ntmps (pt Tryd.f67 1) (stFw p V (i + 1)) (EndsA Γ (.mem [] (gatM R) (.tup [])) Tryd.f67)) : HT Tryd.prog Tryd.f67.ntmps (pt Tryd.f67 1) (stFw p W i) (EndsA Γ (.mem [] (gatM R) (.tup [])) Tryd.f67) :=
  HT.walk Γ_ok mo_ok (⟨[(84, .val (.bool true)), (86, .val (.agg (pthL (p.way.getD i pth0)))), (89, .callM [] [] [1000003] [1000010, 1000011, 1000777, 1000014] (gatM V).heap (gatM V).tags (.tup []))], (sp67).filter (fun x => !Nat.beq x 84), hd67 [] [] [1000003] [1000010, 1000011, 1000777, 1000014], [], .mem [] (gatM R) (.tup [])⟩ : Wk) 4000 (T := .ob (decide ((↑i : Int) < (↑p.way.length : Int)) = true) (.ob ((0 : Int) ≤ (↑i : Int) ∧ (↑i : Int) < (↑p.way.length : Int) ∧ (↑i : Int).toNat * (3 : Nat) < (pthsC p.way).length) (.ob (List.take (3 : Nat) (List.drop ((↑i : Int).toNat * (3 : Nat)) (pthsC p.way)) = (pthL (p.way.getD i pth0))) (.ob ((3 : Nat) ≤ (3 : Nat)) (.ob (CtrM Tryd.prog (50 : Nat) { heap := [(1000003, .var true [AV.vec (1000010 : Nat) W.N.length, AV.vec (1000011 : Nat) W.A.length, AV.vec (1000777 : Nat) W.V.length, AV.vec (1000014 : Nat) W.T.length])], tags := [(1000010, { n := W.N.length, e := (36 : Nat), sz := (2 : Nat), cs := some (false, nmsC W.N) }), (1000011, { n := W.A.length, e := (36 : Nat), sz := (2 : Nat), cs := some (false, nmsC W.A) }), (1000777, { n := W.V.length, e := (64 : Nat), sz := (1 : Nat), cs := some (true, valsC W.V) }), (1000014, { n := W.T.length, e := (9 : Nat), sz := (1 : Nat), cs := some (false, strsC W.T) })] } [AV.ptr 1000003 0, AV.agg (pthL (p.way.getD i pth0))] { heap := [(1000003, .var true [AV.vec (1000010 : Nat) V.N.length, AV.vec (1000011 : Nat) V.A.length, AV.vec (1000777 : Nat) V.V.length, AV.vec (1000014 : Nat) V.T.length])], tags := [(1000010, { n := V.N.length, e := (36 : Nat), sz := (2 : Nat), cs := some (false, nmsC V.N) }), (1000011, { n := V.A.length, e := (36 : Nat), sz := (2 : Nat), cs := some (false, nmsC V.A) }), (1000777, { n := V.V.length, e := (64 : Nat), sz := (1 : Nat), cs := some (true, valsC V.V) }), (1000014, { n := V.T.length, e := (9 : Nat), sz := (1 : Nat), cs := some (false, strsC V.T) })] } (AV.tup [])) (.head (pt Tryd.f67 1) ({ tmps := [(0, AV.ptr 1000003 0), (81, AV.sl none p.way.length (pthsC p.way) .no), (82, AV.int .i64 (↑p.way.length : Int)), (83, AV.int .i64 (IntKind.i64.wrap ((↑i : Int) + (1 : Int))))], heap := [(3, .var true (fltL p)), (1000003, .var true [AV.vec (1000010 : Nat) V.N.length, AV.vec (1000011 : Nat) V.A.length, AV.vec (1000777 : Nat) V.V.length, AV.vec (1000014 : Nat) V.T.length])], tags := [(1000010, { n := V.N.length, e := (36 : Nat), sz := (2 : Nat), cs := some (false, nmsC V.N) }), (1000011, { n := V.A.length, e := (36 : Nat), sz := (2 : Nat), cs := some (false, nmsC V.A) }), (1000777, { n := V.V.length, e := (64 : Nat), sz := (1 : Nat), cs := some (true, valsC V.V) }), (1000014, { n := V.T.length, e := (9 : Nat), sz := (1 : Nat), cs := some (false, strsC V.T) })] }))))))) (by kernel_rfl) (by
    have w2 : IntKind.i64.wrap ((i : Int) + 1) = ((i + 1 : Nat) : Int) := by rw [i64_wrap (by omega) (by omega)]; rfl
    have h0 : decide ((i : Int) < p.way.length) = true := by simp; omega
    simp only [PT.holds, w2, h0, Int.toNat_natCast, pthsC_len, fltsC_len, true_implies, Bool.false_eq_true, Bool.true_eq_false, false_implies, true_and, and_true]
    exact ⟨by omega, by ((try simp only [Nat.add_assoc, Nat.reduceAdd, Nat.add_zero]) <;> first | (rw [ats_take _ _ _ _ hi (by decide)]; rfl) | (rw [pths_take _ _ _ _ hi (by decide)]; rfl) | (rw [flts_take _ _ _ _ hi (by decide)]; rfl) | (rw [ats_take0 _ _ _ hi (by decide)]; rfl) | (rw [pths_take0 _ _ _ hi (by decide)]; rfl) | (rw [flts_take0 _ _ _ hi (by decide)]; rfl)), by omega, hc, head_eq k (by simp [stFw, fltL, gatC, gatT, gatM])⟩)
theorem fw_e (p : Flt) (W : Wd) (i : Nat) (hi : i = p.way.length) : HT Tryd.prog Tryd.f67.ntmps (pt Tryd.f67 1) (stFw p W i) (EndsA Γ (.mem [] (gatM W) (.tup [])) Tryd.f67) :=
  HT.walk Γ_ok mo_ok (⟨[(84, .val (.bool false)), (86, .val (.agg (pthL pth0))), (89, .callM [] [] [1000003] [1000010, 1000011, 1000777, 1000014] (gatM W).heap (gatM W).tags (.tup []))], (sp67).filter (fun x => !Nat.beq x 84), hd67 [] [] [1000003] [1000010, 1000011, 1000777, 1000014], [], .mem [] (gatM W) (.tup [])⟩ : Wk) 4000 (T := .ob (decide ((↑i : Int) < (↑p.way.length : Int)) = false) (.ob (W.N.length = W.N.length) (.ob (W.A.length = W.A.length) (.ob (W.V.length = W.V.length) (.ob (W.T.length = W.T.length) (.ob (W.N.length = W.N.length) (.ob (nmsC W.N = nmsC W.N) (.ob (W.A.length = W.A.length) (.ob (nmsC W.A = nmsC W.A) (.ob (W.V.length = W.V.length) (.ob (valsC W.V = valsC W.V) (.ob (W.T.length = W.T.length) (.ob (strsC W.T = strsC W.T) (.tt)))))))))))))) (by kernel_rfl) (by
    have h0 : decide ((i : Int) < p.way.length) = false := by simp; omega
    simp only [PT.holds, h0, true_implies, Bool.false_eq_true, Bool.true_eq_false, false_implies, true_and, and_true]
    try trivial)
theorem fr11K (p : Flt) (W R : Wd) (j : Nat) (k : HT Tryd.prog Tryd.f67.ntmps (pt Tryd.f67 0) (stFuK p W j 0) (EndsA Γ (.mem [] (gatM R) (.tup [])) Tryd.f67)) : HT Tryd.prog Tryd.f67.ntmps (pr Tryd.f67 11) (stGfK p W j) (EndsA Γ (.mem [] (gatM R) (.tup [])) Tryd.f67) :=
  HT.walk Γ_ok mo_ok (⟨[], sp67, hd67 [] [] [1000003] [1000010, 1000011, 1000777, 1000014, 1000020], [], .mem [] (gatM R) (.tup [])⟩ : Wk) 4000 (T := .head (pt Tryd.f67 0) ({ tmps := [(0, AV.ptr 1000003 0), (3, AV.ptr 3 0), (70, AV.sl none p.sub.length (fltsC p.sub) .no), (71, AV.int .i64 (↑p.sub.length : Int)), (72, AV.int .i64 (0 : Int))], heap := [(3, .var true (fltL p)), (1000003, .var true [AV.vec (1000010 : Nat) W.N.length, AV.vec (1000011 : Nat) W.A.length, AV.vec (1000777 : Nat) W.V.length, AV.vec (1000014 : Nat) W.T.length])], tags := [(1000010, { n := W.N.length, e := (36 : Nat), sz := (2 : Nat), cs := some (false, nmsC W.N) }), (1000011, { n := W.A.length, e := (36 : Nat), sz := (2 : Nat), cs := some (false, nmsC W.A) }), (1000777, { n := W.V.length, e := (64 : Nat), sz := (1 : Nat), cs := some (true, valsC W.V) }), (1000014, { n := W.T.length, e := (9 : Nat), sz := (1 : Nat), cs := some (false, strsC W.T) }), (1000020, { n := j, e := (9 : Nat), sz := (1 : Nat) })] })) (by kernel_rfl) (by
    simp only [PT.holds]
    exact head_eq k (by simp [stFuK, fltL, gatC, gatT]))
theorem fu_hK (p : Flt) (W V R : Wd) (j : Nat) (i : Nat) (hi : i < p.sub.length) (hs : p.sub.length ≤ 1048600) (hc : CtrM Tryd.prog 67 (gatM W) [.ptr 1000003 0, .agg (fltL (p.sub.getD i flt0))] (gatM V) (.tup [])) (k : HT Tryd.prog Tryd.f67.ntmps (pt Tryd.f67 0) (stFuK p V j (i + 1)) (EndsA Γ (.mem [] (gatM R) (.tup [])) Tryd.f67)) : HT Tryd.prog Tryd.f67.ntmps (pt Tryd.f67 0) (stFuK p W j i) (EndsA Γ (.mem [] (gatM R) (.tup [])) Tryd.f67) :=
  HT.walk Γ_ok mo_ok (⟨[(73, .val (.bool true)), (75, .val (.agg (fltL (p.sub.getD i flt0)))), (78, .callM [] [] [1000003] [1000010, 1000011, 1000777, 1000014] (gatM V).heap (gatM V).tags (.tup []))], (sp67).filter (fun x => !Nat.beq x 73), hd67 [] [] [1000003] [1000010, 1000011, 1000777, 1000014, 1000020], [], .mem [] (gatM R) (.tup [])⟩ : Wk) 4000 (T := .ob (decide ((↑i : Int) < (↑p.sub.length : Int)) = true) (.ob ((0 : Int) ≤ (↑i : Int) ∧ (↑i : Int) < (↑p.sub.length : Int) ∧ (↑i : Int).toNat * (6 : Nat) < (fltsC p.sub).length) (.ob (List.take (6 : Nat) (List.drop ((↑i : Int).toNat * (6 : Nat)) (fltsC p.sub)) = (fltL (p.sub.getD i flt0))) (.ob ((6 : Nat) ≤ (6 : Nat)) (.ob (CtrM Tryd.prog (67 : Nat) { heap := [(1000003, .var true [AV.vec (1000010 : Nat) W.N.length, AV.vec (1000011 : Nat) W.A.length, AV.vec (1000777 : Nat) W.V.length, AV.vec (1000014 : Nat) W.T.length])], tags := [(1000010, { n := W.N.length, e := (36 : Nat), sz := (2 : Nat), cs := some (false, nmsC W.N) }), (1000011, { n := W.A.length, e := (36 : Nat), sz := (2 : Nat), cs := some (false, nmsC W.A) }), (1000777, { n := W.V.length, e := (64 : Nat), sz := (1 : Nat), cs := some (true, valsC W.V) }), (1000014, { n := W.T.length, e := (9 : Nat), sz := (1 : Nat), cs := some (false, strsC W.T) })] } [AV.ptr 1000003 0, AV.agg (fltL (p.sub.getD i flt0))] { heap := [(1000003, .var true [AV.vec (1000010 : Nat) V.N.length, AV.vec (1000011 : Nat) V.A.length, AV.vec (1000777 : Nat) V.V.length, AV.vec (1000014 : Nat) V.T.length])], tags := [(1000010, { n := V.N.length, e := (36 : Nat), sz := (2 : Nat), cs := some (false, nmsC V.N) }), (1000011, { n := V.A.length, e := (36 : Nat), sz := (2 : Nat), cs := some (false, nmsC V.A) }), (1000777, { n := V.V.length, e := (64 : Nat), sz := (1 : Nat), cs := some (true, valsC V.V) }), (1000014, { n := V.T.length, e := (9 : Nat), sz := (1 : Nat), cs := some (false, strsC V.T) })] } (AV.tup [])) (.head (pt Tryd.f67 0) ({ tmps := [(0, AV.ptr 1000003 0), (3, AV.ptr 3 0), (70, AV.sl none p.sub.length (fltsC p.sub) .no), (71, AV.int .i64 (↑p.sub.length : Int)), (72, AV.int .i64 (IntKind.i64.wrap ((↑i : Int) + (1 : Int))))], heap := [(3, .var true (fltL p)), (1000003, .var true [AV.vec (1000010 : Nat) V.N.length, AV.vec (1000011 : Nat) V.A.length, AV.vec (1000777 : Nat) V.V.length, AV.vec (1000014 : Nat) V.T.length])], tags := [(1000010, { n := V.N.length, e := (36 : Nat), sz := (2 : Nat), cs := some (false, nmsC V.N) }), (1000011, { n := V.A.length, e := (36 : Nat), sz := (2 : Nat), cs := some (false, nmsC V.A) }), (1000777, { n := V.V.length, e := (64 : Nat), sz := (1 : Nat), cs := some (true, valsC V.V) }), (1000014, { n := V.T.length, e := (9 : Nat), sz := (1 : Nat), cs := some (false, strsC V.T) }), (1000020, { n := j, e := (9 : Nat), sz := (1 : Nat) })] }))))))) (by kernel_rfl) (by
    have w2 : IntKind.i64.wrap ((i : Int) + 1) = ((i + 1 : Nat) : Int) := by rw [i64_wrap (by omega) (by omega)]; rfl
    have h0 : decide ((i : Int) < p.sub.length) = true := by simp; omega
    simp only [PT.holds, w2, h0, Int.toNat_natCast, pthsC_len, fltsC_len, true_implies, Bool.false_eq_true, Bool.true_eq_false, false_implies, true_and, and_true]
    exact ⟨by omega, by ((try simp only [Nat.add_assoc, Nat.reduceAdd, Nat.add_zero]) <;> first | (rw [ats_take _ _ _ _ hi (by decide)]; rfl) | (rw [pths_take _ _ _ _ hi (by decide)]; rfl) | (rw [flts_take _ _ _ _ hi (by decide)]; rfl) | (rw [ats_take0 _ _ _ hi (by decide)]; rfl) | (rw [pths_take0 _ _ _ hi (by decide)]; rfl) | (rw [flts_take0 _ _ _ hi (by decide)]; rfl)), by omega, hc, head_eq k (by simp [stFuK, fltL, gatC, gatT, gatM])⟩)
theorem fu_eK (p : Flt) (W R : Wd) (j : Nat) (i : Nat) (hi : i = p.sub.length) (k : HT Tryd.prog Tryd.f67.ntmps (pt Tryd.f67 1) (stFwK p W j 0) (EndsA Γ (.mem [] (gatM R) (.tup [])) Tryd.f67)) : HT Tryd.prog Tryd.f67.ntmps (pt Tryd.f67 0) (stFuK p W j i) (EndsA Γ (.mem [] (gatM R) (.tup [])) Tryd.f67) :=
  HT.walk Γ_ok mo_ok (⟨[(73, .val (.bool false)), (75, .val (.agg (fltL flt0))), (78, .callM [] [] [1000003] [1000010, 1000011, 1000777, 1000014] (gatM W).heap (gatM W).tags (.tup []))], (sp67).filter (fun x => !Nat.beq x 73), hd67 [] [] [1000003] [1000010, 1000011, 1000777, 1000014, 1000020], [], .mem [] (gatM R) (.tup [])⟩ : Wk) 4000 (T := .ob (decide ((↑i : Int) < (↑p.sub.length : Int)) = false) (.head (pt Tryd.f67 1) ({ tmps := [(0, AV.ptr 1000003 0), (81, AV.sl none p.way.length (pthsC p.way) .no), (82, AV.int .i64 (↑p.way.length : Int)), (83, AV.int .i64 (0 : Int))], heap := [(3, .var true (fltL p)), (1000003, .var true [AV.vec (1000010 : Nat) W.N.length, AV.vec (1000011 : Nat) W.A.length, AV.vec (1000777 : Nat) W.V.length, AV.vec (1000014 : Nat) W.T.length])], tags := [(1000010, { n := W.N.length, e := (36 : Nat), sz := (2 : Nat), cs := some (false, nmsC W.N) }), (1000011, { n := W.A.length, e := (36 : Nat), sz := (2 : Nat), cs := some (false, nmsC W.A) }), (1000777, { n := W.V.length, e := (64 : Nat), sz := (1 : Nat), cs := some (true, valsC W.V) }), (1000014, { n := W.T.length, e := (9 : Nat), sz := (1 : Nat), cs := some (false, strsC W.T) }), (1000020, { n := j, e := (9 : Nat), sz := (1 : Nat) })] }))) (by kernel_rfl) (by
    have h0 : decide ((i : Int) < p.sub.length) = false := by simp; omega
    simp only [PT.holds, h0, true_implies, Bool.false_eq_true, Bool.true_eq_false, false_implies, true_and, and_true]
    exact head_eq k (by simp [stFwK, pthL, fltL, gatC, gatT]))
theorem fw_hK (p : Flt) (W V R : Wd) (j : Nat) (i : Nat) (hi : i < p.way.length) (hs : p.way.length ≤ 1048600) (hc : CtrM Tryd.prog 50 (gatM W) [.ptr 1000003 0, .agg (pthL (p.way.getD i pth0))] (gatM V) (.tup [])) (k : HT Tryd.prog Tryd.f67.ntmps (pt Tryd.f67 1) (stFwK p V j (i + 1)) (EndsA Γ (.mem [] (gatM R) (.tup [])) Tryd.f67)) : HT Tryd.prog Tryd.f67.ntmps (pt Tryd.f67 1) (stFwK p W j i) (EndsA Γ (.mem [] (gatM R) (.tup [])) Tryd.f67) :=
  HT.walk Γ_ok mo_ok (⟨[(84, .val (.bool true)), (86, .val (.agg (pthL (p.way.getD i pth0)))), (89, .callM [] [] [1000003] [1000010, 1000011, 1000777, 1000014] (gatM V).heap (gatM V).tags (.tup []))], (sp67).filter (fun x => !Nat.beq x 84), hd67 [] [] [1000003] [1000010, 1000011, 1000777, 1000014, 1000020], [], .mem [] (gatM R) (.tup [])⟩ : Wk) 4000 (T := .ob (decide ((↑i : Int) < (↑p.way.length : Int)) = true) (.ob ((0 : Int) ≤ (↑i : Int) ∧ (↑i : Int) < (↑p.way.length : Int) ∧ (↑i : Int).toNat * (3 : Nat) < (pthsC p.way).length) (.ob (List.take (3 : Nat) (List.drop ((↑i : Int).toNat * (3 : Nat)) (pthsC p.way)) = (pthL (p.way.getD i pth0))) (.ob ((3 : Nat) ≤ (3 : Nat)) (.ob (CtrM Tryd.prog (50 : Nat) { heap := [(1000003, .var true [AV.vec (1000010 : Nat) W.N.length, AV.vec (1000011 : Nat) W.A.length, AV.vec (1000777 : Nat) W.V.length, AV.vec (1000014 : Nat) W.T.length])], tags := [(1000010, { n := W.N.length, e := (36 : Nat), sz := (2 : Nat), cs := some (false, nmsC W.N) }), (1000011, { n := W.A.length, e := (36 : Nat), sz := (2 : Nat), cs := some (false, nmsC W.A) }), (1000777, { n := W.V.length, e := (64 : Nat), sz := (1 : Nat), cs := some (true, valsC W.V) }), (1000014, { n := W.T.length, e := (9 : Nat), sz := (1 : Nat), cs := some (false, strsC W.T) })] } [AV.ptr 1000003 0, AV.agg (pthL (p.way.getD i pth0))] { heap := [(1000003, .var true [AV.vec (1000010 : Nat) V.N.length, AV.vec (1000011 : Nat) V.A.length, AV.vec (1000777 : Nat) V.V.length, AV.vec (1000014 : Nat) V.T.length])], tags := [(1000010, { n := V.N.length, e := (36 : Nat), sz := (2 : Nat), cs := some (false, nmsC V.N) }), (1000011, { n := V.A.length, e := (36 : Nat), sz := (2 : Nat), cs := some (false, nmsC V.A) }), (1000777, { n := V.V.length, e := (64 : Nat), sz := (1 : Nat), cs := some (true, valsC V.V) }), (1000014, { n := V.T.length, e := (9 : Nat), sz := (1 : Nat), cs := some (false, strsC V.T) })] } (AV.tup [])) (.head (pt Tryd.f67 1) ({ tmps := [(0, AV.ptr 1000003 0), (81, AV.sl none p.way.length (pthsC p.way) .no), (82, AV.int .i64 (↑p.way.length : Int)), (83, AV.int .i64 (IntKind.i64.wrap ((↑i : Int) + (1 : Int))))], heap := [(3, .var true (fltL p)), (1000003, .var true [AV.vec (1000010 : Nat) V.N.length, AV.vec (1000011 : Nat) V.A.length, AV.vec (1000777 : Nat) V.V.length, AV.vec (1000014 : Nat) V.T.length])], tags := [(1000010, { n := V.N.length, e := (36 : Nat), sz := (2 : Nat), cs := some (false, nmsC V.N) }), (1000011, { n := V.A.length, e := (36 : Nat), sz := (2 : Nat), cs := some (false, nmsC V.A) }), (1000777, { n := V.V.length, e := (64 : Nat), sz := (1 : Nat), cs := some (true, valsC V.V) }), (1000014, { n := V.T.length, e := (9 : Nat), sz := (1 : Nat), cs := some (false, strsC V.T) }), (1000020, { n := j, e := (9 : Nat), sz := (1 : Nat) })] }))))))) (by kernel_rfl) (by
    have w2 : IntKind.i64.wrap ((i : Int) + 1) = ((i + 1 : Nat) : Int) := by rw [i64_wrap (by omega) (by omega)]; rfl
    have h0 : decide ((i : Int) < p.way.length) = true := by simp; omega
    simp only [PT.holds, w2, h0, Int.toNat_natCast, pthsC_len, fltsC_len, true_implies, Bool.false_eq_true, Bool.true_eq_false, false_implies, true_and, and_true]
    exact ⟨by omega, by ((try simp only [Nat.add_assoc, Nat.reduceAdd, Nat.add_zero]) <;> first | (rw [ats_take _ _ _ _ hi (by decide)]; rfl) | (rw [pths_take _ _ _ _ hi (by decide)]; rfl) | (rw [flts_take _ _ _ _ hi (by decide)]; rfl) | (rw [ats_take0 _ _ _ hi (by decide)]; rfl) | (rw [pths_take0 _ _ _ hi (by decide)]; rfl) | (rw [flts_take0 _ _ _ hi (by decide)]; rfl)), by omega, hc, head_eq k (by simp [stFwK, fltL, gatC, gatT, gatM])⟩)
theorem fw_eK (p : Flt) (W : Wd) (j : Nat) (i : Nat) (hi : i = p.way.length) : HT Tryd.prog Tryd.f67.ntmps (pt Tryd.f67 1) (stFwK p W j i) (EndsA Γ (.mem [] (gatM W) (.tup [])) Tryd.f67) :=
  HT.walk Γ_ok mo_ok (⟨[(84, .val (.bool false)), (86, .val (.agg (pthL pth0))), (89, .callM [] [] [1000003] [1000010, 1000011, 1000777, 1000014] (gatM W).heap (gatM W).tags (.tup []))], (sp67).filter (fun x => !Nat.beq x 84), hd67 [] [] [1000003] [1000010, 1000011, 1000777, 1000014, 1000020], [], .mem [] (gatM W) (.tup [])⟩ : Wk) 4000 (T := .ob (decide ((↑i : Int) < (↑p.way.length : Int)) = false) (.ob (W.N.length = W.N.length) (.ob (W.A.length = W.A.length) (.ob (W.V.length = W.V.length) (.ob (W.T.length = W.T.length) (.ob (W.N.length = W.N.length) (.ob (nmsC W.N = nmsC W.N) (.ob (W.A.length = W.A.length) (.ob (nmsC W.A = nmsC W.A) (.ob (W.V.length = W.V.length) (.ob (valsC W.V = valsC W.V) (.ob (W.T.length = W.T.length) (.ob (strsC W.T = strsC W.T) (.tt)))))))))))))) (by kernel_rfl) (by
    have h0 : decide ((i : Int) < p.way.length) = false := by simp; omega
    simp only [PT.holds, h0, true_implies, Bool.false_eq_true, Bool.true_eq_false, false_implies, true_and, and_true]
    try trivial)
theorem gp_p (p : Pth) (W R : Wd) (k : HT Tryd.prog Tryd.f50.ntmps (pt Tryd.f50 0) (stPu p W 0) (EndsA Γ (.mem [] (gatM R) (.tup [])) Tryd.f50)) : CtrM Tryd.prog 50 (gatM W) [.ptr 1000003 0, .agg (pthL p)] (gatM R) (.tup []) :=
  CtrM.mk Γ_ok Tryd.func50 (by kernel_rfl) Tryd.call50 [] (by kernel_rfl) (by kernel_rfl) (by kernel_rfl) (HT.walk Γ_ok mo_ok (⟨[], sp50, hd50 [] [] [1000003] [1000010, 1000011, 1000777, 1000014], [], .mem [] (gatM R) (.tup [])⟩ : Wk) 4000 (T := .head (pt Tryd.f50 0) ({ tmps := [(0, AV.ptr 1000003 0), (3, AV.ptr 3 0), (9, AV.sl none p.sub.length (pthsC p.sub) .no), (10, AV.int .i64 (↑p.sub.length : Int)), (11, AV.int .i64 (0 : Int))], heap := [(3, .var true (pthL p)), (1000003, .var true [AV.vec (1000010 : Nat) W.N.length, AV.vec (1000011 : Nat) W.A.length, AV.vec (1000777 : Nat) W.V.length, AV.vec (1000014 : Nat) W.T.length])], tags := [(1000010, { n := W.N.length, e := (36 : Nat), sz := (2 : Nat), cs := some (false, nmsC W.N) }), (1000011, { n := W.A.length, e := (36 : Nat), sz := (2 : Nat), cs := some (false, nmsC W.A) }), (1000777, { n := W.V.length, e := (64 : Nat), sz := (1 : Nat), cs := some (true, valsC W.V) }), (1000014, { n := W.T.length, e := (9 : Nat), sz := (1 : Nat), cs := some (false, strsC W.T) })] })) (by kernel_rfl) (by
    simp only [PT.holds]
    exact head_eq k (by simp [stPu, pthL, gatC, gatT])))
theorem pu_h (p : Pth) (W V R : Wd) (i : Nat) (hi : i < p.sub.length) (hs : p.sub.length ≤ 1048600) (hc : CtrM Tryd.prog 50 (gatM W) [.ptr 1000003 0, .agg (pthL (p.sub.getD i pth0))] (gatM V) (.tup [])) (k : HT Tryd.prog Tryd.f50.ntmps (pt Tryd.f50 0) (stPu p V (i + 1)) (EndsA Γ (.mem [] (gatM R) (.tup [])) Tryd.f50)) : HT Tryd.prog Tryd.f50.ntmps (pt Tryd.f50 0) (stPu p W i) (EndsA Γ (.mem [] (gatM R) (.tup [])) Tryd.f50) :=
  HT.walk Γ_ok mo_ok (⟨[(12, .val (.bool true)), (14, .val (.agg (pthL (p.sub.getD i pth0)))), (17, .callM [] [] [1000003] [1000010, 1000011, 1000777, 1000014] (gatM V).heap (gatM V).tags (.tup []))], (sp50).filter (fun x => !Nat.beq x 12), hd50 [] [] [1000003] [1000010, 1000011, 1000777, 1000014], [], .mem [] (gatM R) (.tup [])⟩ : Wk) 4000 (T := .ob (decide ((↑i : Int) < (↑p.sub.length : Int)) = true) (.ob ((0 : Int) ≤ (↑i : Int) ∧ (↑i : Int) < (↑p.sub.length : Int) ∧ (↑i : Int).toNat * (3 : Nat) < (pthsC p.sub).length) (.ob (List.take (3 : Nat) (List.drop ((↑i : Int).toNat * (3 : Nat)) (pthsC p.sub)) = (pthL (p.sub.getD i pth0))) (.ob ((3 : Nat) ≤ (3 : Nat)) (.ob (CtrM Tryd.prog (50 : Nat) { heap := [(1000003, .var true [AV.vec (1000010 : Nat) W.N.length, AV.vec (1000011 : Nat) W.A.length, AV.vec (1000777 : Nat) W.V.length, AV.vec (1000014 : Nat) W.T.length])], tags := [(1000010, { n := W.N.length, e := (36 : Nat), sz := (2 : Nat), cs := some (false, nmsC W.N) }), (1000011, { n := W.A.length, e := (36 : Nat), sz := (2 : Nat), cs := some (false, nmsC W.A) }), (1000777, { n := W.V.length, e := (64 : Nat), sz := (1 : Nat), cs := some (true, valsC W.V) }), (1000014, { n := W.T.length, e := (9 : Nat), sz := (1 : Nat), cs := some (false, strsC W.T) })] } [AV.ptr 1000003 0, AV.agg (pthL (p.sub.getD i pth0))] { heap := [(1000003, .var true [AV.vec (1000010 : Nat) V.N.length, AV.vec (1000011 : Nat) V.A.length, AV.vec (1000777 : Nat) V.V.length, AV.vec (1000014 : Nat) V.T.length])], tags := [(1000010, { n := V.N.length, e := (36 : Nat), sz := (2 : Nat), cs := some (false, nmsC V.N) }), (1000011, { n := V.A.length, e := (36 : Nat), sz := (2 : Nat), cs := some (false, nmsC V.A) }), (1000777, { n := V.V.length, e := (64 : Nat), sz := (1 : Nat), cs := some (true, valsC V.V) }), (1000014, { n := V.T.length, e := (9 : Nat), sz := (1 : Nat), cs := some (false, strsC V.T) })] } (AV.tup [])) (.head (pt Tryd.f50 0) ({ tmps := [(0, AV.ptr 1000003 0), (3, AV.ptr 3 0), (9, AV.sl none p.sub.length (pthsC p.sub) .no), (10, AV.int .i64 (↑p.sub.length : Int)), (11, AV.int .i64 (IntKind.i64.wrap ((↑i : Int) + (1 : Int))))], heap := [(3, .var true (pthL p)), (1000003, .var true [AV.vec (1000010 : Nat) V.N.length, AV.vec (1000011 : Nat) V.A.length, AV.vec (1000777 : Nat) V.V.length, AV.vec (1000014 : Nat) V.T.length])], tags := [(1000010, { n := V.N.length, e := (36 : Nat), sz := (2 : Nat), cs := some (false, nmsC V.N) }), (1000011, { n := V.A.length, e := (36 : Nat), sz := (2 : Nat), cs := some (false, nmsC V.A) }), (1000777, { n := V.V.length, e := (64 : Nat), sz := (1 : Nat), cs := some (true, valsC V.V) }), (1000014, { n := V.T.length, e := (9 : Nat), sz := (1 : Nat), cs := some (false, strsC V.T) })] }))))))) (by kernel_rfl) (by
    have w2 : IntKind.i64.wrap ((i : Int) + 1) = ((i + 1 : Nat) : Int) := by rw [i64_wrap (by omega) (by omega)]; rfl
    have h0 : decide ((i : Int) < p.sub.length) = true := by simp; omega
    simp only [PT.holds, w2, h0, Int.toNat_natCast, pthsC_len, fltsC_len, true_implies, Bool.false_eq_true, Bool.true_eq_false, false_implies, true_and, and_true]
    exact ⟨by omega, by ((try simp only [Nat.add_assoc, Nat.reduceAdd, Nat.add_zero]) <;> first | (rw [ats_take _ _ _ _ hi (by decide)]; rfl) | (rw [pths_take _ _ _ _ hi (by decide)]; rfl) | (rw [flts_take _ _ _ _ hi (by decide)]; rfl) | (rw [ats_take0 _ _ _ hi (by decide)]; rfl) | (rw [pths_take0 _ _ _ hi (by decide)]; rfl) | (rw [flts_take0 _ _ _ hi (by decide)]; rfl)), by omega, hc, head_eq k (by simp [stPu, pthL, gatC, gatT, gatM])⟩)
theorem pu_e (p : Pth) (W R : Wd) (i : Nat) (hi : i = p.sub.length) (k : HT Tryd.prog Tryd.f50.ntmps (pt Tryd.f50 1) (stPw p W 0) (EndsA Γ (.mem [] (gatM R) (.tup [])) Tryd.f50)) : HT Tryd.prog Tryd.f50.ntmps (pt Tryd.f50 0) (stPu p W i) (EndsA Γ (.mem [] (gatM R) (.tup [])) Tryd.f50) :=
  HT.walk Γ_ok mo_ok (⟨[(12, .val (.bool false)), (14, .val (.agg (pthL pth0))), (17, .callM [] [] [1000003] [1000010, 1000011, 1000777, 1000014] (gatM W).heap (gatM W).tags (.tup []))], (sp50).filter (fun x => !Nat.beq x 12), hd50 [] [] [1000003] [1000010, 1000011, 1000777, 1000014], [], .mem [] (gatM R) (.tup [])⟩ : Wk) 4000 (T := .ob (decide ((↑i : Int) < (↑p.sub.length : Int)) = false) (.head (pt Tryd.f50 1) ({ tmps := [(0, AV.ptr 1000003 0), (20, AV.sl none p.test.length (fltsC p.test) .no), (21, AV.int .i64 (↑p.test.length : Int)), (22, AV.int .i64 (0 : Int))], heap := [(3, .var true (pthL p)), (1000003, .var true [AV.vec (1000010 : Nat) W.N.length, AV.vec (1000011 : Nat) W.A.length, AV.vec (1000777 : Nat) W.V.length, AV.vec (1000014 : Nat) W.T.length])], tags := [(1000010, { n := W.N.length, e := (36 : Nat), sz := (2 : Nat), cs := some (false, nmsC W.N) }), (1000011, { n := W.A.length, e := (36 : Nat), sz := (2 : Nat), cs := some (false, nmsC W.A) }), (1000777, { n := W.V.length, e := (64 : Nat), sz := (1 : Nat), cs := some (true, valsC W.V) }), (1000014, { n := W.T.length, e := (9 : Nat), sz := (1 : Nat), cs := some (false, strsC W.T) })] }))) (by kernel_rfl) (by
    have h0 : decide ((i : Int) < p.sub.length) = false := by simp; omega
    simp only [PT.holds, h0, true_implies, Bool.false_eq_true, Bool.true_eq_false, false_implies, true_and, and_true]
    exact head_eq k (by simp [stPw, pthL, fltL, gatC, gatT]))
theorem pw_h (p : Pth) (W V R : Wd) (i : Nat) (hi : i < p.test.length) (hs : p.test.length ≤ 1048600) (hc : CtrM Tryd.prog 67 (gatM W) [.ptr 1000003 0, .agg (fltL (p.test.getD i flt0))] (gatM V) (.tup [])) (k : HT Tryd.prog Tryd.f50.ntmps (pt Tryd.f50 1) (stPw p V (i + 1)) (EndsA Γ (.mem [] (gatM R) (.tup [])) Tryd.f50)) : HT Tryd.prog Tryd.f50.ntmps (pt Tryd.f50 1) (stPw p W i) (EndsA Γ (.mem [] (gatM R) (.tup [])) Tryd.f50) :=
  HT.walk Γ_ok mo_ok (⟨[(23, .val (.bool true)), (25, .val (.agg (fltL (p.test.getD i flt0)))), (28, .callM [] [] [1000003] [1000010, 1000011, 1000777, 1000014] (gatM V).heap (gatM V).tags (.tup []))], (sp50).filter (fun x => !Nat.beq x 23), hd50 [] [] [1000003] [1000010, 1000011, 1000777, 1000014], [], .mem [] (gatM R) (.tup [])⟩ : Wk) 4000 (T := .ob (decide ((↑i : Int) < (↑p.test.length : Int)) = true) (.ob ((0 : Int) ≤ (↑i : Int) ∧ (↑i : Int) < (↑p.test.length : Int) ∧ (↑i : Int).toNat * (6 : Nat) < (fltsC p.test).length) (.ob (List.take (6 : Nat) (List.drop ((↑i : Int).toNat * (6 : Nat)) (fltsC p.test)) = (fltL (p.test.getD i flt0))) (.ob ((6 : Nat) ≤ (6 : Nat)) (.ob (CtrM Tryd.prog (67 : Nat) { heap := [(1000003, .var true [AV.vec (1000010 : Nat) W.N.length, AV.vec (1000011 : Nat) W.A.length, AV.vec (1000777 : Nat) W.V.length, AV.vec (1000014 : Nat) W.T.length])], tags := [(1000010, { n := W.N.length, e := (36 : Nat), sz := (2 : Nat), cs := some (false, nmsC W.N) }), (1000011, { n := W.A.length, e := (36 : Nat), sz := (2 : Nat), cs := some (false, nmsC W.A) }), (1000777, { n := W.V.length, e := (64 : Nat), sz := (1 : Nat), cs := some (true, valsC W.V) }), (1000014, { n := W.T.length, e := (9 : Nat), sz := (1 : Nat), cs := some (false, strsC W.T) })] } [AV.ptr 1000003 0, AV.agg (fltL (p.test.getD i flt0))] { heap := [(1000003, .var true [AV.vec (1000010 : Nat) V.N.length, AV.vec (1000011 : Nat) V.A.length, AV.vec (1000777 : Nat) V.V.length, AV.vec (1000014 : Nat) V.T.length])], tags := [(1000010, { n := V.N.length, e := (36 : Nat), sz := (2 : Nat), cs := some (false, nmsC V.N) }), (1000011, { n := V.A.length, e := (36 : Nat), sz := (2 : Nat), cs := some (false, nmsC V.A) }), (1000777, { n := V.V.length, e := (64 : Nat), sz := (1 : Nat), cs := some (true, valsC V.V) }), (1000014, { n := V.T.length, e := (9 : Nat), sz := (1 : Nat), cs := some (false, strsC V.T) })] } (AV.tup [])) (.head (pt Tryd.f50 1) ({ tmps := [(0, AV.ptr 1000003 0), (20, AV.sl none p.test.length (fltsC p.test) .no), (21, AV.int .i64 (↑p.test.length : Int)), (22, AV.int .i64 (IntKind.i64.wrap ((↑i : Int) + (1 : Int))))], heap := [(3, .var true (pthL p)), (1000003, .var true [AV.vec (1000010 : Nat) V.N.length, AV.vec (1000011 : Nat) V.A.length, AV.vec (1000777 : Nat) V.V.length, AV.vec (1000014 : Nat) V.T.length])], tags := [(1000010, { n := V.N.length, e := (36 : Nat), sz := (2 : Nat), cs := some (false, nmsC V.N) }), (1000011, { n := V.A.length, e := (36 : Nat), sz := (2 : Nat), cs := some (false, nmsC V.A) }), (1000777, { n := V.V.length, e := (64 : Nat), sz := (1 : Nat), cs := some (true, valsC V.V) }), (1000014, { n := V.T.length, e := (9 : Nat), sz := (1 : Nat), cs := some (false, strsC V.T) })] }))))))) (by kernel_rfl) (by
    have w2 : IntKind.i64.wrap ((i : Int) + 1) = ((i + 1 : Nat) : Int) := by rw [i64_wrap (by omega) (by omega)]; rfl
    have h0 : decide ((i : Int) < p.test.length) = true := by simp; omega
    simp only [PT.holds, w2, h0, Int.toNat_natCast, pthsC_len, fltsC_len, true_implies, Bool.false_eq_true, Bool.true_eq_false, false_implies, true_and, and_true]
    exact ⟨by omega, by ((try simp only [Nat.add_assoc, Nat.reduceAdd, Nat.add_zero]) <;> first | (rw [ats_take _ _ _ _ hi (by decide)]; rfl) | (rw [pths_take _ _ _ _ hi (by decide)]; rfl) | (rw [flts_take _ _ _ _ hi (by decide)]; rfl) | (rw [ats_take0 _ _ _ hi (by decide)]; rfl) | (rw [pths_take0 _ _ _ hi (by decide)]; rfl) | (rw [flts_take0 _ _ _ hi (by decide)]; rfl)), by omega, hc, head_eq k (by simp [stPw, pthL, gatC, gatT, gatM])⟩)
theorem pw_e (p : Pth) (W : Wd) (i : Nat) (hi : i = p.test.length) : HT Tryd.prog Tryd.f50.ntmps (pt Tryd.f50 1) (stPw p W i) (EndsA Γ (.mem [] (gatM W) (.tup [])) Tryd.f50) :=
  HT.walk Γ_ok mo_ok (⟨[(23, .val (.bool false)), (25, .val (.agg (fltL flt0))), (28, .callM [] [] [1000003] [1000010, 1000011, 1000777, 1000014] (gatM W).heap (gatM W).tags (.tup []))], (sp50).filter (fun x => !Nat.beq x 23), hd50 [] [] [1000003] [1000010, 1000011, 1000777, 1000014], [], .mem [] (gatM W) (.tup [])⟩ : Wk) 4000 (T := .ob (decide ((↑i : Int) < (↑p.test.length : Int)) = false) (.ob (W.N.length = W.N.length) (.ob (W.A.length = W.A.length) (.ob (W.V.length = W.V.length) (.ob (W.T.length = W.T.length) (.ob (W.N.length = W.N.length) (.ob (nmsC W.N = nmsC W.N) (.ob (W.A.length = W.A.length) (.ob (nmsC W.A = nmsC W.A) (.ob (W.V.length = W.V.length) (.ob (valsC W.V = valsC W.V) (.ob (W.T.length = W.T.length) (.ob (strsC W.T = strsC W.T) (.tt)))))))))))))) (by kernel_rfl) (by
    have h0 : decide ((i : Int) < p.test.length) = false := by simp; omega
    simp only [PT.holds, h0, true_implies, Bool.false_eq_true, Bool.true_eq_false, false_implies, true_and, and_true]
    try trivial)
end Go.Proofs.YteimloiaipiadaaDoor
end
