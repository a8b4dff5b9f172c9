import Derived.Test.YteimloiaipiadaaDoorP6
section
set_option linter.unusedVariables false
set_option linter.unusedSimpArgs false
set_option maxRecDepth 100000
namespace Go.Proofs.YteimloiaipiadaaDoor
open Go Go.AX

def stP0 (p : Pth) (m n : Int) (i : Nat) : AS := ⟨[(1, .int .i64 m), (2, .ptr 2 0), (5, .int .i64 n), (6, .int .i64 i)], [(2, .var true (pthL p))], []⟩
def stP1 (p : Pth) (m n : Int) (i : Nat) : AS := ⟨[(1, .int .i64 m), (2, .ptr 2 0), (5, .int .i64 n), (7, .int .i64 i)], [(2, .var true (pthL p))], []⟩
theorem sizeP_h1 (p : Pth) (m n : Int) (i : Nat) (hl : p.test.length ≤ 1048600) (hc : i < p.test.length → ∀ m, ∃ x : Int, Triv ∧ Ctr Tryd.prog 65 [.agg (fltL (p.test.getD i flt0)), .int .i64 m] (.int .i64 x)) (ih : i < p.test.length → ∀ n', ∃ x : Int, (Triv) ∧ HT Tryd.prog Tryd.f48.ntmps (pt Tryd.f48 1) (stP1 p m n' (i + 1)) (EndsA Γ (.pure [] (.int .i64 x)) Tryd.f48)) : ∃ x : Int, (Triv) ∧ HT Tryd.prog Tryd.f48.ntmps (pt Tryd.f48 1) (stP1 p m n i) (EndsA Γ (.pure [] (.int .i64 x)) Tryd.f48) := by
    have H : ∃ x : Int, (Triv) ∧ PT.holds Tryd.prog Tryd.f48.ntmps (EndsA Γ (.pure [] (.int .i64 x)) Tryd.f48) (.split (decide ((↑i : Int) < (↑p.test.length : Int))) (.split (decide (n ≤ m)) (.ob ((0 : Int) ≤ (↑i : Int) ∧ (↑i : Int) < (↑p.test.length : Int) ∧ (↑i : Int).toNat * (6 : Nat) < (fltsC p.test).length) (.ob (List.take (6 : Nat) (List.drop ((↑i : Int).toNat * (6 : Nat)) (fltsC p.test)) = (fltL (p.test.getD i flt0))) (.ob (Ctr Tryd.prog 65 [AV.agg (fltL (p.test.getD i flt0)), AV.int .i64 (IntKind.i64.wrap (m - n))] (AV.int .i64 (exI Tryd.prog (65 : FuncId) [AV.agg [AV.int .i64 (p.test.getD i flt0).op, AV.str (p.test.getD i flt0).nm.sp, AV.str (p.test.getD i flt0).nm.lo, AV.str (p.test.getD i flt0).val, AV.sl none (p.test.getD i flt0).sub.length (fltsC (p.test.getD i flt0).sub) Own.no.tree, AV.sl none (p.test.getD i flt0).way.length (pthsC (p.test.getD i flt0).way) Own.no.tree], AV.int .i64 (IntKind.i64.wrap (m - n))]))) (.head (pt Tryd.f48 1) ({ tmps := [(1, AV.int .i64 m), (2, AV.ptr 2 0), (5, AV.int .i64 (IntKind.i64.wrap (n + exI Tryd.prog (65 : FuncId) [AV.agg [AV.int .i64 (p.test.getD i flt0).op, AV.str (p.test.getD i flt0).nm.sp, AV.str (p.test.getD i flt0).nm.lo, AV.str (p.test.getD i flt0).val, AV.sl none (p.test.getD i flt0).sub.length (fltsC (p.test.getD i flt0).sub) Own.no.tree, AV.sl none (p.test.getD i flt0).way.length (pthsC (p.test.getD i flt0).way) Own.no.tree], AV.int .i64 (IntKind.i64.wrap (m - n))]))), (7, AV.int .i64 (IntKind.i64.wrap ((↑i : Int) + (1 : Int))))], heap := [(2, .var true (pthL p))], tags := [] }))))) (.ob (n = x) (.tt))) (.ob (n = x) (.tt))) := by
      simp only [PT.holds, Int.toNat_natCast, fltsC_len]
      by_cases hi : i < p.test.length
      · have w2 : IntKind.i64.wrap ((i : Int) + 1) = ((i + 1 : Nat) : Int) := by rw [i64_wrap (by omega) (by omega)]; rfl
        simp only [w2]
        (repeat' first | exact ⟨_, triv, rfl, trivial⟩ | exact ⟨_, triv, rfl⟩ | refine ex_split (fun _ => ?_) (fun _ => ?_) | refine ex_ob ?_ ?_)
        all_goals first | exact ih hi _ | exact exI_ctr (hc hi _) | omega | ((try simp only [Nat.add_assoc, Nat.reduceAdd, Nat.add_zero]) <;> first | (rw [ats_take _ _ _ _ hi (by decide)]; rfl) | (rw [pths_take _ _ _ _ hi (by decide)]; rfl) | (rw [flts_take _ _ _ _ hi (by decide)]; rfl) | (rw [ats_take0 _ _ _ hi (by decide)]; rfl) | (rw [pths_take0 _ _ _ hi (by decide)]; rfl) | (rw [flts_take0 _ _ _ hi (by decide)]; rfl))
      · (repeat' first | exact ⟨_, triv, rfl, trivial⟩ | exact ⟨_, triv, rfl⟩ | refine ex_split (fun _ => ?_) (fun _ => ?_) | refine ex_ob ?_ ?_)
        all_goals first | omega | (exfalso; (first | omega | (simp only [decide_eq_true_eq, decide_eq_false_iff_not, Bool.not_eq_true', Bool.not_eq_false'] at *; omega)))
    obtain ⟨x, hR, hx⟩ := H
    exact ⟨x, hR, HT.walk Γ_ok mo_ok (⟨([(25, .val (.agg (pthL (p.sub.getD i pth0)))), (48, .val (.agg (fltL (p.test.getD i flt0))))] ++ annM), sp48, hd48 [] [] [] [], [], .pure [] (.int .i64 x)⟩ : Wk) 4000 (by kernel_rfl) hx⟩
theorem sizeP_h0 (p : Pth) (m n : Int) (i : Nat) (hl : p.sub.length ≤ 1048600) (hc : i < p.sub.length → ∀ m, ∃ x : Int, Triv ∧ Ctr Tryd.prog 48 [.agg (pthL (p.sub.getD i pth0)), .int .i64 m] (.int .i64 x)) (ih : i < p.sub.length → ∀ n', ∃ x : Int, (Triv) ∧ HT Tryd.prog Tryd.f48.ntmps (pt Tryd.f48 0) (stP0 p m n' (i + 1)) (EndsA Γ (.pure [] (.int .i64 x)) Tryd.f48)) (k1 : ∀ n', ∃ x : Int, (Triv) ∧ HT Tryd.prog Tryd.f48.ntmps (pt Tryd.f48 1) (stP1 p m n' 0) (EndsA Γ (.pure [] (.int .i64 x)) Tryd.f48)) : ∃ x : Int, (Triv) ∧ HT Tryd.prog Tryd.f48.ntmps (pt Tryd.f48 0) (stP0 p m n i) (EndsA Γ (.pure [] (.int .i64 x)) Tryd.f48) := by
    have H : ∃ x : Int, (Triv) ∧ PT.holds Tryd.prog Tryd.f48.ntmps (EndsA Γ (.pure [] (.int .i64 x)) Tryd.f48) (.split (decide ((↑i : Int) < (↑p.sub.length : Int))) (.split (decide (n ≤ m)) (.ob ((0 : Int) ≤ (↑i : Int) ∧ (↑i : Int) < (↑p.sub.length : Int) ∧ (↑i : Int).toNat * (3 : Nat) < (pthsC p.sub).length) (.ob (List.take (3 : Nat) (List.drop ((↑i : Int).toNat * (3 : Nat)) (pthsC p.sub)) = (pthL (p.sub.getD i pth0))) (.ob (Ctr Tryd.prog 48 [AV.agg (pthL (p.sub.getD i pth0)), AV.int .i64 (IntKind.i64.wrap (m - n))] (AV.int .i64 (exI Tryd.prog (48 : FuncId) [AV.agg [AV.int .i64 (p.sub.getD i pth0).op, AV.sl none (p.sub.getD i pth0).sub.length (pthsC (p.sub.getD i pth0).sub) Own.no.tree, AV.sl none (p.sub.getD i pth0).test.length (fltsC (p.sub.getD i pth0).test) Own.no.tree], AV.int .i64 (IntKind.i64.wrap (m - n))]))) (.head (pt Tryd.f48 0) ({ tmps := [(1, AV.int .i64 m), (2, AV.ptr 2 0), (5, AV.int .i64 (IntKind.i64.wrap (n + exI Tryd.prog (48 : FuncId) [AV.agg [AV.int .i64 (p.sub.getD i pth0).op, AV.sl none (p.sub.getD i pth0).sub.length (pthsC (p.sub.getD i pth0).sub) Own.no.tree, AV.sl none (p.sub.getD i pth0).test.length (fltsC (p.sub.getD i pth0).test) Own.no.tree], AV.int .i64 (IntKind.i64.wrap (m - n))]))), (6, AV.int .i64 (IntKind.i64.wrap ((↑i : Int) + (1 : Int))))], heap := [(2, .var true (pthL p))], tags := [] }))))) (.head (pt Tryd.f48 1) ({ tmps := [(1, AV.int .i64 m), (2, AV.ptr 2 0), (5, AV.int .i64 n), (7, AV.int .i64 (0 : Int))], heap := [(2, .var true (pthL p))], tags := [] }))) (.head (pt Tryd.f48 1) ({ tmps := [(1, AV.int .i64 m), (2, AV.ptr 2 0), (5, AV.int .i64 n), (7, AV.int .i64 (0 : Int))], heap := [(2, .var true (pthL p))], tags := [] }))) := by
      simp only [PT.holds, Int.toNat_natCast, pthsC_len]
      by_cases hi : i < p.sub.length
      · have w2 : IntKind.i64.wrap ((i : Int) + 1) = ((i + 1 : Nat) : Int) := by rw [i64_wrap (by omega) (by omega)]; rfl
        simp only [w2]
        (repeat' first | exact ⟨_, triv, rfl, trivial⟩ | exact ⟨_, triv, rfl⟩ | refine ex_split (fun _ => ?_) (fun _ => ?_) | refine ex_ob ?_ ?_)
        all_goals first | exact ih hi _ | exact exI_ctr (hc hi _) | omega | ((try simp only [Nat.add_assoc, Nat.reduceAdd, Nat.add_zero]) <;> first | (rw [ats_take _ _ _ _ hi (by decide)]; rfl) | (rw [pths_take _ _ _ _ hi (by decide)]; rfl) | (rw [flts_take _ _ _ _ hi (by decide)]; rfl) | (rw [ats_take0 _ _ _ hi (by decide)]; rfl) | (rw [pths_take0 _ _ _ hi (by decide)]; rfl) | (rw [flts_take0 _ _ _ hi (by decide)]; rfl)) | exact k1 _
      · (repeat' first | exact ⟨_, triv, rfl, trivial⟩ | exact ⟨_, triv, rfl⟩ | refine ex_split (fun _ => ?_) (fun _ => ?_) | refine ex_ob ?_ ?_)
        all_goals first | omega | exact k1 _ | (exfalso; (first | omega | (simp only [decide_eq_true_eq, decide_eq_false_iff_not, Bool.not_eq_true', Bool.not_eq_false'] at *; omega)))
    obtain ⟨x, hR, hx⟩ := H
    exact ⟨x, hR, HT.walk Γ_ok mo_ok (⟨([(25, .val (.agg (pthL (p.sub.getD i pth0)))), (48, .val (.agg (fltL (p.test.getD i flt0))))] ++ annM), sp48, hd48 [] [] [] [], [], .pure [] (.int .i64 x)⟩ : Wk) 4000 (by kernel_rfl) hx⟩
theorem sizeP_l1 (p : Pth) (m : Int) (hl : p.test.length ≤ 1048600) (hc : ∀ q ∈ p.test, ∀ m, ∃ x : Int, Triv ∧ Ctr Tryd.prog 65 [.agg (fltL q), .int .i64 m] (.int .i64 x)) : ∀ d i n, p.test.length ≤ i + d → ∃ x : Int, (Triv) ∧ HT Tryd.prog Tryd.f48.ntmps (pt Tryd.f48 1) (stP1 p m n i) (EndsA Γ (.pure [] (.int .i64 x)) Tryd.f48) := by
  intro d
  induction d with
  | zero => exact fun i n h => sizeP_h1 p m n i hl (fun hi => by omega) (fun hi => by omega)
  | succ d ih => exact fun i n h => sizeP_h1 p m n i hl (fun hi => hc _ (getD_mem _ _ _ hi)) (fun hi n' => ih (i + 1) n' (by omega))
theorem sizeP_l0 (p : Pth) (m : Int) (hl : p.sub.length ≤ 1048600) (hc : ∀ q ∈ p.sub, ∀ m, ∃ x : Int, Triv ∧ Ctr Tryd.prog 48 [.agg (pthL q), .int .i64 m] (.int .i64 x)) (k1 : ∀ n', ∃ x : Int, (Triv) ∧ HT Tryd.prog Tryd.f48.ntmps (pt Tryd.f48 1) (stP1 p m n' 0) (EndsA Γ (.pure [] (.int .i64 x)) Tryd.f48)) : ∀ d i n, p.sub.length ≤ i + d → ∃ x : Int, (Triv) ∧ HT Tryd.prog Tryd.f48.ntmps (pt Tryd.f48 0) (stP0 p m n i) (EndsA Γ (.pure [] (.int .i64 x)) Tryd.f48) := by
  intro d
  induction d with
  | zero => exact fun i n h => sizeP_h0 p m n i hl (fun hi => by omega) (fun hi => by omega) k1
  | succ d ih => exact fun i n h => sizeP_h0 p m n i hl (fun hi => hc _ (getD_mem _ _ _ hi)) (fun hi n' => ih (i + 1) n' (by omega)) k1

theorem sizeP_ex0 (p : Pth) (m : Int) (hok : p.ok) (hc1 : ∀ q ∈ p.sub, ∀ m, ∃ x : Int, Triv ∧ Ctr Tryd.prog 48 [.agg (pthL q), .int .i64 m] (.int .i64 x)) (hc2 : ∀ q ∈ p.test, ∀ m, ∃ x : Int, Triv ∧ Ctr Tryd.prog 65 [.agg (fltL q), .int .i64 m] (.int .i64 x)) : ∃ x : Int, (Triv) ∧ Ctr Tryd.prog 48 [.agg (pthL p), .int .i64 m] (.int .i64 x) := by
    have H : ∃ x : Int, (Triv) ∧ PT.holds Tryd.prog Tryd.f48.ntmps (EndsA Γ (.pure [] (.int .i64 x)) Tryd.f48) (.head (pt Tryd.f48 0) ({ tmps := [(1, AV.int .i64 m), (2, AV.ptr 2 0), (5, AV.int .i64 (1 : Int)), (6, AV.int .i64 (0 : Int))], heap := [(2, .var true (pthL p))], tags := [] })) := by
      simp only [PT.holds]
      have ho := Pth.ok_i hok
      exact sizeP_l0 p m ho.1 hc1 (fun n' => sizeP_l1 p m ho.2.1 hc2 _ 0 n' (Nat.le_of_eq (Nat.zero_add _).symm)) _ 0 1 (Nat.le_of_eq (Nat.zero_add _).symm)
    obtain ⟨x, hR, hx⟩ := H
    exact ⟨x, hR, Ctr.mk Γ_ok Tryd.func48 (by kernel_rfl) Tryd.call48 [] (by kernel_rfl) (HT.walk Γ_ok mo_ok (⟨annM, sp48, hd48 [] [] [] [], [], .pure [] (.int .i64 x)⟩ : Wk) 4000 (by kernel_rfl) hx)⟩
def stQ0 (p : Flt) (m n : Int) (i : Nat) : AS := ⟨[(1, .int .i64 m), (2, .ptr 2 0), (5, .int .i64 n), (6, .int .i64 i)], [(2, .var true (fltL p))], []⟩
def stQ1 (p : Flt) (m n : Int) (i : Nat) : AS := ⟨[(1, .int .i64 m), (2, .ptr 2 0), (5, .int .i64 n), (7, .int .i64 i)], [(2, .var true (fltL p))], []⟩
theorem sizeQ_h1 (p : Flt) (m n : Int) (i : Nat) (hl : p.way.length ≤ 1048600) (hc : i < p.way.length → ∀ m, ∃ x : Int, Triv ∧ Ctr Tryd.prog 48 [.agg (pthL (p.way.getD i pth0)), .int .i64 m] (.int .i64 x)) (ih : i < p.way.length → ∀ n', ∃ x : Int, (Triv) ∧ HT Tryd.prog Tryd.f65.ntmps (pt Tryd.f65 1) (stQ1 p m n' (i + 1)) (EndsA Γ (.pure [] (.int .i64 x)) Tryd.f65)) : ∃ x : Int, (Triv) ∧ HT Tryd.prog Tryd.f65.ntmps (pt Tryd.f65 1) (stQ1 p m n i) (EndsA Γ (.pure [] (.int .i64 x)) Tryd.f65) := by
    have H : ∃ x : Int, (Triv) ∧ PT.holds Tryd.prog Tryd.f65.ntmps (EndsA Γ (.pure [] (.int .i64 x)) Tryd.f65) (.split (decide ((↑i : Int) < (↑p.way.length : Int))) (.split (decide (n ≤ m)) (.ob ((0 : Int) ≤ (↑i : Int) ∧ (↑i : Int) < (↑p.way.length : Int) ∧ (↑i : Int).toNat * (3 : Nat) < (pthsC p.way).length) (.ob (List.take (3 : Nat) (List.drop ((↑i : Int).toNat * (3 : Nat)) (pthsC p.way)) = (pthL (p.way.getD i pth0))) (.ob (Ctr Tryd.prog 48 [AV.agg (pthL (p.way.getD i pth0)), AV.int .i64 (IntKind.i64.wrap (m - n))] (AV.int .i64 (exI Tryd.prog (48 : FuncId) [AV.agg [AV.int .i64 (p.way.getD i pth0).op, AV.sl none (p.way.getD i pth0).sub.length (pthsC (p.way.getD i pth0).sub) Own.no.tree, AV.sl none (p.way.getD i pth0).test.length (fltsC (p.way.getD i pth0).test) Own.no.tree], AV.int .i64 (IntKind.i64.wrap (m - n))]))) (.head (pt Tryd.f65 1) ({ tmps := [(1, AV.int .i64 m), (2, AV.ptr 2 0), (5, AV.int .i64 (IntKind.i64.wrap (n + exI Tryd.prog (48 : FuncId) [AV.agg [AV.int .i64 (p.way.getD i pth0).op, AV.sl none (p.way.getD i pth0).sub.length (pthsC (p.way.getD i pth0).sub) Own.no.tree, AV.sl none (p.way.getD i pth0).test.length (fltsC (p.way.getD i pth0).test) Own.no.tree], AV.int .i64 (IntKind.i64.wrap (m - n))]))), (7, AV.int .i64 (IntKind.i64.wrap ((↑i : Int) + (1 : Int))))], heap := [(2, .var true (fltL p))], tags := [] }))))) (.ob (n = x) (.tt))) (.ob (n = x) (.tt))) := by
      simp only [PT.holds, Int.toNat_natCast, pthsC_len]
      by_cases hi : i < p.way.length
      · have w2 : IntKind.i64.wrap ((i : Int) + 1) = ((i + 1 : Nat) : Int) := by rw [i64_wrap (by omega) (by omega)]; rfl
        simp only [w2]
        (repeat' first | exact ⟨_, triv, rfl, trivial⟩ | exact ⟨_, triv, rfl⟩ | refine ex_split (fun _ => ?_) (fun _ => ?_) | refine ex_ob ?_ ?_)
        all_goals first | exact ih hi _ | exact exI_ctr (hc hi _) | omega | ((try simp only [Nat.add_assoc, Nat.reduceAdd, Nat.add_zero]) <;> first | (rw [ats_take _ _ _ _ hi (by decide)]; rfl) | (rw [pths_take _ _ _ _ hi (by decide)]; rfl) | (rw [flts_take _ _ _ _ hi (by decide)]; rfl) | (rw [ats_take0 _ _ _ hi (by decide)]; rfl) | (rw [pths_take0 _ _ _ hi (by decide)]; rfl) | (rw [flts_take0 _ _ _ hi (by decide)]; rfl))
      · (repeat' first | exact ⟨_, triv, rfl, trivial⟩ | exact ⟨_, triv, rfl⟩ | refine ex_split (fun _ => ?_) (fun _ => ?_) | refine ex_ob ?_ ?_)
        all_goals first | omega | (exfalso; (first | omega | (simp only [decide_eq_true_eq, decide_eq_false_iff_not, Bool.not_eq_true', Bool.not_eq_false'] at *; omega)))
    obtain ⟨x, hR, hx⟩ := H
    exact ⟨x, hR, HT.walk Γ_ok mo_ok (⟨([(25, .val (.agg (fltL (p.sub.getD i flt0)))), (48, .val (.agg (pthL (p.way.getD i pth0))))] ++ annM), sp65, hd65 [] [] [] [], [], .pure [] (.int .i64 x)⟩ : Wk) 4000 (by kernel_rfl) hx⟩
theorem sizeQ_h0 (p : Flt) (m n : Int) (i : Nat) (hl : p.sub.length ≤ 1048600) (hc : i < p.sub.length → ∀ m, ∃ x : Int, Triv ∧ Ctr Tryd.prog 65 [.agg (fltL (p.sub.getD i flt0)), .int .i64 m] (.int .i64 x)) (ih : i < p.sub.length → ∀ n', ∃ x : Int, (Triv) ∧ HT Tryd.prog Tryd.f65.ntmps (pt Tryd.f65 0) (stQ0 p m n' (i + 1)) (EndsA Γ (.pure [] (.int .i64 x)) Tryd.f65)) (k1 : ∀ n', ∃ x : Int, (Triv) ∧ HT Tryd.prog Tryd.f65.ntmps (pt Tryd.f65 1) (stQ1 p m n' 0) (EndsA Γ (.pure [] (.int .i64 x)) Tryd.f65)) : ∃ x : Int, (Triv) ∧ HT Tryd.prog Tryd.f65.ntmps (pt Tryd.f65 0) (stQ0 p m n i) (EndsA Γ (.pure [] (.int .i64 x)) Tryd.f65) := by
    have H : ∃ x : Int, (Triv) ∧ PT.holds Tryd.prog Tryd.f65.ntmps (EndsA Γ (.pure [] (.int .i64 x)) Tryd.f65) (.split (decide ((↑i : Int) < (↑p.sub.length : Int))) (.split (decide (n ≤ m)) (.ob ((0 : Int) ≤ (↑i : Int) ∧ (↑i : Int) < (↑p.sub.length : Int) ∧ (↑i : Int).toNat * (6 : Nat) < (fltsC p.sub).length) (.ob (List.take (6 : Nat) (List.drop ((↑i : Int).toNat * (6 : Nat)) (fltsC p.sub)) = (fltL (p.sub.getD i flt0))) (.ob (Ctr Tryd.prog 65 [AV.agg (fltL (p.sub.getD i flt0)), AV.int .i64 (IntKind.i64.wrap (m - n))] (AV.int .i64 (exI Tryd.prog (65 : FuncId) [AV.agg [AV.int .i64 (p.sub.getD i flt0).op, AV.str (p.sub.getD i flt0).nm.sp, AV.str (p.sub.getD i flt0).nm.lo, AV.str (p.sub.getD i flt0).val, AV.sl none (p.sub.getD i flt0).sub.length (fltsC (p.sub.getD i flt0).sub) Own.no.tree, AV.sl none (p.sub.getD i flt0).way.length (pthsC (p.sub.getD i flt0).way) Own.no.tree], AV.int .i64 (IntKind.i64.wrap (m - n))]))) (.head (pt Tryd.f65 0) ({ tmps := [(1, AV.int .i64 m), (2, AV.ptr 2 0), (5, AV.int .i64 (IntKind.i64.wrap (n + exI Tryd.prog (65 : FuncId) [AV.agg [AV.int .i64 (p.sub.getD i flt0).op, AV.str (p.sub.getD i flt0).nm.sp, AV.str (p.sub.getD i flt0).nm.lo, AV.str (p.sub.getD i flt0).val, AV.sl none (p.sub.getD i flt0).sub.length (fltsC (p.sub.getD i flt0).sub) Own.no.tree, AV.sl none (p.sub.getD i flt0).way.length (pthsC (p.sub.getD i flt0).way) Own.no.tree], AV.int .i64 (IntKind.i64.wrap (m - n))]))), (6, AV.int .i64 (IntKind.i64.wrap ((↑i : Int) + (1 : Int))))], heap := [(2, .var true (fltL p))], tags := [] }))))) (.head (pt Tryd.f65 1) ({ tmps := [(1, AV.int .i64 m), (2, AV.ptr 2 0), (5, AV.int .i64 n), (7, AV.int .i64 (0 : Int))], heap := [(2, .var true (fltL p))], tags := [] }))) (.head (pt Tryd.f65 1) ({ tmps := [(1, AV.int .i64 m), (2, AV.ptr 2 0), (5, AV.int .i64 n), (7, AV.int .i64 (0 : Int))], heap := [(2, .var true (fltL p))], tags := [] }))) := by
      simp only [PT.holds, Int.toNat_natCast, fltsC_len]
      by_cases hi : i < p.sub.length
      · have w2 : IntKind.i64.wrap ((i : Int) + 1) = ((i + 1 : Nat) : Int) := by rw [i64_wrap (by omega) (by omega)]; rfl
        simp only [w2]
        (repeat' first | exact ⟨_, triv, rfl, trivial⟩ | exact ⟨_, triv, rfl⟩ | refine ex_split (fun _ => ?_) (fun _ => ?_) | refine ex_ob ?_ ?_)
        all_goals first | exact ih hi _ | exact exI_ctr (hc hi _) | omega | ((try simp only [Nat.add_assoc, Nat.reduceAdd, Nat.add_zero]) <;> first | (rw [ats_take _ _ _ _ hi (by decide)]; rfl) | (rw [pths_take _ _ _ _ hi (by decide)]; rfl) | (rw [flts_take _ _ _ _ hi (by decide)]; rfl) | (rw [ats_take0 _ _ _ hi (by decide)]; rfl) | (rw [pths_take0 _ _ _ hi (by decide)]; rfl) | (rw [flts_take0 _ _ _ hi (by decide)]; rfl)) | exact k1 _
      · (repeat' first | exact ⟨_, triv, rfl, trivial⟩ | exact ⟨_, triv, rfl⟩ | refine ex_split (fun _ => ?_) (fun _ => ?_) | refine ex_ob ?_ ?_)
        all_goals first | omega | exact k1 _ | (exfalso; (first | omega | (simp only [decide_eq_true_eq, decide_eq_false_iff_not, Bool.not_eq_true', Bool.not_eq_false'] at *; omega)))
    obtain ⟨x, hR, hx⟩ := H
    exact ⟨x, hR, HT.walk Γ_ok mo_ok (⟨([(25, .val (.agg (fltL (p.sub.getD i flt0)))), (48, .val (.agg (pthL (p.way.getD i pth0))))] ++ annM), sp65, hd65 [] [] [] [], [], .pure [] (.int .i64 x)⟩ : Wk) 4000 (by kernel_rfl) hx⟩
theorem sizeQ_l1 (p : Flt) (m : Int) (hl : p.way.length ≤ 1048600) (hc : ∀ q ∈ p.way, ∀ m, ∃ x : Int, Triv ∧ Ctr Tryd.prog 48 [.agg (pthL q), .int .i64 m] (.int .i64 x)) : ∀ d i n, p.way.length ≤ i + d → ∃ x : Int, (Triv) ∧ HT Tryd.prog Tryd.f65.ntmps (pt Tryd.f65 1) (stQ1 p m n i) (EndsA Γ (.pure [] (.int .i64 x)) Tryd.f65) := by
  intro d
  induction d with
  | zero => exact fun i n h => sizeQ_h1 p m n i hl (fun hi => by omega) (fun hi => by omega)
  | succ d ih => exact fun i n h => sizeQ_h1 p m n i hl (fun hi => hc _ (getD_mem _ _ _ hi)) (fun hi n' => ih (i + 1) n' (by omega))
theorem sizeQ_l0 (p : Flt) (m : Int) (hl : p.sub.length ≤ 1048600) (hc : ∀ q ∈ p.sub, ∀ m, ∃ x : Int, Triv ∧ Ctr Tryd.prog 65 [.agg (fltL q), .int .i64 m] (.int .i64 x)) (k1 : ∀ n', ∃ x : Int, (Triv) ∧ HT Tryd.prog Tryd.f65.ntmps (pt Tryd.f65 1) (stQ1 p m n' 0) (EndsA Γ (.pure [] (.int .i64 x)) Tryd.f65)) : ∀ d i n, p.sub.length ≤ i + d → ∃ x : Int, (Triv) ∧ HT Tryd.prog Tryd.f65.ntmps (pt Tryd.f65 0) (stQ0 p m n i) (EndsA Γ (.pure [] (.int .i64 x)) Tryd.f65) := by
  intro d
  induction d with
  | zero => exact fun i n h => sizeQ_h0 p m n i hl (fun hi => by omega) (fun hi => by omega) k1
  | succ d ih => exact fun i n h => sizeQ_h0 p m n i hl (fun hi => hc _ (getD_mem _ _ _ hi)) (fun hi n' => ih (i + 1) n' (by omega)) k1

theorem sizeQ_ex0 (p : Flt) (m : Int) (hok : p.ok) (hc1 : ∀ q ∈ p.sub, ∀ m, ∃ x : Int, Triv ∧ Ctr Tryd.prog 65 [.agg (fltL q), .int .i64 m] (.int .i64 x)) (hc2 : ∀ q ∈ p.way, ∀ m, ∃ x : Int, Triv ∧ Ctr Tryd.prog 48 [.agg (pthL q), .int .i64 m] (.int .i64 x)) : ∃ x : Int, (Triv) ∧ Ctr Tryd.prog 65 [.agg (fltL p), .int .i64 m] (.int .i64 x) := by
    have H : ∃ x : Int, (Triv) ∧ PT.holds Tryd.prog Tryd.f65.ntmps (EndsA Γ (.pure [] (.int .i64 x)) Tryd.f65) (.head (pt Tryd.f65 0) ({ tmps := [(1, AV.int .i64 m), (2, AV.ptr 2 0), (5, AV.int .i64 (1 : Int)), (6, AV.int .i64 (0 : Int))], heap := [(2, .var true (fltL p))], tags := [] })) := by
      simp only [PT.holds]
      have ho := Flt.ok_i hok
      exact sizeQ_l0 p m ho.2.2.1 hc1 (fun n' => sizeQ_l1 p m ho.2.2.2.1 hc2 _ 0 n' (Nat.le_of_eq (Nat.zero_add _).symm)) _ 0 1 (Nat.le_of_eq (Nat.zero_add _).symm)
    obtain ⟨x, hR, hx⟩ := H
    exact ⟨x, hR, Ctr.mk Γ_ok Tryd.func65 (by kernel_rfl) Tryd.call65 [] (by kernel_rfl) (HT.walk Γ_ok mo_ok (⟨annM, sp65, hd65 [] [] [] [], [], .pure [] (.int .i64 x)⟩ : Wk) 4000 (by kernel_rfl) hx)⟩
theorem sub_lt (p q : Pth) (h : q ∈ p.sub) : SizeOf.sizeOf q < SizeOf.sizeOf p := by
  cases p
  have := List.sizeOf_lt_of_mem h
  simp only [Pth.sub] at this
  simp
  omega
theorem test_lt (p : Pth) (q : Flt) (h : q ∈ p.test) : SizeOf.sizeOf q < SizeOf.sizeOf p := by
  cases p
  have := List.sizeOf_lt_of_mem h
  simp only [Pth.test] at this
  simp
  omega
theorem fsub_lt (p q : Flt) (h : q ∈ p.sub) : SizeOf.sizeOf q < SizeOf.sizeOf p := by
  cases p
  have := List.sizeOf_lt_of_mem h
  simp only [Flt.sub] at this
  simp
  omega
theorem way_lt (p : Flt) (q : Pth) (h : q ∈ p.way) : SizeOf.sizeOf q < SizeOf.sizeOf p := by
  cases p
  have := List.sizeOf_lt_of_mem h
  simp only [Flt.way] at this
  simp
  omega
mutual
theorem sizeP_ex (p : Pth) (hok : p.ok) (m : Int) : ∃ x : Int, Triv ∧ Ctr Tryd.prog 48 [.agg (pthL p), .int .i64 m] (.int .i64 x) :=
  sizeP_ex0 p m hok (fun q hq m => have := sub_lt p q hq; sizeP_ex q ((Pth.ok_i hok).2.2.1 q hq) m) (fun q hq m => have := test_lt p q hq; sizeQ_ex q ((Pth.ok_i hok).2.2.2 q hq) m)
termination_by SizeOf.sizeOf p
theorem sizeQ_ex (p : Flt) (hok : p.ok) (m : Int) : ∃ x : Int, Triv ∧ Ctr Tryd.prog 65 [.agg (fltL p), .int .i64 m] (.int .i64 x) :=
  sizeQ_ex0 p m hok (fun q hq m => have := fsub_lt p q hq; sizeQ_ex q ((Flt.ok_i hok).2.2.2.2.1 q hq) m) (fun q hq m => have := way_lt p q hq; sizeP_ex q ((Flt.ok_i hok).2.2.2.2.2 q hq) m)
termination_by SizeOf.sizeOf p
end

theorem size_ex (p : Pth) (hok : p.ok) : ∃ x : Int, (Triv) ∧ Ctr Tryd.prog 23 [.agg (pthL p)] (.int .i64 x) := by
    have H : ∃ x : Int, (Triv) ∧ PT.holds Tryd.prog Tryd.f23.ntmps (EndsA Γ (.pure [] (.int .i64 x)) Tryd.f23) (.ob ((3 : Nat) ≤ (3 : Nat)) (.ob (Ctr Tryd.prog 48 [AV.agg (pthL p), AV.int .i64 (64 : Int)] (AV.int .i64 (exI Tryd.prog (48 : FuncId) [AV.agg [AV.int .i64 p.op, AV.sl none p.sub.length (pthsC p.sub) Own.no.tree, AV.sl none p.test.length (fltsC p.test) Own.no.tree], AV.int .i64 (64 : Int)]))) (.ob (exI Tryd.prog (48 : FuncId) [AV.agg [AV.int .i64 p.op, AV.sl none p.sub.length (pthsC p.sub) Own.no.tree, AV.sl none p.test.length (fltsC p.test) Own.no.tree], AV.int .i64 (64 : Int)] = x) (.tt)))) := by
      simp only [PT.holds]
      (repeat' first | exact ⟨_, triv, rfl, trivial⟩ | exact ⟨_, triv, rfl⟩ | refine ex_split (fun _ => ?_) (fun _ => ?_) | refine ex_ob ?_ ?_)
      all_goals first | omega | exact exI_ctr (sizeP_ex p hok _)
    obtain ⟨x, hR, hx⟩ := H
    exact ⟨x, hR, Ctr.mk Γ_ok Tryd.func23 (by kernel_rfl) Tryd.call23 [] (by kernel_rfl) (HT.walk Γ_ok mo_ok (⟨annM, sp23, [], [], .pure [] (.int .i64 x)⟩ : Wk) 4000 (by kernel_rfl) hx)⟩
end Go.Proofs.YteimloiaipiadaaDoor
end

section
set_option linter.unusedVariables false
set_option linter.unusedSimpArgs false
set_option maxRecDepth 100000
namespace Go.Proofs.YteimloiaipiadaaDoor
open Go Go.AX

/-- What an event bears, by its kind. -/
structure Ev.nd (e : Ev) : Prop where
  text : e.kind = 2 → e.nm = nm0 ∧ e.attrs = []
  elem : e.kind ≠ 2 → e.text = ⟨#[]⟩
theorem ev_len0 {e : Ev} (h : decide ((e.attrs.length : Int) = 0) = true) : e.attrs = [] := List.eq_nil_of_length_eq_zero (by have := of_decide_eq_true h; omega)
theorem ev_nm0 {e : Ev} (h : (decide (e.nm.sp = ⟨#[]⟩) && (decide (e.nm.lo = ⟨#[]⟩) && true)) = true) : e.nm = nm0 := by
  cases e with
  | mk k n a t =>
    cases n
    simp only [Bool.and_true, Bool.and_eq_true, decide_eq_true_eq] at h
    simp only [nm0, Nm.mk.injEq]
    exact h
theorem evr_none {e : Ev} (h : e.attrs = []) (hk : e.kind = 1 ∨ e.kind = 2 ∨ e.kind = 3) : EvR e := ⟨hk, fun j k h1 h2 h3 => by rw [h] at h3; simp at h3⟩

theorem named12b_ex (n : Nm) (hn : n.ok) : ∃ x : Bool, (x = true → NmOk n) ∧ Ctr Tryd.prog 66 [.agg (nmC n)] (.bool x) := by
    have H : ∃ x : Bool, (x = true → NmOk n) ∧ PT.holds Tryd.prog Tryd.f66.ntmps (EndsA Γ (.pure [] (.bool x)) Tryd.f66) (.split (!decide (n.sp = (ByteArray.mk #[(104 : UInt8), (116 : UInt8), (116 : UInt8), (112 : UInt8), (58 : UInt8), (47 : UInt8), (47 : UInt8), (119 : UInt8), (119 : UInt8), (119 : UInt8), (46 : UInt8), (119 : UInt8), (51 : UInt8), (46 : UInt8), (111 : UInt8), (114 : UInt8), (103 : UInt8), (47 : UInt8), (50 : UInt8), (48 : UInt8), (48 : UInt8), (48 : UInt8), (47 : UInt8), (120 : UInt8), (109 : UInt8), (108 : UInt8), (110 : UInt8), (115 : UInt8), (47 : UInt8)]))) (.ob (Ctr Tryd.prog 64 [AV.str n.lo] (AV.bool (exB Tryd.prog (64 : FuncId) [AV.str n.lo]))) (.split (exB Tryd.prog (64 : FuncId) [AV.str n.lo]) (.ob (Ctr Tryd.prog 46 [AV.str n.lo] (AV.bool (exB Tryd.prog (46 : FuncId) [AV.str n.lo]))) (.split (exB Tryd.prog (46 : FuncId) [AV.str n.lo]) (.ob (Ctr Tryd.prog 46 [AV.str n.sp] (AV.bool (exB Tryd.prog (46 : FuncId) [AV.str n.sp]))) (.split (exB Tryd.prog (46 : FuncId) [AV.str n.sp]) (.ob (Ctr Tryd.prog 78 [AV.str n.sp, AV.int .i64 (0 : Int), AV.str (ByteArray.mk #[(123 : UInt8)])] (AV.int .i64 (exI Tryd.prog (78 : FuncId) [AV.str n.sp, AV.int .i64 (0 : Int), AV.str (ByteArray.mk #[(123 : UInt8)])]))) (.split (decide (exI Tryd.prog (78 : FuncId) [AV.str n.sp, AV.int .i64 (0 : Int), AV.str (ByteArray.mk #[(123 : UInt8)])] < (0 : Int))) (.ob (Ctr Tryd.prog 78 [AV.str n.sp, AV.int .i64 (0 : Int), AV.str (ByteArray.mk #[(125 : UInt8)])] (AV.int .i64 (exI Tryd.prog (78 : FuncId) [AV.str n.sp, AV.int .i64 (0 : Int), AV.str (ByteArray.mk #[(125 : UInt8)])]))) (.ob (decide (exI Tryd.prog (78 : FuncId) [AV.str n.sp, AV.int .i64 (0 : Int), AV.str (ByteArray.mk #[(125 : UInt8)])] < (0 : Int)) = x) (.tt))) (.ob (false = x) (.tt)))) (.ob (false = x) (.tt)))) (.ob (false = x) (.tt)))) (.ob (false = x) (.tt)))) (.ob (false = x) (.tt))) := by
      simp only [PT.holds]
      (repeat' first | exact ⟨_, triv, rfl, trivial⟩ | exact ⟨_, triv, rfl⟩ | refine ex_split (fun _ => ?_) (fun _ => ?_) | refine ex_ob ?_ ?_)
      all_goals first | exact exB_ctr (plain_ex _ hn.2) | exact exB_ctr (right_ex _ hn.1) | exact exB_ctr (right_ex _ hn.2) | exact exI_ctr (find_ex _ _ hn.1 (by decide)) | (first | exact ⟨_, (fun h => absurd h (by decide)), rfl, trivial⟩ | exact ⟨_, (fun h => absurd h (by decide)), rfl⟩) | (first | exact ⟨_, (fun _ => ⟨by have h1 := ‹(!decide (n.sp = _)) = true›; simpa [xmlnsB] using h1, by assumption, by assumption, by assumption⟩), rfl, trivial⟩ | exact ⟨_, (fun _ => ⟨by have h1 := ‹(!decide (n.sp = _)) = true›; simpa [xmlnsB] using h1, by assumption, by assumption, by assumption⟩), rfl⟩)
    obtain ⟨x, hR, hx⟩ := H
    exact ⟨x, hR, Ctr.mk Γ_ok Tryd.func66 (by kernel_rfl) Tryd.call66 [] (by kernel_rfl) (HT.walk Γ_ok mo_ok (⟨annL, sp66, [], [], .pure [] (.bool x)⟩ : Wk) 4000 (by kernel_rfl) hx)⟩
theorem evr2_ex (e : Ev) (he : e.ok) : ∃ x : Bool, (x = true → EvR e ∧ e.nd) ∧ Ctr Tryd.prog 22 [.agg (evC e)] (.bool x) := by
    have H : ∃ x : Bool, (x = true → EvR e ∧ e.nd) ∧ PT.holds Tryd.prog Tryd.f22.ntmps (EndsA Γ (.pure [] (.bool x)) Tryd.f22) (.ob ((3 : Nat) ≤ (5 : Nat)) (.split (decide (e.nm.sp = (ByteArray.mk #[])) && (decide (e.nm.lo = (ByteArray.mk #[])) && true)) (.split (decide (e.kind = (2 : Int))) (.split (decide ((↑e.attrs.length : Int) = (0 : Int))) (.split (!decide (e.text = (ByteArray.mk #[]))) (.ob (Ctr Tryd.prog 46 [AV.str e.text] (AV.bool (exB Tryd.prog (46 : FuncId) [AV.str e.text]))) (.ob (exB Tryd.prog (46 : FuncId) [AV.str e.text] = x) (.tt))) (.ob (false = x) (.tt))) (.ob (false = x) (.tt))) (.split (decide (e.kind = (3 : Int))) (.split (decide ((↑e.attrs.length : Int) = (0 : Int))) (.ob (decide (e.text = (ByteArray.mk #[])) = x) (.tt)) (.ob (false = x) (.tt))) (.split (!decide (e.kind = (1 : Int))) (.ob (false = x) (.tt)) (.split (!decide (e.text = (ByteArray.mk #[]))) (.ob (false = x) (.tt)) (.ob ((3 : Nat) ≤ (5 : Nat)) (.ob (Ctr Tryd.prog 47 [AV.agg [AV.str e.nm.sp, AV.str e.nm.lo]] (AV.bool (exB Tryd.prog (47 : FuncId) [AV.agg [AV.str e.nm.sp, AV.str e.nm.lo]]))) (.split (exB Tryd.prog (47 : FuncId) [AV.agg [AV.str e.nm.sp, AV.str e.nm.lo]]) (.split (decide ((32 : Int) < (↑e.attrs.length : Int))) (.ob (false = x) (.tt)) (.head (pt Tryd.f22 0) ({ tmps := [(1, AV.ptr 1 0), (4, AV.int .i64 (0 : Int))], heap := [(1, .var true (evC e))], tags := [] }))) (.ob (false = x) (.tt))))))))) (.split (decide (e.kind = (2 : Int))) (.split (false) (.split (!decide (e.text = (ByteArray.mk #[]))) (.ob (Ctr Tryd.prog 46 [AV.str e.text] (AV.bool (exB Tryd.prog (46 : FuncId) [AV.str e.text]))) (.ob (exB Tryd.prog (46 : FuncId) [AV.str e.text] = x) (.tt))) (.ob (false = x) (.tt))) (.ob (false = x) (.tt))) (.split (decide (e.kind = (3 : Int))) (.split (false) (.ob (decide (e.text = (ByteArray.mk #[])) = x) (.tt)) (.ob (false = x) (.tt))) (.split (!decide (e.kind = (1 : Int))) (.ob (false = x) (.tt)) (.split (!decide (e.text = (ByteArray.mk #[]))) (.ob (false = x) (.tt)) (.ob ((3 : Nat) ≤ (5 : Nat)) (.ob (Ctr Tryd.prog 47 [AV.agg [AV.str e.nm.sp, AV.str e.nm.lo]] (AV.bool (exB Tryd.prog (47 : FuncId) [AV.agg [AV.str e.nm.sp, AV.str e.nm.lo]]))) (.split (exB Tryd.prog (47 : FuncId) [AV.agg [AV.str e.nm.sp, AV.str e.nm.lo]]) (.split (decide ((32 : Int) < (↑e.attrs.length : Int))) (.ob (false = x) (.tt)) (.head (pt Tryd.f22 0) ({ tmps := [(1, AV.ptr 1 0), (4, AV.int .i64 (0 : Int))], heap := [(1, .var true (evC e))], tags := [] }))) (.ob (false = x) (.tt))))))))))) := by
      simp only [PT.holds, true_implies, Bool.false_eq_true, Bool.true_eq_false, false_implies, true_and, and_true]
      (repeat' first | exact ⟨_, triv, rfl, trivial⟩ | exact ⟨_, triv, rfl⟩ | refine ex_split (fun _ => ?_) (fun _ => ?_) | refine ex_ob ?_ ?_)
      all_goals first | exact exB_ctr (right_ex _ he.2.1) | exact exB_ctr (named9_ex _ he.1) | omega | (first | exact ⟨_, (fun h => absurd h (by decide)), rfl, trivial⟩ | exact ⟨_, (fun h => absurd h (by decide)), rfl⟩) | (first | exact ⟨_, (fun _ => ⟨evr_none (ev_len0 (by assumption)) (.inr (.inl (of_decide_eq_true ‹decide (e.kind = 2) = true›))), ⟨fun _ => ⟨ev_nm0 (by assumption), ev_len0 (by assumption)⟩, fun h => absurd (of_decide_eq_true ‹decide (e.kind = 2) = true›) h⟩⟩), rfl, trivial⟩ | exact ⟨_, (fun _ => ⟨evr_none (ev_len0 (by assumption)) (.inr (.inl (of_decide_eq_true ‹decide (e.kind = 2) = true›))), ⟨fun _ => ⟨ev_nm0 (by assumption), ev_len0 (by assumption)⟩, fun h => absurd (of_decide_eq_true ‹decide (e.kind = 2) = true›) h⟩⟩), rfl⟩) | (first | exact ⟨_, (fun h => ⟨evr_none (ev_len0 (by assumption)) (.inr (.inr (of_decide_eq_true ‹decide (e.kind = 3) = true›))), ⟨fun h2 => absurd h2 (of_decide_eq_false ‹decide (e.kind = 2) = false›), fun _ => of_decide_eq_true h⟩⟩), rfl, trivial⟩ | exact ⟨_, (fun h => ⟨evr_none (ev_len0 (by assumption)) (.inr (.inr (of_decide_eq_true ‹decide (e.kind = 3) = true›))), ⟨fun h2 => absurd h2 (of_decide_eq_false ‹decide (e.kind = 2) = false›), fun _ => of_decide_eq_true h⟩⟩), rfl⟩) | exact ex_imp (evr_l0 e he (by simpa using ‹(!decide (e.kind = 1)) = false›) e.attrs.length 0 (by omega)) (fun x hx h => ⟨hx h, ⟨fun h2 => absurd h2 (of_decide_eq_false ‹decide (e.kind = 2) = false›), fun _ => by simpa using ‹(!decide (e.text = _)) = false›⟩⟩)
    obtain ⟨x, hR, hx⟩ := H
    exact ⟨x, hR, Ctr.mk Γ_ok Tryd.func22 (by kernel_rfl) Tryd.call22 [] (by kernel_rfl) (HT.walk Γ_ok mo_ok (⟨annL, sp22, hd22 [] [] [] [], dsp22, .pure [] (.bool x)⟩ : Wk) 4000 (by kernel_rfl) hx)⟩
end Go.Proofs.YteimloiaipiadaaDoor
end

section
set_option linter.unusedVariables false
set_option linter.unusedSimpArgs false
set_option maxRecDepth 100000
namespace Go.Proofs.YteimloiaipiadaaDoor
open Go Go.AX

theorem nm_chk (n : Nm) : (decide (n.sp = ⟨#[]⟩) && (decide (n.lo = ⟨#[]⟩) && true)) = decide (n = nm0) := by
  cases n
  simp only [Bool.and_true, nm0, Nm.mk.injEq, Bool.decide_and]
theorem f5_of (p : Flt) (hn : Bool) (hni : hn = true ↔ 4 ≤ p.op ∧ p.op ≤ 6) (h : (!hn == !decide (p.nm = nm0)) = false) (hx : hn = true → NmOk p.nm) : ((4 ≤ p.op ∧ p.op ≤ 6) ↔ p.nm ≠ nm0) ∧ (4 ≤ p.op ∧ p.op ≤ 6 → NmOk p.nm) := by
  refine ⟨?_, fun hh => hx (hni.2 hh)⟩
  rw [← hni]
  by_cases e : p.nm = nm0
  · cases hn <;> simp_all
  · cases hn <;> simp_all
def stPa (p : Pth) (m : Int) (i : Nat) : AS := ⟨[(1, .int .i64 m), (2, .ptr 2 0), (7, .int .i64 i)], [(2, .var true (pthL p))], []⟩
def stPf (p : Flt) (m : Int) (i : Nat) : AS := ⟨[(1, .int .i64 m), (2, .ptr 2 0), (9, .int .i64 i)], [(2, .var true (fltL p))], []⟩
def stG (p : Flt) (m lo hi : Int) : AS := ⟨[(1, .int .i64 m), (2, .ptr 2 0), (7, .int .i64 lo), (8, .int .i64 hi)], [(2, .var true (fltL p))], []⟩
def stG9 (p : Flt) (m : Int) : AS := ⟨[(1, .int .i64 m), (2, .ptr 2 0)], [(2, .var true (fltL p))], []⟩
def stG7 (p : Flt) (m : Int) (hv : Bool) : AS := ⟨[(1, .int .i64 m), (2, .ptr 2 0), (6, .bool hv)], [(2, .var true (fltL p))], []⟩
def stG5 (p : Flt) (m : Int) (hn hv : Bool) : AS := ⟨[(1, .int .i64 m), (2, .ptr 2 0), (5, .bool hn), (6, .bool hv)], [(2, .var true (fltL p))], []⟩
def stG4 (p : Flt) (m : Int) (hn : Bool) : AS := ⟨[(1, .int .i64 m), (2, .ptr 2 0), (5, .bool hn)], [(2, .var true (fltL p))], []⟩
theorem stPa_h (p : Pth) (m : Int) (i : Nat) (hi : i ≤ p.sub.length) (hl : p.sub.length ≤ 1048600) (h1 : p.r1) (hs : ∀ k, k < i → (p.sub.getD k pth0).r) (b c : Bool) (hb : i < p.sub.length → (b = true → (p.sub.getD i pth0).r) ∧ Ctr Tryd.prog 24 [.agg (pthL (p.sub.getD i pth0)), .int .i64 (IntKind.i64.wrap (m - 1))] (.bool b)) (hc : 0 < p.test.length → (c = true → (p.test.getD 0 flt0).r) ∧ Ctr Tryd.prog 49 [.agg (fltL (p.test.getD 0 flt0)), .int .i64 (IntKind.i64.wrap (m - 1))] (.bool c)) (ih : i < p.sub.length → (p.sub.getD i pth0).r → ∃ x : Bool, (x = true → p.r) ∧ HT Tryd.prog Tryd.f24.ntmps (pt Tryd.f24 0) (stPa p m (i + 1)) (EndsA Γ (.pure [] (.bool x)) Tryd.f24)) : ∃ x : Bool, (x = true → p.r) ∧ HT Tryd.prog Tryd.f24.ntmps (pt Tryd.f24 0) (stPa p m i) (EndsA Γ (.pure [] (.bool x)) Tryd.f24) := by
    have H : ∃ x : Bool, (x = true → p.r) ∧ PT.holds Tryd.prog Tryd.f24.ntmps (EndsA Γ (.pure [] (.bool x)) Tryd.f24) (.split (decide ((↑i : Int) < (↑p.sub.length : Int))) (.ob ((0 : Int) ≤ (↑i : Int) ∧ (↑i : Int) < (↑p.sub.length : Int) ∧ (↑i : Int).toNat * (3 : Nat) < (pthsC p.sub).length) (.ob (List.take (3 : Nat) (List.drop ((↑i : Int).toNat * (3 : Nat)) (pthsC p.sub)) = (pthL (p.sub.getD i pth0))) (.ob (Ctr Tryd.prog 24 [AV.agg (pthL (p.sub.getD i pth0)), AV.int .i64 (IntKind.i64.wrap (m - (1 : Int)))] (AV.bool b)) (.split (b) (.head (pt Tryd.f24 0) ({ tmps := [(1, AV.int .i64 m), (2, AV.ptr 2 0), (7, AV.int .i64 (IntKind.i64.wrap ((↑i : Int) + (1 : Int))))], heap := [(2, .var true (pthL p))], tags := [] })) (.ob (false = x) (.tt)))))) (.split (decide ((↑p.test.length : Int) = (0 : Int))) (.ob (true = x) (.tt)) (.ob ((0 : Int) ≤ (0 : Int) ∧ (0 : Int) < (↑p.test.length : Int) ∧ Int.toNat (0 : Int) * (6 : Nat) < (fltsC p.test).length) (.ob (List.take (6 : Nat) (List.drop (Int.toNat (0 : Int) * (6 : Nat)) (fltsC p.test)) = (fltL (p.test.getD (0 : Nat) flt0))) (.ob (Ctr Tryd.prog 49 [AV.agg (fltL (p.test.getD (0 : Nat) flt0)), AV.int .i64 (IntKind.i64.wrap (m - (1 : Int)))] (AV.bool c)) (.ob (c = x) (.tt))))))) := by
      simp only [PT.holds, Int.toNat_natCast, Int.toNat_zero, pthsC_len, fltsC_len]
      by_cases h : i < p.sub.length
      · have w2 : IntKind.i64.wrap ((i : Int) + 1) = ((i + 1 : Nat) : Int) := by rw [i64_wrap (by omega) (by omega)]; rfl
        have hb' := hb h
        simp only [w2]
        (repeat' first | exact ⟨_, triv, rfl, trivial⟩ | exact ⟨_, triv, rfl⟩ | refine ex_split (fun _ => ?_) (fun _ => ?_) | refine ex_ob ?_ ?_)
        all_goals first | exact ih h (hb'.1 (by assumption)) | exact hb'.2 | (first | exact ⟨_, (fun h => absurd h (by decide)), rfl, trivial⟩ | exact ⟨_, (fun h => absurd h (by decide)), rfl⟩) | (exfalso; (first | omega | (simp only [decide_eq_true_eq, decide_eq_false_iff_not, Bool.not_eq_true', Bool.not_eq_false'] at *; omega))) | omega | ((try simp only [Nat.add_assoc, Nat.reduceAdd, Nat.add_zero]) <;> first | (rw [ats_take _ _ _ _ h (by decide)]; rfl) | (rw [pths_take _ _ _ _ h (by decide)]; rfl) | (rw [flts_take _ _ _ _ h (by decide)]; rfl) | (rw [ats_take0 _ _ _ h (by decide)]; rfl) | (rw [pths_take0 _ _ _ h (by decide)]; rfl) | (rw [flts_take0 _ _ _ h (by decide)]; rfl))
      · have he : i = p.sub.length := by omega
        have hs' : ∀ k, k < p.sub.length → (p.sub.getD k pth0).r := by rw [← he]; exact hs
        by_cases ht : 0 < p.test.length
        · have hc' := hc ht
          (repeat' first | exact ⟨_, triv, rfl, trivial⟩ | exact ⟨_, triv, rfl⟩ | refine ex_split (fun _ => ?_) (fun _ => ?_) | refine ex_ob ?_ ?_)
          all_goals first | exact hc'.2 | (first | exact ⟨_, (fun hh => Pth.r_of h1 hs' (fun _ => hc'.1 hh)), rfl, trivial⟩ | exact ⟨_, (fun hh => Pth.r_of h1 hs' (fun _ => hc'.1 hh)), rfl⟩) | (exfalso; (first | omega | (simp only [decide_eq_true_eq, decide_eq_false_iff_not, Bool.not_eq_true', Bool.not_eq_false'] at *; omega))) | (first | omega | (simp only [decide_eq_true_eq, decide_eq_false_iff_not, Bool.not_eq_true', Bool.not_eq_false', beq_iff_eq, beq_eq_false_iff_ne, decide_eq_decide, ne_eq, Bool.not_eq_eq_eq_not, Bool.not_true, Bool.not_false] at *; omega)) | ((try simp only [Nat.add_assoc, Nat.reduceAdd, Nat.add_zero]) <;> first | (rw [ats_take _ _ _ _ ht (by decide)]; rfl) | (rw [pths_take _ _ _ _ ht (by decide)]; rfl) | (rw [flts_take _ _ _ _ ht (by decide)]; rfl) | (rw [ats_take0 _ _ _ ht (by decide)]; rfl) | (rw [pths_take0 _ _ _ ht (by decide)]; rfl) | (rw [flts_take0 _ _ _ ht (by decide)]; rfl))
        · (repeat' first | exact ⟨_, triv, rfl, trivial⟩ | exact ⟨_, triv, rfl⟩ | refine ex_split (fun _ => ?_) (fun _ => ?_) | refine ex_ob ?_ ?_)
          all_goals first | (first | exact ⟨_, (fun _ => Pth.r_of h1 hs' (fun hh => absurd hh ht)), rfl, trivial⟩ | exact ⟨_, (fun _ => Pth.r_of h1 hs' (fun hh => absurd hh ht)), rfl⟩) | (exfalso; (first | omega | (simp only [decide_eq_true_eq, decide_eq_false_iff_not, Bool.not_eq_true', Bool.not_eq_false'] at *; omega)))
    obtain ⟨x, hR, hx⟩ := H
    exact ⟨x, hR, HT.walk Γ_ok mo_ok (⟨([(70, .val (.agg (pthL (p.sub.getD i pth0)))), (73, .call [] (.bool b)), (83, .val (.agg (fltL (p.test.getD 0 flt0)))), (86, .call [] (.bool c))] ++ annM), sp24, hd24 [] [] [] [], [], .pure [] (.bool x)⟩ : Wk) 4000 (by kernel_rfl) hx⟩
theorem stPf_h (p : Flt) (m : Int) (i : Nat) (hi : i ≤ p.sub.length) (hl : p.sub.length ≤ 1048600) (h1 : p.r1) (hs : ∀ k, k < i → (p.sub.getD k flt0).r) (b c : Bool) (hb : i < p.sub.length → (b = true → (p.sub.getD i flt0).r) ∧ Ctr Tryd.prog 49 [.agg (fltL (p.sub.getD i flt0)), .int .i64 (IntKind.i64.wrap (m - 1))] (.bool b)) (hc : 0 < p.way.length → (c = true → (p.way.getD 0 pth0).r) ∧ Ctr Tryd.prog 24 [.agg (pthL (p.way.getD 0 pth0)), .int .i64 (IntKind.i64.wrap (m - 1))] (.bool c)) (ih : i < p.sub.length → (p.sub.getD i flt0).r → ∃ x : Bool, (x = true → p.r) ∧ HT Tryd.prog Tryd.f49.ntmps (pt Tryd.f49 0) (stPf p m (i + 1)) (EndsA Γ (.pure [] (.bool x)) Tryd.f49)) : ∃ x : Bool, (x = true → p.r) ∧ HT Tryd.prog Tryd.f49.ntmps (pt Tryd.f49 0) (stPf p m i) (EndsA Γ (.pure [] (.bool x)) Tryd.f49) := by
    have H : ∃ x : Bool, (x = true → p.r) ∧ PT.holds Tryd.prog Tryd.f49.ntmps (EndsA Γ (.pure [] (.bool x)) Tryd.f49) (.split (decide ((↑i : Int) < (↑p.sub.length : Int))) (.ob ((0 : Int) ≤ (↑i : Int) ∧ (↑i : Int) < (↑p.sub.length : Int) ∧ (↑i : Int).toNat * (6 : Nat) < (fltsC p.sub).length) (.ob (List.take (6 : Nat) (List.drop ((↑i : Int).toNat * (6 : Nat)) (fltsC p.sub)) = (fltL (p.sub.getD i flt0))) (.ob (Ctr Tryd.prog 49 [AV.agg (fltL (p.sub.getD i flt0)), AV.int .i64 (IntKind.i64.wrap (m - (1 : Int)))] (AV.bool b)) (.split (b) (.head (pt Tryd.f49 0) ({ tmps := [(1, AV.int .i64 m), (2, AV.ptr 2 0), (9, AV.int .i64 (IntKind.i64.wrap ((↑i : Int) + (1 : Int))))], heap := [(2, .var true (fltL p))], tags := [] })) (.ob (false = x) (.tt)))))) (.split (decide ((↑p.way.length : Int) = (0 : Int))) (.ob (true = x) (.tt)) (.ob ((0 : Int) ≤ (0 : Int) ∧ (0 : Int) < (↑p.way.length : Int) ∧ Int.toNat (0 : Int) * (3 : Nat) < (pthsC p.way).length) (.ob (List.take (3 : Nat) (List.drop (Int.toNat (0 : Int) * (3 : Nat)) (pthsC p.way)) = (pthL (p.way.getD (0 : Nat) pth0))) (.ob (Ctr Tryd.prog 24 [AV.agg (pthL (p.way.getD (0 : Nat) pth0)), AV.int .i64 (IntKind.i64.wrap (m - (1 : Int)))] (AV.bool c)) (.ob (c = x) (.tt))))))) := by
      simp only [PT.holds, Int.toNat_natCast, Int.toNat_zero, fltsC_len, pthsC_len]
      by_cases h : i < p.sub.length
      · have w2 : IntKind.i64.wrap ((i : Int) + 1) = ((i + 1 : Nat) : Int) := by rw [i64_wrap (by omega) (by omega)]; rfl
        have hb' := hb h
        simp only [w2]
        (repeat' first | exact ⟨_, triv, rfl, trivial⟩ | exact ⟨_, triv, rfl⟩ | refine ex_split (fun _ => ?_) (fun _ => ?_) | refine ex_ob ?_ ?_)
        all_goals first | exact ih h (hb'.1 (by assumption)) | exact hb'.2 | (first | exact ⟨_, (fun h => absurd h (by decide)), rfl, trivial⟩ | exact ⟨_, (fun h => absurd h (by decide)), rfl⟩) | (exfalso; (first | omega | (simp only [decide_eq_true_eq, decide_eq_false_iff_not, Bool.not_eq_true', Bool.not_eq_false'] at *; omega))) | omega | ((try simp only [Nat.add_assoc, Nat.reduceAdd, Nat.add_zero]) <;> first | (rw [ats_take _ _ _ _ h (by decide)]; rfl) | (rw [pths_take _ _ _ _ h (by decide)]; rfl) | (rw [flts_take _ _ _ _ h (by decide)]; rfl) | (rw [ats_take0 _ _ _ h (by decide)]; rfl) | (rw [pths_take0 _ _ _ h (by decide)]; rfl) | (rw [flts_take0 _ _ _ h (by decide)]; rfl))
      · have he : i = p.sub.length := by omega
        have hs' : ∀ k, k < p.sub.length → (p.sub.getD k flt0).r := by rw [← he]; exact hs
        by_cases ht : 0 < p.way.length
        · have hc' := hc ht
          (repeat' first | exact ⟨_, triv, rfl, trivial⟩ | exact ⟨_, triv, rfl⟩ | refine ex_split (fun _ => ?_) (fun _ => ?_) | refine ex_ob ?_ ?_)
          all_goals first | exact hc'.2 | (first | exact ⟨_, (fun hh => Flt.r_of h1 hs' (fun _ => hc'.1 hh)), rfl, trivial⟩ | exact ⟨_, (fun hh => Flt.r_of h1 hs' (fun _ => hc'.1 hh)), rfl⟩) | (exfalso; (first | omega | (simp only [decide_eq_true_eq, decide_eq_false_iff_not, Bool.not_eq_true', Bool.not_eq_false'] at *; omega))) | (first | omega | (simp only [decide_eq_true_eq, decide_eq_false_iff_not, Bool.not_eq_true', Bool.not_eq_false', beq_iff_eq, beq_eq_false_iff_ne, decide_eq_decide, ne_eq, Bool.not_eq_eq_eq_not, Bool.not_true, Bool.not_false] at *; omega)) | ((try simp only [Nat.add_assoc, Nat.reduceAdd, Nat.add_zero]) <;> first | (rw [ats_take _ _ _ _ ht (by decide)]; rfl) | (rw [pths_take _ _ _ _ ht (by decide)]; rfl) | (rw [flts_take _ _ _ _ ht (by decide)]; rfl) | (rw [ats_take0 _ _ _ ht (by decide)]; rfl) | (rw [pths_take0 _ _ _ ht (by decide)]; rfl) | (rw [flts_take0 _ _ _ ht (by decide)]; rfl))
        · (repeat' first | exact ⟨_, triv, rfl, trivial⟩ | exact ⟨_, triv, rfl⟩ | refine ex_split (fun _ => ?_) (fun _ => ?_) | refine ex_ob ?_ ?_)
          all_goals first | (first | exact ⟨_, (fun _ => Flt.r_of h1 hs' (fun hh => absurd hh ht)), rfl, trivial⟩ | exact ⟨_, (fun _ => Flt.r_of h1 hs' (fun hh => absurd hh ht)), rfl⟩) | (exfalso; (first | omega | (simp only [decide_eq_true_eq, decide_eq_false_iff_not, Bool.not_eq_true', Bool.not_eq_false'] at *; omega)))
    obtain ⟨x, hR, hx⟩ := H
    exact ⟨x, hR, HT.walk Γ_ok mo_ok (⟨([(126, .val (.agg (fltL (p.sub.getD i flt0)))), (129, .call [] (.bool b)), (139, .val (.agg (pthL (p.way.getD 0 pth0)))), (142, .call [] (.bool c))] ++ annM), sp49, hd49 [] [] [] [], [], .pure [] (.bool x)⟩ : Wk) 4000 (by kernel_rfl) hx⟩
theorem path_p (p : Pth) (m : Int) (k : p.r1 → ∃ x : Bool, (x = true → p.r) ∧ HT Tryd.prog Tryd.f24.ntmps (pt Tryd.f24 0) (stPa p m 0) (EndsA Γ (.pure [] (.bool x)) Tryd.f24)) : ∃ x : Bool, (x = true → p.r) ∧ Ctr Tryd.prog 24 [.agg (pthL p), .int .i64 m] (.bool x) := by
    have H : ∃ x : Bool, (x = true → p.r) ∧ PT.holds Tryd.prog Tryd.f24.ntmps (EndsA Γ (.pure [] (.bool x)) Tryd.f24) (.split (decide (m = (0 : Int))) (.ob (false = x) (.tt)) (.split (decide (p.op < (1 : Int))) (.ob (false = x) (.tt)) (.split (decide ((7 : Int) < p.op)) (.ob (false = x) (.tt)) (.split (decide (p.op = (4 : Int))) (.split (decide (p.op = (6 : Int))) (.split (decide ((↑p.sub.length : Int) < (1 : Int))) (.ob (false = x) (.tt)) (.split (decide ((1 : Int) < (↑p.sub.length : Int))) (.ob (false = x) (.tt)) (.split (!decide (p.op = (7 : Int)) == decide ((↑p.test.length : Int) = (1 : Int))) (.ob (false = x) (.tt)) (.split (decide ((1 : Int) < (↑p.test.length : Int))) (.ob (false = x) (.tt)) (.head (pt Tryd.f24 0) ({ tmps := [(1, AV.int .i64 m), (2, AV.ptr 2 0), (7, AV.int .i64 (0 : Int))], heap := [(2, .var true (pthL p))], tags := [] })))))) (.split (decide ((↑p.sub.length : Int) < (2 : Int))) (.ob (false = x) (.tt)) (.split (decide ((64 : Int) < (↑p.sub.length : Int))) (.ob (false = x) (.tt)) (.split (!decide (p.op = (7 : Int)) == decide ((↑p.test.length : Int) = (1 : Int))) (.ob (false = x) (.tt)) (.split (decide ((1 : Int) < (↑p.test.length : Int))) (.ob (false = x) (.tt)) (.head (pt Tryd.f24 0) ({ tmps := [(1, AV.int .i64 m), (2, AV.ptr 2 0), (7, AV.int .i64 (0 : Int))], heap := [(2, .var true (pthL p))], tags := [] }))))))) (.split (decide (p.op = (5 : Int))) (.split (decide (p.op = (6 : Int))) (.split (decide ((↑p.sub.length : Int) < (1 : Int))) (.ob (false = x) (.tt)) (.split (decide ((1 : Int) < (↑p.sub.length : Int))) (.ob (false = x) (.tt)) (.split (!decide (p.op = (7 : Int)) == decide ((↑p.test.length : Int) = (1 : Int))) (.ob (false = x) (.tt)) (.split (decide ((1 : Int) < (↑p.test.length : Int))) (.ob (false = x) (.tt)) (.head (pt Tryd.f24 0) ({ tmps := [(1, AV.int .i64 m), (2, AV.ptr 2 0), (7, AV.int .i64 (0 : Int))], heap := [(2, .var true (pthL p))], tags := [] })))))) (.split (decide ((↑p.sub.length : Int) < (2 : Int))) (.ob (false = x) (.tt)) (.split (decide ((64 : Int) < (↑p.sub.length : Int))) (.ob (false = x) (.tt)) (.split (!decide (p.op = (7 : Int)) == decide ((↑p.test.length : Int) = (1 : Int))) (.ob (false = x) (.tt)) (.split (decide ((1 : Int) < (↑p.test.length : Int))) (.ob (false = x) (.tt)) (.head (pt Tryd.f24 0) ({ tmps := [(1, AV.int .i64 m), (2, AV.ptr 2 0), (7, AV.int .i64 (0 : Int))], heap := [(2, .var true (pthL p))], tags := [] }))))))) (.split (decide (p.op = (6 : Int))) (.split (decide ((↑p.sub.length : Int) < (1 : Int))) (.ob (false = x) (.tt)) (.split (decide ((1 : Int) < (↑p.sub.length : Int))) (.ob (false = x) (.tt)) (.split (!decide (p.op = (7 : Int)) == decide ((↑p.test.length : Int) = (1 : Int))) (.ob (false = x) (.tt)) (.split (decide ((1 : Int) < (↑p.test.length : Int))) (.ob (false = x) (.tt)) (.head (pt Tryd.f24 0) ({ tmps := [(1, AV.int .i64 m), (2, AV.ptr 2 0), (7, AV.int .i64 (0 : Int))], heap := [(2, .var true (pthL p))], tags := [] })))))) (.split (false) (.ob (false = x) (.tt)) (.split (decide ((0 : Int) < (↑p.sub.length : Int))) (.ob (false = x) (.tt)) (.split (!decide (p.op = (7 : Int)) == decide ((↑p.test.length : Int) = (1 : Int))) (.ob (false = x) (.tt)) (.split (decide ((1 : Int) < (↑p.test.length : Int))) (.ob (false = x) (.tt)) (.head (pt Tryd.f24 0) ({ tmps := [(1, AV.int .i64 m), (2, AV.ptr 2 0), (7, AV.int .i64 (0 : Int))], heap := [(2, .var true (pthL p))], tags := [] })))))))))))) := by
      simp only [PT.holds, true_implies, Bool.false_eq_true, Bool.true_eq_false, false_implies, true_and, and_true]
      (repeat' first | exact ⟨_, triv, rfl, trivial⟩ | exact ⟨_, triv, rfl⟩ | refine ex_split (fun _ => ?_) (fun _ => ?_) | refine ex_ob ?_ ?_)
      all_goals first | (first | exact ⟨_, (fun h => absurd h (by decide)), rfl, trivial⟩ | exact ⟨_, (fun h => absurd h (by decide)), rfl⟩) | (refine k ⟨?_, ?_, ?_, ?_, ?_, ?_⟩ <;> first | (intro _; (first | omega | (simp only [decide_eq_true_eq, decide_eq_false_iff_not, Bool.not_eq_true', Bool.not_eq_false', beq_iff_eq, beq_eq_false_iff_ne, decide_eq_decide, ne_eq, Bool.not_eq_eq_eq_not, Bool.not_true, Bool.not_false] at *; omega))) | (first | omega | (simp only [decide_eq_true_eq, decide_eq_false_iff_not, Bool.not_eq_true', Bool.not_eq_false', beq_iff_eq, beq_eq_false_iff_ne, decide_eq_decide, ne_eq, Bool.not_eq_eq_eq_not, Bool.not_true, Bool.not_false] at *; omega)))
    obtain ⟨x, hR, hx⟩ := H
    exact ⟨x, hR, Ctr.mk Γ_ok Tryd.func24 (by kernel_rfl) Tryd.call24 [] (by kernel_rfl) (HT.walk Γ_ok mo_ok (⟨annM, sp24, hd24 [] [] [] [], [], .pure [] (.bool x)⟩ : Wk) 4000 (by kernel_rfl) hx)⟩
theorem flt_17 (p : Flt) (m lo hi : Int) (h5 : ((4 ≤ p.op ∧ p.op ≤ 6) ↔ p.nm ≠ nm0) ∧ (4 ≤ p.op ∧ p.op ≤ 6 → NmOk p.nm)) (h7 : (¬ (p.op = 6 ∨ p.op = 7) → p.val = ⟨#[]⟩) ∧ (p.op = 7 → p.val ≠ ⟨#[]⟩) ∧ exB Tryd.prog 46 [.str p.val] = true) (ho : 1 ≤ p.op ∧ p.op ≤ 11) (hr : (p.op = 8 ∧ lo = 1 ∧ hi = 1) ∨ ((p.op = 9 ∨ p.op = 10) ∧ lo = 2 ∧ hi = 64) ∨ (p.op ≠ 8 ∧ p.op ≠ 9 ∧ p.op ≠ 10 ∧ lo = 0 ∧ hi = 0)) (k : p.r1 → ∃ x : Bool, (x = true → p.r) ∧ HT Tryd.prog Tryd.f49.ntmps (pt Tryd.f49 0) (stPf p m 0) (EndsA Γ (.pure [] (.bool x)) Tryd.f49)) : ∃ x : Bool, (x = true → p.r) ∧ HT Tryd.prog Tryd.f49.ntmps (pr Tryd.f49 17) (stG p m lo hi) (EndsA Γ (.pure [] (.bool x)) Tryd.f49) := by
    have H : ∃ x : Bool, (x = true → p.r) ∧ PT.holds Tryd.prog Tryd.f49.ntmps (EndsA Γ (.pure [] (.bool x)) Tryd.f49) (.split (decide ((↑p.sub.length : Int) < lo)) (.ob (false = x) (.tt)) (.split (decide (hi < (↑p.sub.length : Int))) (.ob (false = x) (.tt)) (.split (!decide (p.op = (11 : Int)) == decide ((↑p.way.length : Int) = (1 : Int))) (.ob (false = x) (.tt)) (.split (decide ((1 : Int) < (↑p.way.length : Int))) (.ob (false = x) (.tt)) (.head (pt Tryd.f49 0) ({ tmps := [(1, AV.int .i64 m), (2, AV.ptr 2 0), (9, AV.int .i64 (0 : Int))], heap := [(2, .var true (fltL p))], tags := [] })))))) := by
      simp only [PT.holds, true_implies, Bool.false_eq_true, Bool.true_eq_false, false_implies, true_and, and_true]
      (repeat' first | exact ⟨_, triv, rfl, trivial⟩ | exact ⟨_, triv, rfl⟩ | refine ex_split (fun _ => ?_) (fun _ => ?_) | refine ex_ob ?_ ?_)
      all_goals first | (first | exact ⟨_, (fun h => absurd h (by decide)), rfl, trivial⟩ | exact ⟨_, (fun h => absurd h (by decide)), rfl⟩) | (refine k ⟨?_, ?_, ?_, ?_, ?_, ?_, h5.1, h5.2, h7.1, h7.2.1, h7.2.2⟩ <;> first | (intro _; (first | omega | (simp only [decide_eq_true_eq, decide_eq_false_iff_not, Bool.not_eq_true', Bool.not_eq_false', beq_iff_eq, beq_eq_false_iff_ne, decide_eq_decide, ne_eq, Bool.not_eq_eq_eq_not, Bool.not_true, Bool.not_false] at *; omega))) | (first | omega | (simp only [decide_eq_true_eq, decide_eq_false_iff_not, Bool.not_eq_true', Bool.not_eq_false', beq_iff_eq, beq_eq_false_iff_ne, decide_eq_decide, ne_eq, Bool.not_eq_eq_eq_not, Bool.not_true, Bool.not_false] at *; omega)))
    obtain ⟨x, hR, hx⟩ := H
    exact ⟨x, hR, HT.walk Γ_ok mo_ok (⟨annM, sp49, hd49 [] [] [] [], [], .pure [] (.bool x)⟩ : Wk) 4000 (by kernel_rfl) hx⟩
theorem flt_9 (p : Flt) (m : Int) (ho : 1 ≤ p.op ∧ p.op ≤ 11) (k : ∀ lo hi : Int, ((p.op = 8 ∧ lo = 1 ∧ hi = 1) ∨ ((p.op = 9 ∨ p.op = 10) ∧ lo = 2 ∧ hi = 64) ∨ (p.op ≠ 8 ∧ p.op ≠ 9 ∧ p.op ≠ 10 ∧ lo = 0 ∧ hi = 0)) → ∃ x : Bool, (x = true → p.r) ∧ HT Tryd.prog Tryd.f49.ntmps (pr Tryd.f49 17) (stG p m lo hi) (EndsA Γ (.pure [] (.bool x)) Tryd.f49)) : ∃ x : Bool, (x = true → p.r) ∧ HT Tryd.prog Tryd.f49.ntmps (pr Tryd.f49 9) (stG9 p m) (EndsA Γ (.pure [] (.bool x)) Tryd.f49) := by
    have H : ∃ x : Bool, (x = true → p.r) ∧ PT.holds Tryd.prog Tryd.f49.ntmps (EndsA Γ (.pure [] (.bool x)) Tryd.f49) (.split (decide (p.op = (8 : Int))) (.split (decide (p.op = (9 : Int))) (.head (pr Tryd.f49 17) ({ tmps := [(1, AV.int .i64 m), (2, AV.ptr 2 0), (7, AV.int .i64 (2 : Int)), (8, AV.int .i64 (64 : Int))], heap := [(2, .var true (fltL p))], tags := [] })) (.split (decide (p.op = (10 : Int))) (.head (pr Tryd.f49 17) ({ tmps := [(1, AV.int .i64 m), (2, AV.ptr 2 0), (7, AV.int .i64 (2 : Int)), (8, AV.int .i64 (64 : Int))], heap := [(2, .var true (fltL p))], tags := [] })) (.head (pr Tryd.f49 17) ({ tmps := [(1, AV.int .i64 m), (2, AV.ptr 2 0), (7, AV.int .i64 (1 : Int)), (8, AV.int .i64 (1 : Int))], heap := [(2, .var true (fltL p))], tags := [] })))) (.split (decide (p.op = (9 : Int))) (.head (pr Tryd.f49 17) ({ tmps := [(1, AV.int .i64 m), (2, AV.ptr 2 0), (7, AV.int .i64 (2 : Int)), (8, AV.int .i64 (64 : Int))], heap := [(2, .var true (fltL p))], tags := [] })) (.split (decide (p.op = (10 : Int))) (.head (pr Tryd.f49 17) ({ tmps := [(1, AV.int .i64 m), (2, AV.ptr 2 0), (7, AV.int .i64 (2 : Int)), (8, AV.int .i64 (64 : Int))], heap := [(2, .var true (fltL p))], tags := [] })) (.head (pr Tryd.f49 17) ({ tmps := [(1, AV.int .i64 m), (2, AV.ptr 2 0), (7, AV.int .i64 (0 : Int)), (8, AV.int .i64 (0 : Int))], heap := [(2, .var true (fltL p))], tags := [] }))))) := by
      simp only [PT.holds, true_implies, Bool.false_eq_true, Bool.true_eq_false, false_implies, true_and, and_true]
      (repeat' first | exact ⟨_, triv, rfl, trivial⟩ | exact ⟨_, triv, rfl⟩ | refine ex_split (fun _ => ?_) (fun _ => ?_) | refine ex_ob ?_ ?_)
      all_goals (refine k _ _ ?_; first | exact .inl ⟨by (first | omega | (simp only [decide_eq_true_eq, decide_eq_false_iff_not, Bool.not_eq_true', Bool.not_eq_false'] at *; omega)), rfl, rfl⟩ | exact .inr (.inl ⟨by (first | omega | (simp only [decide_eq_true_eq, decide_eq_false_iff_not, Bool.not_eq_true', Bool.not_eq_false'] at *; omega)), rfl, rfl⟩) | exact .inr (.inr ⟨by (first | omega | (simp only [decide_eq_true_eq, decide_eq_false_iff_not, Bool.not_eq_true', Bool.not_eq_false'] at *; omega)), by (first | omega | (simp only [decide_eq_true_eq, decide_eq_false_iff_not, Bool.not_eq_true', Bool.not_eq_false'] at *; omega)), by (first | omega | (simp only [decide_eq_true_eq, decide_eq_false_iff_not, Bool.not_eq_true', Bool.not_eq_false'] at *; omega)), rfl, rfl⟩) | (exfalso; (first | omega | (simp only [decide_eq_true_eq, decide_eq_false_iff_not, Bool.not_eq_true', Bool.not_eq_false'] at *; omega))))
    obtain ⟨x, hR, hx⟩ := H
    exact ⟨x, hR, HT.walk Γ_ok mo_ok (⟨annM, sp49, (hd49 [] [] [] [] ++ [(7000017, ⟨[1, 2, 7, 8], [2], [], [], []⟩)]), [], .pure [] (.bool x)⟩ : Wk) 4000 (by kernel_rfl) hx⟩
theorem flt_7 (p : Flt) (m : Int) (hv : Bool) (hvi : hv = true ↔ p.op = 6 ∨ p.op = 7) (hok : p.ok) (k : (¬ (p.op = 6 ∨ p.op = 7) → p.val = ⟨#[]⟩) ∧ (p.op = 7 → p.val ≠ ⟨#[]⟩) ∧ exB Tryd.prog 46 [.str p.val] = true → ∃ x : Bool, (x = true → p.r) ∧ HT Tryd.prog Tryd.f49.ntmps (pr Tryd.f49 9) (stG9 p m) (EndsA Γ (.pure [] (.bool x)) Tryd.f49)) : ∃ x : Bool, (x = true → p.r) ∧ HT Tryd.prog Tryd.f49.ntmps (pr Tryd.f49 7) (stG7 p m hv) (EndsA Γ (.pure [] (.bool x)) Tryd.f49) := by
    have H : ∃ x : Bool, (x = true → p.r) ∧ PT.holds Tryd.prog Tryd.f49.ntmps (EndsA Γ (.pure [] (.bool x)) Tryd.f49) (.split (hv) (.split (false) (.split (!decide (p.val = (ByteArray.mk #[]))) (.ob (false = x) (.tt)) (.split (decide (p.op = (7 : Int))) (.split (decide (p.val = (ByteArray.mk #[]))) (.ob (false = x) (.tt)) (.ob (Ctr Tryd.prog 46 [AV.str p.val] (AV.bool (exB Tryd.prog (46 : FuncId) [AV.str p.val]))) (.split (exB Tryd.prog (46 : FuncId) [AV.str p.val]) (.head (pr Tryd.f49 9) ({ tmps := [(1, AV.int .i64 m), (2, AV.ptr 2 0)], heap := [(2, .var true (fltL p))], tags := [] })) (.ob (false = x) (.tt))))) (.ob (Ctr Tryd.prog 46 [AV.str p.val] (AV.bool (exB Tryd.prog (46 : FuncId) [AV.str p.val]))) (.split (exB Tryd.prog (46 : FuncId) [AV.str p.val]) (.head (pr Tryd.f49 9) ({ tmps := [(1, AV.int .i64 m), (2, AV.ptr 2 0)], heap := [(2, .var true (fltL p))], tags := [] })) (.ob (false = x) (.tt)))))) (.split (decide (p.op = (7 : Int))) (.split (decide (p.val = (ByteArray.mk #[]))) (.ob (false = x) (.tt)) (.ob (Ctr Tryd.prog 46 [AV.str p.val] (AV.bool (exB Tryd.prog (46 : FuncId) [AV.str p.val]))) (.split (exB Tryd.prog (46 : FuncId) [AV.str p.val]) (.head (pr Tryd.f49 9) ({ tmps := [(1, AV.int .i64 m), (2, AV.ptr 2 0)], heap := [(2, .var true (fltL p))], tags := [] })) (.ob (false = x) (.tt))))) (.ob (Ctr Tryd.prog 46 [AV.str p.val] (AV.bool (exB Tryd.prog (46 : FuncId) [AV.str p.val]))) (.split (exB Tryd.prog (46 : FuncId) [AV.str p.val]) (.head (pr Tryd.f49 9) ({ tmps := [(1, AV.int .i64 m), (2, AV.ptr 2 0)], heap := [(2, .var true (fltL p))], tags := [] })) (.ob (false = x) (.tt)))))) (.split (true) (.split (!decide (p.val = (ByteArray.mk #[]))) (.ob (false = x) (.tt)) (.split (decide (p.op = (7 : Int))) (.split (decide (p.val = (ByteArray.mk #[]))) (.ob (false = x) (.tt)) (.ob (Ctr Tryd.prog 46 [AV.str p.val] (AV.bool (exB Tryd.prog (46 : FuncId) [AV.str p.val]))) (.split (exB Tryd.prog (46 : FuncId) [AV.str p.val]) (.head (pr Tryd.f49 9) ({ tmps := [(1, AV.int .i64 m), (2, AV.ptr 2 0)], heap := [(2, .var true (fltL p))], tags := [] })) (.ob (false = x) (.tt))))) (.ob (Ctr Tryd.prog 46 [AV.str p.val] (AV.bool (exB Tryd.prog (46 : FuncId) [AV.str p.val]))) (.split (exB Tryd.prog (46 : FuncId) [AV.str p.val]) (.head (pr Tryd.f49 9) ({ tmps := [(1, AV.int .i64 m), (2, AV.ptr 2 0)], heap := [(2, .var true (fltL p))], tags := [] })) (.ob (false = x) (.tt)))))) (.split (decide (p.op = (7 : Int))) (.split (decide (p.val = (ByteArray.mk #[]))) (.ob (false = x) (.tt)) (.ob (Ctr Tryd.prog 46 [AV.str p.val] (AV.bool (exB Tryd.prog (46 : FuncId) [AV.str p.val]))) (.split (exB Tryd.prog (46 : FuncId) [AV.str p.val]) (.head (pr Tryd.f49 9) ({ tmps := [(1, AV.int .i64 m), (2, AV.ptr 2 0)], heap := [(2, .var true (fltL p))], tags := [] })) (.ob (false = x) (.tt))))) (.ob (Ctr Tryd.prog 46 [AV.str p.val] (AV.bool (exB Tryd.prog (46 : FuncId) [AV.str p.val]))) (.split (exB Tryd.prog (46 : FuncId) [AV.str p.val]) (.head (pr Tryd.f49 9) ({ tmps := [(1, AV.int .i64 m), (2, AV.ptr 2 0)], heap := [(2, .var true (fltL p))], tags := [] })) (.ob (false = x) (.tt))))))) := by
      simp only [PT.holds, true_implies, Bool.false_eq_true, Bool.true_eq_false, false_implies, true_and, and_true]
      (repeat' first | exact ⟨_, triv, rfl, trivial⟩ | exact ⟨_, triv, rfl⟩ | refine ex_split (fun _ => ?_) (fun _ => ?_) | refine ex_ob ?_ ?_)
      all_goals first | (first | exact ⟨_, (fun h => absurd h (by decide)), rfl, trivial⟩ | exact ⟨_, (fun h => absurd h (by decide)), rfl⟩) | exact exB_ctr (right_ex _ (Flt.ok_i hok).2.1) | (refine k ⟨fun hh => ?_, fun hh => ?_, by assumption⟩ <;> (clear k; simp_all; done))
    obtain ⟨x, hR, hx⟩ := H
    exact ⟨x, hR, HT.walk Γ_ok mo_ok (⟨annM, 54 :: sp49, (hd49 [] [] [] [] ++ [(7000009, ⟨[1, 2], [2], [], [], []⟩)]), [], .pure [] (.bool x)⟩ : Wk) 4000 (by kernel_rfl) hx⟩
theorem flt_5 (p : Flt) (m : Int) (hn hv : Bool) (hni : hn = true ↔ 4 ≤ p.op ∧ p.op ≤ 6) (xn : Bool) (hxn : (xn = true → NmOk p.nm) ∧ Ctr Tryd.prog 66 [.agg (nmC p.nm)] (.bool xn)) (hok : p.ok) (k : ((4 ≤ p.op ∧ p.op ≤ 6) ↔ p.nm ≠ nm0) ∧ (4 ≤ p.op ∧ p.op ≤ 6 → NmOk p.nm) → ∃ x : Bool, (x = true → p.r) ∧ HT Tryd.prog Tryd.f49.ntmps (pr Tryd.f49 7) (stG7 p m hv) (EndsA Γ (.pure [] (.bool x)) Tryd.f49)) : ∃ x : Bool, (x = true → p.r) ∧ HT Tryd.prog Tryd.f49.ntmps (pr Tryd.f49 5) (stG5 p m hn hv) (EndsA Γ (.pure [] (.bool x)) Tryd.f49) := by
    have H : ∃ x : Bool, (x = true → p.r) ∧ PT.holds Tryd.prog Tryd.f49.ntmps (EndsA Γ (.pure [] (.bool x)) Tryd.f49) (.ob ((3 : Nat) ≤ (6 : Nat)) (.split (!hn == !(decide (p.nm.sp = (ByteArray.mk #[])) && (decide (p.nm.lo = (ByteArray.mk #[])) && true))) (.ob (false = x) (.tt)) (.split (hn) (.ob ((3 : Nat) ≤ (6 : Nat)) (.ob (Ctr Tryd.prog 66 [AV.agg [AV.str p.nm.sp, AV.str p.nm.lo]] (AV.bool xn)) (.split (xn) (.head (pr Tryd.f49 7) ({ tmps := [(1, AV.int .i64 m), (2, AV.ptr 2 0), (6, AV.bool hv)], heap := [(2, .var true (fltL p))], tags := [] })) (.ob (false = x) (.tt))))) (.head (pr Tryd.f49 7) ({ tmps := [(1, AV.int .i64 m), (2, AV.ptr 2 0), (6, AV.bool hv)], heap := [(2, .var true (fltL p))], tags := [] }))))) := by
      simp only [PT.holds, nm_chk, true_implies, Bool.false_eq_true, Bool.true_eq_false, false_implies, true_and, and_true]
      (repeat' first | exact ⟨_, triv, rfl, trivial⟩ | exact ⟨_, triv, rfl⟩ | refine ex_split (fun _ => ?_) (fun _ => ?_) | refine ex_ob ?_ ?_)
      all_goals first | (first | exact ⟨_, (fun h => absurd h (by decide)), rfl, trivial⟩ | exact ⟨_, (fun h => absurd h (by decide)), rfl⟩) | exact hxn.2 | exact k (f5_of p hn hni (by assumption) (fun _ => hxn.1 (by assumption))) | exact k (f5_of p hn hni (by assumption) (fun h => by simp_all)) | omega
    obtain ⟨x, hR, hx⟩ := H
    exact ⟨x, hR, HT.walk Γ_ok mo_ok (⟨([(49, .call [] (.bool xn))] ++ annM), sp49, (hd49 [] [] [] [] ++ [(7000007, ⟨[1, 2, 6], [2], [], [], []⟩)]), [], .pure [] (.bool x)⟩ : Wk) 4000 (by kernel_rfl) hx⟩
theorem flt_4 (p : Flt) (m : Int) (hn : Bool) (k : ∀ hv : Bool, (hv = true ↔ p.op = 6 ∨ p.op = 7) → ∃ x : Bool, (x = true → p.r) ∧ HT Tryd.prog Tryd.f49.ntmps (pr Tryd.f49 5) (stG5 p m hn hv) (EndsA Γ (.pure [] (.bool x)) Tryd.f49)) : ∃ x : Bool, (x = true → p.r) ∧ HT Tryd.prog Tryd.f49.ntmps (pr Tryd.f49 4) (stG4 p m hn) (EndsA Γ (.pure [] (.bool x)) Tryd.f49) := by
    have H : ∃ x : Bool, (x = true → p.r) ∧ PT.holds Tryd.prog Tryd.f49.ntmps (EndsA Γ (.pure [] (.bool x)) Tryd.f49) (.split (decide (p.op = (6 : Int))) (.head (pr Tryd.f49 5) ({ tmps := [(1, AV.int .i64 m), (2, AV.ptr 2 0), (5, AV.bool hn), (6, AV.bool true)], heap := [(2, .var true (fltL p))], tags := [] })) (.head (pr Tryd.f49 5) ({ tmps := [(1, AV.int .i64 m), (2, AV.ptr 2 0), (5, AV.bool hn), (6, AV.bool (decide (p.op = (7 : Int))))], heap := [(2, .var true (fltL p))], tags := [] }))) := by
      simp only [PT.holds, true_implies, Bool.false_eq_true, Bool.true_eq_false, false_implies, true_and, and_true]
      (repeat' first | exact ⟨_, triv, rfl, trivial⟩ | exact ⟨_, triv, rfl⟩ | refine ex_split (fun _ => ?_) (fun _ => ?_) | refine ex_ob ?_ ?_)
      all_goals (refine k _ ?_; clear k; simp_all; done)
    obtain ⟨x, hR, hx⟩ := H
    exact ⟨x, hR, HT.walk Γ_ok mo_ok (⟨annM, sp49, (hd49 [] [] [] [] ++ [(7000005, ⟨[1, 2, 5, 6], [2], [], [], []⟩)]), [], .pure [] (.bool x)⟩ : Wk) 4000 (by kernel_rfl) hx⟩
theorem flt_p (p : Flt) (m : Int) (k : 1 ≤ p.op ∧ p.op ≤ 11 → ∀ hn : Bool, (hn = true ↔ 4 ≤ p.op ∧ p.op ≤ 6) → ∃ x : Bool, (x = true → p.r) ∧ HT Tryd.prog Tryd.f49.ntmps (pr Tryd.f49 4) (stG4 p m hn) (EndsA Γ (.pure [] (.bool x)) Tryd.f49)) : ∃ x : Bool, (x = true → p.r) ∧ Ctr Tryd.prog 49 [.agg (fltL p), .int .i64 m] (.bool x) := by
    have H : ∃ x : Bool, (x = true → p.r) ∧ PT.holds Tryd.prog Tryd.f49.ntmps (EndsA Γ (.pure [] (.bool x)) Tryd.f49) (.split (decide (m = (0 : Int))) (.ob (false = x) (.tt)) (.split (decide (p.op < (1 : Int))) (.ob (false = x) (.tt)) (.split (decide ((11 : Int) < p.op)) (.ob (false = x) (.tt)) (.split (decide ((4 : Int) ≤ p.op)) (.head (pr Tryd.f49 4) ({ tmps := [(1, AV.int .i64 m), (2, AV.ptr 2 0), (5, AV.bool (decide (p.op ≤ (6 : Int))))], heap := [(2, .var true (fltL p))], tags := [] })) (.head (pr Tryd.f49 4) ({ tmps := [(1, AV.int .i64 m), (2, AV.ptr 2 0), (5, AV.bool false)], heap := [(2, .var true (fltL p))], tags := [] })))))) := by
      simp only [PT.holds, true_implies, Bool.false_eq_true, Bool.true_eq_false, false_implies, true_and, and_true]
      (repeat' first | exact ⟨_, triv, rfl, trivial⟩ | exact ⟨_, triv, rfl⟩ | refine ex_split (fun _ => ?_) (fun _ => ?_) | refine ex_ob ?_ ?_)
      all_goals first | (first | exact ⟨_, (fun h => absurd h (by decide)), rfl, trivial⟩ | exact ⟨_, (fun h => absurd h (by decide)), rfl⟩) | (refine k (by (first | omega | (simp only [decide_eq_true_eq, decide_eq_false_iff_not, Bool.not_eq_true', Bool.not_eq_false'] at *; omega))) _ ?_; clear k; first | (simp_all; done) | (simp_all; omega))
    obtain ⟨x, hR, hx⟩ := H
    exact ⟨x, hR, Ctr.mk Γ_ok Tryd.func49 (by kernel_rfl) Tryd.call49 [] (by kernel_rfl) (HT.walk Γ_ok mo_ok (⟨annM, sp49, (hd49 [] [] [] [] ++ [(7000004, ⟨[1, 2, 5], [2], [], [], []⟩)]), [], .pure [] (.bool x)⟩ : Wk) 4000 (by kernel_rfl) hx)⟩
end Go.Proofs.YteimloiaipiadaaDoor
end

section
set_option linter.unusedVariables false
set_option linter.unusedSimpArgs false
set_option maxRecDepth 100000
namespace Go.Proofs.YteimloiaipiadaaDoor
open Go Go.AX

theorem path_l (p : Pth) (m : Int) (hl : p.sub.length ≤ 1048600) (h1 : p.r1) (hp : ∀ q ∈ p.sub, ∀ m, ∃ b : Bool, (b = true → q.r) ∧ Ctr Tryd.prog 24 [.agg (pthL q), .int .i64 m] (.bool b)) (hf : ∀ q ∈ p.test, ∀ m, ∃ b : Bool, (b = true → q.r) ∧ Ctr Tryd.prog 49 [.agg (fltL q), .int .i64 m] (.bool b)) : ∀ d i, i + d = p.sub.length → (∀ k, k < i → (p.sub.getD k pth0).r) → ∃ x : Bool, (x = true → p.r) ∧ HT Tryd.prog Tryd.f24.ntmps (pt Tryd.f24 0) (stPa p m i) (EndsA Γ (.pure [] (.bool x)) Tryd.f24) := by
  have hc : ∃ c : Bool, 0 < p.test.length → (c = true → (p.test.getD 0 flt0).r) ∧ Ctr Tryd.prog 49 [.agg (fltL (p.test.getD 0 flt0)), .int .i64 (IntKind.i64.wrap (m - 1))] (.bool c) := by
    by_cases h : 0 < p.test.length
    · obtain ⟨c, h2⟩ := hf _ (getD_mem _ _ flt0 h) (IntKind.i64.wrap (m - 1))
      exact ⟨c, fun _ => h2⟩
    · exact ⟨true, fun hh => absurd hh h⟩
  obtain ⟨c, hc⟩ := hc
  intro d
  induction d with
  | zero => exact fun i h hs => stPa_h p m i (by omega) hl h1 hs true c (fun hh => by omega) hc (fun hh => by omega)
  | succ d ih =>
    intro i h hs
    obtain ⟨b, hb⟩ := hp _ (getD_mem _ i pth0 (by omega)) (IntKind.i64.wrap (m - 1))
    refine stPa_h p m i (by omega) hl h1 hs b c (fun _ => hb) hc (fun hh hr => ih (i + 1) (by omega) fun k hk => ?_)
    rcases Nat.lt_or_eq_of_le (Nat.lt_succ_iff.1 hk) with h2 | h2
    · exact hs k h2
    · rw [h2]; exact hr
theorem flt_l (p : Flt) (m : Int) (hl : p.sub.length ≤ 1048600) (h1 : p.r1) (hp : ∀ q ∈ p.sub, ∀ m, ∃ b : Bool, (b = true → q.r) ∧ Ctr Tryd.prog 49 [.agg (fltL q), .int .i64 m] (.bool b)) (hf : ∀ q ∈ p.way, ∀ m, ∃ b : Bool, (b = true → q.r) ∧ Ctr Tryd.prog 24 [.agg (pthL q), .int .i64 m] (.bool b)) : ∀ d i, i + d = p.sub.length → (∀ k, k < i → (p.sub.getD k flt0).r) → ∃ x : Bool, (x = true → p.r) ∧ HT Tryd.prog Tryd.f49.ntmps (pt Tryd.f49 0) (stPf p m i) (EndsA Γ (.pure [] (.bool x)) Tryd.f49) := by
  have hc : ∃ c : Bool, 0 < p.way.length → (c = true → (p.way.getD 0 pth0).r) ∧ Ctr Tryd.prog 24 [.agg (pthL (p.way.getD 0 pth0)), .int .i64 (IntKind.i64.wrap (m - 1))] (.bool c) := by
    by_cases h : 0 < p.way.length
    · obtain ⟨c, h2⟩ := hf _ (getD_mem _ _ pth0 h) (IntKind.i64.wrap (m - 1))
      exact ⟨c, fun _ => h2⟩
    · exact ⟨true, fun hh => absurd hh h⟩
  obtain ⟨c, hc⟩ := hc
  intro d
  induction d with
  | zero => exact fun i h hs => stPf_h p m i (by omega) hl h1 hs true c (fun hh => by omega) hc (fun hh => by omega)
  | succ d ih =>
    intro i h hs
    obtain ⟨b, hb⟩ := hp _ (getD_mem _ i flt0 (by omega)) (IntKind.i64.wrap (m - 1))
    refine stPf_h p m i (by omega) hl h1 hs b c (fun _ => hb) hc (fun hh hr => ih (i + 1) (by omega) fun k hk => ?_)
    rcases Nat.lt_or_eq_of_le (Nat.lt_succ_iff.1 hk) with h2 | h2
    · exact hs k h2
    · rw [h2]; exact hr

mutual
theorem path_ex (p : Pth) (hok : p.ok) (m : Int) : ∃ b : Bool, (b = true → p.r) ∧ Ctr Tryd.prog 24 [.agg (pthL p), .int .i64 m] (.bool b) :=
  path_p p m fun h1 => path_l p m (Pth.ok_i hok).1 h1 (fun q hq m => have := sub_lt p q hq; path_ex q ((Pth.ok_i hok).2.2.1 q hq) m) (fun q hq m => have := test_lt p q hq; filter_ex q ((Pth.ok_i hok).2.2.2 q hq) m) _ 0 (Nat.zero_add _) (fun k hk => absurd hk (Nat.not_lt_zero _))
termination_by SizeOf.sizeOf p
theorem filter_ex (p : Flt) (hok : p.ok) (m : Int) : ∃ b : Bool, (b = true → p.r) ∧ Ctr Tryd.prog 49 [.agg (fltL p), .int .i64 m] (.bool b) :=
  flt_p p m fun ho hn hni => flt_4 p m hn fun hv hvi => (named12b_ex p.nm (Flt.ok_i hok).1).elim fun xn hxn => flt_5 p m hn hv hni xn hxn hok fun h5 => flt_7 p m hv hvi hok fun h7 => flt_9 p m ho fun lo hi hr => flt_17 p m lo hi h5 h7 ho hr fun h1 =>
    flt_l p m (Flt.ok_i hok).2.2.1 h1 (fun q hq m => have := fsub_lt p q hq; filter_ex q ((Flt.ok_i hok).2.2.2.2.1 q hq) m) (fun q hq m => have := way_lt p q hq; path_ex q ((Flt.ok_i hok).2.2.2.2.2 q hq) m) _ 0 (Nat.zero_add _) (fun k hk => absurd hk (Nat.not_lt_zero _))
termination_by SizeOf.sizeOf p
end

theorem rightp_ex0 (p : Pth) (hok : p.ok) (b : Bool) (hb : (b = true → p.r) ∧ Ctr Tryd.prog 24 [.agg (pthL p), .int .i64 16] (.bool b)) : ∃ x : Bool, (x = true → p.r) ∧ Ctr Tryd.prog 10 [.agg (pthL p)] (.bool x) := by
    have H : ∃ x : Bool, (x = true → p.r) ∧ PT.holds Tryd.prog Tryd.f10.ntmps (EndsA Γ (.pure [] (.bool x)) Tryd.f10) (.ob ((3 : Nat) ≤ (3 : Nat)) (.ob (Ctr Tryd.prog 23 [AV.agg (pthL p)] (AV.int .i64 (exI Tryd.prog (23 : FuncId) [AV.agg (pthL p)]))) (.split (decide (exI Tryd.prog (23 : FuncId) [AV.agg (pthL p)] ≤ (64 : Int))) (.ob ((3 : Nat) ≤ (3 : Nat)) (.ob (Ctr Tryd.prog 24 [AV.agg (pthL p), AV.int .i64 (16 : Int)] (AV.bool b)) (.ob (b = x) (.tt)))) (.ob (false = x) (.tt))))) := by
      simp only [PT.holds, true_implies, Bool.false_eq_true, Bool.true_eq_false, false_implies, true_and, and_true]
      (repeat' first | exact ⟨_, triv, rfl, trivial⟩ | exact ⟨_, triv, rfl⟩ | refine ex_split (fun _ => ?_) (fun _ => ?_) | refine ex_ob ?_ ?_)
      all_goals first | exact hb.2 | exact exI_ctr (size_ex p hok) | (first | exact ⟨_, (fun h => absurd h (by decide)), rfl, trivial⟩ | exact ⟨_, (fun h => absurd h (by decide)), rfl⟩) | (first | exact ⟨_, (fun h => hb.1 h), rfl, trivial⟩ | exact ⟨_, (fun h => hb.1 h), rfl⟩) | omega
    obtain ⟨x, hR, hx⟩ := H
    exact ⟨x, hR, Ctr.mk Γ_ok Tryd.func10 (by kernel_rfl) Tryd.call10 [] (by kernel_rfl) (HT.walk Γ_ok mo_ok (⟨([(4, .call [] (.int .i64 (exI Tryd.prog 23 [.agg (pthL p)]))), (8, .call [] (.bool b))] ++ annM), sp10, [], [], .pure [] (.bool x)⟩ : Wk) 4000 (by kernel_rfl) hx)⟩
theorem rightp_ex (p : Pth) (hok : p.ok) : ∃ x : Bool, (x = true → p.r) ∧ Ctr Tryd.prog 10 [.agg (pthL p)] (.bool x) := by
  obtain ⟨b, hb⟩ := path_ex p hok 16
  exact rightp_ex0 p hok b hb

end Go.Proofs.YteimloiaipiadaaDoor
end

section
set_option linter.unusedVariables false
set_option linter.unusedSimpArgs false
set_option maxRecDepth 100000
namespace Go.Proofs.YteimloiaipiadaaDoor
open Go Go.AX

theorem sP0_h (p : Pth) (m n i : Nat) (R : Int) (y : Nat) (hi : i < p.sub.length) (hl : p.sub.length ≤ 1048600) (hm : m ≤ 1000) (hn : n ≤ m) (hy : y ≤ 2000) (hc : Ctr Tryd.prog 48 [.agg (pthL (p.sub.getD i pth0)), .int .i64 (m - n : Nat)] (.int .i64 y)) (k : HT Tryd.prog Tryd.f48.ntmps (pt Tryd.f48 0) (stP0 p m (n + y : Nat) (i + 1)) (EndsA Γ (.pure [] (.int .i64 R)) Tryd.f48)) : HT Tryd.prog Tryd.f48.ntmps (pt Tryd.f48 0) (stP0 p m n i) (EndsA Γ (.pure [] (.int .i64 R)) Tryd.f48) :=
  HT.walk Γ_ok mo_ok (⟨([(25, .val (.agg (pthL (p.sub.getD i pth0)))), (48, .val (.agg (fltL (p.test.getD i flt0)))), (29, .call [] (.int .i64 y)), (52, .call [] (.int .i64 y))] ++ []), sp48, hd48 [] [] [] [], [], .pure [] (.int .i64 R)⟩ : Wk) 4000 (T := .split (decide ((↑i : Int) < (↑p.sub.length : Int))) (.split (decide ((↑n : Int) ≤ (↑m : Int))) (.ob ((0 : Int) ≤ (↑i : Int) ∧ (↑i : Int) < (↑p.sub.length : Int) ∧ (↑i : Int).toNat * (3 : Nat) < (pthsC p.sub).length) (.ob (List.take (3 : Nat) (List.drop ((↑i : Int).toNat * (3 : Nat)) (pthsC p.sub)) = (pthL (p.sub.getD i pth0))) (.ob (Ctr Tryd.prog 48 [AV.agg (pthL (p.sub.getD i pth0)), AV.int .i64 (IntKind.i64.wrap ((↑m : Int) - (↑n : Int)))] (AV.int .i64 (↑y : Int))) (.head (pt Tryd.f48 0) ({ tmps := [(1, AV.int .i64 (↑m : Int)), (2, AV.ptr 2 0), (5, AV.int .i64 (IntKind.i64.wrap ((↑n : Int) + (↑y : Int)))), (6, AV.int .i64 (IntKind.i64.wrap ((↑i : Int) + (1 : Int))))], heap := [(2, .var true (pthL p))], tags := [] }))))) (.head (pt Tryd.f48 1) ({ tmps := [(1, AV.int .i64 (↑m : Int)), (2, AV.ptr 2 0), (5, AV.int .i64 (↑n : Int)), (7, AV.int .i64 (0 : Int))], heap := [(2, .var true (pthL p))], tags := [] }))) (.head (pt Tryd.f48 1) ({ tmps := [(1, AV.int .i64 (↑m : Int)), (2, AV.ptr 2 0), (5, AV.int .i64 (↑n : Int)), (7, AV.int .i64 (0 : Int))], heap := [(2, .var true (pthL p))], tags := [] }))) (by kernel_rfl) (by
    have w2 : IntKind.i64.wrap ((i : Int) + 1) = ((i + 1 : Nat) : Int) := by rw [i64_wrap (by omega) (by omega)]; rfl
    have w3 : IntKind.i64.wrap ((m : Int) - (n : Int)) = ((m - n : Nat) : Int) := by rw [i64_wrap (by omega) (by omega)]; omega
    have w4 : IntKind.i64.wrap ((n : Int) + (y : Int)) = ((n + y : Nat) : Int) := by rw [i64_wrap (by omega) (by omega)]; rfl
    have h0 : decide ((i : Int) < p.sub.length) = true := by simp; omega
    have h1 : decide ((n : Int) ≤ (m : Int)) = true := by simp; omega
    simp only [PT.holds, w2, w3, w4, h0, h1, Int.toNat_natCast, pthsC_len, fltsC_len, true_implies, Bool.false_eq_true, Bool.true_eq_false, false_implies, true_and, and_true]
    exact ⟨by omega, by ((try simp only [Nat.add_assoc, Nat.reduceAdd, Nat.add_zero]) <;> first | (rw [ats_take _ _ _ _ hi (by decide)]; rfl) | (rw [pths_take _ _ _ _ hi (by decide)]; rfl) | (rw [flts_take _ _ _ _ hi (by decide)]; rfl) | (rw [ats_take0 _ _ _ hi (by decide)]; rfl) | (rw [pths_take0 _ _ _ hi (by decide)]; rfl) | (rw [flts_take0 _ _ _ hi (by decide)]; rfl)), hc, head_eq k (by simp [stP0, pthL])⟩)
theorem sP0_e (p : Pth) (m n i : Nat) (R : Int) (h : p.sub.length ≤ i ∨ m < n) (k : HT Tryd.prog Tryd.f48.ntmps (pt Tryd.f48 1) (stP1 p m n 0) (EndsA Γ (.pure [] (.int .i64 R)) Tryd.f48)) : HT Tryd.prog Tryd.f48.ntmps (pt Tryd.f48 0) (stP0 p m n i) (EndsA Γ (.pure [] (.int .i64 R)) Tryd.f48) :=
  HT.walk Γ_ok mo_ok (⟨([(25, .val (.agg (pthL (p.sub.getD i pth0)))), (48, .val (.agg (fltL (p.test.getD i flt0)))), (29, .call [] (.int .i64 0)), (52, .call [] (.int .i64 0))] ++ []), sp48, hd48 [] [] [] [], [], .pure [] (.int .i64 R)⟩ : Wk) 4000 (T := .split (decide ((↑i : Int) < (↑p.sub.length : Int))) (.split (decide ((↑n : Int) ≤ (↑m : Int))) (.ob ((0 : Int) ≤ (↑i : Int) ∧ (↑i : Int) < (↑p.sub.length : Int) ∧ (↑i : Int).toNat * (3 : Nat) < (pthsC p.sub).length) (.ob (List.take (3 : Nat) (List.drop ((↑i : Int).toNat * (3 : Nat)) (pthsC p.sub)) = (pthL (p.sub.getD i pth0))) (.ob (Ctr Tryd.prog 48 [AV.agg (pthL (p.sub.getD i pth0)), AV.int .i64 (IntKind.i64.wrap ((↑m : Int) - (↑n : Int)))] (AV.int .i64 (0 : Int))) (.head (pt Tryd.f48 0) ({ tmps := [(1, AV.int .i64 (↑m : Int)), (2, AV.ptr 2 0), (5, AV.int .i64 (IntKind.i64.wrap ((↑n : Int) + (0 : Int)))), (6, AV.int .i64 (IntKind.i64.wrap ((↑i : Int) + (1 : Int))))], heap := [(2, .var true (pthL p))], tags := [] }))))) (.head (pt Tryd.f48 1) ({ tmps := [(1, AV.int .i64 (↑m : Int)), (2, AV.ptr 2 0), (5, AV.int .i64 (↑n : Int)), (7, AV.int .i64 (0 : Int))], heap := [(2, .var true (pthL p))], tags := [] }))) (.head (pt Tryd.f48 1) ({ tmps := [(1, AV.int .i64 (↑m : Int)), (2, AV.ptr 2 0), (5, AV.int .i64 (↑n : Int)), (7, AV.int .i64 (0 : Int))], heap := [(2, .var true (pthL p))], tags := [] }))) (by kernel_rfl) (by
    simp only [PT.holds, true_implies, Bool.false_eq_true, Bool.true_eq_false, false_implies, true_and, and_true]
    refine ⟨fun a => ⟨fun b => ?_, fun b => ?_⟩, fun a => ?_⟩
    · exfalso; have := of_decide_eq_true a; have := of_decide_eq_true b; omega
    · exact head_eq k (by simp [stP1, pthL])
    · exact head_eq k (by simp [stP1, pthL]))
theorem sP1_h (p : Pth) (m n i : Nat) (R : Int) (y : Nat) (hi : i < p.test.length) (hl : p.test.length ≤ 1048600) (hm : m ≤ 1000) (hn : n ≤ m) (hy : y ≤ 2000) (hc : Ctr Tryd.prog 65 [.agg (fltL (p.test.getD i flt0)), .int .i64 (m - n : Nat)] (.int .i64 y)) (k : HT Tryd.prog Tryd.f48.ntmps (pt Tryd.f48 1) (stP1 p m (n + y : Nat) (i + 1)) (EndsA Γ (.pure [] (.int .i64 R)) Tryd.f48)) : HT Tryd.prog Tryd.f48.ntmps (pt Tryd.f48 1) (stP1 p m n i) (EndsA Γ (.pure [] (.int .i64 R)) Tryd.f48) :=
  HT.walk Γ_ok mo_ok (⟨([(25, .val (.agg (pthL (p.sub.getD i pth0)))), (48, .val (.agg (fltL (p.test.getD i flt0)))), (29, .call [] (.int .i64 y)), (52, .call [] (.int .i64 y))] ++ []), sp48, hd48 [] [] [] [], [], .pure [] (.int .i64 R)⟩ : Wk) 4000 (T := .split (decide ((↑i : Int) < (↑p.test.length : Int))) (.split (decide ((↑n : Int) ≤ (↑m : Int))) (.ob ((0 : Int) ≤ (↑i : Int) ∧ (↑i : Int) < (↑p.test.length : Int) ∧ (↑i : Int).toNat * (6 : Nat) < (fltsC p.test).length) (.ob (List.take (6 : Nat) (List.drop ((↑i : Int).toNat * (6 : Nat)) (fltsC p.test)) = (fltL (p.test.getD i flt0))) (.ob (Ctr Tryd.prog 65 [AV.agg (fltL (p.test.getD i flt0)), AV.int .i64 (IntKind.i64.wrap ((↑m : Int) - (↑n : Int)))] (AV.int .i64 (↑y : Int))) (.head (pt Tryd.f48 1) ({ tmps := [(1, AV.int .i64 (↑m : Int)), (2, AV.ptr 2 0), (5, AV.int .i64 (IntKind.i64.wrap ((↑n : Int) + (↑y : Int)))), (7, AV.int .i64 (IntKind.i64.wrap ((↑i : Int) + (1 : Int))))], heap := [(2, .var true (pthL p))], tags := [] }))))) (.ob ((↑n : Int) = R) (.tt))) (.ob ((↑n : Int) = R) (.tt))) (by kernel_rfl) (by
    have w2 : IntKind.i64.wrap ((i : Int) + 1) = ((i + 1 : Nat) : Int) := by rw [i64_wrap (by omega) (by omega)]; rfl
    have w3 : IntKind.i64.wrap ((m : Int) - (n : Int)) = ((m - n : Nat) : Int) := by rw [i64_wrap (by omega) (by omega)]; omega
    have w4 : IntKind.i64.wrap ((n : Int) + (y : Int)) = ((n + y : Nat) : Int) := by rw [i64_wrap (by omega) (by omega)]; rfl
    have h0 : decide ((i : Int) < p.test.length) = true := by simp; omega
    have h1 : decide ((n : Int) ≤ (m : Int)) = true := by simp; omega
    simp only [PT.holds, w2, w3, w4, h0, h1, Int.toNat_natCast, pthsC_len, fltsC_len, true_implies, Bool.false_eq_true, Bool.true_eq_false, false_implies, true_and, and_true]
    exact ⟨by omega, by ((try simp only [Nat.add_assoc, Nat.reduceAdd, Nat.add_zero]) <;> first | (rw [ats_take _ _ _ _ hi (by decide)]; rfl) | (rw [pths_take _ _ _ _ hi (by decide)]; rfl) | (rw [flts_take _ _ _ _ hi (by decide)]; rfl) | (rw [ats_take0 _ _ _ hi (by decide)]; rfl) | (rw [pths_take0 _ _ _ hi (by decide)]; rfl) | (rw [flts_take0 _ _ _ hi (by decide)]; rfl)), hc, head_eq k (by simp [stP1, pthL])⟩)
theorem sP1_e (p : Pth) (m n i : Nat) (h : p.test.length ≤ i ∨ m < n) : HT Tryd.prog Tryd.f48.ntmps (pt Tryd.f48 1) (stP1 p m n i) (EndsA Γ (.pure [] (.int .i64 n)) Tryd.f48) :=
  HT.walk Γ_ok mo_ok (⟨([(25, .val (.agg (pthL (p.sub.getD i pth0)))), (48, .val (.agg (fltL (p.test.getD i flt0)))), (29, .call [] (.int .i64 0)), (52, .call [] (.int .i64 0))] ++ []), sp48, hd48 [] [] [] [], [], .pure [] (.int .i64 n)⟩ : Wk) 4000 (T := .split (decide ((↑i : Int) < (↑p.test.length : Int))) (.split (decide ((↑n : Int) ≤ (↑m : Int))) (.ob ((0 : Int) ≤ (↑i : Int) ∧ (↑i : Int) < (↑p.test.length : Int) ∧ (↑i : Int).toNat * (6 : Nat) < (fltsC p.test).length) (.ob (List.take (6 : Nat) (List.drop ((↑i : Int).toNat * (6 : Nat)) (fltsC p.test)) = (fltL (p.test.getD i flt0))) (.ob (Ctr Tryd.prog 65 [AV.agg (fltL (p.test.getD i flt0)), AV.int .i64 (IntKind.i64.wrap ((↑m : Int) - (↑n : Int)))] (AV.int .i64 (0 : Int))) (.head (pt Tryd.f48 1) ({ tmps := [(1, AV.int .i64 (↑m : Int)), (2, AV.ptr 2 0), (5, AV.int .i64 (IntKind.i64.wrap ((↑n : Int) + (0 : Int)))), (7, AV.int .i64 (IntKind.i64.wrap ((↑i : Int) + (1 : Int))))], heap := [(2, .var true (pthL p))], tags := [] }))))) (.ob ((↑n : Int) = (↑n : Int)) (.tt))) (.ob ((↑n : Int) = (↑n : Int)) (.tt))) (by kernel_rfl) (by
    simp only [PT.holds, true_implies, Bool.false_eq_true, Bool.true_eq_false, false_implies, true_and, and_true]
    refine ⟨fun a => ⟨fun b => ?_, fun b => trivial⟩, fun a => trivial⟩
    exfalso; have := of_decide_eq_true a; have := of_decide_eq_true b; omega)
theorem sP_p (p : Pth) (m : Nat) (R : Int) (k : HT Tryd.prog Tryd.f48.ntmps (pt Tryd.f48 0) (stP0 p m 1 0) (EndsA Γ (.pure [] (.int .i64 R)) Tryd.f48)) : Ctr Tryd.prog 48 [.agg (pthL p), .int .i64 m] (.int .i64 R) :=
  Ctr.mk Γ_ok Tryd.func48 (by kernel_rfl) Tryd.call48 [] (by kernel_rfl) (HT.walk Γ_ok mo_ok (⟨([] ++ []), sp48, hd48 [] [] [] [], [], .pure [] (.int .i64 R)⟩ : Wk) 4000 (T := .head (pt Tryd.f48 0) ({ tmps := [(1, AV.int .i64 (↑m : Int)), (2, AV.ptr 2 0), (5, AV.int .i64 (1 : Int)), (6, AV.int .i64 (0 : Int))], heap := [(2, .var true (pthL p))], tags := [] })) (by kernel_rfl) (by
    simp only [PT.holds, true_implies, Bool.false_eq_true, Bool.true_eq_false, false_implies, true_and, and_true]
    exact head_eq k (by simp [stP0, pthL])))
theorem sQ0_h (p : Flt) (m n i : Nat) (R : Int) (y : Nat) (hi : i < p.sub.length) (hl : p.sub.length ≤ 1048600) (hm : m ≤ 1000) (hn : n ≤ m) (hy : y ≤ 2000) (hc : Ctr Tryd.prog 65 [.agg (fltL (p.sub.getD i flt0)), .int .i64 (m - n : Nat)] (.int .i64 y)) (k : HT Tryd.prog Tryd.f65.ntmps (pt Tryd.f65 0) (stQ0 p m (n + y : Nat) (i + 1)) (EndsA Γ (.pure [] (.int .i64 R)) Tryd.f65)) : HT Tryd.prog Tryd.f65.ntmps (pt Tryd.f65 0) (stQ0 p m n i) (EndsA Γ (.pure [] (.int .i64 R)) Tryd.f65) :=
  HT.walk Γ_ok mo_ok (⟨([(25, .val (.agg (fltL (p.sub.getD i flt0)))), (48, .val (.agg (pthL (p.way.getD i pth0)))), (29, .call [] (.int .i64 y)), (52, .call [] (.int .i64 y))] ++ []), sp65, hd65 [] [] [] [], [], .pure [] (.int .i64 R)⟩ : Wk) 4000 (T := .split (decide ((↑i : Int) < (↑p.sub.length : Int))) (.split (decide ((↑n : Int) ≤ (↑m : Int))) (.ob ((0 : Int) ≤ (↑i : Int) ∧ (↑i : Int) < (↑p.sub.length : Int) ∧ (↑i : Int).toNat * (6 : Nat) < (fltsC p.sub).length) (.ob (List.take (6 : Nat) (List.drop ((↑i : Int).toNat * (6 : Nat)) (fltsC p.sub)) = (fltL (p.sub.getD i flt0))) (.ob (Ctr Tryd.prog 65 [AV.agg (fltL (p.sub.getD i flt0)), AV.int .i64 (IntKind.i64.wrap ((↑m : Int) - (↑n : Int)))] (AV.int .i64 (↑y : Int))) (.head (pt Tryd.f65 0) ({ tmps := [(1, AV.int .i64 (↑m : Int)), (2, AV.ptr 2 0), (5, AV.int .i64 (IntKind.i64.wrap ((↑n : Int) + (↑y : Int)))), (6, AV.int .i64 (IntKind.i64.wrap ((↑i : Int) + (1 : Int))))], heap := [(2, .var true (fltL p))], tags := [] }))))) (.head (pt Tryd.f65 1) ({ tmps := [(1, AV.int .i64 (↑m : Int)), (2, AV.ptr 2 0), (5, AV.int .i64 (↑n : Int)), (7, AV.int .i64 (0 : Int))], heap := [(2, .var true (fltL p))], tags := [] }))) (.head (pt Tryd.f65 1) ({ tmps := [(1, AV.int .i64 (↑m : Int)), (2, AV.ptr 2 0), (5, AV.int .i64 (↑n : Int)), (7, AV.int .i64 (0 : Int))], heap := [(2, .var true (fltL p))], tags := [] }))) (by kernel_rfl) (by
    have w2 : IntKind.i64.wrap ((i : Int) + 1) = ((i + 1 : Nat) : Int) := by rw [i64_wrap (by omega) (by omega)]; rfl
    have w3 : IntKind.i64.wrap ((m : Int) - (n : Int)) = ((m - n : Nat) : Int) := by rw [i64_wrap (by omega) (by omega)]; omega
    have w4 : IntKind.i64.wrap ((n : Int) + (y : Int)) = ((n + y : Nat) : Int) := by rw [i64_wrap (by omega) (by omega)]; rfl
    have h0 : decide ((i : Int) < p.sub.length) = true := by simp; omega
    have h1 : decide ((n : Int) ≤ (m : Int)) = true := by simp; omega
    simp only [PT.holds, w2, w3, w4, h0, h1, Int.toNat_natCast, pthsC_len, fltsC_len, true_implies, Bool.false_eq_true, Bool.true_eq_false, false_implies, true_and, and_true]
    exact ⟨by omega, by ((try simp only [Nat.add_assoc, Nat.reduceAdd, Nat.add_zero]) <;> first | (rw [ats_take _ _ _ _ hi (by decide)]; rfl) | (rw [pths_take _ _ _ _ hi (by decide)]; rfl) | (rw [flts_take _ _ _ _ hi (by decide)]; rfl) | (rw [ats_take0 _ _ _ hi (by decide)]; rfl) | (rw [pths_take0 _ _ _ hi (by decide)]; rfl) | (rw [flts_take0 _ _ _ hi (by decide)]; rfl)), hc, head_eq k (by simp [stQ0, fltL])⟩)
theorem sQ0_e (p : Flt) (m n i : Nat) (R : Int) (h : p.sub.length ≤ i ∨ m < n) (k : HT Tryd.prog Tryd.f65.ntmps (pt Tryd.f65 1) (stQ1 p m n 0) (EndsA Γ (.pure [] (.int .i64 R)) Tryd.f65)) : HT Tryd.prog Tryd.f65.ntmps (pt Tryd.f65 0) (stQ0 p m n i) (EndsA Γ (.pure [] (.int .i64 R)) Tryd.f65) :=
  HT.walk Γ_ok mo_ok (⟨([(25, .val (.agg (fltL (p.sub.getD i flt0)))), (48, .val (.agg (pthL (p.way.getD i pth0)))), (29, .call [] (.int .i64 0)), (52, .call [] (.int .i64 0))] ++ []), sp65, hd65 [] [] [] [], [], .pure [] (.int .i64 R)⟩ : Wk) 4000 (T := .split (decide ((↑i : Int) < (↑p.sub.length : Int))) (.split (decide ((↑n : Int) ≤ (↑m : Int))) (.ob ((0 : Int) ≤ (↑i : Int) ∧ (↑i : Int) < (↑p.sub.length : Int) ∧ (↑i : Int).toNat * (6 : Nat) < (fltsC p.sub).length) (.ob (List.take (6 : Nat) (List.drop ((↑i : Int).toNat * (6 : Nat)) (fltsC p.sub)) = (fltL (p.sub.getD i flt0))) (.ob (Ctr Tryd.prog 65 [AV.agg (fltL (p.sub.getD i flt0)), AV.int .i64 (IntKind.i64.wrap ((↑m : Int) - (↑n : Int)))] (AV.int .i64 (0 : Int))) (.head (pt Tryd.f65 0) ({ tmps := [(1, AV.int .i64 (↑m : Int)), (2, AV.ptr 2 0), (5, AV.int .i64 (IntKind.i64.wrap ((↑n : Int) + (0 : Int)))), (6, AV.int .i64 (IntKind.i64.wrap ((↑i : Int) + (1 : Int))))], heap := [(2, .var true (fltL p))], tags := [] }))))) (.head (pt Tryd.f65 1) ({ tmps := [(1, AV.int .i64 (↑m : Int)), (2, AV.ptr 2 0), (5, AV.int .i64 (↑n : Int)), (7, AV.int .i64 (0 : Int))], heap := [(2, .var true (fltL p))], tags := [] }))) (.head (pt Tryd.f65 1) ({ tmps := [(1, AV.int .i64 (↑m : Int)), (2, AV.ptr 2 0), (5, AV.int .i64 (↑n : Int)), (7, AV.int .i64 (0 : Int))], heap := [(2, .var true (fltL p))], tags := [] }))) (by kernel_rfl) (by
    simp only [PT.holds, true_implies, Bool.false_eq_true, Bool.true_eq_false, false_implies, true_and, and_true]
    refine ⟨fun a => ⟨fun b => ?_, fun b => ?_⟩, fun a => ?_⟩
    · exfalso; have := of_decide_eq_true a; have := of_decide_eq_true b; omega
    · exact head_eq k (by simp [stQ1, fltL])
    · exact head_eq k (by simp [stQ1, fltL]))
theorem sQ1_h (p : Flt) (m n i : Nat) (R : Int) (y : Nat) (hi : i < p.way.length) (hl : p.way.length ≤ 1048600) (hm : m ≤ 1000) (hn : n ≤ m) (hy : y ≤ 2000) (hc : Ctr Tryd.prog 48 [.agg (pthL (p.way.getD i pth0)), .int .i64 (m - n : Nat)] (.int .i64 y)) (k : HT Tryd.prog Tryd.f65.ntmps (pt Tryd.f65 1) (stQ1 p m (n + y : Nat) (i + 1)) (EndsA Γ (.pure [] (.int .i64 R)) Tryd.f65)) : HT Tryd.prog Tryd.f65.ntmps (pt Tryd.f65 1) (stQ1 p m n i) (EndsA Γ (.pure [] (.int .i64 R)) Tryd.f65) :=
  HT.walk Γ_ok mo_ok (⟨([(25, .val (.agg (fltL (p.sub.getD i flt0)))), (48, .val (.agg (pthL (p.way.getD i pth0)))), (29, .call [] (.int .i64 y)), (52, .call [] (.int .i64 y))] ++ []), sp65, hd65 [] [] [] [], [], .pure [] (.int .i64 R)⟩ : Wk) 4000 (T := .split (decide ((↑i : Int) < (↑p.way.length : Int))) (.split (decide ((↑n : Int) ≤ (↑m : Int))) (.ob ((0 : Int) ≤ (↑i : Int) ∧ (↑i : Int) < (↑p.way.length : Int) ∧ (↑i : Int).toNat * (3 : Nat) < (pthsC p.way).length) (.ob (List.take (3 : Nat) (List.drop ((↑i : Int).toNat * (3 : Nat)) (pthsC p.way)) = (pthL (p.way.getD i pth0))) (.ob (Ctr Tryd.prog 48 [AV.agg (pthL (p.way.getD i pth0)), AV.int .i64 (IntKind.i64.wrap ((↑m : Int) - (↑n : Int)))] (AV.int .i64 (↑y : Int))) (.head (pt Tryd.f65 1) ({ tmps := [(1, AV.int .i64 (↑m : Int)), (2, AV.ptr 2 0), (5, AV.int .i64 (IntKind.i64.wrap ((↑n : Int) + (↑y : Int)))), (7, AV.int .i64 (IntKind.i64.wrap ((↑i : Int) + (1 : Int))))], heap := [(2, .var true (fltL p))], tags := [] }))))) (.ob ((↑n : Int) = R) (.tt))) (.ob ((↑n : Int) = R) (.tt))) (by kernel_rfl) (by
    have w2 : IntKind.i64.wrap ((i : Int) + 1) = ((i + 1 : Nat) : Int) := by rw [i64_wrap (by omega) (by omega)]; rfl
    have w3 : IntKind.i64.wrap ((m : Int) - (n : Int)) = ((m - n : Nat) : Int) := by rw [i64_wrap (by omega) (by omega)]; omega
    have w4 : IntKind.i64.wrap ((n : Int) + (y : Int)) = ((n + y : Nat) : Int) := by rw [i64_wrap (by omega) (by omega)]; rfl
    have h0 : decide ((i : Int) < p.way.length) = true := by simp; omega
    have h1 : decide ((n : Int) ≤ (m : Int)) = true := by simp; omega
    simp only [PT.holds, w2, w3, w4, h0, h1, Int.toNat_natCast, pthsC_len, fltsC_len, true_implies, Bool.false_eq_true, Bool.true_eq_false, false_implies, true_and, and_true]
    exact ⟨by omega, by ((try simp only [Nat.add_assoc, Nat.reduceAdd, Nat.add_zero]) <;> first | (rw [ats_take _ _ _ _ hi (by decide)]; rfl) | (rw [pths_take _ _ _ _ hi (by decide)]; rfl) | (rw [flts_take _ _ _ _ hi (by decide)]; rfl) | (rw [ats_take0 _ _ _ hi (by decide)]; rfl) | (rw [pths_take0 _ _ _ hi (by decide)]; rfl) | (rw [flts_take0 _ _ _ hi (by decide)]; rfl)), hc, head_eq k (by simp [stQ1, fltL])⟩)
theorem sQ1_e (p : Flt) (m n i : Nat) (h : p.way.length ≤ i ∨ m < n) : HT Tryd.prog Tryd.f65.ntmps (pt Tryd.f65 1) (stQ1 p m n i) (EndsA Γ (.pure [] (.int .i64 n)) Tryd.f65) :=
  HT.walk Γ_ok mo_ok (⟨([(25, .val (.agg (fltL (p.sub.getD i flt0)))), (48, .val (.agg (pthL (p.way.getD i pth0)))), (29, .call [] (.int .i64 0)), (52, .call [] (.int .i64 0))] ++ []), sp65, hd65 [] [] [] [], [], .pure [] (.int .i64 n)⟩ : Wk) 4000 (T := .split (decide ((↑i : Int) < (↑p.way.length : Int))) (.split (decide ((↑n : Int) ≤ (↑m : Int))) (.ob ((0 : Int) ≤ (↑i : Int) ∧ (↑i : Int) < (↑p.way.length : Int) ∧ (↑i : Int).toNat * (3 : Nat) < (pthsC p.way).length) (.ob (List.take (3 : Nat) (List.drop ((↑i : Int).toNat * (3 : Nat)) (pthsC p.way)) = (pthL (p.way.getD i pth0))) (.ob (Ctr Tryd.prog 48 [AV.agg (pthL (p.way.getD i pth0)), AV.int .i64 (IntKind.i64.wrap ((↑m : Int) - (↑n : Int)))] (AV.int .i64 (0 : Int))) (.head (pt Tryd.f65 1) ({ tmps := [(1, AV.int .i64 (↑m : Int)), (2, AV.ptr 2 0), (5, AV.int .i64 (IntKind.i64.wrap ((↑n : Int) + (0 : Int)))), (7, AV.int .i64 (IntKind.i64.wrap ((↑i : Int) + (1 : Int))))], heap := [(2, .var true (fltL p))], tags := [] }))))) (.ob ((↑n : Int) = (↑n : Int)) (.tt))) (.ob ((↑n : Int) = (↑n : Int)) (.tt))) (by kernel_rfl) (by
    simp only [PT.holds, true_implies, Bool.false_eq_true, Bool.true_eq_false, false_implies, true_and, and_true]
    refine ⟨fun a => ⟨fun b => ?_, fun b => trivial⟩, fun a => trivial⟩
    exfalso; have := of_decide_eq_true a; have := of_decide_eq_true b; omega)
theorem sQ_p (p : Flt) (m : Nat) (R : Int) (k : HT Tryd.prog Tryd.f65.ntmps (pt Tryd.f65 0) (stQ0 p m 1 0) (EndsA Γ (.pure [] (.int .i64 R)) Tryd.f65)) : Ctr Tryd.prog 65 [.agg (fltL p), .int .i64 m] (.int .i64 R) :=
  Ctr.mk Γ_ok Tryd.func65 (by kernel_rfl) Tryd.call65 [] (by kernel_rfl) (HT.walk Γ_ok mo_ok (⟨([] ++ []), sp65, hd65 [] [] [] [], [], .pure [] (.int .i64 R)⟩ : Wk) 4000 (T := .head (pt Tryd.f65 0) ({ tmps := [(1, AV.int .i64 (↑m : Int)), (2, AV.ptr 2 0), (5, AV.int .i64 (1 : Int)), (6, AV.int .i64 (0 : Int))], heap := [(2, .var true (fltL p))], tags := [] })) (by kernel_rfl) (by
    simp only [PT.holds, true_implies, Bool.false_eq_true, Bool.true_eq_false, false_implies, true_and, and_true]
    exact head_eq k (by simp [stQ0, fltL])))
end Go.Proofs.YteimloiaipiadaaDoor
end

section
set_option linter.unusedVariables false
set_option linter.unusedSimpArgs false
set_option maxRecDepth 100000
namespace Go.Proofs.YteimloiaipiadaaDoor
open Go Go.AX

def nmsC (l : List Nm) : List AV := l.flatMap nmC
def strsC (l : List ByteArray) : List AV := l.map .str
theorem nmC_len (a : Nm) : (nmC a).length = 2 := rfl
theorem nmsC_len (l : List Nm) : (nmsC l).length = l.length * 2 := flat_len nmC_len l
theorem nms_take0 (l : List Nm) (i m : Nat) (hi : i < l.length) (hm : m ≤ 2) : ((nmsC l).drop (i * 2)).take m = (nmC (l.getD i nm0)).take m := by have := flat_take nmC_len nm0 l i 0 m hi (by omega); rw [Nat.add_zero] at this; simpa [nmsC] using this
theorem strsC_len (l : List ByteArray) : (strsC l).length = l.length := by simp [strsC]
theorem strs_nth (l : List ByteArray) (i : Nat) (hi : i < l.length) : (strsC l)[i]? = some (.str (l.getD i ⟨#[]⟩)) := by simp [strsC, List.getD_eq_getElem?_getD, hi]
theorem nmsC_app (l : List Nm) (n : Nm) : nmsC (l ++ [n]) = nmsC l ++ [.str n.sp, .str n.lo] := by simp [nmsC, nmC]
theorem strsC_app (l : List ByteArray) (n : ByteArray) : strsC (l ++ [n]) = strsC l ++ [.str n] := by simp [strsC]
theorem nm_eq (a b : Nm) : (decide (a.sp = b.sp) && (decide (a.lo = b.lo) && true)) = decide (a = b) := by
  cases a; cases b
  simp only [Bool.and_true, Nm.mk.injEq, Bool.decide_and]
def hasB (l : List ByteArray) (n : ByteArray) : Bool := l.any fun x => decide (x = n)
theorem hasB_iff (l : List ByteArray) (n : ByteArray) : hasB l n = true ↔ n ∈ l := by
  simp only [hasB, List.any_eq_true, decide_eq_true_eq]
  exact ⟨fun ⟨x, h, e⟩ => e ▸ h, fun h => ⟨n, h, rfl⟩⟩
theorem hasB_false (l : List ByteArray) (n : ByteArray) (h : n ∉ l) : hasB l n = false := by
  cases e : hasB l n with
  | false => rfl
  | true => exact absurd ((hasB_iff l n).1 e) h
def stHn (l : List Nm) (n : Nm) (i : Nat) : AS := ⟨[(0, .sl none l.length (nmsC l) .no), (3, .ptr 3 0), (5, .int .i64 i)], [(3, .var true (nmC n))], []⟩
def stHs (l : List ByteArray) (s : ByteArray) (i : Nat) : AS := ⟨[(0, .sl none l.length (strsC l) .no), (1, .str s), (5, .int .i64 i)], [], []⟩

theorem hn_h (l : List Nm) (n : Nm) (i : Nat) (R : Bool) (hi : i < l.length) (hl : l.length ≤ 1000000) (k : l.getD i nm0 ≠ n → HT Tryd.prog Tryd.f70.ntmps (pt Tryd.f70 0) (stHn l n (i + 1)) (EndsA Γ (.pure [] (.bool R)) Tryd.f70)) (hr : l.getD i nm0 = n → R = true) : HT Tryd.prog Tryd.f70.ntmps (pt Tryd.f70 0) (stHn l n i) (EndsA Γ (.pure [] (.bool R)) Tryd.f70) :=
  HT.walk Γ_ok mo_ok (⟨[(9, .val (.bool true)), (15, .val (.agg (nmC (l.getD i nm0))))], (sp70).filter (fun x => !Nat.beq x 9), hd70 [] [] [] [], dsp70, .pure [] (.bool R)⟩ : Wk) 4000 (T := .ob (decide ((↑i : Int) < (↑l.length : Int)) = true) (.or (.ob ((0 : Int) ≤ (↑i : Int) ∧ (↑i : Int) < (↑l.length : Int) ∧ (↑i : Int).toNat * (2 : Nat) < (nmsC l).length) (.ob (List.take (2 : Nat) (List.drop ((↑i : Int).toNat * (2 : Nat)) (nmsC l)) = [AV.str (l.getD i nm0).sp, AV.str (l.getD i nm0).lo]) (.ob ((2 : Nat) ≤ (2 : Nat)) (.ob ((decide ((l.getD i nm0).sp = n.sp) && (decide ((l.getD i nm0).lo = n.lo) && true)) = true) (.ob (true = R) (.tt)))))) (.ob ((0 : Int) ≤ (↑i : Int) ∧ (↑i : Int) < (↑l.length : Int) ∧ (↑i : Int).toNat * (2 : Nat) < (nmsC l).length) (.ob (List.take (2 : Nat) (List.drop ((↑i : Int).toNat * (2 : Nat)) (nmsC l)) = [AV.str (l.getD i nm0).sp, AV.str (l.getD i nm0).lo]) (.ob ((2 : Nat) ≤ (2 : Nat)) (.ob ((decide ((l.getD i nm0).sp = n.sp) && (decide ((l.getD i nm0).lo = n.lo) && true)) = false) (.head (pt Tryd.f70 0) ({ tmps := [(0, AV.sl none l.length (nmsC l) .no), (3, AV.ptr 3 0), (5, AV.int .i64 (IntKind.i64.wrap ((↑i : Int) + (1 : Int))))], heap := [(3, .var true [AV.str n.sp, AV.str n.lo])], tags := [] })))))))) (by kernel_rfl) (by
    have w2 : IntKind.i64.wrap ((i : Int) + 1) = ((i + 1 : Nat) : Int) := by rw [i64_wrap (by omega) (by omega)]; rfl
    have h0 : decide ((i : Int) < l.length) = true := by simp; omega
    simp only [PT.holds, w2, h0, nm_eq, Int.toNat_natCast, nmsC_len, true_implies, Bool.false_eq_true, Bool.true_eq_false, false_implies, true_and, and_true]
    by_cases h : l.getD i nm0 = n
    · exact .inl ⟨by omega, by rw [nms_take0 _ _ _ hi (by decide)]; rfl, by omega, decide_eq_true h, (hr h).symm⟩
    · exact .inr ⟨by omega, by rw [nms_take0 _ _ _ hi (by decide)]; rfl, by omega, decide_eq_false h, head_eq (k h) (by simp [stHn, nmC])⟩)
theorem hn_e (l : List Nm) (n : Nm) (i : Nat) (hi : i = l.length) : HT Tryd.prog Tryd.f70.ntmps (pt Tryd.f70 0) (stHn l n i) (EndsA Γ (.pure [] (.bool false)) Tryd.f70) :=
  HT.walk Γ_ok mo_ok (⟨[(9, .val (.bool false)), (15, .val (.agg (nmC (l.getD i nm0))))], (sp70).filter (fun x => !Nat.beq x 9), hd70 [] [] [] [], dsp70, .pure [] (.bool false)⟩ : Wk) 4000 (T := .ob (decide ((↑i : Int) < (↑l.length : Int)) = false) (.ob (false = false) (.tt))) (by kernel_rfl) (by
    have h0 : decide ((i : Int) < l.length) = false := by simp; omega
    simp only [PT.holds, h0, true_implies, Bool.false_eq_true, Bool.true_eq_false, false_implies, true_and, and_true])
theorem hn_l (l : List Nm) (n : Nm) (hl : l.length ≤ 1000000) : ∀ d i, i + d = l.length → (∀ j, j < i → l.getD j nm0 ≠ n) → HT Tryd.prog Tryd.f70.ntmps (pt Tryd.f70 0) (stHn l n i) (EndsA Γ (.pure [] (.bool (decide (n ∈ l)))) Tryd.f70) := by
  intro d
  induction d with
  | zero =>
    intro i h hj
    have e : decide (n ∈ l) = false := decide_eq_false fun hm => by
      obtain ⟨j, hj1, rfl⟩ := List.getElem_of_mem hm
      exact hj j (by omega) (by rw [List.getD_eq_getElem?_getD, List.getElem?_eq_getElem hj1]; rfl)
    rw [e]
    exact hn_e l n i (by omega)
  | succ d ih =>
    intro i h hj
    refine hn_h l n i _ (by omega) hl (fun hne => ih (i + 1) (by omega) fun j hj' => ?_) (fun he => ?_)
    · rcases Nat.lt_or_eq_of_le (Nat.lt_succ_iff.1 hj') with h1 | h1
      · exact hj j h1
      · rw [h1]; exact hne
    · exact decide_eq_true (he ▸ getD_mem l i nm0 (by omega))

theorem hn_ctr (l : List Nm) (n : Nm) (hl : l.length ≤ 1000000) : Ctr Tryd.prog 70 [.sl none l.length (nmsC l) .no, .agg (nmC n)] (.bool (decide (n ∈ l))) :=
  Ctr.mk Γ_ok Tryd.func70 (by kernel_rfl) Tryd.call70 [] (by kernel_rfl) (HT.walk Γ_ok mo_ok (⟨[], sp70, hd70 [] [] [] [], dsp70, .pure [] (.bool (decide (n ∈ l)))⟩ : Wk) 4000 (T := .head (pt Tryd.f70 0) ({ tmps := [(0, AV.sl none l.length (nmsC l) .no), (3, AV.ptr 3 0), (5, AV.int .i64 (0 : Int))], heap := [(3, .var true [AV.str n.sp, AV.str n.lo])], tags := [] })) (by kernel_rfl) (by
    simp only [PT.holds]
    exact head_eq (hn_l l n hl l.length 0 (Nat.zero_add _) (fun j hj => absurd hj (Nat.not_lt_zero j))) (by simp [stHn, nmC])))
theorem hs_h (l : List ByteArray) (n : ByteArray) (i : Nat) (R : Bool) (hi : i < l.length) (hl : l.length ≤ 1000000) (k : l.getD i ⟨#[]⟩ ≠ n → HT Tryd.prog Tryd.f34.ntmps (pt Tryd.f34 0) (stHs l n (i + 1)) (EndsA Γ (.pure [] (.bool R)) Tryd.f34)) (hr : l.getD i ⟨#[]⟩ = n → R = true) : HT Tryd.prog Tryd.f34.ntmps (pt Tryd.f34 0) (stHs l n i) (EndsA Γ (.pure [] (.bool R)) Tryd.f34) :=
  HT.walk Γ_ok mo_ok (⟨[(9, .val (.bool true)), (15, .val (.str (l.getD i ⟨#[]⟩)))], (sp34).filter (fun x => !Nat.beq x 9), hd34 [] [] [] [], [], .pure [] (.bool R)⟩ : Wk) 4000 (T := .ob (decide ((↑i : Int) < (↑l.length : Int)) = true) (.ob ((0 : Int) ≤ (↑i : Int) ∧ (↑i : Int) < (↑l.length : Int) ∧ (↑i : Int).toNat * (1 : Nat) < (strsC l).length) (.ob ((strsC l)[(↑i : Int).toNat * (1 : Nat)]? = some (AV.str (l.getD i (ByteArray.mk #[])))) (.split (decide (l.getD i (ByteArray.mk #[]) = n)) (.ob (true = R) (.tt)) (.head (pt Tryd.f34 0) ({ tmps := [(0, AV.sl none l.length (strsC l) .no), (1, AV.str n), (5, AV.int .i64 (IntKind.i64.wrap ((↑i : Int) + (1 : Int))))], heap := [], tags := [] })))))) (by kernel_rfl) (by
    have w2 : IntKind.i64.wrap ((i : Int) + 1) = ((i + 1 : Nat) : Int) := by rw [i64_wrap (by omega) (by omega)]; rfl
    have h0 : decide ((i : Int) < l.length) = true := by simp; omega
    simp only [PT.holds, w2, h0, Int.toNat_natCast, Nat.mul_one, strsC_len, strs_nth l i hi, decide_eq_true_eq, decide_eq_false_iff_not, true_implies, Bool.false_eq_true, Bool.true_eq_false, false_implies, true_and, and_true]
    exact ⟨by omega, fun h => (hr h).symm, fun h => head_eq (k h) (by simp [stHs])⟩)
theorem hs_e (l : List ByteArray) (n : ByteArray) (i : Nat) (hi : i = l.length) : HT Tryd.prog Tryd.f34.ntmps (pt Tryd.f34 0) (stHs l n i) (EndsA Γ (.pure [] (.bool false)) Tryd.f34) :=
  HT.walk Γ_ok mo_ok (⟨[(9, .val (.bool false)), (15, .val (.str (l.getD i ⟨#[]⟩)))], (sp34).filter (fun x => !Nat.beq x 9), hd34 [] [] [] [], [], .pure [] (.bool false)⟩ : Wk) 4000 (T := .ob (decide ((↑i : Int) < (↑l.length : Int)) = false) (.ob (false = false) (.tt))) (by kernel_rfl) (by
    have h0 : decide ((i : Int) < l.length) = false := by simp; omega
    simp only [PT.holds, h0, true_implies, Bool.false_eq_true, Bool.true_eq_false, false_implies, true_and, and_true])
theorem hs_l (l : List ByteArray) (n : ByteArray) (hl : l.length ≤ 1000000) : ∀ d i, i + d = l.length → (∀ j, j < i → l.getD j ⟨#[]⟩ ≠ n) → HT Tryd.prog Tryd.f34.ntmps (pt Tryd.f34 0) (stHs l n i) (EndsA Γ (.pure [] (.bool (hasB l n))) Tryd.f34) := by
  intro d
  induction d with
  | zero =>
    intro i h hj
    have e : hasB l n = false := hasB_false l n fun hm => by
      obtain ⟨j, hj1, rfl⟩ := List.getElem_of_mem hm
      exact hj j (by omega) (by rw [List.getD_eq_getElem?_getD, List.getElem?_eq_getElem hj1]; rfl)
    rw [e]
    exact hs_e l n i (by omega)
  | succ d ih =>
    intro i h hj
    refine hs_h l n i _ (by omega) hl (fun hne => ih (i + 1) (by omega) fun j hj' => ?_) (fun he => ?_)
    · rcases Nat.lt_or_eq_of_le (Nat.lt_succ_iff.1 hj') with h1 | h1
      · exact hj j h1
      · rw [h1]; exact hne
    · exact (hasB_iff l n).2 (he ▸ getD_mem l i ⟨#[]⟩ (by omega))

theorem hs_ctr (l : List ByteArray) (n : ByteArray) (hl : l.length ≤ 1000000) : Ctr Tryd.prog 34 [.sl none l.length (strsC l) .no, .str n] (.bool (hasB l n)) :=
  Ctr.mk Γ_ok Tryd.func34 (by kernel_rfl) Tryd.call34 [] (by kernel_rfl) (HT.walk Γ_ok mo_ok (⟨[], sp34, hd34 [] [] [] [], [], .pure [] (.bool (hasB l n))⟩ : Wk) 4000 (T := .head (pt Tryd.f34 0) ({ tmps := [(0, AV.sl none l.length (strsC l) .no), (1, AV.str n), (5, AV.int .i64 (0 : Int))], heap := [], tags := [] })) (by kernel_rfl) (by
    simp only [PT.holds]
    exact head_eq (hs_l l n hl l.length 0 (Nat.zero_add _) (fun j hj => absurd hj (Nat.not_lt_zero j))) (by simp [stHs])))
end Go.Proofs.YteimloiaipiadaaDoor
end

section
set_option linter.unusedVariables false
set_option linter.unusedSimpArgs false
set_option maxRecDepth 100000
namespace Go.Proofs.YteimloiaipiadaaDoor
open Go Go.AX

def stepN (a b : Int) (out : List Nm) (f : Flt) : List Nm := if a ≤ f.op ∧ f.op ≤ b ∧ f.nm ∉ out then out ++ [f.nm] else out
def stepV (o : Int) (n : Nm) (out : List ByteArray) (f : Flt) : List ByteArray := if f.op = o ∧ f.nm = n ∧ hasB out f.val = false then out ++ [f.val] else out
def stNm (l : List Flt) (a b : Int) (out : List Nm) (i : Nat) : AS := ⟨[(0, .sl none l.length (fltsC l) .no), (1, .int .i64 a), (2, .int .i64 b), (7, .sl none out.length (nmsC out) (.own 1)), (8, .int .i64 i)], [], [(1, ⟨out.length, 36, 2, none⟩)]⟩
def stVa (l : List Flt) (o : Int) (n : Nm) (out : List ByteArray) (i : Nat) : AS := ⟨[(0, .sl none l.length (fltsC l) .no), (1, .int .i64 o), (5, .ptr 5 0), (7, .sl none out.length (strsC out) (.own 1)), (8, .int .i64 i)], [(5, .var true (nmC n))], [(1, ⟨out.length, 9, 1, none⟩)]⟩

theorem nm_h (l : List Flt) (a b : Int) (out R : List Nm) (i : Nat) (hi : i < l.length) (hl : l.length ≤ 1000000) (ho : out.length ≤ i) (k : HT Tryd.prog Tryd.f53.ntmps (pt Tryd.f53 0) (stNm l a b (stepN a b out (l.getD i flt0)) (i + 1)) (EndsA Γ (.pure [] (.sl none R.length (nmsC R) .no)) Tryd.f53)) : HT Tryd.prog Tryd.f53.ntmps (pt Tryd.f53 0) (stNm l a b out i) (EndsA Γ (.pure [] (.sl none R.length (nmsC R) .no)) Tryd.f53) :=
  HT.walk Γ_ok mo_ok (⟨[(12, .val (.bool true)), (19, .val (.int .i64 (l.getD i flt0).op)), (27, .val (.int .i64 (l.getD i flt0).op)), (37, .val (.agg (nmC (l.getD i flt0).nm))), (38, .call [] (.bool (decide ((l.getD i flt0).nm ∈ out)))), (46, .val (.agg (nmC (l.getD i flt0).nm)))], (sp53).filter (fun x => !Nat.beq x 12), hd53 [(7, 1, 36, 2)] [] [] [], [], .pure [] (.sl none R.length (nmsC R) .no)⟩ : Wk) 4000 (T := .ob (decide ((↑i : Int) < (↑l.length : Int)) = true) (.ob ((0 : Int) ≤ (↑i : Int) ∧ (↑i : Int) < (↑l.length : Int) ∧ (↑i : Int).toNat * (6 : Nat) < (fltsC l).length) (.ob ((fltsC l)[(↑i : Int).toNat * (6 : Nat) + (0 : Nat)]? = some (AV.int .i64 (l.getD i flt0).op)) (.split (decide (a ≤ (l.getD i flt0).op)) (.ob ((0 : Int) ≤ (↑i : Int) ∧ (↑i : Int) < (↑l.length : Int) ∧ (↑i : Int).toNat * (6 : Nat) < (fltsC l).length) (.ob ((fltsC l)[(↑i : Int).toNat * (6 : Nat) + (0 : Nat)]? = some (AV.int .i64 (l.getD i flt0).op)) (.split (decide ((l.getD i flt0).op ≤ b)) (.ob ((0 : Int) ≤ (↑i : Int) ∧ (↑i : Int) < (↑l.length : Int) ∧ (↑i : Int).toNat * (6 : Nat) < (fltsC l).length) (.ob (List.take (2 : Nat) (List.drop ((↑i : Int).toNat * (6 : Nat) + (1 : Nat)) (fltsC l)) = [AV.str (l.getD i flt0).nm.sp, AV.str (l.getD i flt0).nm.lo]) (.ob (Ctr Tryd.prog 70 [AV.sl none out.length (nmsC out) .no, AV.agg [AV.str (l.getD i flt0).nm.sp, AV.str (l.getD i flt0).nm.lo]] (AV.bool (decide ((l.getD i flt0).nm ∈ out)))) (.split (decide ((l.getD i flt0).nm ∈ out)) (.head (pt Tryd.f53 0) ({ tmps := [(0, AV.sl none l.length (fltsC l) .no), (1, AV.int .i64 a), (2, AV.int .i64 b), (7, AV.sl none out.length (nmsC out) (.own (1 : Nat))), (8, AV.int .i64 (IntKind.i64.wrap ((↑i : Int) + (1 : Int))))], heap := [], tags := [(1, { n := out.length, e := (36 : Nat), sz := (2 : Nat) })] })) (.ob ((0 : Int) ≤ (↑i : Int) ∧ (↑i : Int) < (↑l.length : Int) ∧ (↑i : Int).toNat * (6 : Nat) < (fltsC l).length) (.ob (List.take (2 : Nat) (List.drop ((↑i : Int).toNat * (6 : Nat) + (1 : Nat)) (fltsC l)) = [AV.str (l.getD i flt0).nm.sp, AV.str (l.getD i flt0).nm.lo]) (.ob (out.length = out.length) (.ob ((nmsC out).length = out.length * ((1 : Nat) + (1 : Nat)) ∧ (splice (repL (List.map zn [AV.str (ByteArray.mk #[]), AV.str (ByteArray.mk #[])]) (1 : Nat)) ((0 : Nat) * (2 : Nat)) (cellsOf (AV.agg [AV.str (l.getD i flt0).nm.sp, AV.str (l.getD i flt0).nm.lo]))).length = (1 : Nat) * ((1 : Nat) + (1 : Nat)) ∧ (out.length + (1 : Nat)) * ((31 : Nat) + (1 : Nat)) ≤ (140737488355328 : Nat)) (.head (pt Tryd.f53 0) ({ tmps := [(0, AV.sl none l.length (fltsC l) .no), (1, AV.int .i64 a), (2, AV.int .i64 b), (7, AV.sl none (out.length + (1 : Nat)) (nmsC out ++ splice (repL (List.map zn [AV.str (ByteArray.mk #[]), AV.str (ByteArray.mk #[])]) (1 : Nat)) ((0 : Nat) * (2 : Nat)) (cellsOf (AV.agg [AV.str (l.getD i flt0).nm.sp, AV.str (l.getD i flt0).nm.lo]))) (.own (1 : Nat))), (8, AV.int .i64 (IntKind.i64.wrap ((↑i : Int) + (1 : Int))))], heap := [], tags := [(1, { n := out.length + (1 : Nat), e := (36 : Nat), sz := (2 : Nat) })] })))))))))) (.head (pt Tryd.f53 0) ({ tmps := [(0, AV.sl none l.length (fltsC l) .no), (1, AV.int .i64 a), (2, AV.int .i64 b), (7, AV.sl none out.length (nmsC out) (.own (1 : Nat))), (8, AV.int .i64 (IntKind.i64.wrap ((↑i : Int) + (1 : Int))))], heap := [], tags := [(1, { n := out.length, e := (36 : Nat), sz := (2 : Nat) })] }))))) (.head (pt Tryd.f53 0) ({ tmps := [(0, AV.sl none l.length (fltsC l) .no), (1, AV.int .i64 a), (2, AV.int .i64 b), (7, AV.sl none out.length (nmsC out) (.own (1 : Nat))), (8, AV.int .i64 (IntKind.i64.wrap ((↑i : Int) + (1 : Int))))], heap := [], tags := [(1, { n := out.length, e := (36 : Nat), sz := (2 : Nat) })] })))))) (by kernel_rfl) (by
    have w2 : IntKind.i64.wrap ((i : Int) + 1) = ((i + 1 : Nat) : Int) := by rw [i64_wrap (by omega) (by omega)]; rfl
    have h0 : decide ((i : Int) < l.length) = true := by simp; omega
    simp only [PT.holds, w2, h0, Int.toNat_natCast, fltsC_len, nmsC_len, true_implies, Bool.false_eq_true, Bool.true_eq_false, false_implies, true_and, and_true]
    refine ⟨by omega, by ((try simp only [Nat.add_assoc, Nat.reduceAdd, Nat.add_zero]) <;> first | (rw [ats_take _ _ _ _ hi (by decide)]; rfl) | (rw [ats_nth _ _ _ hi (by decide)]; rfl) | (rw [flts_take _ _ _ _ hi (by decide)]; rfl) | (rw [flts_nth _ _ _ hi (by decide)]; rfl) | (rw [ats_take0 _ _ _ hi (by decide)]; rfl) | (rw [ats_nth0 _ _ hi]; rfl) | (rw [flts_take0 _ _ _ hi (by decide)]; rfl) | (rw [flts_nth0 _ _ hi]; rfl)), fun h1 => ⟨by omega, by ((try simp only [Nat.add_assoc, Nat.reduceAdd, Nat.add_zero]) <;> first | (rw [ats_take _ _ _ _ hi (by decide)]; rfl) | (rw [ats_nth _ _ _ hi (by decide)]; rfl) | (rw [flts_take _ _ _ _ hi (by decide)]; rfl) | (rw [flts_nth _ _ _ hi (by decide)]; rfl) | (rw [ats_take0 _ _ _ hi (by decide)]; rfl) | (rw [ats_nth0 _ _ hi]; rfl) | (rw [flts_take0 _ _ _ hi (by decide)]; rfl) | (rw [flts_nth0 _ _ hi]; rfl)), fun h2 => ⟨by omega, by ((try simp only [Nat.add_assoc, Nat.reduceAdd, Nat.add_zero]) <;> first | (rw [ats_take _ _ _ _ hi (by decide)]; rfl) | (rw [ats_nth _ _ _ hi (by decide)]; rfl) | (rw [flts_take _ _ _ _ hi (by decide)]; rfl) | (rw [flts_nth _ _ _ hi (by decide)]; rfl) | (rw [ats_take0 _ _ _ hi (by decide)]; rfl) | (rw [ats_nth0 _ _ hi]; rfl) | (rw [flts_take0 _ _ _ hi (by decide)]; rfl) | (rw [flts_nth0 _ _ hi]; rfl)), hn_ctr out _ (by omega), fun h3 => ?_, fun h3 => ⟨by omega, by ((try simp only [Nat.add_assoc, Nat.reduceAdd, Nat.add_zero]) <;> first | (rw [ats_take _ _ _ _ hi (by decide)]; rfl) | (rw [ats_nth _ _ _ hi (by decide)]; rfl) | (rw [flts_take _ _ _ _ hi (by decide)]; rfl) | (rw [flts_nth _ _ _ hi (by decide)]; rfl) | (rw [ats_take0 _ _ _ hi (by decide)]; rfl) | (rw [ats_nth0 _ _ hi]; rfl) | (rw [flts_take0 _ _ _ hi (by decide)]; rfl) | (rw [flts_nth0 _ _ hi]; rfl)), ⟨rfl, by omega⟩, ?_⟩⟩, fun h2 => ?_⟩, fun h1 => ?_⟩
    · rw [stepN, if_neg (fun h => h.2.2 (of_decide_eq_true h3))] at k
      exact head_eq k (by simp [stNm])
    · rw [stepN, if_pos ⟨of_decide_eq_true h1, of_decide_eq_true h2, of_decide_eq_false h3⟩] at k
      exact head_eq k (by simp [stNm, nmsC_app, splice, repL, cellsOf])
    · rw [stepN, if_neg (fun h => of_decide_eq_false h2 h.2.1)] at k
      exact head_eq k (by simp [stNm])
    · rw [stepN, if_neg (fun h => of_decide_eq_false h1 h.1)] at k
      exact head_eq k (by simp [stNm]))
theorem nm_e (l : List Flt) (a b : Int) (out : List Nm) (i : Nat) (hi : i = l.length) : HT Tryd.prog Tryd.f53.ntmps (pt Tryd.f53 0) (stNm l a b out i) (EndsA Γ (.pure [] (.sl none out.length (nmsC out) .no)) Tryd.f53) :=
  HT.walk Γ_ok mo_ok (⟨[(12, .val (.bool false)), (19, .val (.int .i64 (l.getD i flt0).op)), (27, .val (.int .i64 (l.getD i flt0).op)), (37, .val (.agg (nmC (l.getD i flt0).nm))), (38, .call [] (.bool (decide ((l.getD i flt0).nm ∈ out)))), (46, .val (.agg (nmC (l.getD i flt0).nm)))], (sp53).filter (fun x => !Nat.beq x 12), hd53 [(7, 1, 36, 2)] [] [] [], [], .pure [] (.sl none out.length (nmsC out) .no)⟩ : Wk) 4000 (T := .ob (decide ((↑i : Int) < (↑l.length : Int)) = false) (.ob (out.length = out.length) (.ob (nmsC out = nmsC out) (.tt)))) (by kernel_rfl) (by
    have h0 : decide ((i : Int) < l.length) = false := by simp; omega
    simp only [PT.holds, h0, true_implies, Bool.false_eq_true, Bool.true_eq_false, false_implies, true_and, and_true])
theorem va_h (l : List Flt) (o : Int) (n : Nm) (out R : List ByteArray) (i : Nat) (hi : i < l.length) (hl : l.length ≤ 1000000) (ho : out.length ≤ i) (k : HT Tryd.prog Tryd.f54.ntmps (pt Tryd.f54 0) (stVa l o n (stepV o n out (l.getD i flt0)) (i + 1)) (EndsA Γ (.pure [] (.sl none R.length (strsC R) .no)) Tryd.f54)) : HT Tryd.prog Tryd.f54.ntmps (pt Tryd.f54 0) (stVa l o n out i) (EndsA Γ (.pure [] (.sl none R.length (strsC R) .no)) Tryd.f54) :=
  HT.walk Γ_ok mo_ok (⟨[(12, .val (.bool true)), (19, .val (.int .i64 (l.getD i flt0).op)), (27, .val (.agg (nmC (l.getD i flt0).nm))), (37, .val (.str (l.getD i flt0).val)), (38, .call [] (.bool (hasB out (l.getD i flt0).val))), (46, .val (.str (l.getD i flt0).val))], (sp54).filter (fun x => !Nat.beq x 12), hd54 [(7, 1, 9, 1)] [] [] [], dsp54, .pure [] (.sl none R.length (strsC R) .no)⟩ : Wk) 4000 (T := .ob (decide ((↑i : Int) < (↑l.length : Int)) = true) (.or (.ob ((0 : Int) ≤ (↑i : Int) ∧ (↑i : Int) < (↑l.length : Int) ∧ (↑i : Int).toNat * (6 : Nat) < (fltsC l).length) (.ob ((fltsC l)[(↑i : Int).toNat * (6 : Nat) + (0 : Nat)]? = some (AV.int .i64 (l.getD i flt0).op)) (.ob (decide ((l.getD i flt0).op = o) = true) (.ob ((0 : Int) ≤ (↑i : Int) ∧ (↑i : Int) < (↑l.length : Int) ∧ (↑i : Int).toNat * (6 : Nat) < (fltsC l).length) (.ob (List.take (2 : Nat) (List.drop ((↑i : Int).toNat * (6 : Nat) + (1 : Nat)) (fltsC l)) = [AV.str (l.getD i flt0).nm.sp, AV.str (l.getD i flt0).nm.lo]) (.ob ((2 : Nat) ≤ (2 : Nat)) (.ob ((decide ((l.getD i flt0).nm.sp = n.sp) && (decide ((l.getD i flt0).nm.lo = n.lo) && true)) = true) (.ob ((0 : Int) ≤ (↑i : Int) ∧ (↑i : Int) < (↑l.length : Int) ∧ (↑i : Int).toNat * (6 : Nat) < (fltsC l).length) (.ob ((fltsC l)[(↑i : Int).toNat * (6 : Nat) + (3 : Nat)]? = some (AV.str (l.getD i flt0).val)) (.ob (Ctr Tryd.prog 34 [AV.sl none out.length (strsC out) .no, AV.str (l.getD i flt0).val] (AV.bool (hasB out (l.getD i flt0).val))) (.ob (hasB out (l.getD i flt0).val = true) (.head (pt Tryd.f54 0) ({ tmps := [(0, AV.sl none l.length (fltsC l) .no), (1, AV.int .i64 o), (5, AV.ptr 5 0), (7, AV.sl none out.length (strsC out) (.own (1 : Nat))), (8, AV.int .i64 (IntKind.i64.wrap ((↑i : Int) + (1 : Int))))], heap := [(5, .var true [AV.str n.sp, AV.str n.lo])], tags := [(1, { n := out.length, e := (9 : Nat), sz := (1 : Nat) })] }))))))))))))) (.or (.ob ((0 : Int) ≤ (↑i : Int) ∧ (↑i : Int) < (↑l.length : Int) ∧ (↑i : Int).toNat * (6 : Nat) < (fltsC l).length) (.ob ((fltsC l)[(↑i : Int).toNat * (6 : Nat) + (0 : Nat)]? = some (AV.int .i64 (l.getD i flt0).op)) (.ob (decide ((l.getD i flt0).op = o) = true) (.ob ((0 : Int) ≤ (↑i : Int) ∧ (↑i : Int) < (↑l.length : Int) ∧ (↑i : Int).toNat * (6 : Nat) < (fltsC l).length) (.ob (List.take (2 : Nat) (List.drop ((↑i : Int).toNat * (6 : Nat) + (1 : Nat)) (fltsC l)) = [AV.str (l.getD i flt0).nm.sp, AV.str (l.getD i flt0).nm.lo]) (.ob ((2 : Nat) ≤ (2 : Nat)) (.ob ((decide ((l.getD i flt0).nm.sp = n.sp) && (decide ((l.getD i flt0).nm.lo = n.lo) && true)) = true) (.ob ((0 : Int) ≤ (↑i : Int) ∧ (↑i : Int) < (↑l.length : Int) ∧ (↑i : Int).toNat * (6 : Nat) < (fltsC l).length) (.ob ((fltsC l)[(↑i : Int).toNat * (6 : Nat) + (3 : Nat)]? = some (AV.str (l.getD i flt0).val)) (.ob (Ctr Tryd.prog 34 [AV.sl none out.length (strsC out) .no, AV.str (l.getD i flt0).val] (AV.bool (hasB out (l.getD i flt0).val))) (.ob (hasB out (l.getD i flt0).val = false) (.ob ((0 : Int) ≤ (↑i : Int) ∧ (↑i : Int) < (↑l.length : Int) ∧ (↑i : Int).toNat * (6 : Nat) < (fltsC l).length) (.ob ((fltsC l)[(↑i : Int).toNat * (6 : Nat) + (3 : Nat)]? = some (AV.str (l.getD i flt0).val)) (.ob (out.length = out.length) (.ob ((strsC out).length = out.length * ((0 : Nat) + (1 : Nat)) ∧ (splice (repL (List.map zn [AV.str (ByteArray.mk #[])]) (1 : Nat)) ((0 : Nat) * (1 : Nat)) (cellsOf (AV.str (l.getD i flt0).val))).length = (1 : Nat) * ((0 : Nat) + (1 : Nat)) ∧ (out.length + (1 : Nat)) * ((15 : Nat) + (1 : Nat)) ≤ (140737488355328 : Nat)) (.head (pt Tryd.f54 0) ({ tmps := [(0, AV.sl none l.length (fltsC l) .no), (1, AV.int .i64 o), (5, AV.ptr 5 0), (7, AV.sl none (out.length + (1 : Nat)) (strsC out ++ splice (repL (List.map zn [AV.str (ByteArray.mk #[])]) (1 : Nat)) ((0 : Nat) * (1 : Nat)) (cellsOf (AV.str (l.getD i flt0).val))) (.own (1 : Nat))), (8, AV.int .i64 (IntKind.i64.wrap ((↑i : Int) + (1 : Int))))], heap := [(5, .var true [AV.str n.sp, AV.str n.lo])], tags := [(1, { n := out.length + (1 : Nat), e := (9 : Nat), sz := (1 : Nat) })] }))))))))))))))))) (.or (.ob ((0 : Int) ≤ (↑i : Int) ∧ (↑i : Int) < (↑l.length : Int) ∧ (↑i : Int).toNat * (6 : Nat) < (fltsC l).length) (.ob ((fltsC l)[(↑i : Int).toNat * (6 : Nat) + (0 : Nat)]? = some (AV.int .i64 (l.getD i flt0).op)) (.ob (decide ((l.getD i flt0).op = o) = true) (.ob ((0 : Int) ≤ (↑i : Int) ∧ (↑i : Int) < (↑l.length : Int) ∧ (↑i : Int).toNat * (6 : Nat) < (fltsC l).length) (.ob (List.take (2 : Nat) (List.drop ((↑i : Int).toNat * (6 : Nat) + (1 : Nat)) (fltsC l)) = [AV.str (l.getD i flt0).nm.sp, AV.str (l.getD i flt0).nm.lo]) (.ob ((2 : Nat) ≤ (2 : Nat)) (.ob ((decide ((l.getD i flt0).nm.sp = n.sp) && (decide ((l.getD i flt0).nm.lo = n.lo) && true)) = false) (.head (pt Tryd.f54 0) ({ tmps := [(0, AV.sl none l.length (fltsC l) .no), (1, AV.int .i64 o), (5, AV.ptr 5 0), (7, AV.sl none out.length (strsC out) (.own (1 : Nat))), (8, AV.int .i64 (IntKind.i64.wrap ((↑i : Int) + (1 : Int))))], heap := [(5, .var true [AV.str n.sp, AV.str n.lo])], tags := [(1, { n := out.length, e := (9 : Nat), sz := (1 : Nat) })] }))))))))) (.ob ((0 : Int) ≤ (↑i : Int) ∧ (↑i : Int) < (↑l.length : Int) ∧ (↑i : Int).toNat * (6 : Nat) < (fltsC l).length) (.ob ((fltsC l)[(↑i : Int).toNat * (6 : Nat) + (0 : Nat)]? = some (AV.int .i64 (l.getD i flt0).op)) (.ob (decide ((l.getD i flt0).op = o) = false) (.head (pt Tryd.f54 0) ({ tmps := [(0, AV.sl none l.length (fltsC l) .no), (1, AV.int .i64 o), (5, AV.ptr 5 0), (7, AV.sl none out.length (strsC out) (.own (1 : Nat))), (8, AV.int .i64 (IntKind.i64.wrap ((↑i : Int) + (1 : Int))))], heap := [(5, .var true [AV.str n.sp, AV.str n.lo])], tags := [(1, { n := out.length, e := (9 : Nat), sz := (1 : Nat) })] }))))))))) (by kernel_rfl) (by
    have w2 : IntKind.i64.wrap ((i : Int) + 1) = ((i + 1 : Nat) : Int) := by rw [i64_wrap (by omega) (by omega)]; rfl
    have h0 : decide ((i : Int) < l.length) = true := by simp; omega
    simp only [PT.holds, w2, h0, nm_eq, Int.toNat_natCast, fltsC_len, strsC_len, true_implies, Bool.false_eq_true, Bool.true_eq_false, false_implies, true_and, and_true]
    by_cases h1 : (l.getD i flt0).op = o
    · by_cases h2 : (l.getD i flt0).nm = n
      · cases h3 : hasB out (l.getD i flt0).val with
        | true =>
          rw [stepV, if_neg (fun h => by rw [h3] at h; exact absurd h.2.2 (by decide))] at k
          exact .inl ⟨by omega, by ((try simp only [Nat.add_assoc, Nat.reduceAdd, Nat.add_zero]) <;> first | (rw [ats_take _ _ _ _ hi (by decide)]; rfl) | (rw [ats_nth _ _ _ hi (by decide)]; rfl) | (rw [flts_take _ _ _ _ hi (by decide)]; rfl) | (rw [flts_nth _ _ _ hi (by decide)]; rfl) | (rw [ats_take0 _ _ _ hi (by decide)]; rfl) | (rw [ats_nth0 _ _ hi]; rfl) | (rw [flts_take0 _ _ _ hi (by decide)]; rfl) | (rw [flts_nth0 _ _ hi]; rfl)), decide_eq_true h1, by omega, by ((try simp only [Nat.add_assoc, Nat.reduceAdd, Nat.add_zero]) <;> first | (rw [ats_take _ _ _ _ hi (by decide)]; rfl) | (rw [ats_nth _ _ _ hi (by decide)]; rfl) | (rw [flts_take _ _ _ _ hi (by decide)]; rfl) | (rw [flts_nth _ _ _ hi (by decide)]; rfl) | (rw [ats_take0 _ _ _ hi (by decide)]; rfl) | (rw [ats_nth0 _ _ hi]; rfl) | (rw [flts_take0 _ _ _ hi (by decide)]; rfl) | (rw [flts_nth0 _ _ hi]; rfl)), by omega, decide_eq_true h2, by omega, by ((try simp only [Nat.add_assoc, Nat.reduceAdd, Nat.add_zero]) <;> first | (rw [ats_take _ _ _ _ hi (by decide)]; rfl) | (rw [ats_nth _ _ _ hi (by decide)]; rfl) | (rw [flts_take _ _ _ _ hi (by decide)]; rfl) | (rw [flts_nth _ _ _ hi (by decide)]; rfl) | (rw [ats_take0 _ _ _ hi (by decide)]; rfl) | (rw [ats_nth0 _ _ hi]; rfl) | (rw [flts_take0 _ _ _ hi (by decide)]; rfl) | (rw [flts_nth0 _ _ hi]; rfl)), by rw [← h3]; exact hs_ctr out _ (by omega), rfl, head_eq k (by simp [stVa, nmC])⟩
        | false =>
          rw [stepV, if_pos ⟨h1, h2, h3⟩] at k
          refine .inr (.inl ⟨by omega, by ((try simp only [Nat.add_assoc, Nat.reduceAdd, Nat.add_zero]) <;> first | (rw [ats_take _ _ _ _ hi (by decide)]; rfl) | (rw [ats_nth _ _ _ hi (by decide)]; rfl) | (rw [flts_take _ _ _ _ hi (by decide)]; rfl) | (rw [flts_nth _ _ _ hi (by decide)]; rfl) | (rw [ats_take0 _ _ _ hi (by decide)]; rfl) | (rw [ats_nth0 _ _ hi]; rfl) | (rw [flts_take0 _ _ _ hi (by decide)]; rfl) | (rw [flts_nth0 _ _ hi]; rfl)), decide_eq_true h1, by omega, by ((try simp only [Nat.add_assoc, Nat.reduceAdd, Nat.add_zero]) <;> first | (rw [ats_take _ _ _ _ hi (by decide)]; rfl) | (rw [ats_nth _ _ _ hi (by decide)]; rfl) | (rw [flts_take _ _ _ _ hi (by decide)]; rfl) | (rw [flts_nth _ _ _ hi (by decide)]; rfl) | (rw [ats_take0 _ _ _ hi (by decide)]; rfl) | (rw [ats_nth0 _ _ hi]; rfl) | (rw [flts_take0 _ _ _ hi (by decide)]; rfl) | (rw [flts_nth0 _ _ hi]; rfl)), by omega, decide_eq_true h2, by omega, by ((try simp only [Nat.add_assoc, Nat.reduceAdd, Nat.add_zero]) <;> first | (rw [ats_take _ _ _ _ hi (by decide)]; rfl) | (rw [ats_nth _ _ _ hi (by decide)]; rfl) | (rw [flts_take _ _ _ _ hi (by decide)]; rfl) | (rw [flts_nth _ _ _ hi (by decide)]; rfl) | (rw [ats_take0 _ _ _ hi (by decide)]; rfl) | (rw [ats_nth0 _ _ hi]; rfl) | (rw [flts_take0 _ _ _ hi (by decide)]; rfl) | (rw [flts_nth0 _ _ hi]; rfl)), by rw [← h3]; exact hs_ctr out _ (by omega), rfl, by omega, by ((try simp only [Nat.add_assoc, Nat.reduceAdd, Nat.add_zero]) <;> first | (rw [ats_take _ _ _ _ hi (by decide)]; rfl) | (rw [ats_nth _ _ _ hi (by decide)]; rfl) | (rw [flts_take _ _ _ _ hi (by decide)]; rfl) | (rw [flts_nth _ _ _ hi (by decide)]; rfl) | (rw [ats_take0 _ _ _ hi (by decide)]; rfl) | (rw [ats_nth0 _ _ hi]; rfl) | (rw [flts_take0 _ _ _ hi (by decide)]; rfl) | (rw [flts_nth0 _ _ hi]; rfl)), ⟨by omega, rfl, by omega⟩, head_eq k ?_⟩)
          simp [stVa, nmC, strsC_app, splice, repL, cellsOf]
      · rw [stepV, if_neg (fun h => h2 h.2.1)] at k
        exact .inr (.inr (.inl ⟨by omega, by ((try simp only [Nat.add_assoc, Nat.reduceAdd, Nat.add_zero]) <;> first | (rw [ats_take _ _ _ _ hi (by decide)]; rfl) | (rw [ats_nth _ _ _ hi (by decide)]; rfl) | (rw [flts_take _ _ _ _ hi (by decide)]; rfl) | (rw [flts_nth _ _ _ hi (by decide)]; rfl) | (rw [ats_take0 _ _ _ hi (by decide)]; rfl) | (rw [ats_nth0 _ _ hi]; rfl) | (rw [flts_take0 _ _ _ hi (by decide)]; rfl) | (rw [flts_nth0 _ _ hi]; rfl)), decide_eq_true h1, by omega, by ((try simp only [Nat.add_assoc, Nat.reduceAdd, Nat.add_zero]) <;> first | (rw [ats_take _ _ _ _ hi (by decide)]; rfl) | (rw [ats_nth _ _ _ hi (by decide)]; rfl) | (rw [flts_take _ _ _ _ hi (by decide)]; rfl) | (rw [flts_nth _ _ _ hi (by decide)]; rfl) | (rw [ats_take0 _ _ _ hi (by decide)]; rfl) | (rw [ats_nth0 _ _ hi]; rfl) | (rw [flts_take0 _ _ _ hi (by decide)]; rfl) | (rw [flts_nth0 _ _ hi]; rfl)), by omega, decide_eq_false h2, head_eq k (by simp [stVa, nmC])⟩))
    · rw [stepV, if_neg (fun h => h1 h.1)] at k
      exact .inr (.inr (.inr ⟨by omega, by ((try simp only [Nat.add_assoc, Nat.reduceAdd, Nat.add_zero]) <;> first | (rw [ats_take _ _ _ _ hi (by decide)]; rfl) | (rw [ats_nth _ _ _ hi (by decide)]; rfl) | (rw [flts_take _ _ _ _ hi (by decide)]; rfl) | (rw [flts_nth _ _ _ hi (by decide)]; rfl) | (rw [ats_take0 _ _ _ hi (by decide)]; rfl) | (rw [ats_nth0 _ _ hi]; rfl) | (rw [flts_take0 _ _ _ hi (by decide)]; rfl) | (rw [flts_nth0 _ _ hi]; rfl)), decide_eq_false h1, head_eq k (by simp [stVa, nmC])⟩)))
theorem va_e (l : List Flt) (o : Int) (n : Nm) (out : List ByteArray) (i : Nat) (hi : i = l.length) : HT Tryd.prog Tryd.f54.ntmps (pt Tryd.f54 0) (stVa l o n out i) (EndsA Γ (.pure [] (.sl none out.length (strsC out) .no)) Tryd.f54) :=
  HT.walk Γ_ok mo_ok (⟨[(12, .val (.bool false)), (19, .val (.int .i64 (l.getD i flt0).op)), (27, .val (.agg (nmC (l.getD i flt0).nm))), (37, .val (.str (l.getD i flt0).val)), (38, .call [] (.bool (hasB out (l.getD i flt0).val))), (46, .val (.str (l.getD i flt0).val))], (sp54).filter (fun x => !Nat.beq x 12), hd54 [(7, 1, 9, 1)] [] [] [], dsp54, .pure [] (.sl none out.length (strsC out) .no)⟩ : Wk) 4000 (T := .ob (decide ((↑i : Int) < (↑l.length : Int)) = false) (.ob (out.length = out.length) (.ob (strsC out = strsC out) (.tt)))) (by kernel_rfl) (by
    have h0 : decide ((i : Int) < l.length) = false := by simp; omega
    simp only [PT.holds, h0, true_implies, Bool.false_eq_true, Bool.true_eq_false, false_implies, true_and, and_true])
def namesF (a b : Int) (l : List Flt) : List Nm := l.foldl (stepN a b) []
def valuesF (o : Int) (n : Nm) (l : List Flt) : List ByteArray := l.foldl (stepV o n) []
theorem stepN_len (a b : Int) (out : List Nm) (f : Flt) : (stepN a b out f).length ≤ out.length + 1 := by unfold stepN; split <;> simp
theorem stepV_len (o : Int) (n : Nm) (out : List ByteArray) (f : Flt) : (stepV o n out f).length ≤ out.length + 1 := by unfold stepV; split <;> simp
theorem drop_cons {α : Type} (l : List α) (i : Nat) (d : α) (h : i < l.length) : l.drop i = l.getD i d :: l.drop (i + 1) := by
  rw [List.drop_eq_getElem_cons h, List.getD_eq_getElem?_getD, List.getElem?_eq_getElem h]
  rfl
theorem nm_l (l : List Flt) (a b : Int) (hl : l.length ≤ 1000000) : ∀ d i out, i + d = l.length → out.length ≤ i → HT Tryd.prog Tryd.f53.ntmps (pt Tryd.f53 0) (stNm l a b out i) (EndsA Γ (.pure [] (.sl none ((l.drop i).foldl (stepN a b) out).length (nmsC ((l.drop i).foldl (stepN a b) out)) .no)) Tryd.f53) := by
  intro d
  induction d with
  | zero =>
    intro i out h ho
    rw [List.drop_of_length_le (by omega)]
    exact nm_e l a b out i (by omega)
  | succ d ih =>
    intro i out h ho
    have hlt : i < l.length := by omega
    have hs := stepN_len a b out (l.getD i flt0)
    rw [drop_cons l i flt0 hlt, List.foldl_cons]
    exact nm_h l a b out _ i hlt hl ho (ih (i + 1) _ (by omega) (by omega))
theorem va_l (l : List Flt) (o : Int) (n : Nm) (hl : l.length ≤ 1000000) : ∀ d i out, i + d = l.length → out.length ≤ i → HT Tryd.prog Tryd.f54.ntmps (pt Tryd.f54 0) (stVa l o n out i) (EndsA Γ (.pure [] (.sl none ((l.drop i).foldl (stepV o n) out).length (strsC ((l.drop i).foldl (stepV o n) out)) .no)) Tryd.f54) := by
  intro d
  induction d with
  | zero =>
    intro i out h ho
    rw [List.drop_of_length_le (by omega)]
    exact va_e l o n out i (by omega)
  | succ d ih =>
    intro i out h ho
    have hlt : i < l.length := by omega
    have hs := stepV_len o n out (l.getD i flt0)
    rw [drop_cons l i flt0 hlt, List.foldl_cons]
    exact va_h l o n out _ i hlt hl ho (ih (i + 1) _ (by omega) (by omega))

theorem names_ctr0 (l : List Flt) (a b : Int) (R : List Nm) (k : HT Tryd.prog Tryd.f53.ntmps (pt Tryd.f53 0) (stNm l a b [] 0) (EndsA Γ (.pure [] (.sl none R.length (nmsC R) .no)) Tryd.f53)) : Ctr Tryd.prog 53 [.sl none l.length (fltsC l) .no, .int .i64 a, .int .i64 b] (.sl none R.length (nmsC R) .no) :=
  Ctr.mk Γ_ok Tryd.func53 (by kernel_rfl) Tryd.call53 [] (by kernel_rfl) (HT.walk Γ_ok mo_ok (⟨[], sp53, hd53 [(7, 1, 36, 2)] [] [] [], [], .pure [] (.sl none R.length (nmsC R) .no)⟩ : Wk) 4000 (T := .head (pt Tryd.f53 0) ({ tmps := [(0, AV.sl none l.length (fltsC l) .no), (1, AV.int .i64 a), (2, AV.int .i64 b), (7, AV.sl none (0 : Nat) [] (.own (1 : Nat))), (8, AV.int .i64 (0 : Int))], heap := [], tags := [(1, { n := (0 : Nat), e := (36 : Nat), sz := (2 : Nat) })] })) (by kernel_rfl) (by
    simp only [PT.holds]
    exact head_eq k (by simp [stNm, nmsC])))
theorem values_ctr0 (l : List Flt) (o : Int) (n : Nm) (R : List ByteArray) (k : HT Tryd.prog Tryd.f54.ntmps (pt Tryd.f54 0) (stVa l o n [] 0) (EndsA Γ (.pure [] (.sl none R.length (strsC R) .no)) Tryd.f54)) : Ctr Tryd.prog 54 [.sl none l.length (fltsC l) .no, .int .i64 o, .agg (nmC n)] (.sl none R.length (strsC R) .no) :=
  Ctr.mk Γ_ok Tryd.func54 (by kernel_rfl) Tryd.call54 [] (by kernel_rfl) (HT.walk Γ_ok mo_ok (⟨[], sp54, hd54 [(7, 1, 9, 1)] [] [] [], dsp54, .pure [] (.sl none R.length (strsC R) .no)⟩ : Wk) 4000 (T := .head (pt Tryd.f54 0) ({ tmps := [(0, AV.sl none l.length (fltsC l) .no), (1, AV.int .i64 o), (5, AV.ptr 5 0), (7, AV.sl none (0 : Nat) [] (.own (1 : Nat))), (8, AV.int .i64 (0 : Int))], heap := [(5, .var true [AV.str n.sp, AV.str n.lo])], tags := [(1, { n := (0 : Nat), e := (9 : Nat), sz := (1 : Nat) })] })) (by kernel_rfl) (by
    simp only [PT.holds]
    exact head_eq k (by simp [stVa, strsC, nmC])))
theorem names_ctr (l : List Flt) (a b : Int) (hl : l.length ≤ 1000000) : Ctr Tryd.prog 53 [.sl none l.length (fltsC l) .no, .int .i64 a, .int .i64 b] (.sl none (namesF a b l).length (nmsC (namesF a b l)) .no) := by
  have := nm_l l a b hl l.length 0 [] (Nat.zero_add _) (Nat.le_refl _)
  rw [List.drop_zero] at this
  exact names_ctr0 l a b _ this
theorem values_ctr (l : List Flt) (o : Int) (n : Nm) (hl : l.length ≤ 1000000) : Ctr Tryd.prog 54 [.sl none l.length (fltsC l) .no, .int .i64 o, .agg (nmC n)] (.sl none (valuesF o n l).length (strsC (valuesF o n l)) .no) := by
  have := va_l l o n hl l.length 0 [] (Nat.zero_add _) (Nat.le_refl _)
  rw [List.drop_zero] at this
  exact values_ctr0 l o n _ this

end Go.Proofs.YteimloiaipiadaaDoor
end
