import Derived.Test.YteimloiaipiadaaDoorP11
section
set_option linter.unusedVariables false
set_option linter.unusedSimpArgs false
set_option maxRecDepth 100000
namespace Go.Proofs.YteimloiaipiadaaDoor
open Go Go.AX

theorem likes_law (p : Pth) (a b : Ev) (x xa xb s : Bool) (c : Int) (h9 : Ctr Tryd.prog 9 [] (.bool true)) (h10 : Ctr Tryd.prog 10 [.agg (pthL p)] (.bool x)) (ha : Ctr Tryd.prog 14 [.agg (evC a)] (.bool xa)) (hb : Ctr Tryd.prog 14 [.agg (evC b)] (.bool xb)) (hc : c = if s = true then 0 else -1) (k : x = true → xa = true → xb = true → Ctr Tryd.prog 20 [.agg (pthL p), .agg (evC a), .agg (evC b)] (.bool s) ∧ Ctr Tryd.prog 21 [.agg (pthL p), .agg (evC a), .agg (evC b)] (.bool s) ∧ Ctr Tryd.prog 21 [.agg (pthL p), .agg (evC a), .agg (evC a)] (.bool true) ∧ Ctr Tryd.prog 15 [.agg (pthL p), .sl (some false) 1 (evC a) .clip, .agg (evC b)] (.int .i64 c) ∧ Ctr Tryd.prog 15 [.agg (pthL p), .sl (some true) 0 [] .clip, .agg (evC a)] (.int .i64 (-1))) : Ctr Tryd.prog 6 [.agg (pthL p), .agg (evC a), .agg (evC b)] (.bool true) :=
  Ctr.mk Γ_ok Tryd.func6 (by kernel_rfl) Tryd.call6 [] (by kernel_rfl) (HT.walk Γ_ok mo_ok (⟨[(9, .call [] (.bool true)), (26, .call [] (.bool true)), (13, .call [] (.bool x)), (18, .call [] (.bool xa)), (23, .call [] (.bool xb)), (30, .call [] (.bool s)), (35, .call [] (.bool s)), (43, .call [] (.int .i64 c)), (51, .call [] (.bool true)), (56, .call [] (.int .i64 (-1)))], [13, 18, 23, 31, 37, 45], [], [], .pure [] (.bool true)⟩ : Wk) 4000 (T := .ob (Ctr Tryd.prog 9 [] (AV.bool true)) (.ob ((3 : Nat) ≤ (3 : Nat)) (.ob (Ctr Tryd.prog 10 [AV.agg (pthL p)] (AV.bool x)) (.split (x) (.ob ((5 : Nat) ≤ (5 : Nat)) (.ob (Ctr Tryd.prog 14 [AV.agg (evC a)] (AV.bool xa)) (.split (xa) (.ob ((5 : Nat) ≤ (5 : Nat)) (.ob (Ctr Tryd.prog 14 [AV.agg (evC b)] (AV.bool xb)) (.split (xb) (.ob ((3 : Nat) ≤ (3 : Nat)) (.ob ((5 : Nat) ≤ (5 : Nat)) (.ob ((5 : Nat) ≤ (5 : Nat)) (.ob (Ctr Tryd.prog 20 [AV.agg (pthL p), AV.agg (evC a), AV.agg (evC b)] (AV.bool s)) (.split (s) (.ob ((3 : Nat) ≤ (3 : Nat)) (.ob ((5 : Nat) ≤ (5 : Nat)) (.ob ((5 : Nat) ≤ (5 : Nat)) (.ob (Ctr Tryd.prog 21 [AV.agg (pthL p), AV.agg (evC a), AV.agg (evC b)] (AV.bool s)) (.split (s == s) (.ob ((3 : Nat) ≤ (3 : Nat)) (.ob ((5 : Nat) ≤ (5 : Nat)) (.ob ((5 : Nat) ≤ (5 : Nat)) (.ob (Ctr Tryd.prog 15 [AV.agg (pthL p), AV.sl (some false) (1 : Nat) (evC a) .clip, AV.agg (evC b)] (AV.int .i64 c)) (.split (decide (c = (0 : Int))) (.ob ((3 : Nat) ≤ (3 : Nat)) (.ob ((5 : Nat) ≤ (5 : Nat)) (.ob ((5 : Nat) ≤ (5 : Nat)) (.ob (Ctr Tryd.prog 21 [AV.agg (pthL p), AV.agg (evC a), AV.agg (evC a)] (AV.bool true)) (.ob ((3 : Nat) ≤ (3 : Nat)) (.ob ((5 : Nat) ≤ (5 : Nat)) (.ob (Ctr Tryd.prog 15 [AV.agg (pthL p), AV.sl (some true) (0 : Nat) [] .clip, AV.agg (evC a)] (AV.int .i64 (-1 : Int))) (.ob (true = true) (.tt))))))))) (.ob (false = true) (.tt))))))) (.ob (false = true) (.tt))))))) (.ob ((3 : Nat) ≤ (3 : Nat)) (.ob ((5 : Nat) ≤ (5 : Nat)) (.ob ((5 : Nat) ≤ (5 : Nat)) (.ob (Ctr Tryd.prog 21 [AV.agg (pthL p), AV.agg (evC a), AV.agg (evC b)] (AV.bool s)) (.split (s == s) (.ob ((3 : Nat) ≤ (3 : Nat)) (.ob ((5 : Nat) ≤ (5 : Nat)) (.ob ((5 : Nat) ≤ (5 : Nat)) (.ob (Ctr Tryd.prog 15 [AV.agg (pthL p), AV.sl (some false) (1 : Nat) (evC a) .clip, AV.agg (evC b)] (AV.int .i64 c)) (.split (decide (c = (-1 : Int))) (.ob ((3 : Nat) ≤ (3 : Nat)) (.ob ((5 : Nat) ≤ (5 : Nat)) (.ob ((5 : Nat) ≤ (5 : Nat)) (.ob (Ctr Tryd.prog 21 [AV.agg (pthL p), AV.agg (evC a), AV.agg (evC a)] (AV.bool true)) (.ob ((3 : Nat) ≤ (3 : Nat)) (.ob ((5 : Nat) ≤ (5 : Nat)) (.ob (Ctr Tryd.prog 15 [AV.agg (pthL p), AV.sl (some true) (0 : Nat) [] .clip, AV.agg (evC a)] (AV.int .i64 (-1 : Int))) (.ob (true = true) (.tt))))))))) (.ob (false = true) (.tt))))))) (.ob (false = true) (.tt)))))))))))) (.ob (Ctr Tryd.prog 9 [] (AV.bool true)) (.ob (true = true) (.tt)))))) (.ob (Ctr Tryd.prog 9 [] (AV.bool true)) (.ob (true = true) (.tt)))))) (.ob (Ctr Tryd.prog 9 [] (AV.bool true)) (.ob (true = true) (.tt))))))) (by kernel_rfl) (by
    simp only [PT.holds, true_implies, Bool.false_eq_true, Bool.true_eq_false, false_implies, true_and, and_true]
    refine ⟨h9, by omega, h10, fun h1 => ⟨by omega, ha, fun h2 => ⟨by omega, hb, fun h3 => ?_, fun _ => h9⟩, fun _ => h9⟩, fun _ => h9⟩
    obtain ⟨k1, k2, k3, k4, k5⟩ := k h1 h2 h3
    refine ⟨by omega, by omega, by omega, k1, fun h4 => ?_, fun h4 => ?_⟩
    · subst h4
      simp only [if_true] at hc
      subst hc
      simp
      exact ⟨k2, k4, k3, k5⟩
    · subst h4
      simp only [Bool.false_eq_true, if_false] at hc
      subst hc
      simp
      exact ⟨k2, k4, k3, k5⟩))
def stAl (p : Pth) (L : List Ev) (e : Ev) (n i : Nat) : AS := ⟨[(2, .ptr 2 0), (3, .ptr 3 0), (5, .sl none L.length (evsC L) .no), (7, .int .i64 n), (8, .int .i64 i)], [(2, .var true (pthL p)), (3, .var true (evC e))], []⟩

theorem al7_ht (p : Pth) (L : List Ev) (e : Ev) (n i : Nat) (hi : i < L.length) (hl : L.length ≤ 1000) (hn : n ≤ i) (h21 : Ctr Tryd.prog 21 [.agg (pthL p), .agg (evC (L.getD i ev0)), .agg (evC e)] (.bool true)) (h15 : Ctr Tryd.prog 15 [.agg (pthL p), .sl none L.length (evsC L) .no, .agg (evC (L.getD i ev0))] (.int .i64 i)) (h3 : (L.getD i ev0).kind ≠ 3) (kk : HT Tryd.prog Tryd.f7.ntmps (pt Tryd.f7 0) (stAl p L e (n + 1) (i + 1)) (EndsA Γ (.pure [] (.bool true)) Tryd.f7)) : HT Tryd.prog Tryd.f7.ntmps (pt Tryd.f7 0) (stAl p L e n i) (EndsA Γ (.pure [] (.bool true)) Tryd.f7) :=
  HT.walk Γ_ok mo_ok (⟨[(39, .val (.bool true)), (46, .val (.agg (evC (L.getD i ev0)))), (48, .call [] (.bool true)), (56, .val (.agg (evC (L.getD i ev0)))), (57, .call [] (.int .i64 (i : Int))), (65, .val (.int .i64 (L.getD i ev0).kind)), (74, .call [] (.int .i64 0))], (sp7).filter (fun x => !Nat.beq x 39), [(8, ⟨[2, 3, 5, 7, 8], [2, 3], [], [(5, 999999, 0, 0)], []⟩)], [(10, [[(48, true)]]), (12, [[(59, false), (66, false)]])], .pure [] (.bool true)⟩ : Wk) 4000 (T := .ob (decide ((↑i : Int) < (↑L.length : Int)) = true) (.ob ((3 : Nat) ≤ (3 : Nat)) (.ob ((0 : Int) ≤ (↑i : Int) ∧ (↑i : Int) < (↑L.length : Int) ∧ (↑i : Int).toNat * (5 : Nat) < (evsC L).length) (.ob (List.take (5 : Nat) (List.drop ((↑i : Int).toNat * (5 : Nat)) (evsC L)) = (evC (L.getD i ev0))) (.ob ((5 : Nat) ≤ (5 : Nat)) (.ob (Ctr Tryd.prog 21 [AV.agg (pthL p), AV.agg (evC (L.getD i ev0)), AV.agg (evC e)] (AV.bool true)) (.ob (true = true) (.ob ((3 : Nat) ≤ (3 : Nat)) (.ob ((0 : Int) ≤ (↑i : Int) ∧ (↑i : Int) < (↑L.length : Int) ∧ (↑i : Int).toNat * (5 : Nat) < (evsC L).length) (.ob (List.take (5 : Nat) (List.drop ((↑i : Int).toNat * (5 : Nat)) (evsC L)) = (evC (L.getD i ev0))) (.ob (Ctr Tryd.prog 15 [AV.agg (pthL p), AV.sl none L.length (evsC L) .no, AV.agg (evC (L.getD i ev0))] (AV.int .i64 (↑i : Int))) (.ob ((!decide ((↑i : Int) = (↑i : Int))) = false) (.ob ((0 : Int) ≤ (↑i : Int) ∧ (↑i : Int) < (↑L.length : Int) ∧ (↑i : Int).toNat * (5 : Nat) < (evsC L).length) (.ob ((evsC L)[(↑i : Int).toNat * (5 : Nat) + (0 : Nat)]? = some (AV.int .i64 (L.getD i ev0).kind)) (.ob (decide ((L.getD i ev0).kind = (3 : Int)) = false) (.head (pt Tryd.f7 0) ({ tmps := [(2, AV.ptr 2 0), (3, AV.ptr 3 0), (5, AV.sl none L.length (evsC L) .no), (7, AV.int .i64 (IntKind.i64.wrap ((↑n : Int) + (1 : Int)))), (8, AV.int .i64 (IntKind.i64.wrap ((↑i : Int) + (1 : Int))))], heap := [(2, .var true (pthL p)), (3, .var true (evC e))], tags := [] }))))))))))))))))) (by kernel_rfl) (by
    have h0 : decide ((i : Int) < L.length) = true := by simp; omega
    have w2 : IntKind.i64.wrap ((i : Int) + 1) = ((i + 1 : Nat) : Int) := by rw [i64_wrap (by omega) (by omega)]; rfl
    have w3 : IntKind.i64.wrap ((n : Int) + 1) = ((n + 1 : Nat) : Int) := by rw [i64_wrap (by omega) (by omega)]; rfl
    simp only [PT.holds, w2, w3, h0, Int.toNat_natCast, evsC_len, true_implies, Bool.false_eq_true, Bool.true_eq_false, false_implies, true_and, and_true]
    repeat' (with_reducible apply And.intro)
    all_goals first | omega | rfl | ((try simp only [Nat.add_assoc, Nat.reduceAdd, Nat.add_zero]) <;> first | (rw [ats_take _ _ _ _ hi (by decide)]; rfl) | (rw [ats_nth _ _ _ hi (by decide)]; rfl) | (rw [evs_take _ _ _ _ hi (by decide)]; rfl) | (rw [evs_nth _ _ _ hi (by decide)]; rfl) | (rw [ats_take0 _ _ _ hi (by decide)]; rfl) | (rw [ats_nth0 _ _ hi]; rfl) | (rw [evs_take0 _ _ _ hi (by decide)]; rfl) | (rw [evs_nth0 _ _ hi]; rfl)) | (simp only [Nat.add_zero]; ((try simp only [Nat.add_assoc, Nat.reduceAdd, Nat.add_zero]) <;> first | (rw [ats_take _ _ _ _ hi (by decide)]; rfl) | (rw [ats_nth _ _ _ hi (by decide)]; rfl) | (rw [evs_take _ _ _ _ hi (by decide)]; rfl) | (rw [evs_nth _ _ _ hi (by decide)]; rfl) | (rw [ats_take0 _ _ _ hi (by decide)]; rfl) | (rw [ats_nth0 _ _ hi]; rfl) | (rw [evs_take0 _ _ _ hi (by decide)]; rfl) | (rw [evs_nth0 _ _ hi]; rfl))) | exact h21 | exact h15 | (simp; done) | exact decide_eq_false h3 | exact head_eq kk (by simp [stAl, evC, pthL]))
theorem al7_hf (p : Pth) (L : List Ev) (e : Ev) (n i : Nat) (hi : i < L.length) (hl : L.length ≤ 1000) (hn : n ≤ i) (h21 : Ctr Tryd.prog 21 [.agg (pthL p), .agg (evC (L.getD i ev0)), .agg (evC e)] (.bool false)) (h15 : Ctr Tryd.prog 15 [.agg (pthL p), .sl none L.length (evsC L) .no, .agg (evC (L.getD i ev0))] (.int .i64 i)) (h3 : (L.getD i ev0).kind ≠ 3) (kk : HT Tryd.prog Tryd.f7.ntmps (pt Tryd.f7 0) (stAl p L e (n) (i + 1)) (EndsA Γ (.pure [] (.bool true)) Tryd.f7)) : HT Tryd.prog Tryd.f7.ntmps (pt Tryd.f7 0) (stAl p L e n i) (EndsA Γ (.pure [] (.bool true)) Tryd.f7) :=
  HT.walk Γ_ok mo_ok (⟨[(39, .val (.bool true)), (46, .val (.agg (evC (L.getD i ev0)))), (48, .call [] (.bool false)), (56, .val (.agg (evC (L.getD i ev0)))), (57, .call [] (.int .i64 (i : Int))), (65, .val (.int .i64 (L.getD i ev0).kind)), (74, .call [] (.int .i64 0))], (sp7).filter (fun x => !Nat.beq x 39), [(8, ⟨[2, 3, 5, 7, 8], [2, 3], [], [(5, 999999, 0, 0)], []⟩)], [(10, [[(48, false)]]), (12, [[(59, false), (66, false)]])], .pure [] (.bool true)⟩ : Wk) 4000 (T := .ob (decide ((↑i : Int) < (↑L.length : Int)) = true) (.ob ((3 : Nat) ≤ (3 : Nat)) (.ob ((0 : Int) ≤ (↑i : Int) ∧ (↑i : Int) < (↑L.length : Int) ∧ (↑i : Int).toNat * (5 : Nat) < (evsC L).length) (.ob (List.take (5 : Nat) (List.drop ((↑i : Int).toNat * (5 : Nat)) (evsC L)) = (evC (L.getD i ev0))) (.ob ((5 : Nat) ≤ (5 : Nat)) (.ob (Ctr Tryd.prog 21 [AV.agg (pthL p), AV.agg (evC (L.getD i ev0)), AV.agg (evC e)] (AV.bool false)) (.ob (false = false) (.ob ((3 : Nat) ≤ (3 : Nat)) (.ob ((0 : Int) ≤ (↑i : Int) ∧ (↑i : Int) < (↑L.length : Int) ∧ (↑i : Int).toNat * (5 : Nat) < (evsC L).length) (.ob (List.take (5 : Nat) (List.drop ((↑i : Int).toNat * (5 : Nat)) (evsC L)) = (evC (L.getD i ev0))) (.ob (Ctr Tryd.prog 15 [AV.agg (pthL p), AV.sl none L.length (evsC L) .no, AV.agg (evC (L.getD i ev0))] (AV.int .i64 (↑i : Int))) (.ob ((!decide ((↑i : Int) = (↑i : Int))) = false) (.ob ((0 : Int) ≤ (↑i : Int) ∧ (↑i : Int) < (↑L.length : Int) ∧ (↑i : Int).toNat * (5 : Nat) < (evsC L).length) (.ob ((evsC L)[(↑i : Int).toNat * (5 : Nat) + (0 : Nat)]? = some (AV.int .i64 (L.getD i ev0).kind)) (.ob (decide ((L.getD i ev0).kind = (3 : Int)) = false) (.head (pt Tryd.f7 0) ({ tmps := [(2, AV.ptr 2 0), (3, AV.ptr 3 0), (5, AV.sl none L.length (evsC L) .no), (7, AV.int .i64 (↑n : Int)), (8, AV.int .i64 (IntKind.i64.wrap ((↑i : Int) + (1 : Int))))], heap := [(2, .var true (pthL p)), (3, .var true (evC e))], tags := [] }))))))))))))))))) (by kernel_rfl) (by
    have h0 : decide ((i : Int) < L.length) = true := by simp; omega
    have w2 : IntKind.i64.wrap ((i : Int) + 1) = ((i + 1 : Nat) : Int) := by rw [i64_wrap (by omega) (by omega)]; rfl
    have w3 : IntKind.i64.wrap ((n : Int) + 1) = ((n + 1 : Nat) : Int) := by rw [i64_wrap (by omega) (by omega)]; rfl
    simp only [PT.holds, w2, w3, h0, Int.toNat_natCast, evsC_len, true_implies, Bool.false_eq_true, Bool.true_eq_false, false_implies, true_and, and_true]
    repeat' (with_reducible apply And.intro)
    all_goals first | omega | rfl | ((try simp only [Nat.add_assoc, Nat.reduceAdd, Nat.add_zero]) <;> first | (rw [ats_take _ _ _ _ hi (by decide)]; rfl) | (rw [ats_nth _ _ _ hi (by decide)]; rfl) | (rw [evs_take _ _ _ _ hi (by decide)]; rfl) | (rw [evs_nth _ _ _ hi (by decide)]; rfl) | (rw [ats_take0 _ _ _ hi (by decide)]; rfl) | (rw [ats_nth0 _ _ hi]; rfl) | (rw [evs_take0 _ _ _ hi (by decide)]; rfl) | (rw [evs_nth0 _ _ hi]; rfl)) | (simp only [Nat.add_zero]; ((try simp only [Nat.add_assoc, Nat.reduceAdd, Nat.add_zero]) <;> first | (rw [ats_take _ _ _ _ hi (by decide)]; rfl) | (rw [ats_nth _ _ _ hi (by decide)]; rfl) | (rw [evs_take _ _ _ _ hi (by decide)]; rfl) | (rw [evs_nth _ _ _ hi (by decide)]; rfl) | (rw [ats_take0 _ _ _ hi (by decide)]; rfl) | (rw [ats_nth0 _ _ hi]; rfl) | (rw [evs_take0 _ _ _ hi (by decide)]; rfl) | (rw [evs_nth0 _ _ hi]; rfl))) | exact h21 | exact h15 | (simp; done) | exact decide_eq_false h3 | exact head_eq kk (by simp [stAl, evC, pthL]))
theorem al7_e (p : Pth) (L : List Ev) (e : Ev) (i : Nat) (c : Int) (hi : i = L.length) (hl : L.length ≤ 24) (hc : 0 ≤ c) (h15 : Ctr Tryd.prog 15 [.agg (pthL p), .sl none L.length (evsC L) .no, .agg (evC e)] (.int .i64 c)) : HT Tryd.prog Tryd.f7.ntmps (pt Tryd.f7 0) (stAl p L e 1 i) (EndsA Γ (.pure [] (.bool true)) Tryd.f7) :=
  HT.walk Γ_ok mo_ok (⟨[(39, .val (.bool false)), (46, .val (.agg (evC (L.getD i ev0)))), (48, .call [] (.bool false)), (56, .val (.agg (evC (L.getD i ev0)))), (57, .call [] (.int .i64 0)), (65, .val (.int .i64 (L.getD i ev0).kind)), (74, .call [] (.int .i64 c))], (sp7).filter (fun x => !Nat.beq x 39), [(8, ⟨[2, 3, 5, 7, 8], [2, 3], [], [(5, 999999, 0, 0)], []⟩)], dsp7, .pure [] (.bool true)⟩ : Wk) 4000 (T := .ob (decide ((↑i : Int) < (↑L.length : Int)) = false) (.split (true) (.ob ((3 : Nat) ≤ (3 : Nat)) (.ob ((5 : Nat) ≤ (5 : Nat)) (.ob (Ctr Tryd.prog 15 [AV.agg (pthL p), AV.sl none L.length (evsC L) .no, AV.agg (evC e)] (AV.int .i64 c)) (.split (decide ((0 : Int) ≤ c)) (.ob (decide ((↑L.length : Int) ≤ (24 : Int)) = true) (.tt)) (.ob (false = true) (.tt)))))) (.ob (false = true) (.tt)))) (by kernel_rfl) (by
    have h0 : decide ((i : Int) < L.length) = false := by simp; omega
    simp only [PT.holds, h0, true_implies, Bool.false_eq_true, Bool.true_eq_false, false_implies, true_and, and_true]
    exact ⟨by omega, by omega, h15, fun _ => decide_eq_true (by omega), fun h => absurd (of_decide_eq_false h) (by omega)⟩)
theorem al7_p (p : Pth) (e : Ev) (x xe : Bool) (L : List Ev) (c : Int) (h9 : Ctr Tryd.prog 9 [] (.bool true)) (h10 : Ctr Tryd.prog 10 [.agg (pthL p)] (.bool x)) (h14 : Ctr Tryd.prog 14 [.agg (evC e)] (.bool xe)) (k : x = true → xe = true → Ctr Tryd.prog 11 [.agg (pthL p)] (.tup [.sl none L.length (evsC L) .no, .int .i64 c]) ∧ (c = 0 ∧ HT Tryd.prog Tryd.f7.ntmps (pt Tryd.f7 0) (stAl p L e 0 0) (EndsA Γ (.pure [] (.bool true)) Tryd.f7) ∨ c = 13 ∧ L = [])) : Ctr Tryd.prog 7 [.agg (pthL p), .agg (evC e)] (.bool true) :=
  Ctr.mk Γ_ok Tryd.func7 (by kernel_rfl) Tryd.call7 [] (by kernel_rfl) (HT.walk Γ_ok mo_ok (⟨[(9, .call [] (.bool true)), (21, .call [] (.bool true)), (13, .call [] (.bool x)), (18, .call [] (.bool xe)), (24, .call [] (.tup [.sl none L.length (evsC L) .no, .int .i64 c]))], [13, 18, 28, 30], [(8, ⟨[2, 3, 5, 7, 8], [2, 3], [], [(5, 999999, 0, 0)], []⟩)], dsp7, .pure [] (.bool true)⟩ : Wk) 4000 (T := .ob (Ctr Tryd.prog 9 [] (AV.bool true)) (.ob ((3 : Nat) ≤ (3 : Nat)) (.ob (Ctr Tryd.prog 10 [AV.agg (pthL p)] (AV.bool x)) (.split (x) (.ob ((5 : Nat) ≤ (5 : Nat)) (.ob (Ctr Tryd.prog 14 [AV.agg (evC e)] (AV.bool xe)) (.split (xe) (.ob ((3 : Nat) ≤ (3 : Nat)) (.ob (Ctr Tryd.prog 11 [AV.agg (pthL p)] (AV.tup [AV.sl none L.length (evsC L) .no, AV.int .i64 c])) (.split (!decide (c = (0 : Int))) (.split (decide (c = (13 : Int))) (.ob (decide ((↑L.length : Int) = (0 : Int)) = true) (.tt)) (.ob (false = true) (.tt))) (.head (pt Tryd.f7 0) ({ tmps := [(2, AV.ptr 2 0), (3, AV.ptr 3 0), (5, AV.sl none L.length (evsC L) .no), (7, AV.int .i64 (0 : Int)), (8, AV.int .i64 (0 : Int))], heap := [(2, .var true (pthL p)), (3, .var true (evC e))], tags := [] }))))) (.ob (Ctr Tryd.prog 9 [] (AV.bool true)) (.ob (true = true) (.tt)))))) (.ob (Ctr Tryd.prog 9 [] (AV.bool true)) (.ob (true = true) (.tt))))))) (by kernel_rfl) (by
    simp only [PT.holds, true_implies, Bool.false_eq_true, Bool.true_eq_false, false_implies, true_and, and_true]
    refine ⟨h9, by omega, h10, fun h1 => ⟨by omega, h14, fun h2 => ⟨by omega, (k h1 h2).1, fun h3 => ?_, fun h3 => ?_⟩, fun _ => h9⟩, fun _ => h9⟩
    · rcases (k h1 h2).2 with ⟨e1, _⟩ | ⟨e1, e2⟩
      · rw [e1] at h3; simp at h3
      · rw [e1, e2]; simp
    · rcases (k h1 h2).2 with ⟨e1, e2⟩ | ⟨e1, _⟩
      · exact head_eq e2 (by simp [stAl, evC, pthL])
      · rw [e1] at h3; simp at h3))
theorem likesLaw_ctr (p : Pth) (hok : p.ok) (a b : Ev) (ha : a.ok) (hb : b.ok) : Ctr Tryd.prog 6 [.agg (pthL p), .agg (evC a), .agg (evC b)] (.bool true) := by
  obtain ⟨x, hx, h10⟩ := rightp2_ex p hok
  obtain ⟨xa, hxa, h14a⟩ := node_ex a ha
  obtain ⟨xb, hxb, h14b⟩ := node_ex b hb
  refine likes_law p a b x xa xb (likW (spkW p) a b) _ awake_ctr h10 h14a h14b rfl (fun h1 h2 h3 => ?_)
  have hr := (hx h1).1
  have hl := filters_64 p (hx h1).2
  have hal := ha.2.2.1
  have hbl := hb.2.2.1
  obtain ⟨s1, s2, s3, s4, s5⟩ := speaks_small p hl
  have hm := make_ctr_spk p hok (by omega) (fun f hf h7 => Classical.byContradiction fun hn => by
    have := (Flt.r_1 (filtersP_r p hr f hf)).named.2 hn
    omega)
  have k1 := refLike_ctr p (spkW p) a b hm (by omega) (by omega) (by omega) s4 (fun v hv => by have := s5 v hv; omega) hal hbl
  rw [refLik_eq _ _ _ (hxa h2).2.1 (hxb h3).2.1] at k1
  have k2 := Like_ctr p hok (by omega) a b hal hbl
  have k3 := Like_ctr p hok (by omega) a a hal hal
  rw [likW_refl] at k3
  refine ⟨k1, k2, k3, ?_, ?_⟩
  · have := Class_ctr_w p hok (by omega) [a] b (by simp) (fun x hx => by simp at hx; subst hx; exact hal) hbl (some false) .clip
    have e1 : evsC [a] = evC a := by simp [evsC]
    rw [e1] at this
    have e2 : clsR (spkW p) b [a] 0 = if likW (spkW p) a b = true then 0 else -1 := by simp only [clsR]; split <;> rfl
    rw [e2] at this
    exact this
  · exact Class_ctr_w p hok (by omega) [] a (by simp) (fun x hx => by simp at hx) hal (some true) .clip
theorem al7_l (p : Pth) (hok : p.ok) (hr : p.r) (hp : partsP p ≤ 64) (e : Ev) (he : e.ok) (hk : e.kind = 1 ∨ e.kind = 2) (hnd : e.nd) (h24 : (labsW (spkW p)).length ≤ 24) : HT Tryd.prog Tryd.f7.ntmps (pt Tryd.f7 0) (stAl p (labsW (spkW p)) e 0 0) (EndsA Γ (.pure [] (.bool true)) Tryd.f7) := by
  have hl := filters_64 p hp
  have hW := spk_nd p hr
  have s3 := (speaks_small p hl).2.2.1
  obtain ⟨q, hq, hq1, hq2⟩ := just_one (spkW p) hW e hk hnd
  have hla : ∀ x ∈ labsW (spkW p), x.attrs.length ≤ 1048600 := fun x hx => by have := labsW_attrs _ _ hx; omega
  have hlast := al7_e p (labsW (spkW p)) e (labsW (spkW p)).length (q : Nat) rfl h24 (by omega) (by
    have := Class_ctr p hok (by omega) (labsW (spkW p)) e (by omega) hla he.2.2.1
    have e1 : clsR (spkW p) e (labsW (spkW p)) 0 = ((0 + q : Nat) : Int) := clsR_at _ _ _ _ _ hq hq1 (fun j hj => by
      cases hh : likW (spkW p) ((labsW (spkW p)).getD j ev0) e with
      | false => rfl
      | true => exact absurd (hq2 j (by omega) hh) (by omega))
    rw [e1, Nat.zero_add] at this
    exact this)
  have step : ∀ d i n, i + d = (labsW (spkW p)).length → n = (if q < i then 1 else 0) → HT Tryd.prog Tryd.f7.ntmps (pt Tryd.f7 0) (stAl p (labsW (spkW p)) e n i) (EndsA Γ (.pure [] (.bool true)) Tryd.f7) := by
    intro d
    induction d with
    | zero =>
      intro i n h hn
      have hi : i = (labsW (spkW p)).length := by omega
      rw [if_pos (by omega)] at hn
      subst hn; subst hi
      exact hlast
    | succ d ih =>
      intro i n h hn
      have hi : i < (labsW (spkW p)).length := by omega
      have hmem := getD_mem (labsW (spkW p)) i ev0 hi
      have h21 := Like_ctr p hok (by omega) ((labsW (spkW p)).getD i ev0) e (hla _ hmem) he.2.2.1
      have h15 := Class_ctr p hok (by omega) (labsW (spkW p)) ((labsW (spkW p)).getD i ev0) (by omega) hla (hla _ hmem)
      have e1 : clsR (spkW p) ((labsW (spkW p)).getD i ev0) (labsW (spkW p)) 0 = ((0 + i : Nat) : Int) := clsR_at _ _ _ _ _ hi (likW_refl _ _) (fun j hj => by
        cases hh : likW (spkW p) ((labsW (spkW p)).getD j ev0) ((labsW (spkW p)).getD i ev0) with
        | false => rfl
        | true => exact absurd (only_self _ hW j i (by omega) hi hh) (by omega))
      rw [e1, Nat.zero_add] at h15
      have h3 : ((labsW (spkW p)).getD i ev0).kind ≠ 3 := by have := labs_kind _ _ hmem; omega
      have hn1 : n ≤ i := by rw [hn]; split <;> omega
      cases hb : likW (spkW p) ((labsW (spkW p)).getD i ev0) e with
      | true =>
        rw [hb] at h21
        have hiq := hq2 i hi hb
        refine al7_ht p _ e n i hi (by omega) hn1 h21 h15 h3 (ih (i + 1) _ (by omega) ?_)
        rw [if_neg (by omega)] at hn
        rw [if_pos (by omega)]
        omega
      | false =>
        rw [hb] at h21
        have hiq : i ≠ q := fun e2 => by rw [e2, hq1] at hb; cases hb
        refine al7_hf p _ e n i hi (by omega) hn1 h21 h15 h3 (ih (i + 1) _ (by omega) ?_)
        rw [hn]
        split <;> split <;> omega
  exact step _ 0 0 (Nat.zero_add _) (by rw [if_neg (by omega)])
theorem allLaw_ctr (p : Pth) (hok : p.ok) (e : Ev) (he : e.ok) : Ctr Tryd.prog 7 [.agg (pthL p), .agg (evC e)] (.bool true) := by
  obtain ⟨x, hx, h10⟩ := rightp2_ex p hok
  obtain ⟨xe, hxe, h14⟩ := node_ex e he
  refine al7_p p e x xe (ansL (spkW p)) (ansC (spkW p)) awake_ctr h10 h14 (fun h1 h2 => ?_)
  have hl := filters_64 p (hx h1).2
  refine ⟨Labels_all p hok hl, ?_⟩
  obtain ⟨hev, hnd, hk3⟩ := hxe h2
  have hk : e.kind = 1 ∨ e.kind = 2 := by have := hev.1; omega
  unfold ansL ansC
  by_cases h24 : (labsW (spkW p)).length ≤ 24
  · left
    rw [if_pos h24, if_pos h24]
    exact ⟨rfl, al7_l p hok (hx h1).1 (hx h1).2 e he hk hnd h24⟩
  · right
    rw [if_neg h24, if_neg h24]
    exact ⟨rfl, rfl⟩

end Go.Proofs.YteimloiaipiadaaDoor
end
