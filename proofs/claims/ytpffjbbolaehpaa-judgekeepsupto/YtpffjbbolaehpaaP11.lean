import Derived.Test.YtpffjbbolaehpaaP10
section
set_option linter.unusedVariables false
set_option linter.unusedSimpArgs false
set_option maxRecDepth 100000
namespace Go.Proofs.Ytpffjbbolaehpaa
open Go Go.AX

def stL22 (l : List Ev) (ns : List Int) (p : Pth) (a : List Int) : AS := ⟨[(2, .sl none a.length (intsC a) .no), (3, .ptr 3 0), (4, .ptr 4 0), (8, .sl (some true) 0 [] .clip)], [(3, .var true (wldL l ns)), (4, .var true (pthL p))], []⟩
def stL4 (l : List Ev) (ns : List Int) (p : Pth) (a : List Int) (i : Nat) : AS := ⟨[(2, .sl none a.length (intsC a) .no), (3, .ptr 3 0), (4, .ptr 4 0), (7, .int .i64 i)], [(3, .var true (wldL l ns)), (4, .var true (pthL p))], []⟩
def stL6 (l : List Ev) (ns : List Int) (p : Pth) (out : List Int) (i : Nat) : AS := ⟨[(3, .ptr 3 0), (4, .ptr 4 0), (8, .sl none out.length (intsC out) (.own 1)), (9, .int .i64 i)], [(3, .var true (wldL l ns)), (4, .var true (pthL p))], [(1, ⟨out.length, 3, 1, none⟩)]⟩
def stL6i (l : List Ev) (ns : List Int) (p : Pth) (out m : List Int) (i j : Nat) : AS := ⟨[(3, .ptr 3 0), (4, .ptr 4 0), (8, .sl none out.length (intsC out) (.own 1)), (9, .int .i64 i), (10, .sl none m.length (intsC m) .no), (11, .int .i64 j)], [(3, .var true (wldL l ns)), (4, .var true (pthL p))], [(1, ⟨out.length, 3, 1, none⟩)]⟩
def stLC (l : List Ev) (ns : List Int) (p : Pth) (a out : List Int) (i : Nat) : AS := ⟨[(2, .sl none a.length (intsC a) .no), (3, .ptr 3 0), (4, .ptr 4 0), (8, .sl none out.length (intsC out) (.own 1)), (12, .int .i64 i)], [(3, .var true (wldL l ns)), (4, .var true (pthL p))], [(1, ⟨out.length, 3, 1, none⟩)]⟩
def stLD (l : List Ev) (ns : List Int) (p : Pth) (a out : List Int) (i : Nat) : AS := ⟨[(2, .sl none a.length (intsC a) .no), (3, .ptr 3 0), (4, .ptr 4 0), (8, .sl none out.length (intsC out) (.own 1)), (13, .int .i64 i)], [(3, .var true (wldL l ns)), (4, .var true (pthL p))], [(1, ⟨out.length, 3, 1, none⟩)]⟩
def stLDi (l : List Ev) (ns : List Int) (p : Pth) (a out m : List Int) (i j : Nat) : AS := ⟨[(2, .sl none a.length (intsC a) .no), (3, .ptr 3 0), (4, .ptr 4 0), (8, .sl none out.length (intsC out) (.own 1)), (13, .int .i64 i), (14, .sl none m.length (intsC m) .no), (15, .int .i64 j)], [(3, .var true (wldL l ns)), (4, .var true (pthL p))], [(1, ⟨out.length, 3, 1, none⟩)]⟩
theorem ints_take1 (l : List Int) (i : Nat) (hi : i < l.length) : List.take (1 * 1) (List.drop (i * 1) (intsC l)) = [.int .i64 (l.getD i 0)] := by
  have h : i < (intsC l).length := by simpa [intsC] using hi
  rw [Nat.mul_one, Nat.mul_one, List.drop_eq_getElem_cons h]
  simp [intsC, List.getD_eq_getElem?_getD, hi]

theorem l4_h (l : List Ev) (ns : List Int) (p : Pth) (a m R : List Int) (i : Nat) (hi : i < p.sub.length) (hs : p.sub.length ≤ 1048600) (hc : Ctr Try.prog 28 [.agg (wldL l ns), .agg (pthL (p.sub.getD i pth0)), .sl none a.length (intsC a) .no] (.sl none m.length (intsC m) .no)) (k : HT Try.prog Try.f28.ntmps (pt Try.f28 0) (stL4 l ns p m (i + 1)) (EndsA Γ (.pure [] (.sl none R.length (intsC R) .no)) Try.f28)) : HT Try.prog Try.f28.ntmps (pt Try.f28 0) (stL4 l ns p a i) (EndsA Γ (.pure [] (.sl none R.length (intsC R) .no)) Try.f28) :=
  HT.walk Γ_ok mo_ok (⟨([(35, .val (.agg (pthL (p.sub.getD i pth0)))), (37, .call [] (.sl none m.length (intsC m) .no))] ++ []), sp28, hd28 [(8, 1, 3, 1)] [] [] [], dsp28, .pure [] (.sl none R.length (intsC R) .no)⟩ : Wk) 4000 (T := .split (decide ((↑i : Int) < (↑p.sub.length : Int))) (.ob ((2 : Nat) ≤ (2 : Nat)) (.ob ((0 : Int) ≤ (↑i : Int) ∧ (↑i : Int) < (↑p.sub.length : Int) ∧ (↑i : Int).toNat * (3 : Nat) < (pthsC p.sub).length) (.ob (List.take (3 : Nat) (List.drop ((↑i : Int).toNat * (3 : Nat)) (pthsC p.sub)) = (pthL (p.sub.getD i pth0))) (.ob (Ctr Try.prog 28 [AV.agg (wldL l ns), AV.agg (pthL (p.sub.getD i pth0)), AV.sl none a.length (intsC a) .no] (AV.sl none m.length (intsC m) .no)) (.head (pt Try.f28 0) ({ tmps := [(2, AV.sl none m.length (intsC m) .no), (3, AV.ptr 3 0), (4, AV.ptr 4 0), (7, AV.int .i64 (IntKind.i64.wrap ((↑i : Int) + (1 : Int))))], heap := [(3, .var true (wldL l ns)), (4, .var true (pthL p))], tags := [] })))))) (.ob (a.length = R.length) (.ob (intsC a = intsC R) (.tt)))) (by kernel_rfl) (by
    have w2 : IntKind.i64.wrap ((i : Int) + 1) = ((i + 1 : Nat) : Int) := by rw [i64_wrap (by omega) (by omega)]; rfl
    have h0 : decide ((i : Int) < p.sub.length) = true := by simp; omega
    simp only [PT.holds, w2, h0, Int.toNat_natCast, pthsC_len, true_implies, Bool.false_eq_true, Bool.true_eq_false, false_implies, true_and, and_true]
    exact ⟨by omega, by omega, by ((try simp only [Nat.add_assoc, Nat.reduceAdd, Nat.add_zero]) <;> first | (rw [ats_take _ _ _ _ hi (by decide)]; rfl) | (rw [ats_nth _ _ _ hi (by decide)]; rfl) | (rw [evs_take _ _ _ _ hi (by decide)]; rfl) | (rw [evs_nth _ _ _ hi (by decide)]; rfl) | (rw [trs_take _ _ _ _ hi (by decide)]; rfl) | (rw [trs_nth _ _ _ hi (by decide)]; rfl) | (rw [pths_take _ _ _ _ hi (by decide)]; rfl) | (rw [pths_nth _ _ _ hi (by decide)]; rfl) | (rw [flts_take _ _ _ _ hi (by decide)]; rfl) | (rw [flts_nth _ _ _ hi (by decide)]; rfl) | (rw [ats_take0 _ _ _ hi (by decide)]; rfl) | (rw [ats_nth0 _ _ hi]; rfl) | (rw [evs_take0 _ _ _ hi (by decide)]; rfl) | (rw [evs_nth0 _ _ hi]; rfl) | (rw [trs_take0 _ _ _ hi (by decide)]; rfl) | (rw [trs_nth0 _ _ hi]; rfl) | (rw [pths_take0 _ _ _ hi (by decide)]; rfl) | (rw [pths_nth0 _ _ hi]; rfl) | (rw [flts_take0 _ _ _ hi (by decide)]; rfl) | (rw [flts_nth0 _ _ hi]; rfl)), hc, head_eq k (by simp [stL4, wldL, pthL])⟩)
theorem l4_e (l : List Ev) (ns : List Int) (p : Pth) (a : List Int) (i : Nat) (hi : i = p.sub.length) : HT Try.prog Try.f28.ntmps (pt Try.f28 0) (stL4 l ns p a i) (EndsA Γ (.pure [] (.sl none a.length (intsC a) .no)) Try.f28) :=
  HT.walk Γ_ok mo_ok (⟨([(35, .val (.agg (pthL pth0))), (37, .call [] (.sl none a.length (intsC a) .no))] ++ []), sp28, hd28 [(8, 1, 3, 1)] [] [] [], dsp28, .pure [] (.sl none a.length (intsC a) .no)⟩ : Wk) 4000 (T := .split (decide ((↑i : Int) < (↑p.sub.length : Int))) (.ob ((2 : Nat) ≤ (2 : Nat)) (.ob ((0 : Int) ≤ (↑i : Int) ∧ (↑i : Int) < (↑p.sub.length : Int) ∧ (↑i : Int).toNat * (3 : Nat) < (pthsC p.sub).length) (.ob (List.take (3 : Nat) (List.drop ((↑i : Int).toNat * (3 : Nat)) (pthsC p.sub)) = [AV.int .i64 (0 : Int), AV.sl none (0 : Nat) [] .no, AV.sl none (0 : Nat) [] .no]) (.ob (Ctr Try.prog 28 [AV.agg (wldL l ns), AV.agg [AV.int .i64 (0 : Int), AV.sl none (0 : Nat) [] .no, AV.sl none (0 : Nat) [] .no], AV.sl none a.length (intsC a) .no] (AV.sl none a.length (intsC a) .no)) (.head (pt Try.f28 0) ({ tmps := [(2, AV.sl none a.length (intsC a) .no), (3, AV.ptr 3 0), (4, AV.ptr 4 0), (7, AV.int .i64 (IntKind.i64.wrap ((↑i : Int) + (1 : Int))))], heap := [(3, .var true (wldL l ns)), (4, .var true (pthL p))], tags := [] })))))) (.ob (a.length = a.length) (.ob (intsC a = intsC a) (.tt)))) (by kernel_rfl) (by
    have h0 : decide ((i : Int) < p.sub.length) = false := by simp; omega
    simp only [PT.holds, h0, true_implies, Bool.false_eq_true, Bool.true_eq_false, false_implies, true_and, and_true])
theorem l6_h (l : List Ev) (ns : List Int) (p : Pth) (out m R : List Int) (i : Nat) (hi : i < out.length) (hs : 0 < p.sub.length) (ho : out.length ≤ 1000) (hc : Ctr Try.prog 28 [.agg (wldL l ns), .agg (pthL (p.sub.getD 0 pth0)), .sl none 1 [.int .i64 (out.getD i 0)] .no] (.sl none m.length (intsC m) .no)) (k : HT Try.prog Try.f28.ntmps (pt Try.f28 2) (stL6i l ns p out m i 0) (EndsA Γ (.pure [] (.sl none R.length (intsC R) .no)) Try.f28)) : HT Try.prog Try.f28.ntmps (pt Try.f28 1) (stL6 l ns p out i) (EndsA Γ (.pure [] (.sl none R.length (intsC R) .no)) Try.f28) :=
  HT.walk Γ_ok mo_ok (⟨([(55, .val (.agg (pthL (p.sub.getD 0 pth0)))), (61, .call [] (.sl none m.length (intsC m) .no))] ++ []), sp28, hd28 [(8, 1, 3, 1)] [] [] [], dsp28, .pure [] (.sl none R.length (intsC R) .no)⟩ : Wk) 4000 (T := .split (decide ((↑i : Int) < (↑out.length : Int))) (.ob ((2 : Nat) ≤ (2 : Nat)) (.ob ((0 : Int) ≤ (0 : Int) ∧ (0 : Int) < (↑p.sub.length : Int) ∧ Int.toNat (0 : Int) * (3 : Nat) < (pthsC p.sub).length) (.ob (List.take (3 : Nat) (List.drop (Int.toNat (0 : Int) * (3 : Nat)) (pthsC p.sub)) = (pthL (p.sub.getD (0 : Nat) pth0))) (.ob ((0 : Int) ≤ (↑i : Int) ∧ (↑i : Int) ≤ IntKind.i64.wrap ((↑i : Int) + (1 : Int)) ∧ IntKind.i64.wrap ((↑i : Int) + (1 : Int)) ≤ (↑out.length : Int)) (.ob (Ctr Try.prog 28 [AV.agg (wldL l ns), AV.agg (pthL (p.sub.getD (0 : Nat) pth0)), AV.sl none ((IntKind.i64.wrap ((↑i : Int) + (1 : Int))).toNat - (↑i : Int).toNat) (List.take (((IntKind.i64.wrap ((↑i : Int) + (1 : Int))).toNat - (↑i : Int).toNat) * (1 : Nat)) (List.drop ((↑i : Int).toNat * (1 : Nat)) (intsC out))) .no] (AV.sl none m.length (intsC m) .no)) (.head (pt Try.f28 2) ({ tmps := [(3, AV.ptr 3 0), (4, AV.ptr 4 0), (8, AV.sl none out.length (intsC out) (.own (1 : Nat))), (9, AV.int .i64 (↑i : Int)), (10, AV.sl none m.length (intsC m) .no), (11, AV.int .i64 (0 : Int))], heap := [(3, .var true (wldL l ns)), (4, .var true (pthL p))], tags := [(1, { n := out.length, e := (3 : Nat), sz := (1 : Nat) })] }))))))) (.ob (out.length = R.length) (.ob (intsC out = intsC R) (.tt)))) (by kernel_rfl) (by
    have w2 : IntKind.i64.wrap ((i : Int) + 1) = ((i + 1 : Nat) : Int) := by rw [i64_wrap (by omega) (by omega)]; rfl
    have h0 : decide ((i : Int) < out.length) = true := by simp; omega
    simp only [PT.holds, w2, h0, Int.toNat_natCast, pthsC_len, intsC_len', true_implies, Bool.false_eq_true, Bool.true_eq_false, false_implies, true_and, and_true]
    have e1 : (i + 1) - i = 1 := by omega
    simp only [e1, ints_take1 out i hi]
    refine ⟨by omega, by omega, by rw [Int.toNat_zero]; ((try simp only [Nat.add_assoc, Nat.reduceAdd, Nat.add_zero]) <;> first | (rw [ats_take _ _ _ _ hs (by decide)]; rfl) | (rw [ats_nth _ _ _ hs (by decide)]; rfl) | (rw [evs_take _ _ _ _ hs (by decide)]; rfl) | (rw [evs_nth _ _ _ hs (by decide)]; rfl) | (rw [trs_take _ _ _ _ hs (by decide)]; rfl) | (rw [trs_nth _ _ _ hs (by decide)]; rfl) | (rw [pths_take _ _ _ _ hs (by decide)]; rfl) | (rw [pths_nth _ _ _ hs (by decide)]; rfl) | (rw [flts_take _ _ _ _ hs (by decide)]; rfl) | (rw [flts_nth _ _ _ hs (by decide)]; rfl) | (rw [ats_take0 _ _ _ hs (by decide)]; rfl) | (rw [ats_nth0 _ _ hs]; rfl) | (rw [evs_take0 _ _ _ hs (by decide)]; rfl) | (rw [evs_nth0 _ _ hs]; rfl) | (rw [trs_take0 _ _ _ hs (by decide)]; rfl) | (rw [trs_nth0 _ _ hs]; rfl) | (rw [pths_take0 _ _ _ hs (by decide)]; rfl) | (rw [pths_nth0 _ _ hs]; rfl) | (rw [flts_take0 _ _ _ hs (by decide)]; rfl) | (rw [flts_nth0 _ _ hs]; rfl)), by omega, hc, head_eq k (by simp [stL6i, wldL, pthL])⟩)
theorem l6_e (l : List Ev) (ns : List Int) (p : Pth) (out : List Int) (i : Nat) (hi : i = out.length) : HT Try.prog Try.f28.ntmps (pt Try.f28 1) (stL6 l ns p out i) (EndsA Γ (.pure [] (.sl none out.length (intsC out) .no)) Try.f28) :=
  HT.walk Γ_ok mo_ok (⟨([(55, .val (.agg (pthL pth0))), (61, .call [] (.sl none out.length (intsC out) .no))] ++ []), sp28, hd28 [(8, 1, 3, 1)] [] [] [], dsp28, .pure [] (.sl none out.length (intsC out) .no)⟩ : Wk) 4000 (T := .split (decide ((↑i : Int) < (↑out.length : Int))) (.ob ((2 : Nat) ≤ (2 : Nat)) (.ob ((0 : Int) ≤ (0 : Int) ∧ (0 : Int) < (↑p.sub.length : Int) ∧ Int.toNat (0 : Int) * (3 : Nat) < (pthsC p.sub).length) (.ob (List.take (3 : Nat) (List.drop (Int.toNat (0 : Int) * (3 : Nat)) (pthsC p.sub)) = [AV.int .i64 (0 : Int), AV.sl none (0 : Nat) [] .no, AV.sl none (0 : Nat) [] .no]) (.ob ((0 : Int) ≤ (↑i : Int) ∧ (↑i : Int) ≤ IntKind.i64.wrap ((↑i : Int) + (1 : Int)) ∧ IntKind.i64.wrap ((↑i : Int) + (1 : Int)) ≤ (↑out.length : Int)) (.ob (Ctr Try.prog 28 [AV.agg (wldL l ns), AV.agg [AV.int .i64 (0 : Int), AV.sl none (0 : Nat) [] .no, AV.sl none (0 : Nat) [] .no], AV.sl none ((IntKind.i64.wrap ((↑i : Int) + (1 : Int))).toNat - (↑i : Int).toNat) (List.take (((IntKind.i64.wrap ((↑i : Int) + (1 : Int))).toNat - (↑i : Int).toNat) * (1 : Nat)) (List.drop ((↑i : Int).toNat * (1 : Nat)) (intsC out))) .no] (AV.sl none out.length (intsC out) .no)) (.head (pt Try.f28 2) ({ tmps := [(3, AV.ptr 3 0), (4, AV.ptr 4 0), (8, AV.sl none out.length (intsC out) (.own (1 : Nat))), (9, AV.int .i64 (↑i : Int)), (10, AV.sl none out.length (intsC out) .no), (11, AV.int .i64 (0 : Int))], heap := [(3, .var true (wldL l ns)), (4, .var true (pthL p))], tags := [(1, { n := out.length, e := (3 : Nat), sz := (1 : Nat) })] }))))))) (.ob (out.length = out.length) (.ob (intsC out = intsC out) (.tt)))) (by kernel_rfl) (by
    have h0 : decide ((i : Int) < out.length) = false := by simp; omega
    simp only [PT.holds, h0, true_implies, Bool.false_eq_true, Bool.true_eq_false, false_implies, true_and, and_true])
theorem l6i_h (l : List Ev) (ns : List Int) (p : Pth) (out m R : List Int) (i j : Nat) (hj : j < m.length) (hm : m.length ≤ 1000) (ho : out.length ≤ 1000) (k1 : m.getD j 0 ∈ out → HT Try.prog Try.f28.ntmps (pt Try.f28 2) (stL6i l ns p out m i (j + 1)) (EndsA Γ (.pure [] (.sl none R.length (intsC R) .no)) Try.f28)) (k2 : m.getD j 0 ∉ out → HT Try.prog Try.f28.ntmps (pt Try.f28 2) (stL6i l ns p (out ++ [m.getD j 0]) m i (j + 1)) (EndsA Γ (.pure [] (.sl none R.length (intsC R) .no)) Try.f28)) : HT Try.prog Try.f28.ntmps (pt Try.f28 2) (stL6i l ns p out m i j) (EndsA Γ (.pure [] (.sl none R.length (intsC R) .no)) Try.f28) :=
  HT.walk Γ_ok mo_ok (⟨([(72, .val (.int .i64 (m.getD j 0))), (73, .call [] (.bool (decide (m.getD j 0 ∈ out)))), (79, .val (.int .i64 (m.getD j 0)))] ++ []), sp28, hd28 [(8, 1, 3, 1)] [] [] [], dsp28, .pure [] (.sl none R.length (intsC R) .no)⟩ : Wk) 4000 (T := .split (decide ((↑j : Int) < (↑m.length : Int))) (.ob ((0 : Int) ≤ (↑j : Int) ∧ (↑j : Int) < (↑m.length : Int) ∧ (↑j : Int).toNat * (1 : Nat) < (intsC m).length) (.ob ((intsC m)[(↑j : Int).toNat * (1 : Nat)]? = some (AV.int .i64 (m.getD j (0 : Int)))) (.ob (Ctr Try.prog 29 [AV.sl none out.length (intsC out) .no, AV.int .i64 (m.getD j (0 : Int))] (AV.bool (decide (m.getD j (0 : Int) ∈ out)))) (.split (decide (m.getD j (0 : Int) ∈ out)) (.head (pt Try.f28 2) ({ tmps := [(3, AV.ptr 3 0), (4, AV.ptr 4 0), (8, AV.sl none out.length (intsC out) (.own (1 : Nat))), (9, AV.int .i64 (↑i : Int)), (10, AV.sl none m.length (intsC m) .no), (11, AV.int .i64 (IntKind.i64.wrap ((↑j : Int) + (1 : Int))))], heap := [(3, .var true (wldL l ns)), (4, .var true (pthL p))], tags := [(1, { n := out.length, e := (3 : Nat), sz := (1 : Nat) })] })) (.ob ((0 : Int) ≤ (↑j : Int) ∧ (↑j : Int) < (↑m.length : Int) ∧ (↑j : Int).toNat * (1 : Nat) < (intsC m).length) (.ob ((intsC m)[(↑j : Int).toNat * (1 : Nat)]? = some (AV.int .i64 (m.getD j (0 : Int)))) (.ob (out.length = out.length) (.ob ((intsC out).length = out.length * ((0 : Nat) + (1 : Nat)) ∧ (splice (repL (List.map zn [AV.int .i64 (0 : Int)]) (1 : Nat)) ((0 : Nat) * (1 : Nat)) (cellsOf (AV.int .i64 (m.getD j (0 : Int))))).length = (1 : Nat) * ((0 : Nat) + (1 : Nat)) ∧ (out.length + (1 : Nat)) * ((7 : Nat) + (1 : Nat)) ≤ (140737488355328 : Nat)) (.head (pt Try.f28 2) ({ tmps := [(3, AV.ptr 3 0), (4, AV.ptr 4 0), (8, AV.sl none (out.length + (1 : Nat)) (intsC out ++ splice (repL (List.map zn [AV.int .i64 (0 : Int)]) (1 : Nat)) ((0 : Nat) * (1 : Nat)) (cellsOf (AV.int .i64 (m.getD j (0 : Int))))) (.own (1 : Nat))), (9, AV.int .i64 (↑i : Int)), (10, AV.sl none m.length (intsC m) .no), (11, AV.int .i64 (IntKind.i64.wrap ((↑j : Int) + (1 : Int))))], heap := [(3, .var true (wldL l ns)), (4, .var true (pthL p))], tags := [(1, { n := out.length + (1 : Nat), e := (3 : Nat), sz := (1 : Nat) })] })))))))))) (.head (pt Try.f28 1) ({ tmps := [(3, AV.ptr 3 0), (4, AV.ptr 4 0), (8, AV.sl none out.length (intsC out) (.own (1 : Nat))), (9, AV.int .i64 (IntKind.i64.wrap ((↑i : Int) + (1 : Int))))], heap := [(3, .var true (wldL l ns)), (4, .var true (pthL p))], tags := [(1, { n := out.length, e := (3 : Nat), sz := (1 : Nat) })] }))) (by kernel_rfl) (by
    have w3 : IntKind.i64.wrap ((j : Int) + 1) = ((j + 1 : Nat) : Int) := by rw [i64_wrap (by omega) (by omega)]; rfl
    have h0 : decide ((j : Int) < m.length) = true := by simp; omega
    simp only [PT.holds, w3, h0, Int.toNat_natCast, Nat.mul_one, intsC_len', intsC_nth m j hj, true_implies, Bool.false_eq_true, Bool.true_eq_false, false_implies, true_and, and_true]
    refine ⟨by omega, has29_ctr out _ (by omega), fun h => ?_, fun h => ?_⟩
    · exact head_eq (k1 (of_decide_eq_true h)) (by simp [stL6i, wldL, pthL])
    · refine ⟨by omega, ⟨by omega, rfl, by omega⟩, head_eq (k2 (of_decide_eq_false h)) ?_⟩
      simp [stL6i, wldL, pthL, ← intsC_app, splice, repL, cellsOf])
theorem l6i_e (l : List Ev) (ns : List Int) (p : Pth) (out m R : List Int) (i j : Nat) (hj : j = m.length) (hi : i ≤ 1000000) (k : HT Try.prog Try.f28.ntmps (pt Try.f28 1) (stL6 l ns p out (i + 1)) (EndsA Γ (.pure [] (.sl none R.length (intsC R) .no)) Try.f28)) : HT Try.prog Try.f28.ntmps (pt Try.f28 2) (stL6i l ns p out m i j) (EndsA Γ (.pure [] (.sl none R.length (intsC R) .no)) Try.f28) :=
  HT.walk Γ_ok mo_ok (⟨([(72, .val (.int .i64 (m.getD j 0))), (73, .call [] (.bool (decide (m.getD j 0 ∈ out)))), (79, .val (.int .i64 (m.getD j 0)))] ++ []), sp28, hd28 [(8, 1, 3, 1)] [] [] [], dsp28, .pure [] (.sl none R.length (intsC R) .no)⟩ : Wk) 4000 (T := .split (decide ((↑j : Int) < (↑m.length : Int))) (.ob ((0 : Int) ≤ (↑j : Int) ∧ (↑j : Int) < (↑m.length : Int) ∧ (↑j : Int).toNat * (1 : Nat) < (intsC m).length) (.ob ((intsC m)[(↑j : Int).toNat * (1 : Nat)]? = some (AV.int .i64 (m.getD j (0 : Int)))) (.ob (Ctr Try.prog 29 [AV.sl none out.length (intsC out) .no, AV.int .i64 (m.getD j (0 : Int))] (AV.bool (decide (m.getD j (0 : Int) ∈ out)))) (.split (decide (m.getD j (0 : Int) ∈ out)) (.head (pt Try.f28 2) ({ tmps := [(3, AV.ptr 3 0), (4, AV.ptr 4 0), (8, AV.sl none out.length (intsC out) (.own (1 : Nat))), (9, AV.int .i64 (↑i : Int)), (10, AV.sl none m.length (intsC m) .no), (11, AV.int .i64 (IntKind.i64.wrap ((↑j : Int) + (1 : Int))))], heap := [(3, .var true (wldL l ns)), (4, .var true (pthL p))], tags := [(1, { n := out.length, e := (3 : Nat), sz := (1 : Nat) })] })) (.ob ((0 : Int) ≤ (↑j : Int) ∧ (↑j : Int) < (↑m.length : Int) ∧ (↑j : Int).toNat * (1 : Nat) < (intsC m).length) (.ob ((intsC m)[(↑j : Int).toNat * (1 : Nat)]? = some (AV.int .i64 (m.getD j (0 : Int)))) (.ob (out.length = out.length) (.ob ((intsC out).length = out.length * ((0 : Nat) + (1 : Nat)) ∧ (splice (repL (List.map zn [AV.int .i64 (0 : Int)]) (1 : Nat)) ((0 : Nat) * (1 : Nat)) (cellsOf (AV.int .i64 (m.getD j (0 : Int))))).length = (1 : Nat) * ((0 : Nat) + (1 : Nat)) ∧ (out.length + (1 : Nat)) * ((7 : Nat) + (1 : Nat)) ≤ (140737488355328 : Nat)) (.head (pt Try.f28 2) ({ tmps := [(3, AV.ptr 3 0), (4, AV.ptr 4 0), (8, AV.sl none (out.length + (1 : Nat)) (intsC out ++ splice (repL (List.map zn [AV.int .i64 (0 : Int)]) (1 : Nat)) ((0 : Nat) * (1 : Nat)) (cellsOf (AV.int .i64 (m.getD j (0 : Int))))) (.own (1 : Nat))), (9, AV.int .i64 (↑i : Int)), (10, AV.sl none m.length (intsC m) .no), (11, AV.int .i64 (IntKind.i64.wrap ((↑j : Int) + (1 : Int))))], heap := [(3, .var true (wldL l ns)), (4, .var true (pthL p))], tags := [(1, { n := out.length + (1 : Nat), e := (3 : Nat), sz := (1 : Nat) })] })))))))))) (.head (pt Try.f28 1) ({ tmps := [(3, AV.ptr 3 0), (4, AV.ptr 4 0), (8, AV.sl none out.length (intsC out) (.own (1 : Nat))), (9, AV.int .i64 (IntKind.i64.wrap ((↑i : Int) + (1 : Int))))], heap := [(3, .var true (wldL l ns)), (4, .var true (pthL p))], tags := [(1, { n := out.length, e := (3 : Nat), sz := (1 : Nat) })] }))) (by kernel_rfl) (by
    have w2 : IntKind.i64.wrap ((i : Int) + 1) = ((i + 1 : Nat) : Int) := by rw [i64_wrap (by omega) (by omega)]; rfl
    have h0 : decide ((j : Int) < m.length) = false := by simp; omega
    simp only [PT.holds, w2, h0, true_implies, Bool.false_eq_true, Bool.true_eq_false, false_implies, true_and, and_true]
    exact head_eq k (by simp [stL6, wldL, pthL]))
theorem lC25 (l : List Ev) (ns : List Int) (p : Pth) (a out R : List Int) (i : Nat) (x : Int) (hi : i < a.length) (ha : a.length ≤ 1000) (ho : out.length ≤ 1000) (hc : p.op = 2 → Ctr Try.prog 38 [.agg (wldL l ns), .int .i64 (a.getD i 0)] (.int .i64 x)) (k1 : p.op = 2 → 0 ≤ x → HT Try.prog Try.f28.ntmps (pr Try.f28 27) (stLC l ns p a (out ++ [x]) i) (EndsA Γ (.pure [] (.sl none R.length (intsC R) .no)) Try.f28)) (k2 : ¬ (p.op = 2 ∧ 0 ≤ x) → HT Try.prog Try.f28.ntmps (pr Try.f28 27) (stLC l ns p a out i) (EndsA Γ (.pure [] (.sl none R.length (intsC R) .no)) Try.f28)) : HT Try.prog Try.f28.ntmps (pt Try.f28 3) (stLC l ns p a out i) (EndsA Γ (.pure [] (.sl none R.length (intsC R) .no)) Try.f28) :=
  HT.walk Γ_ok mo_ok (⟨([(97, .val (.int .i64 (a.getD i 0))), (98, .call [] (.int .i64 x)), (106, .val (.int .i64 (a.getD i 0))), (107, .call [] (.int .i64 x))] ++ []), sp28, (hd28 [(8, 1, 3, 1)] [] [] [] ++ [(7000027, ⟨[2, 3, 4, 8, 12], [3, 4], [1], [], []⟩)]), dsp28, .pure [] (.sl none R.length (intsC R) .no)⟩ : Wk) 4000 (T := .split (decide ((↑i : Int) < (↑a.length : Int))) (.or (.ob (decide (p.op = (2 : Int)) = true) (.ob ((2 : Nat) ≤ (2 : Nat)) (.ob ((0 : Int) ≤ (↑i : Int) ∧ (↑i : Int) < (↑a.length : Int) ∧ (↑i : Int).toNat * (1 : Nat) < (intsC a).length) (.ob ((intsC a)[(↑i : Int).toNat * (1 : Nat)]? = some (AV.int .i64 (a.getD i (0 : Int)))) (.ob (Ctr Try.prog 38 [AV.agg (wldL l ns), AV.int .i64 (a.getD i (0 : Int))] (AV.int .i64 x)) (.ob (decide ((0 : Int) ≤ x) = true) (.ob ((2 : Nat) ≤ (2 : Nat)) (.ob ((0 : Int) ≤ (↑i : Int) ∧ (↑i : Int) < (↑a.length : Int) ∧ (↑i : Int).toNat * (1 : Nat) < (intsC a).length) (.ob ((intsC a)[(↑i : Int).toNat * (1 : Nat)]? = some (AV.int .i64 (a.getD i (0 : Int)))) (.ob (Ctr Try.prog 38 [AV.agg (wldL l ns), AV.int .i64 (a.getD i (0 : Int))] (AV.int .i64 x)) (.ob (out.length = out.length) (.ob ((intsC out).length = out.length * ((0 : Nat) + (1 : Nat)) ∧ (splice (repL (List.map zn [AV.int .i64 (0 : Int)]) (1 : Nat)) ((0 : Nat) * (1 : Nat)) (cellsOf (AV.int .i64 x))).length = (1 : Nat) * ((0 : Nat) + (1 : Nat)) ∧ (out.length + (1 : Nat)) * ((7 : Nat) + (1 : Nat)) ≤ (140737488355328 : Nat)) (.head (pr Try.f28 27) ({ tmps := [(2, AV.sl none a.length (intsC a) .no), (3, AV.ptr 3 0), (4, AV.ptr 4 0), (8, AV.sl none (out.length + (1 : Nat)) (intsC out ++ splice (repL (List.map zn [AV.int .i64 (0 : Int)]) (1 : Nat)) ((0 : Nat) * (1 : Nat)) (cellsOf (AV.int .i64 x))) (.own (1 : Nat))), (12, AV.int .i64 (↑i : Int))], heap := [(3, .var true (wldL l ns)), (4, .var true (pthL p))], tags := [(1, { n := out.length + (1 : Nat), e := (3 : Nat), sz := (1 : Nat) })] })))))))))))))) (.or (.ob (decide (p.op = (2 : Int)) = true) (.ob ((2 : Nat) ≤ (2 : Nat)) (.ob ((0 : Int) ≤ (↑i : Int) ∧ (↑i : Int) < (↑a.length : Int) ∧ (↑i : Int).toNat * (1 : Nat) < (intsC a).length) (.ob ((intsC a)[(↑i : Int).toNat * (1 : Nat)]? = some (AV.int .i64 (a.getD i (0 : Int)))) (.ob (Ctr Try.prog 38 [AV.agg (wldL l ns), AV.int .i64 (a.getD i (0 : Int))] (AV.int .i64 x)) (.ob (decide ((0 : Int) ≤ x) = false) (.head (pr Try.f28 27) ({ tmps := [(2, AV.sl none a.length (intsC a) .no), (3, AV.ptr 3 0), (4, AV.ptr 4 0), (8, AV.sl none out.length (intsC out) (.own (1 : Nat))), (12, AV.int .i64 (↑i : Int))], heap := [(3, .var true (wldL l ns)), (4, .var true (pthL p))], tags := [(1, { n := out.length, e := (3 : Nat), sz := (1 : Nat) })] })))))))) (.ob (decide (p.op = (2 : Int)) = false) (.head (pr Try.f28 27) ({ tmps := [(2, AV.sl none a.length (intsC a) .no), (3, AV.ptr 3 0), (4, AV.ptr 4 0), (8, AV.sl none out.length (intsC out) (.own (1 : Nat))), (12, AV.int .i64 (↑i : Int))], heap := [(3, .var true (wldL l ns)), (4, .var true (pthL p))], tags := [(1, { n := out.length, e := (3 : Nat), sz := (1 : Nat) })] }))))) (.head (pt Try.f28 4) ({ tmps := [(2, AV.sl none a.length (intsC a) .no), (3, AV.ptr 3 0), (4, AV.ptr 4 0), (8, AV.sl none out.length (intsC out) (.own (1 : Nat))), (13, AV.int .i64 (0 : Int))], heap := [(3, .var true (wldL l ns)), (4, .var true (pthL p))], tags := [(1, { n := out.length, e := (3 : Nat), sz := (1 : Nat) })] }))) (by kernel_rfl) (by
    have h0 : decide ((i : Int) < a.length) = true := by simp; omega
    simp only [PT.holds, h0, Int.toNat_natCast, Nat.mul_one, intsC_len', intsC_nth a i hi, true_implies, Bool.false_eq_true, Bool.true_eq_false, false_implies, true_and, and_true]
    by_cases hop : p.op = 2
    · by_cases hx : 0 ≤ x
      · refine .inl ⟨decide_eq_true hop, by omega, by omega, hc hop, decide_eq_true hx, by omega, by omega, hc hop, ⟨by omega, rfl, by omega⟩, head_eq (k1 hop hx) ?_⟩
        simp [stLC, wldL, pthL, ← intsC_app, splice, repL, cellsOf]
      · exact .inr (.inl ⟨decide_eq_true hop, by omega, by omega, hc hop, decide_eq_false hx, head_eq (k2 (fun h => hx h.2)) (by simp [stLC, wldL, pthL])⟩)
    · exact .inr (.inr ⟨decide_eq_false hop, head_eq (k2 (fun h => hop h.1)) (by simp [stLC, wldL, pthL])⟩))
theorem lC25_e (l : List Ev) (ns : List Int) (p : Pth) (a out R : List Int) (i : Nat) (hi : i = a.length) (k : HT Try.prog Try.f28.ntmps (pt Try.f28 4) (stLD l ns p a out 0) (EndsA Γ (.pure [] (.sl none R.length (intsC R) .no)) Try.f28)) : HT Try.prog Try.f28.ntmps (pt Try.f28 3) (stLC l ns p a out i) (EndsA Γ (.pure [] (.sl none R.length (intsC R) .no)) Try.f28) :=
  HT.walk Γ_ok mo_ok (⟨([(97, .val (.int .i64 (a.getD i 0))), (98, .call [] (.int .i64 0)), (106, .val (.int .i64 (a.getD i 0))), (107, .call [] (.int .i64 0))] ++ []), sp28, (hd28 [(8, 1, 3, 1)] [] [] [] ++ [(7000027, ⟨[2, 3, 4, 8, 12], [3, 4], [1], [], []⟩)]), dsp28, .pure [] (.sl none R.length (intsC R) .no)⟩ : Wk) 4000 (T := .split (decide ((↑i : Int) < (↑a.length : Int))) (.or (.ob (decide (p.op = (2 : Int)) = true) (.ob ((2 : Nat) ≤ (2 : Nat)) (.ob ((0 : Int) ≤ (↑i : Int) ∧ (↑i : Int) < (↑a.length : Int) ∧ (↑i : Int).toNat * (1 : Nat) < (intsC a).length) (.ob ((intsC a)[(↑i : Int).toNat * (1 : Nat)]? = some (AV.int .i64 (a.getD i (0 : Int)))) (.ob (Ctr Try.prog 38 [AV.agg (wldL l ns), AV.int .i64 (a.getD i (0 : Int))] (AV.int .i64 (0 : Int))) (.ob (true = true) (.ob ((2 : Nat) ≤ (2 : Nat)) (.ob ((0 : Int) ≤ (↑i : Int) ∧ (↑i : Int) < (↑a.length : Int) ∧ (↑i : Int).toNat * (1 : Nat) < (intsC a).length) (.ob ((intsC a)[(↑i : Int).toNat * (1 : Nat)]? = some (AV.int .i64 (a.getD i (0 : Int)))) (.ob (Ctr Try.prog 38 [AV.agg (wldL l ns), AV.int .i64 (a.getD i (0 : Int))] (AV.int .i64 (0 : Int))) (.ob (out.length = out.length) (.ob ((intsC out).length = out.length * ((0 : Nat) + (1 : Nat)) ∧ (splice (repL (List.map zn [AV.int .i64 (0 : Int)]) (1 : Nat)) ((0 : Nat) * (1 : Nat)) (cellsOf (AV.int .i64 (0 : Int)))).length = (1 : Nat) * ((0 : Nat) + (1 : Nat)) ∧ (out.length + (1 : Nat)) * ((7 : Nat) + (1 : Nat)) ≤ (140737488355328 : Nat)) (.head (pr Try.f28 27) ({ tmps := [(2, AV.sl none a.length (intsC a) .no), (3, AV.ptr 3 0), (4, AV.ptr 4 0), (8, AV.sl none (out.length + (1 : Nat)) (intsC out ++ splice (repL (List.map zn [AV.int .i64 (0 : Int)]) (1 : Nat)) ((0 : Nat) * (1 : Nat)) (cellsOf (AV.int .i64 (0 : Int)))) (.own (1 : Nat))), (12, AV.int .i64 (↑i : Int))], heap := [(3, .var true (wldL l ns)), (4, .var true (pthL p))], tags := [(1, { n := out.length + (1 : Nat), e := (3 : Nat), sz := (1 : Nat) })] })))))))))))))) (.or (.ob (decide (p.op = (2 : Int)) = true) (.ob ((2 : Nat) ≤ (2 : Nat)) (.ob ((0 : Int) ≤ (↑i : Int) ∧ (↑i : Int) < (↑a.length : Int) ∧ (↑i : Int).toNat * (1 : Nat) < (intsC a).length) (.ob ((intsC a)[(↑i : Int).toNat * (1 : Nat)]? = some (AV.int .i64 (a.getD i (0 : Int)))) (.ob (Ctr Try.prog 38 [AV.agg (wldL l ns), AV.int .i64 (a.getD i (0 : Int))] (AV.int .i64 (0 : Int))) (.ob (true = false) (.head (pr Try.f28 27) ({ tmps := [(2, AV.sl none a.length (intsC a) .no), (3, AV.ptr 3 0), (4, AV.ptr 4 0), (8, AV.sl none out.length (intsC out) (.own (1 : Nat))), (12, AV.int .i64 (↑i : Int))], heap := [(3, .var true (wldL l ns)), (4, .var true (pthL p))], tags := [(1, { n := out.length, e := (3 : Nat), sz := (1 : Nat) })] })))))))) (.ob (decide (p.op = (2 : Int)) = false) (.head (pr Try.f28 27) ({ tmps := [(2, AV.sl none a.length (intsC a) .no), (3, AV.ptr 3 0), (4, AV.ptr 4 0), (8, AV.sl none out.length (intsC out) (.own (1 : Nat))), (12, AV.int .i64 (↑i : Int))], heap := [(3, .var true (wldL l ns)), (4, .var true (pthL p))], tags := [(1, { n := out.length, e := (3 : Nat), sz := (1 : Nat) })] }))))) (.head (pt Try.f28 4) ({ tmps := [(2, AV.sl none a.length (intsC a) .no), (3, AV.ptr 3 0), (4, AV.ptr 4 0), (8, AV.sl none out.length (intsC out) (.own (1 : Nat))), (13, AV.int .i64 (0 : Int))], heap := [(3, .var true (wldL l ns)), (4, .var true (pthL p))], tags := [(1, { n := out.length, e := (3 : Nat), sz := (1 : Nat) })] }))) (by kernel_rfl) (by
    have h0 : decide ((i : Int) < a.length) = false := by simp; omega
    simp only [PT.holds, h0, true_implies, Bool.false_eq_true, Bool.true_eq_false, false_implies, true_and, and_true]
    exact head_eq k (by simp [stLD, wldL, pthL]))
theorem lC27 (l : List Ev) (ns : List Int) (p : Pth) (a out R : List Int) (i : Nat) (x : Int) (hi : i < a.length) (ha : a.length ≤ 1000) (ho : out.length ≤ 1000) (hc : p.op = 3 → Ctr Try.prog 39 [.agg (wldL l ns), .int .i64 (a.getD i 0)] (.int .i64 x)) (k1 : p.op = 3 → 0 ≤ x → HT Try.prog Try.f28.ntmps (pr Try.f28 29) (stLC l ns p a (out ++ [x]) i) (EndsA Γ (.pure [] (.sl none R.length (intsC R) .no)) Try.f28)) (k2 : ¬ (p.op = 3 ∧ 0 ≤ x) → HT Try.prog Try.f28.ntmps (pr Try.f28 29) (stLC l ns p a out i) (EndsA Γ (.pure [] (.sl none R.length (intsC R) .no)) Try.f28)) : HT Try.prog Try.f28.ntmps (pr Try.f28 27) (stLC l ns p a out i) (EndsA Γ (.pure [] (.sl none R.length (intsC R) .no)) Try.f28) :=
  HT.walk Γ_ok mo_ok (⟨([(118, .val (.int .i64 (a.getD i 0))), (119, .call [] (.int .i64 x)), (127, .val (.int .i64 (a.getD i 0))), (128, .call [] (.int .i64 x))] ++ []), sp28, (hd28 [(8, 1, 3, 1)] [] [] [] ++ [(7000029, ⟨[2, 3, 4, 8, 12], [3, 4], [1], [], []⟩)]), dsp28, .pure [] (.sl none R.length (intsC R) .no)⟩ : Wk) 4000 (T := .or (.ob (decide (p.op = (3 : Int)) = true) (.ob ((2 : Nat) ≤ (2 : Nat)) (.ob ((0 : Int) ≤ (↑i : Int) ∧ (↑i : Int) < (↑a.length : Int) ∧ (↑i : Int).toNat * (1 : Nat) < (intsC a).length) (.ob ((intsC a)[(↑i : Int).toNat * (1 : Nat)]? = some (AV.int .i64 (a.getD i (0 : Int)))) (.ob (Ctr Try.prog 39 [AV.agg (wldL l ns), AV.int .i64 (a.getD i (0 : Int))] (AV.int .i64 x)) (.ob (decide ((0 : Int) ≤ x) = true) (.ob ((2 : Nat) ≤ (2 : Nat)) (.ob ((0 : Int) ≤ (↑i : Int) ∧ (↑i : Int) < (↑a.length : Int) ∧ (↑i : Int).toNat * (1 : Nat) < (intsC a).length) (.ob ((intsC a)[(↑i : Int).toNat * (1 : Nat)]? = some (AV.int .i64 (a.getD i (0 : Int)))) (.ob (Ctr Try.prog 39 [AV.agg (wldL l ns), AV.int .i64 (a.getD i (0 : Int))] (AV.int .i64 x)) (.ob (out.length = out.length) (.ob ((intsC out).length = out.length * ((0 : Nat) + (1 : Nat)) ∧ (splice (repL (List.map zn [AV.int .i64 (0 : Int)]) (1 : Nat)) ((0 : Nat) * (1 : Nat)) (cellsOf (AV.int .i64 x))).length = (1 : Nat) * ((0 : Nat) + (1 : Nat)) ∧ (out.length + (1 : Nat)) * ((7 : Nat) + (1 : Nat)) ≤ (140737488355328 : Nat)) (.head (pr Try.f28 29) ({ tmps := [(2, AV.sl none a.length (intsC a) .no), (3, AV.ptr 3 0), (4, AV.ptr 4 0), (8, AV.sl none (out.length + (1 : Nat)) (intsC out ++ splice (repL (List.map zn [AV.int .i64 (0 : Int)]) (1 : Nat)) ((0 : Nat) * (1 : Nat)) (cellsOf (AV.int .i64 x))) (.own (1 : Nat))), (12, AV.int .i64 (↑i : Int))], heap := [(3, .var true (wldL l ns)), (4, .var true (pthL p))], tags := [(1, { n := out.length + (1 : Nat), e := (3 : Nat), sz := (1 : Nat) })] })))))))))))))) (.or (.ob (decide (p.op = (3 : Int)) = true) (.ob ((2 : Nat) ≤ (2 : Nat)) (.ob ((0 : Int) ≤ (↑i : Int) ∧ (↑i : Int) < (↑a.length : Int) ∧ (↑i : Int).toNat * (1 : Nat) < (intsC a).length) (.ob ((intsC a)[(↑i : Int).toNat * (1 : Nat)]? = some (AV.int .i64 (a.getD i (0 : Int)))) (.ob (Ctr Try.prog 39 [AV.agg (wldL l ns), AV.int .i64 (a.getD i (0 : Int))] (AV.int .i64 x)) (.ob (decide ((0 : Int) ≤ x) = false) (.head (pr Try.f28 29) ({ tmps := [(2, AV.sl none a.length (intsC a) .no), (3, AV.ptr 3 0), (4, AV.ptr 4 0), (8, AV.sl none out.length (intsC out) (.own (1 : Nat))), (12, AV.int .i64 (↑i : Int))], heap := [(3, .var true (wldL l ns)), (4, .var true (pthL p))], tags := [(1, { n := out.length, e := (3 : Nat), sz := (1 : Nat) })] })))))))) (.ob (decide (p.op = (3 : Int)) = false) (.head (pr Try.f28 29) ({ tmps := [(2, AV.sl none a.length (intsC a) .no), (3, AV.ptr 3 0), (4, AV.ptr 4 0), (8, AV.sl none out.length (intsC out) (.own (1 : Nat))), (12, AV.int .i64 (↑i : Int))], heap := [(3, .var true (wldL l ns)), (4, .var true (pthL p))], tags := [(1, { n := out.length, e := (3 : Nat), sz := (1 : Nat) })] }))))) (by kernel_rfl) (by
    simp only [PT.holds, Int.toNat_natCast, Nat.mul_one, intsC_len', intsC_nth a i hi, true_implies, Bool.false_eq_true, Bool.true_eq_false, false_implies, true_and, and_true]
    by_cases hop : p.op = 3
    · by_cases hx : 0 ≤ x
      · refine .inl ⟨decide_eq_true hop, by omega, by omega, hc hop, decide_eq_true hx, by omega, by omega, hc hop, ⟨by omega, rfl, by omega⟩, head_eq (k1 hop hx) ?_⟩
        simp [stLC, wldL, pthL, ← intsC_app, splice, repL, cellsOf]
      · exact .inr (.inl ⟨decide_eq_true hop, by omega, by omega, hc hop, decide_eq_false hx, head_eq (k2 (fun h => hx h.2)) (by simp [stLC, wldL, pthL])⟩)
    · exact .inr (.inr ⟨decide_eq_false hop, head_eq (k2 (fun h => hop h.1)) (by simp [stLC, wldL, pthL])⟩))
theorem lC29 (l : List Ev) (ns : List Int) (p : Pth) (a out R : List Int) (i : Nat) (b : Bool) (hi : i < a.length) (ha : a.length ≤ 1000) (ho : out.length ≤ 1000) (ht : p.op = 7 → 0 < p.test.length) (hc : p.op = 7 → Ctr Try.prog 18 [.agg (wldL l ns), .agg (fltL (p.test.getD 0 flt0)), .int .i64 (a.getD i 0)] (.bool b)) (k1 : p.op = 7 → b = true → HT Try.prog Try.f28.ntmps (pt Try.f28 3) (stLC l ns p a (out ++ [a.getD i 0]) (i + 1)) (EndsA Γ (.pure [] (.sl none R.length (intsC R) .no)) Try.f28)) (k2 : ¬ (p.op = 7 ∧ b = true) → HT Try.prog Try.f28.ntmps (pt Try.f28 3) (stLC l ns p a out (i + 1)) (EndsA Γ (.pure [] (.sl none R.length (intsC R) .no)) Try.f28)) : HT Try.prog Try.f28.ntmps (pr Try.f28 29) (stLC l ns p a out i) (EndsA Γ (.pure [] (.sl none R.length (intsC R) .no)) Try.f28) :=
  HT.walk Γ_ok mo_ok (⟨([(139, .val (.agg (fltL (p.test.getD 0 flt0)))), (143, .val (.int .i64 (a.getD i 0))), (144, .call [] (.bool b)), (150, .val (.int .i64 (a.getD i 0)))] ++ []), sp28, hd28 [(8, 1, 3, 1)] [] [] [], dsp28, .pure [] (.sl none R.length (intsC R) .no)⟩ : Wk) 4000 (T := .or (.ob (decide (p.op = (7 : Int)) = true) (.ob ((2 : Nat) ≤ (2 : Nat)) (.ob ((0 : Int) ≤ (0 : Int) ∧ (0 : Int) < (↑p.test.length : Int) ∧ Int.toNat (0 : Int) * (6 : Nat) < (fltsC p.test).length) (.ob (List.take (6 : Nat) (List.drop (Int.toNat (0 : Int) * (6 : Nat)) (fltsC p.test)) = (fltL (p.test.getD (0 : Nat) flt0))) (.ob ((0 : Int) ≤ (↑i : Int) ∧ (↑i : Int) < (↑a.length : Int) ∧ (↑i : Int).toNat * (1 : Nat) < (intsC a).length) (.ob ((intsC a)[(↑i : Int).toNat * (1 : Nat)]? = some (AV.int .i64 (a.getD i (0 : Int)))) (.ob (Ctr Try.prog 18 [AV.agg (wldL l ns), AV.agg (fltL (p.test.getD (0 : Nat) flt0)), AV.int .i64 (a.getD i (0 : Int))] (AV.bool b)) (.ob (b = true) (.ob ((0 : Int) ≤ (↑i : Int) ∧ (↑i : Int) < (↑a.length : Int) ∧ (↑i : Int).toNat * (1 : Nat) < (intsC a).length) (.ob ((intsC a)[(↑i : Int).toNat * (1 : Nat)]? = some (AV.int .i64 (a.getD i (0 : Int)))) (.ob (out.length = out.length) (.ob ((intsC out).length = out.length * ((0 : Nat) + (1 : Nat)) ∧ (splice (repL (List.map zn [AV.int .i64 (0 : Int)]) (1 : Nat)) ((0 : Nat) * (1 : Nat)) (cellsOf (AV.int .i64 (a.getD i (0 : Int))))).length = (1 : Nat) * ((0 : Nat) + (1 : Nat)) ∧ (out.length + (1 : Nat)) * ((7 : Nat) + (1 : Nat)) ≤ (140737488355328 : Nat)) (.head (pt Try.f28 3) ({ tmps := [(2, AV.sl none a.length (intsC a) .no), (3, AV.ptr 3 0), (4, AV.ptr 4 0), (8, AV.sl none (out.length + (1 : Nat)) (intsC out ++ splice (repL (List.map zn [AV.int .i64 (0 : Int)]) (1 : Nat)) ((0 : Nat) * (1 : Nat)) (cellsOf (AV.int .i64 (a.getD i (0 : Int))))) (.own (1 : Nat))), (12, AV.int .i64 (IntKind.i64.wrap ((↑i : Int) + (1 : Int))))], heap := [(3, .var true (wldL l ns)), (4, .var true (pthL p))], tags := [(1, { n := out.length + (1 : Nat), e := (3 : Nat), sz := (1 : Nat) })] })))))))))))))) (.or (.ob (decide (p.op = (7 : Int)) = true) (.ob ((2 : Nat) ≤ (2 : Nat)) (.ob ((0 : Int) ≤ (0 : Int) ∧ (0 : Int) < (↑p.test.length : Int) ∧ Int.toNat (0 : Int) * (6 : Nat) < (fltsC p.test).length) (.ob (List.take (6 : Nat) (List.drop (Int.toNat (0 : Int) * (6 : Nat)) (fltsC p.test)) = (fltL (p.test.getD (0 : Nat) flt0))) (.ob ((0 : Int) ≤ (↑i : Int) ∧ (↑i : Int) < (↑a.length : Int) ∧ (↑i : Int).toNat * (1 : Nat) < (intsC a).length) (.ob ((intsC a)[(↑i : Int).toNat * (1 : Nat)]? = some (AV.int .i64 (a.getD i (0 : Int)))) (.ob (Ctr Try.prog 18 [AV.agg (wldL l ns), AV.agg (fltL (p.test.getD (0 : Nat) flt0)), AV.int .i64 (a.getD i (0 : Int))] (AV.bool b)) (.ob (b = false) (.head (pt Try.f28 3) ({ tmps := [(2, AV.sl none a.length (intsC a) .no), (3, AV.ptr 3 0), (4, AV.ptr 4 0), (8, AV.sl none out.length (intsC out) (.own (1 : Nat))), (12, AV.int .i64 (IntKind.i64.wrap ((↑i : Int) + (1 : Int))))], heap := [(3, .var true (wldL l ns)), (4, .var true (pthL p))], tags := [(1, { n := out.length, e := (3 : Nat), sz := (1 : Nat) })] })))))))))) (.ob (decide (p.op = (7 : Int)) = false) (.head (pt Try.f28 3) ({ tmps := [(2, AV.sl none a.length (intsC a) .no), (3, AV.ptr 3 0), (4, AV.ptr 4 0), (8, AV.sl none out.length (intsC out) (.own (1 : Nat))), (12, AV.int .i64 (IntKind.i64.wrap ((↑i : Int) + (1 : Int))))], heap := [(3, .var true (wldL l ns)), (4, .var true (pthL p))], tags := [(1, { n := out.length, e := (3 : Nat), sz := (1 : Nat) })] }))))) (by kernel_rfl) (by
    have w2 : IntKind.i64.wrap ((i : Int) + 1) = ((i + 1 : Nat) : Int) := by rw [i64_wrap (by omega) (by omega)]; rfl
    simp only [PT.holds, w2, Int.toNat_natCast, Nat.mul_one, intsC_len', intsC_nth a i hi, fltsC_len, true_implies, Bool.false_eq_true, Bool.true_eq_false, false_implies, true_and, and_true]
    have cl : ∀ h : 0 < p.test.length, List.take 6 (List.drop (Int.toNat 0 * 6) (fltsC p.test)) = fltL (p.test.getD 0 flt0) := fun h => by rw [Int.toNat_zero]; ((try simp only [Nat.add_assoc, Nat.reduceAdd, Nat.add_zero]) <;> first | (rw [ats_take _ _ _ _ h (by decide)]; rfl) | (rw [ats_nth _ _ _ h (by decide)]; rfl) | (rw [evs_take _ _ _ _ h (by decide)]; rfl) | (rw [evs_nth _ _ _ h (by decide)]; rfl) | (rw [trs_take _ _ _ _ h (by decide)]; rfl) | (rw [trs_nth _ _ _ h (by decide)]; rfl) | (rw [pths_take _ _ _ _ h (by decide)]; rfl) | (rw [pths_nth _ _ _ h (by decide)]; rfl) | (rw [flts_take _ _ _ _ h (by decide)]; rfl) | (rw [flts_nth _ _ _ h (by decide)]; rfl) | (rw [ats_take0 _ _ _ h (by decide)]; rfl) | (rw [ats_nth0 _ _ h]; rfl) | (rw [evs_take0 _ _ _ h (by decide)]; rfl) | (rw [evs_nth0 _ _ h]; rfl) | (rw [trs_take0 _ _ _ h (by decide)]; rfl) | (rw [trs_nth0 _ _ h]; rfl) | (rw [pths_take0 _ _ _ h (by decide)]; rfl) | (rw [pths_nth0 _ _ h]; rfl) | (rw [flts_take0 _ _ _ h (by decide)]; rfl) | (rw [flts_nth0 _ _ h]; rfl))
    by_cases hop : p.op = 7
    · have h7 := ht hop
      by_cases hx : b = true
      · refine .inl ⟨decide_eq_true hop, by omega, by omega, cl h7, by omega, hc hop, hx, by omega, ⟨by omega, rfl, by omega⟩, head_eq (k1 hop hx) ?_⟩
        simp [stLC, wldL, pthL, ← intsC_app, splice, repL, cellsOf]
      · exact .inr (.inl ⟨decide_eq_true hop, by omega, by omega, cl h7, by omega, hc hop, by simpa using hx, head_eq (k2 (fun h => hx h.2)) (by simp [stLC, wldL, pthL])⟩)
    · exact .inr (.inr ⟨decide_eq_false hop, head_eq (k2 (fun h => hop h.1)) (by simp [stLC, wldL, pthL])⟩))
theorem lD_h (l : List Ev) (ns : List Int) (p : Pth) (a out m R : List Int) (i : Nat) (hi : i < p.sub.length) (hs : p.sub.length ≤ 1048600) (hc : Ctr Try.prog 28 [.agg (wldL l ns), .agg (pthL (p.sub.getD i pth0)), .sl none a.length (intsC a) .no] (.sl none m.length (intsC m) .no)) (k : HT Try.prog Try.f28.ntmps (pt Try.f28 5) (stLDi l ns p a out m i 0) (EndsA Γ (.pure [] (.sl none R.length (intsC R) .no)) Try.f28)) : HT Try.prog Try.f28.ntmps (pt Try.f28 4) (stLD l ns p a out i) (EndsA Γ (.pure [] (.sl none R.length (intsC R) .no)) Try.f28) :=
  HT.walk Γ_ok mo_ok (⟨([(165, .val (.agg (pthL (p.sub.getD i pth0)))), (167, .call [] (.sl none m.length (intsC m) .no))] ++ []), sp28, hd28 [(8, 1, 3, 1)] [] [] [], dsp28, .pure [] (.sl none R.length (intsC R) .no)⟩ : Wk) 4000 (T := .split (decide ((↑i : Int) < (↑p.sub.length : Int))) (.ob ((2 : Nat) ≤ (2 : Nat)) (.ob ((0 : Int) ≤ (↑i : Int) ∧ (↑i : Int) < (↑p.sub.length : Int) ∧ (↑i : Int).toNat * (3 : Nat) < (pthsC p.sub).length) (.ob (List.take (3 : Nat) (List.drop ((↑i : Int).toNat * (3 : Nat)) (pthsC p.sub)) = (pthL (p.sub.getD i pth0))) (.ob (Ctr Try.prog 28 [AV.agg (wldL l ns), AV.agg (pthL (p.sub.getD i pth0)), AV.sl none a.length (intsC a) .no] (AV.sl none m.length (intsC m) .no)) (.head (pt Try.f28 5) ({ tmps := [(2, AV.sl none a.length (intsC a) .no), (3, AV.ptr 3 0), (4, AV.ptr 4 0), (8, AV.sl none out.length (intsC out) (.own (1 : Nat))), (13, AV.int .i64 (↑i : Int)), (14, AV.sl none m.length (intsC m) .no), (15, AV.int .i64 (0 : Int))], heap := [(3, .var true (wldL l ns)), (4, .var true (pthL p))], tags := [(1, { n := out.length, e := (3 : Nat), sz := (1 : Nat) })] })))))) (.ob (out.length = R.length) (.ob (intsC out = intsC R) (.tt)))) (by kernel_rfl) (by
    have h0 : decide ((i : Int) < p.sub.length) = true := by simp; omega
    simp only [PT.holds, h0, Int.toNat_natCast, pthsC_len, true_implies, Bool.false_eq_true, Bool.true_eq_false, false_implies, true_and, and_true]
    exact ⟨by omega, by omega, by ((try simp only [Nat.add_assoc, Nat.reduceAdd, Nat.add_zero]) <;> first | (rw [ats_take _ _ _ _ hi (by decide)]; rfl) | (rw [ats_nth _ _ _ hi (by decide)]; rfl) | (rw [evs_take _ _ _ _ hi (by decide)]; rfl) | (rw [evs_nth _ _ _ hi (by decide)]; rfl) | (rw [trs_take _ _ _ _ hi (by decide)]; rfl) | (rw [trs_nth _ _ _ hi (by decide)]; rfl) | (rw [pths_take _ _ _ _ hi (by decide)]; rfl) | (rw [pths_nth _ _ _ hi (by decide)]; rfl) | (rw [flts_take _ _ _ _ hi (by decide)]; rfl) | (rw [flts_nth _ _ _ hi (by decide)]; rfl) | (rw [ats_take0 _ _ _ hi (by decide)]; rfl) | (rw [ats_nth0 _ _ hi]; rfl) | (rw [evs_take0 _ _ _ hi (by decide)]; rfl) | (rw [evs_nth0 _ _ hi]; rfl) | (rw [trs_take0 _ _ _ hi (by decide)]; rfl) | (rw [trs_nth0 _ _ hi]; rfl) | (rw [pths_take0 _ _ _ hi (by decide)]; rfl) | (rw [pths_nth0 _ _ hi]; rfl) | (rw [flts_take0 _ _ _ hi (by decide)]; rfl) | (rw [flts_nth0 _ _ hi]; rfl)), hc, head_eq k (by simp [stLDi, wldL, pthL])⟩)
theorem lD_e (l : List Ev) (ns : List Int) (p : Pth) (a out : List Int) (i : Nat) (hi : i = p.sub.length) : HT Try.prog Try.f28.ntmps (pt Try.f28 4) (stLD l ns p a out i) (EndsA Γ (.pure [] (.sl none out.length (intsC out) .no)) Try.f28) :=
  HT.walk Γ_ok mo_ok (⟨([(165, .val (.agg (pthL pth0))), (167, .call [] (.sl none out.length (intsC out) .no))] ++ []), sp28, hd28 [(8, 1, 3, 1)] [] [] [], dsp28, .pure [] (.sl none out.length (intsC out) .no)⟩ : Wk) 4000 (T := .split (decide ((↑i : Int) < (↑p.sub.length : Int))) (.ob ((2 : Nat) ≤ (2 : Nat)) (.ob ((0 : Int) ≤ (↑i : Int) ∧ (↑i : Int) < (↑p.sub.length : Int) ∧ (↑i : Int).toNat * (3 : Nat) < (pthsC p.sub).length) (.ob (List.take (3 : Nat) (List.drop ((↑i : Int).toNat * (3 : Nat)) (pthsC p.sub)) = [AV.int .i64 (0 : Int), AV.sl none (0 : Nat) [] .no, AV.sl none (0 : Nat) [] .no]) (.ob (Ctr Try.prog 28 [AV.agg (wldL l ns), AV.agg [AV.int .i64 (0 : Int), AV.sl none (0 : Nat) [] .no, AV.sl none (0 : Nat) [] .no], AV.sl none a.length (intsC a) .no] (AV.sl none out.length (intsC out) .no)) (.head (pt Try.f28 5) ({ tmps := [(2, AV.sl none a.length (intsC a) .no), (3, AV.ptr 3 0), (4, AV.ptr 4 0), (8, AV.sl none out.length (intsC out) (.own (1 : Nat))), (13, AV.int .i64 (↑i : Int)), (14, AV.sl none out.length (intsC out) .no), (15, AV.int .i64 (0 : Int))], heap := [(3, .var true (wldL l ns)), (4, .var true (pthL p))], tags := [(1, { n := out.length, e := (3 : Nat), sz := (1 : Nat) })] })))))) (.ob (out.length = out.length) (.ob (intsC out = intsC out) (.tt)))) (by kernel_rfl) (by
    have h0 : decide ((i : Int) < p.sub.length) = false := by simp; omega
    simp only [PT.holds, h0, true_implies, Bool.false_eq_true, Bool.true_eq_false, false_implies, true_and, and_true])
theorem lDi_h (l : List Ev) (ns : List Int) (p : Pth) (a out m R : List Int) (i j : Nat) (hj : j < m.length) (hm : m.length ≤ 1000) (ho : out.length ≤ 1000) (k1 : m.getD j 0 ∈ out → HT Try.prog Try.f28.ntmps (pt Try.f28 5) (stLDi l ns p a out m i (j + 1)) (EndsA Γ (.pure [] (.sl none R.length (intsC R) .no)) Try.f28)) (k2 : m.getD j 0 ∉ out → HT Try.prog Try.f28.ntmps (pt Try.f28 5) (stLDi l ns p a (out ++ [m.getD j 0]) m i (j + 1)) (EndsA Γ (.pure [] (.sl none R.length (intsC R) .no)) Try.f28)) : HT Try.prog Try.f28.ntmps (pt Try.f28 5) (stLDi l ns p a out m i j) (EndsA Γ (.pure [] (.sl none R.length (intsC R) .no)) Try.f28) :=
  HT.walk Γ_ok mo_ok (⟨([(178, .val (.int .i64 (m.getD j 0))), (179, .call [] (.bool (decide (m.getD j 0 ∈ out)))), (185, .val (.int .i64 (m.getD j 0)))] ++ []), sp28, hd28 [(8, 1, 3, 1)] [] [] [], dsp28, .pure [] (.sl none R.length (intsC R) .no)⟩ : Wk) 4000 (T := .split (decide ((↑j : Int) < (↑m.length : Int))) (.ob ((0 : Int) ≤ (↑j : Int) ∧ (↑j : Int) < (↑m.length : Int) ∧ (↑j : Int).toNat * (1 : Nat) < (intsC m).length) (.ob ((intsC m)[(↑j : Int).toNat * (1 : Nat)]? = some (AV.int .i64 (m.getD j (0 : Int)))) (.ob (Ctr Try.prog 29 [AV.sl none out.length (intsC out) .no, AV.int .i64 (m.getD j (0 : Int))] (AV.bool (decide (m.getD j (0 : Int) ∈ out)))) (.split (decide (m.getD j (0 : Int) ∈ out)) (.head (pt Try.f28 5) ({ tmps := [(2, AV.sl none a.length (intsC a) .no), (3, AV.ptr 3 0), (4, AV.ptr 4 0), (8, AV.sl none out.length (intsC out) (.own (1 : Nat))), (13, AV.int .i64 (↑i : Int)), (14, AV.sl none m.length (intsC m) .no), (15, AV.int .i64 (IntKind.i64.wrap ((↑j : Int) + (1 : Int))))], heap := [(3, .var true (wldL l ns)), (4, .var true (pthL p))], tags := [(1, { n := out.length, e := (3 : Nat), sz := (1 : Nat) })] })) (.ob ((0 : Int) ≤ (↑j : Int) ∧ (↑j : Int) < (↑m.length : Int) ∧ (↑j : Int).toNat * (1 : Nat) < (intsC m).length) (.ob ((intsC m)[(↑j : Int).toNat * (1 : Nat)]? = some (AV.int .i64 (m.getD j (0 : Int)))) (.ob (out.length = out.length) (.ob ((intsC out).length = out.length * ((0 : Nat) + (1 : Nat)) ∧ (splice (repL (List.map zn [AV.int .i64 (0 : Int)]) (1 : Nat)) ((0 : Nat) * (1 : Nat)) (cellsOf (AV.int .i64 (m.getD j (0 : Int))))).length = (1 : Nat) * ((0 : Nat) + (1 : Nat)) ∧ (out.length + (1 : Nat)) * ((7 : Nat) + (1 : Nat)) ≤ (140737488355328 : Nat)) (.head (pt Try.f28 5) ({ tmps := [(2, AV.sl none a.length (intsC a) .no), (3, AV.ptr 3 0), (4, AV.ptr 4 0), (8, AV.sl none (out.length + (1 : Nat)) (intsC out ++ splice (repL (List.map zn [AV.int .i64 (0 : Int)]) (1 : Nat)) ((0 : Nat) * (1 : Nat)) (cellsOf (AV.int .i64 (m.getD j (0 : Int))))) (.own (1 : Nat))), (13, AV.int .i64 (↑i : Int)), (14, AV.sl none m.length (intsC m) .no), (15, AV.int .i64 (IntKind.i64.wrap ((↑j : Int) + (1 : Int))))], heap := [(3, .var true (wldL l ns)), (4, .var true (pthL p))], tags := [(1, { n := out.length + (1 : Nat), e := (3 : Nat), sz := (1 : Nat) })] })))))))))) (.head (pt Try.f28 4) ({ tmps := [(2, AV.sl none a.length (intsC a) .no), (3, AV.ptr 3 0), (4, AV.ptr 4 0), (8, AV.sl none out.length (intsC out) (.own (1 : Nat))), (13, AV.int .i64 (IntKind.i64.wrap ((↑i : Int) + (1 : Int))))], heap := [(3, .var true (wldL l ns)), (4, .var true (pthL p))], tags := [(1, { n := out.length, e := (3 : Nat), sz := (1 : Nat) })] }))) (by kernel_rfl) (by
    have w3 : IntKind.i64.wrap ((j : Int) + 1) = ((j + 1 : Nat) : Int) := by rw [i64_wrap (by omega) (by omega)]; rfl
    have h0 : decide ((j : Int) < m.length) = true := by simp; omega
    simp only [PT.holds, w3, h0, Int.toNat_natCast, Nat.mul_one, intsC_len', intsC_nth m j hj, true_implies, Bool.false_eq_true, Bool.true_eq_false, false_implies, true_and, and_true]
    refine ⟨by omega, has29_ctr out _ (by omega), fun h => ?_, fun h => ?_⟩
    · exact head_eq (k1 (of_decide_eq_true h)) (by simp [stLDi, wldL, pthL])
    · refine ⟨by omega, ⟨by omega, rfl, by omega⟩, head_eq (k2 (of_decide_eq_false h)) ?_⟩
      simp [stLDi, wldL, pthL, ← intsC_app, splice, repL, cellsOf])
theorem lDi_e (l : List Ev) (ns : List Int) (p : Pth) (a out m R : List Int) (i j : Nat) (hj : j = m.length) (hi : i ≤ 2000000) (k : HT Try.prog Try.f28.ntmps (pt Try.f28 4) (stLD l ns p a out (i + 1)) (EndsA Γ (.pure [] (.sl none R.length (intsC R) .no)) Try.f28)) : HT Try.prog Try.f28.ntmps (pt Try.f28 5) (stLDi l ns p a out m i j) (EndsA Γ (.pure [] (.sl none R.length (intsC R) .no)) Try.f28) :=
  HT.walk Γ_ok mo_ok (⟨([(178, .val (.int .i64 (m.getD j 0))), (179, .call [] (.bool (decide (m.getD j 0 ∈ out)))), (185, .val (.int .i64 (m.getD j 0)))] ++ []), sp28, hd28 [(8, 1, 3, 1)] [] [] [], dsp28, .pure [] (.sl none R.length (intsC R) .no)⟩ : Wk) 4000 (T := .split (decide ((↑j : Int) < (↑m.length : Int))) (.ob ((0 : Int) ≤ (↑j : Int) ∧ (↑j : Int) < (↑m.length : Int) ∧ (↑j : Int).toNat * (1 : Nat) < (intsC m).length) (.ob ((intsC m)[(↑j : Int).toNat * (1 : Nat)]? = some (AV.int .i64 (m.getD j (0 : Int)))) (.ob (Ctr Try.prog 29 [AV.sl none out.length (intsC out) .no, AV.int .i64 (m.getD j (0 : Int))] (AV.bool (decide (m.getD j (0 : Int) ∈ out)))) (.split (decide (m.getD j (0 : Int) ∈ out)) (.head (pt Try.f28 5) ({ tmps := [(2, AV.sl none a.length (intsC a) .no), (3, AV.ptr 3 0), (4, AV.ptr 4 0), (8, AV.sl none out.length (intsC out) (.own (1 : Nat))), (13, AV.int .i64 (↑i : Int)), (14, AV.sl none m.length (intsC m) .no), (15, AV.int .i64 (IntKind.i64.wrap ((↑j : Int) + (1 : Int))))], heap := [(3, .var true (wldL l ns)), (4, .var true (pthL p))], tags := [(1, { n := out.length, e := (3 : Nat), sz := (1 : Nat) })] })) (.ob ((0 : Int) ≤ (↑j : Int) ∧ (↑j : Int) < (↑m.length : Int) ∧ (↑j : Int).toNat * (1 : Nat) < (intsC m).length) (.ob ((intsC m)[(↑j : Int).toNat * (1 : Nat)]? = some (AV.int .i64 (m.getD j (0 : Int)))) (.ob (out.length = out.length) (.ob ((intsC out).length = out.length * ((0 : Nat) + (1 : Nat)) ∧ (splice (repL (List.map zn [AV.int .i64 (0 : Int)]) (1 : Nat)) ((0 : Nat) * (1 : Nat)) (cellsOf (AV.int .i64 (m.getD j (0 : Int))))).length = (1 : Nat) * ((0 : Nat) + (1 : Nat)) ∧ (out.length + (1 : Nat)) * ((7 : Nat) + (1 : Nat)) ≤ (140737488355328 : Nat)) (.head (pt Try.f28 5) ({ tmps := [(2, AV.sl none a.length (intsC a) .no), (3, AV.ptr 3 0), (4, AV.ptr 4 0), (8, AV.sl none (out.length + (1 : Nat)) (intsC out ++ splice (repL (List.map zn [AV.int .i64 (0 : Int)]) (1 : Nat)) ((0 : Nat) * (1 : Nat)) (cellsOf (AV.int .i64 (m.getD j (0 : Int))))) (.own (1 : Nat))), (13, AV.int .i64 (↑i : Int)), (14, AV.sl none m.length (intsC m) .no), (15, AV.int .i64 (IntKind.i64.wrap ((↑j : Int) + (1 : Int))))], heap := [(3, .var true (wldL l ns)), (4, .var true (pthL p))], tags := [(1, { n := out.length + (1 : Nat), e := (3 : Nat), sz := (1 : Nat) })] })))))))))) (.head (pt Try.f28 4) ({ tmps := [(2, AV.sl none a.length (intsC a) .no), (3, AV.ptr 3 0), (4, AV.ptr 4 0), (8, AV.sl none out.length (intsC out) (.own (1 : Nat))), (13, AV.int .i64 (IntKind.i64.wrap ((↑i : Int) + (1 : Int))))], heap := [(3, .var true (wldL l ns)), (4, .var true (pthL p))], tags := [(1, { n := out.length, e := (3 : Nat), sz := (1 : Nat) })] }))) (by kernel_rfl) (by
    have w2 : IntKind.i64.wrap ((i : Int) + 1) = ((i + 1 : Nat) : Int) := by rw [i64_wrap (by omega) (by omega)]; rfl
    have h0 : decide ((j : Int) < m.length) = false := by simp; omega
    simp only [PT.holds, w2, h0, true_implies, Bool.false_eq_true, Bool.true_eq_false, false_implies, true_and, and_true]
    exact head_eq k (by simp [stLD, wldL, pthL]))
theorem rleads_p (l : List Ev) (ns : List Int) (p : Pth) (a R : List Int) (ha : a.length ≤ 1000) (k1 : p.op = 1 → R = a) (k4 : p.op = 4 → HT Try.prog Try.f28.ntmps (pt Try.f28 0) (stL4 l ns p a 0) (EndsA Γ (.pure [] (.sl none R.length (intsC R) .no)) Try.f28)) (k6 : p.op = 6 → HT Try.prog Try.f28.ntmps (pt Try.f28 1) (stL6 l ns p a 0) (EndsA Γ (.pure [] (.sl none R.length (intsC R) .no)) Try.f28)) (k : p.op ≠ 1 → p.op ≠ 4 → p.op ≠ 6 → HT Try.prog Try.f28.ntmps (pr Try.f28 22) (stL22 l ns p a) (EndsA Γ (.pure [] (.sl none R.length (intsC R) .no)) Try.f28)) : Ctr Try.prog 28 [.agg (wldL l ns), .agg (pthL p), .sl none a.length (intsC a) .no] (.sl none R.length (intsC R) .no) :=
  Ctr.mk Γ_ok Try.func28 (by kernel_rfl) Try.call28 [] (by kernel_rfl) (HT.walk Γ_ok mo_ok (⟨([(44, .id 1)] ++ []), sp28, (hd28 [(8, 1, 3, 1)] [] [] [] ++ [(7000022, ⟨[2, 3, 4, 8], [3, 4], [1], [], []⟩)]), dsp28, .pure [] (.sl none R.length (intsC R) .no)⟩ : Wk) 4000 (T := .split (decide (p.op = (1 : Int))) (.ob (a.length = R.length) (.ob (intsC a = intsC R) (.tt))) (.split (decide (p.op = (4 : Int))) (.head (pt Try.f28 0) ({ tmps := [(2, AV.sl none a.length (intsC a) .no), (3, AV.ptr 3 0), (4, AV.ptr 4 0), (7, AV.int .i64 (0 : Int))], heap := [(3, .var true (wldL l ns)), (4, .var true (pthL p))], tags := [] })) (.split (decide (p.op = (6 : Int))) (.ob (([] : List AV).length = (0 : Nat) * ((0 : Nat) + (1 : Nat)) ∧ (intsC a).length = a.length * ((0 : Nat) + (1 : Nat)) ∧ ((0 : Nat) + a.length) * ((7 : Nat) + (1 : Nat)) ≤ (140737488355328 : Nat)) (.head (pt Try.f28 1) ({ tmps := [(3, AV.ptr 3 0), (4, AV.ptr 4 0), (8, AV.sl none ((0 : Nat) + a.length) ([] ++ intsC a) (.own (1 : Nat))), (9, AV.int .i64 (0 : Int))], heap := [(3, .var true (wldL l ns)), (4, .var true (pthL p))], tags := [(1, { n := (0 : Nat) + a.length, e := (3 : Nat), sz := (1 : Nat) })] }))) (.head (pr Try.f28 22) ({ tmps := [(2, AV.sl none a.length (intsC a) .no), (3, AV.ptr 3 0), (4, AV.ptr 4 0), (8, AV.sl (some true) (0 : Nat) [] .clip)], heap := [(3, .var true (wldL l ns)), (4, .var true (pthL p))], tags := [] }))))) (by kernel_rfl) (by
    simp only [PT.holds, Int.toNat_natCast, Nat.mul_one, intsC_len', true_implies, Bool.false_eq_true, Bool.true_eq_false, false_implies, true_and, and_true]
    refine ⟨fun h => by rw [k1 (of_decide_eq_true h)]; exact ⟨rfl, rfl⟩, fun h => ⟨fun h4 => head_eq (k4 (of_decide_eq_true h4)) (by simp [stL4, wldL, pthL]), fun h4 => ⟨fun h6 => ?_, fun h6 => head_eq (k (of_decide_eq_false h) (of_decide_eq_false h4) (of_decide_eq_false h6)) (by simp [stL22, wldL, pthL])⟩⟩⟩
    refine ⟨⟨by simp [intsC], by omega⟩, head_eq (k6 (of_decide_eq_true h6)) ?_⟩
    simp [stL6, wldL, pthL, intsC]))
theorem rleads_22 (l : List Ev) (ns : List Int) (p : Pth) (a R : List Int) (k : HT Try.prog Try.f28.ntmps (pt Try.f28 3) (stLC l ns p a [] 0) (EndsA Γ (.pure [] (.sl none R.length (intsC R) .no)) Try.f28)) : HT Try.prog Try.f28.ntmps (pr Try.f28 22) (stL22 l ns p a) (EndsA Γ (.pure [] (.sl none R.length (intsC R) .no)) Try.f28) :=
  HT.walk Γ_ok mo_ok (⟨([] ++ []), sp28, hd28 [(8, 1, 3, 1)] [] [] [], dsp28, .pure [] (.sl none R.length (intsC R) .no)⟩ : Wk) 4000 (T := .head (pt Try.f28 3) ({ tmps := [(2, AV.sl none a.length (intsC a) .no), (3, AV.ptr 3 0), (4, AV.ptr 4 0), (8, AV.sl none (0 : Nat) [] (.own (1 : Nat))), (12, AV.int .i64 (0 : Int))], heap := [(3, .var true (wldL l ns)), (4, .var true (pthL p))], tags := [(1, { n := (0 : Nat), e := (3 : Nat), sz := (1 : Nat) })] })) (by kernel_rfl) (by
    simp only [PT.holds]
    exact head_eq k (by simp [stLC, wldL, pthL, intsC]))
end Go.Proofs.Ytpffjbbolaehpaa
end

section
set_option linter.unusedVariables false
set_option linter.unusedSimpArgs false
set_option maxRecDepth 100000
namespace Go.Proofs.Ytpffjbbolaehpaa
open Go Go.AX

def stHa (l : List Ev) (ns : List Int) (f : Flt) (e : Ev) (k i : Nat) : AS := ⟨[(4, .ptr 4 0), (7, .ptr 7 0), (8, .bool (decide (e.kind = 1))), (9, .int .i64 i)], [(3, .var true (wldL l ns)), (4, .var true (fltL f)), (7, .var true (evC e))], []⟩
def stHb (l : List Ev) (ns : List Int) (f : Flt) (e : Ev) (k i : Nat) : AS := ⟨[(2, .int .i64 k), (3, .ptr 3 0), (4, .ptr 4 0), (10, .int .i64 i)], [(3, .var true (wldL l ns)), (4, .var true (fltL f)), (7, .var true (evC e))], []⟩

def Hit (e : Ev) (f : Flt) (a : Atr) : Prop := e.kind = 1 ∧ a.nm = f.nm ∧ (f.op = 5 ∨ a.v = f.val)

theorem ha_h (l : List Ev) (ns : List Int) (f : Flt) (e : Ev) (k : Nat) (i : Nat) (R : Bool) (hi : i < e.attrs.length) (ha : e.attrs.length ≤ 1048600) (k1 : ¬ Hit e f (e.attrs.getD i atr0) → HT Try.prog Try.f18.ntmps (pt Try.f18 0) (stHa l ns f e k (i + 1)) (EndsA Γ (.pure [] (.bool R)) Try.f18)) (k2 : Hit e f (e.attrs.getD i atr0) → R = true) : HT Try.prog Try.f18.ntmps (pt Try.f18 0) (stHa l ns f e k i) (EndsA Γ (.pure [] (.bool R)) Try.f18) :=
  HT.walk Γ_ok mo_ok (⟨([(68, .val (.agg (nmC (e.attrs.getD i atr0).nm))), (83, .val (.str (e.attrs.getD i atr0).v))] ++ []), sp18, hd18 [] [] [] [], dsp18, .pure [] (.bool R)⟩ : Wk) 4000 (T := .split (decide ((↑i : Int) < (↑e.attrs.length : Int))) (.or (.ob (decide (e.kind = (1 : Int)) = true) (.ob ((0 : Int) ≤ (↑i : Int) ∧ (↑i : Int) < (↑e.attrs.length : Int) ∧ (↑i : Int).toNat * (3 : Nat) < (atsC e.attrs).length) (.ob (List.take (2 : Nat) (List.drop ((↑i : Int).toNat * (3 : Nat) + (0 : Nat)) (atsC e.attrs)) = [AV.str (e.attrs.getD i atr0).nm.sp, AV.str (e.attrs.getD i atr0).nm.lo]) (.ob ((3 : Nat) ≤ (6 : Nat)) (.ob ((decide ((e.attrs.getD i atr0).nm.sp = f.nm.sp) && (decide ((e.attrs.getD i atr0).nm.lo = f.nm.lo) && true)) = true) (.ob (decide (f.op = (5 : Int)) = true) (.ob (true = R) (.tt)))))))) (.or (.ob (decide (e.kind = (1 : Int)) = true) (.ob ((0 : Int) ≤ (↑i : Int) ∧ (↑i : Int) < (↑e.attrs.length : Int) ∧ (↑i : Int).toNat * (3 : Nat) < (atsC e.attrs).length) (.ob (List.take (2 : Nat) (List.drop ((↑i : Int).toNat * (3 : Nat) + (0 : Nat)) (atsC e.attrs)) = [AV.str (e.attrs.getD i atr0).nm.sp, AV.str (e.attrs.getD i atr0).nm.lo]) (.ob ((3 : Nat) ≤ (6 : Nat)) (.ob ((decide ((e.attrs.getD i atr0).nm.sp = f.nm.sp) && (decide ((e.attrs.getD i atr0).nm.lo = f.nm.lo) && true)) = true) (.ob (decide (f.op = (5 : Int)) = false) (.ob ((0 : Int) ≤ (↑i : Int) ∧ (↑i : Int) < (↑e.attrs.length : Int) ∧ (↑i : Int).toNat * (3 : Nat) < (atsC e.attrs).length) (.ob ((atsC e.attrs)[(↑i : Int).toNat * (3 : Nat) + (2 : Nat)]? = some (AV.str (e.attrs.getD i atr0).v)) (.ob (decide ((e.attrs.getD i atr0).v = f.val) = true) (.ob (true = R) (.tt))))))))))) (.or (.ob (decide (e.kind = (1 : Int)) = true) (.ob ((0 : Int) ≤ (↑i : Int) ∧ (↑i : Int) < (↑e.attrs.length : Int) ∧ (↑i : Int).toNat * (3 : Nat) < (atsC e.attrs).length) (.ob (List.take (2 : Nat) (List.drop ((↑i : Int).toNat * (3 : Nat) + (0 : Nat)) (atsC e.attrs)) = [AV.str (e.attrs.getD i atr0).nm.sp, AV.str (e.attrs.getD i atr0).nm.lo]) (.ob ((3 : Nat) ≤ (6 : Nat)) (.ob ((decide ((e.attrs.getD i atr0).nm.sp = f.nm.sp) && (decide ((e.attrs.getD i atr0).nm.lo = f.nm.lo) && true)) = true) (.ob (decide (f.op = (5 : Int)) = false) (.ob ((0 : Int) ≤ (↑i : Int) ∧ (↑i : Int) < (↑e.attrs.length : Int) ∧ (↑i : Int).toNat * (3 : Nat) < (atsC e.attrs).length) (.ob ((atsC e.attrs)[(↑i : Int).toNat * (3 : Nat) + (2 : Nat)]? = some (AV.str (e.attrs.getD i atr0).v)) (.ob (decide ((e.attrs.getD i atr0).v = f.val) = false) (.head (pt Try.f18 0) ({ tmps := [(4, AV.ptr 4 0), (7, AV.ptr 7 0), (8, AV.bool (decide (e.kind = (1 : Int)))), (9, AV.int .i64 (IntKind.i64.wrap ((↑i : Int) + (1 : Int))))], heap := [(3, .var true (wldL l ns)), (4, .var true (fltL f)), (7, .var true (evC e))], tags := [] }))))))))))) (.or (.ob (decide (e.kind = (1 : Int)) = true) (.ob ((0 : Int) ≤ (↑i : Int) ∧ (↑i : Int) < (↑e.attrs.length : Int) ∧ (↑i : Int).toNat * (3 : Nat) < (atsC e.attrs).length) (.ob (List.take (2 : Nat) (List.drop ((↑i : Int).toNat * (3 : Nat) + (0 : Nat)) (atsC e.attrs)) = [AV.str (e.attrs.getD i atr0).nm.sp, AV.str (e.attrs.getD i atr0).nm.lo]) (.ob ((3 : Nat) ≤ (6 : Nat)) (.ob ((decide ((e.attrs.getD i atr0).nm.sp = f.nm.sp) && (decide ((e.attrs.getD i atr0).nm.lo = f.nm.lo) && true)) = false) (.head (pt Try.f18 0) ({ tmps := [(4, AV.ptr 4 0), (7, AV.ptr 7 0), (8, AV.bool (decide (e.kind = (1 : Int)))), (9, AV.int .i64 (IntKind.i64.wrap ((↑i : Int) + (1 : Int))))], heap := [(3, .var true (wldL l ns)), (4, .var true (fltL f)), (7, .var true (evC e))], tags := [] }))))))) (.ob (decide (e.kind = (1 : Int)) = false) (.head (pt Try.f18 0) ({ tmps := [(4, AV.ptr 4 0), (7, AV.ptr 7 0), (8, AV.bool (decide (e.kind = (1 : Int)))), (9, AV.int .i64 (IntKind.i64.wrap ((↑i : Int) + (1 : Int))))], heap := [(3, .var true (wldL l ns)), (4, .var true (fltL f)), (7, .var true (evC e))], tags := [] }))))))) (.ob (false = R) (.tt))) (by kernel_rfl) (by
    have w2 : IntKind.i64.wrap ((i : Int) + 1) = ((i + 1 : Nat) : Int) := by rw [i64_wrap (by omega) (by omega)]; rfl
    have h0 : decide ((i : Int) < e.attrs.length) = true := by simp; omega
    simp only [PT.holds, w2, h0, nm_eq, Int.toNat_natCast, atsC_len, true_implies, Bool.false_eq_true, Bool.true_eq_false, false_implies, true_and, and_true]
    by_cases he : e.kind = 1
    · by_cases hn : (e.attrs.getD i atr0).nm = f.nm
      · by_cases h5 : f.op = 5
        · exact .inl ⟨decide_eq_true he, by omega, by ((try simp only [Nat.add_assoc, Nat.reduceAdd, Nat.add_zero]) <;> first | (rw [ats_take _ _ _ _ hi (by decide)]; rfl) | (rw [ats_nth _ _ _ hi (by decide)]; rfl) | (rw [evs_take _ _ _ _ hi (by decide)]; rfl) | (rw [evs_nth _ _ _ hi (by decide)]; rfl) | (rw [trs_take _ _ _ _ hi (by decide)]; rfl) | (rw [trs_nth _ _ _ hi (by decide)]; rfl) | (rw [pths_take _ _ _ _ hi (by decide)]; rfl) | (rw [pths_nth _ _ _ hi (by decide)]; rfl) | (rw [flts_take _ _ _ _ hi (by decide)]; rfl) | (rw [flts_nth _ _ _ hi (by decide)]; rfl) | (rw [ats_take0 _ _ _ hi (by decide)]; rfl) | (rw [ats_nth0 _ _ hi]; rfl) | (rw [evs_take0 _ _ _ hi (by decide)]; rfl) | (rw [evs_nth0 _ _ hi]; rfl) | (rw [trs_take0 _ _ _ hi (by decide)]; rfl) | (rw [trs_nth0 _ _ hi]; rfl) | (rw [pths_take0 _ _ _ hi (by decide)]; rfl) | (rw [pths_nth0 _ _ hi]; rfl) | (rw [flts_take0 _ _ _ hi (by decide)]; rfl) | (rw [flts_nth0 _ _ hi]; rfl)), by omega, decide_eq_true hn, decide_eq_true h5, (k2 ⟨he, hn, .inl h5⟩).symm⟩
        · by_cases hv : (e.attrs.getD i atr0).v = f.val
          · exact .inr (.inl ⟨decide_eq_true he, by omega, by ((try simp only [Nat.add_assoc, Nat.reduceAdd, Nat.add_zero]) <;> first | (rw [ats_take _ _ _ _ hi (by decide)]; rfl) | (rw [ats_nth _ _ _ hi (by decide)]; rfl) | (rw [evs_take _ _ _ _ hi (by decide)]; rfl) | (rw [evs_nth _ _ _ hi (by decide)]; rfl) | (rw [trs_take _ _ _ _ hi (by decide)]; rfl) | (rw [trs_nth _ _ _ hi (by decide)]; rfl) | (rw [pths_take _ _ _ _ hi (by decide)]; rfl) | (rw [pths_nth _ _ _ hi (by decide)]; rfl) | (rw [flts_take _ _ _ _ hi (by decide)]; rfl) | (rw [flts_nth _ _ _ hi (by decide)]; rfl) | (rw [ats_take0 _ _ _ hi (by decide)]; rfl) | (rw [ats_nth0 _ _ hi]; rfl) | (rw [evs_take0 _ _ _ hi (by decide)]; rfl) | (rw [evs_nth0 _ _ hi]; rfl) | (rw [trs_take0 _ _ _ hi (by decide)]; rfl) | (rw [trs_nth0 _ _ hi]; rfl) | (rw [pths_take0 _ _ _ hi (by decide)]; rfl) | (rw [pths_nth0 _ _ hi]; rfl) | (rw [flts_take0 _ _ _ hi (by decide)]; rfl) | (rw [flts_nth0 _ _ hi]; rfl)), by omega, decide_eq_true hn, decide_eq_false h5, by omega, by ((try simp only [Nat.add_assoc, Nat.reduceAdd, Nat.add_zero]) <;> first | (rw [ats_take _ _ _ _ hi (by decide)]; rfl) | (rw [ats_nth _ _ _ hi (by decide)]; rfl) | (rw [evs_take _ _ _ _ hi (by decide)]; rfl) | (rw [evs_nth _ _ _ hi (by decide)]; rfl) | (rw [trs_take _ _ _ _ hi (by decide)]; rfl) | (rw [trs_nth _ _ _ hi (by decide)]; rfl) | (rw [pths_take _ _ _ _ hi (by decide)]; rfl) | (rw [pths_nth _ _ _ hi (by decide)]; rfl) | (rw [flts_take _ _ _ _ hi (by decide)]; rfl) | (rw [flts_nth _ _ _ hi (by decide)]; rfl) | (rw [ats_take0 _ _ _ hi (by decide)]; rfl) | (rw [ats_nth0 _ _ hi]; rfl) | (rw [evs_take0 _ _ _ hi (by decide)]; rfl) | (rw [evs_nth0 _ _ hi]; rfl) | (rw [trs_take0 _ _ _ hi (by decide)]; rfl) | (rw [trs_nth0 _ _ hi]; rfl) | (rw [pths_take0 _ _ _ hi (by decide)]; rfl) | (rw [pths_nth0 _ _ hi]; rfl) | (rw [flts_take0 _ _ _ hi (by decide)]; rfl) | (rw [flts_nth0 _ _ hi]; rfl)), decide_eq_true hv, (k2 ⟨he, hn, .inr hv⟩).symm⟩)
          · exact .inr (.inr (.inl ⟨decide_eq_true he, by omega, by ((try simp only [Nat.add_assoc, Nat.reduceAdd, Nat.add_zero]) <;> first | (rw [ats_take _ _ _ _ hi (by decide)]; rfl) | (rw [ats_nth _ _ _ hi (by decide)]; rfl) | (rw [evs_take _ _ _ _ hi (by decide)]; rfl) | (rw [evs_nth _ _ _ hi (by decide)]; rfl) | (rw [trs_take _ _ _ _ hi (by decide)]; rfl) | (rw [trs_nth _ _ _ hi (by decide)]; rfl) | (rw [pths_take _ _ _ _ hi (by decide)]; rfl) | (rw [pths_nth _ _ _ hi (by decide)]; rfl) | (rw [flts_take _ _ _ _ hi (by decide)]; rfl) | (rw [flts_nth _ _ _ hi (by decide)]; rfl) | (rw [ats_take0 _ _ _ hi (by decide)]; rfl) | (rw [ats_nth0 _ _ hi]; rfl) | (rw [evs_take0 _ _ _ hi (by decide)]; rfl) | (rw [evs_nth0 _ _ hi]; rfl) | (rw [trs_take0 _ _ _ hi (by decide)]; rfl) | (rw [trs_nth0 _ _ hi]; rfl) | (rw [pths_take0 _ _ _ hi (by decide)]; rfl) | (rw [pths_nth0 _ _ hi]; rfl) | (rw [flts_take0 _ _ _ hi (by decide)]; rfl) | (rw [flts_nth0 _ _ hi]; rfl)), by omega, decide_eq_true hn, decide_eq_false h5, by omega, by ((try simp only [Nat.add_assoc, Nat.reduceAdd, Nat.add_zero]) <;> first | (rw [ats_take _ _ _ _ hi (by decide)]; rfl) | (rw [ats_nth _ _ _ hi (by decide)]; rfl) | (rw [evs_take _ _ _ _ hi (by decide)]; rfl) | (rw [evs_nth _ _ _ hi (by decide)]; rfl) | (rw [trs_take _ _ _ _ hi (by decide)]; rfl) | (rw [trs_nth _ _ _ hi (by decide)]; rfl) | (rw [pths_take _ _ _ _ hi (by decide)]; rfl) | (rw [pths_nth _ _ _ hi (by decide)]; rfl) | (rw [flts_take _ _ _ _ hi (by decide)]; rfl) | (rw [flts_nth _ _ _ hi (by decide)]; rfl) | (rw [ats_take0 _ _ _ hi (by decide)]; rfl) | (rw [ats_nth0 _ _ hi]; rfl) | (rw [evs_take0 _ _ _ hi (by decide)]; rfl) | (rw [evs_nth0 _ _ hi]; rfl) | (rw [trs_take0 _ _ _ hi (by decide)]; rfl) | (rw [trs_nth0 _ _ hi]; rfl) | (rw [pths_take0 _ _ _ hi (by decide)]; rfl) | (rw [pths_nth0 _ _ hi]; rfl) | (rw [flts_take0 _ _ _ hi (by decide)]; rfl) | (rw [flts_nth0 _ _ hi]; rfl)), decide_eq_false hv, head_eq (k1 fun h => h.2.2.elim h5 hv) (by simp [stHa, wldL, fltL, evC])⟩))
      · exact .inr (.inr (.inr (.inl ⟨decide_eq_true he, by omega, by ((try simp only [Nat.add_assoc, Nat.reduceAdd, Nat.add_zero]) <;> first | (rw [ats_take _ _ _ _ hi (by decide)]; rfl) | (rw [ats_nth _ _ _ hi (by decide)]; rfl) | (rw [evs_take _ _ _ _ hi (by decide)]; rfl) | (rw [evs_nth _ _ _ hi (by decide)]; rfl) | (rw [trs_take _ _ _ _ hi (by decide)]; rfl) | (rw [trs_nth _ _ _ hi (by decide)]; rfl) | (rw [pths_take _ _ _ _ hi (by decide)]; rfl) | (rw [pths_nth _ _ _ hi (by decide)]; rfl) | (rw [flts_take _ _ _ _ hi (by decide)]; rfl) | (rw [flts_nth _ _ _ hi (by decide)]; rfl) | (rw [ats_take0 _ _ _ hi (by decide)]; rfl) | (rw [ats_nth0 _ _ hi]; rfl) | (rw [evs_take0 _ _ _ hi (by decide)]; rfl) | (rw [evs_nth0 _ _ hi]; rfl) | (rw [trs_take0 _ _ _ hi (by decide)]; rfl) | (rw [trs_nth0 _ _ hi]; rfl) | (rw [pths_take0 _ _ _ hi (by decide)]; rfl) | (rw [pths_nth0 _ _ hi]; rfl) | (rw [flts_take0 _ _ _ hi (by decide)]; rfl) | (rw [flts_nth0 _ _ hi]; rfl)), by omega, decide_eq_false hn, head_eq (k1 fun h => hn h.2.1) (by simp [stHa, wldL, fltL, evC])⟩)))
    · exact .inr (.inr (.inr (.inr ⟨decide_eq_false he, head_eq (k1 fun h => he h.1) (by simp [stHa, wldL, fltL, evC])⟩))))
theorem ha_e (l : List Ev) (ns : List Int) (f : Flt) (e : Ev) (k : Nat) (i : Nat) (hi : i = e.attrs.length) : HT Try.prog Try.f18.ntmps (pt Try.f18 0) (stHa l ns f e k i) (EndsA Γ (.pure [] (.bool false)) Try.f18) :=
  HT.walk Γ_ok mo_ok (⟨([(68, .val (.agg (nmC (e.attrs.getD i atr0).nm))), (83, .val (.str (e.attrs.getD i atr0).v))] ++ []), sp18, hd18 [] [] [] [], dsp18, .pure [] (.bool false)⟩ : Wk) 4000 (T := .split (decide ((↑i : Int) < (↑e.attrs.length : Int))) (.or (.ob (decide (e.kind = (1 : Int)) = true) (.ob ((0 : Int) ≤ (↑i : Int) ∧ (↑i : Int) < (↑e.attrs.length : Int) ∧ (↑i : Int).toNat * (3 : Nat) < (atsC e.attrs).length) (.ob (List.take (2 : Nat) (List.drop ((↑i : Int).toNat * (3 : Nat) + (0 : Nat)) (atsC e.attrs)) = [AV.str (e.attrs.getD i atr0).nm.sp, AV.str (e.attrs.getD i atr0).nm.lo]) (.ob ((3 : Nat) ≤ (6 : Nat)) (.ob ((decide ((e.attrs.getD i atr0).nm.sp = f.nm.sp) && (decide ((e.attrs.getD i atr0).nm.lo = f.nm.lo) && true)) = true) (.ob (decide (f.op = (5 : Int)) = true) (.ob (true = false) (.tt)))))))) (.or (.ob (decide (e.kind = (1 : Int)) = true) (.ob ((0 : Int) ≤ (↑i : Int) ∧ (↑i : Int) < (↑e.attrs.length : Int) ∧ (↑i : Int).toNat * (3 : Nat) < (atsC e.attrs).length) (.ob (List.take (2 : Nat) (List.drop ((↑i : Int).toNat * (3 : Nat) + (0 : Nat)) (atsC e.attrs)) = [AV.str (e.attrs.getD i atr0).nm.sp, AV.str (e.attrs.getD i atr0).nm.lo]) (.ob ((3 : Nat) ≤ (6 : Nat)) (.ob ((decide ((e.attrs.getD i atr0).nm.sp = f.nm.sp) && (decide ((e.attrs.getD i atr0).nm.lo = f.nm.lo) && true)) = true) (.ob (decide (f.op = (5 : Int)) = false) (.ob ((0 : Int) ≤ (↑i : Int) ∧ (↑i : Int) < (↑e.attrs.length : Int) ∧ (↑i : Int).toNat * (3 : Nat) < (atsC e.attrs).length) (.ob ((atsC e.attrs)[(↑i : Int).toNat * (3 : Nat) + (2 : Nat)]? = some (AV.str (e.attrs.getD i atr0).v)) (.ob (decide ((e.attrs.getD i atr0).v = f.val) = true) (.ob (true = false) (.tt))))))))))) (.or (.ob (decide (e.kind = (1 : Int)) = true) (.ob ((0 : Int) ≤ (↑i : Int) ∧ (↑i : Int) < (↑e.attrs.length : Int) ∧ (↑i : Int).toNat * (3 : Nat) < (atsC e.attrs).length) (.ob (List.take (2 : Nat) (List.drop ((↑i : Int).toNat * (3 : Nat) + (0 : Nat)) (atsC e.attrs)) = [AV.str (e.attrs.getD i atr0).nm.sp, AV.str (e.attrs.getD i atr0).nm.lo]) (.ob ((3 : Nat) ≤ (6 : Nat)) (.ob ((decide ((e.attrs.getD i atr0).nm.sp = f.nm.sp) && (decide ((e.attrs.getD i atr0).nm.lo = f.nm.lo) && true)) = true) (.ob (decide (f.op = (5 : Int)) = false) (.ob ((0 : Int) ≤ (↑i : Int) ∧ (↑i : Int) < (↑e.attrs.length : Int) ∧ (↑i : Int).toNat * (3 : Nat) < (atsC e.attrs).length) (.ob ((atsC e.attrs)[(↑i : Int).toNat * (3 : Nat) + (2 : Nat)]? = some (AV.str (e.attrs.getD i atr0).v)) (.ob (decide ((e.attrs.getD i atr0).v = f.val) = false) (.head (pt Try.f18 0) ({ tmps := [(4, AV.ptr 4 0), (7, AV.ptr 7 0), (8, AV.bool (decide (e.kind = (1 : Int)))), (9, AV.int .i64 (IntKind.i64.wrap ((↑i : Int) + (1 : Int))))], heap := [(3, .var true (wldL l ns)), (4, .var true (fltL f)), (7, .var true (evC e))], tags := [] }))))))))))) (.or (.ob (decide (e.kind = (1 : Int)) = true) (.ob ((0 : Int) ≤ (↑i : Int) ∧ (↑i : Int) < (↑e.attrs.length : Int) ∧ (↑i : Int).toNat * (3 : Nat) < (atsC e.attrs).length) (.ob (List.take (2 : Nat) (List.drop ((↑i : Int).toNat * (3 : Nat) + (0 : Nat)) (atsC e.attrs)) = [AV.str (e.attrs.getD i atr0).nm.sp, AV.str (e.attrs.getD i atr0).nm.lo]) (.ob ((3 : Nat) ≤ (6 : Nat)) (.ob ((decide ((e.attrs.getD i atr0).nm.sp = f.nm.sp) && (decide ((e.attrs.getD i atr0).nm.lo = f.nm.lo) && true)) = false) (.head (pt Try.f18 0) ({ tmps := [(4, AV.ptr 4 0), (7, AV.ptr 7 0), (8, AV.bool (decide (e.kind = (1 : Int)))), (9, AV.int .i64 (IntKind.i64.wrap ((↑i : Int) + (1 : Int))))], heap := [(3, .var true (wldL l ns)), (4, .var true (fltL f)), (7, .var true (evC e))], tags := [] }))))))) (.ob (decide (e.kind = (1 : Int)) = false) (.head (pt Try.f18 0) ({ tmps := [(4, AV.ptr 4 0), (7, AV.ptr 7 0), (8, AV.bool (decide (e.kind = (1 : Int)))), (9, AV.int .i64 (IntKind.i64.wrap ((↑i : Int) + (1 : Int))))], heap := [(3, .var true (wldL l ns)), (4, .var true (fltL f)), (7, .var true (evC e))], tags := [] }))))))) (.ob (false = false) (.tt))) (by kernel_rfl) (by
    have h0 : decide ((i : Int) < e.attrs.length) = false := by simp; omega
    simp only [PT.holds, h0, true_implies, Bool.false_eq_true, Bool.true_eq_false, false_implies, true_and, and_true])
theorem ha_l (l : List Ev) (ns : List Int) (f : Flt) (e : Ev) (k : Nat) (ha : e.attrs.length ≤ 1048600) (R : Bool) (h1 : ∀ i, i < e.attrs.length → Hit e f (e.attrs.getD i atr0) → R = true) (h0 : (∀ i, i < e.attrs.length → ¬ Hit e f (e.attrs.getD i atr0)) → R = false) : ∀ d i, i + d = e.attrs.length → (∀ j, j < i → ¬ Hit e f (e.attrs.getD j atr0)) → HT Try.prog Try.f18.ntmps (pt Try.f18 0) (stHa l ns f e k i) (EndsA Γ (.pure [] (.bool R)) Try.f18) := by
  intro d
  induction d with
  | zero =>
    intro i h hj
    rw [h0 fun j hj' => hj j (by omega)]
    exact ha_e l ns f e k i (by omega)
  | succ d ih =>
    intro i h hj
    refine ha_h l ns f e k i R (by omega) ha (fun hne => ih (i + 1) (by omega) fun j hj' => ?_) (fun hh => h1 i (by omega) hh)
    rcases Nat.lt_or_eq_of_le (Nat.lt_succ_iff.1 hj') with h2 | h2
    · exact hj j h2
    · rw [h2]; exact hne

theorem hb_h (l : List Ev) (ns : List Int) (f : Flt) (e : Ev) (k : Nat) (i : Nat) (b R : Bool) (hi : i < f.sub.length) (hs : f.sub.length ≤ 1048600) (hc : Ctr Try.prog 18 [.agg (wldL l ns), .agg (fltL (f.sub.getD i flt0)), .int .i64 k] (.bool b)) (k1 : b ≠ decide (f.op = 10) → HT Try.prog Try.f18.ntmps (pt Try.f18 1) (stHb l ns f e k (i + 1)) (EndsA Γ (.pure [] (.bool R)) Try.f18)) (k2 : b = decide (f.op = 10) → R = decide (f.op = 10)) : HT Try.prog Try.f18.ntmps (pt Try.f18 1) (stHb l ns f e k i) (EndsA Γ (.pure [] (.bool R)) Try.f18) :=
  HT.walk Γ_ok mo_ok (⟨([(137, .val (.agg (fltL (f.sub.getD i flt0)))), (139, .call [] (.bool b))] ++ []), sp18, hd18 [] [] [] [], dsp18, .pure [] (.bool R)⟩ : Wk) 4000 (T := .split (decide ((↑i : Int) < (↑f.sub.length : Int))) (.or (.ob ((2 : Nat) ≤ (2 : Nat)) (.ob ((0 : Int) ≤ (↑i : Int) ∧ (↑i : Int) < (↑f.sub.length : Int) ∧ (↑i : Int).toNat * (6 : Nat) < (fltsC f.sub).length) (.ob (List.take (6 : Nat) (List.drop ((↑i : Int).toNat * (6 : Nat)) (fltsC f.sub)) = (fltL (f.sub.getD i flt0))) (.ob (Ctr Try.prog 18 [AV.agg (wldL l ns), AV.agg (fltL (f.sub.getD i flt0)), AV.int .i64 (↑k : Int)] (AV.bool b)) (.ob ((b == decide (f.op = (10 : Int))) = true) (.ob (decide (f.op = (10 : Int)) = R) (.tt))))))) (.ob ((2 : Nat) ≤ (2 : Nat)) (.ob ((0 : Int) ≤ (↑i : Int) ∧ (↑i : Int) < (↑f.sub.length : Int) ∧ (↑i : Int).toNat * (6 : Nat) < (fltsC f.sub).length) (.ob (List.take (6 : Nat) (List.drop ((↑i : Int).toNat * (6 : Nat)) (fltsC f.sub)) = (fltL (f.sub.getD i flt0))) (.ob (Ctr Try.prog 18 [AV.agg (wldL l ns), AV.agg (fltL (f.sub.getD i flt0)), AV.int .i64 (↑k : Int)] (AV.bool b)) (.ob ((b == decide (f.op = (10 : Int))) = false) (.head (pt Try.f18 1) ({ tmps := [(2, AV.int .i64 (↑k : Int)), (3, AV.ptr 3 0), (4, AV.ptr 4 0), (10, AV.int .i64 (IntKind.i64.wrap ((↑i : Int) + (1 : Int))))], heap := [(3, .var true (wldL l ns)), (4, .var true (fltL f)), (7, .var true (evC e))], tags := [] })))))))) (.ob (decide (f.op = (9 : Int)) = R) (.tt))) (by kernel_rfl) (by
    have w2 : IntKind.i64.wrap ((i : Int) + 1) = ((i + 1 : Nat) : Int) := by rw [i64_wrap (by omega) (by omega)]; rfl
    have h0 : decide ((i : Int) < f.sub.length) = true := by simp; omega
    simp only [PT.holds, w2, h0, Int.toNat_natCast, fltsC_len, true_implies, Bool.false_eq_true, Bool.true_eq_false, false_implies, true_and, and_true]
    by_cases hb : b = decide (f.op = 10)
    · exact .inl ⟨by omega, by omega, by ((try simp only [Nat.add_assoc, Nat.reduceAdd, Nat.add_zero]) <;> first | (rw [ats_take _ _ _ _ hi (by decide)]; rfl) | (rw [ats_nth _ _ _ hi (by decide)]; rfl) | (rw [evs_take _ _ _ _ hi (by decide)]; rfl) | (rw [evs_nth _ _ _ hi (by decide)]; rfl) | (rw [trs_take _ _ _ _ hi (by decide)]; rfl) | (rw [trs_nth _ _ _ hi (by decide)]; rfl) | (rw [pths_take _ _ _ _ hi (by decide)]; rfl) | (rw [pths_nth _ _ _ hi (by decide)]; rfl) | (rw [flts_take _ _ _ _ hi (by decide)]; rfl) | (rw [flts_nth _ _ _ hi (by decide)]; rfl) | (rw [ats_take0 _ _ _ hi (by decide)]; rfl) | (rw [ats_nth0 _ _ hi]; rfl) | (rw [evs_take0 _ _ _ hi (by decide)]; rfl) | (rw [evs_nth0 _ _ hi]; rfl) | (rw [trs_take0 _ _ _ hi (by decide)]; rfl) | (rw [trs_nth0 _ _ hi]; rfl) | (rw [pths_take0 _ _ _ hi (by decide)]; rfl) | (rw [pths_nth0 _ _ hi]; rfl) | (rw [flts_take0 _ _ _ hi (by decide)]; rfl) | (rw [flts_nth0 _ _ hi]; rfl)), hc, by simp [hb], (k2 hb).symm⟩
    · exact .inr ⟨by omega, by omega, by ((try simp only [Nat.add_assoc, Nat.reduceAdd, Nat.add_zero]) <;> first | (rw [ats_take _ _ _ _ hi (by decide)]; rfl) | (rw [ats_nth _ _ _ hi (by decide)]; rfl) | (rw [evs_take _ _ _ _ hi (by decide)]; rfl) | (rw [evs_nth _ _ _ hi (by decide)]; rfl) | (rw [trs_take _ _ _ _ hi (by decide)]; rfl) | (rw [trs_nth _ _ _ hi (by decide)]; rfl) | (rw [pths_take _ _ _ _ hi (by decide)]; rfl) | (rw [pths_nth _ _ _ hi (by decide)]; rfl) | (rw [flts_take _ _ _ _ hi (by decide)]; rfl) | (rw [flts_nth _ _ _ hi (by decide)]; rfl) | (rw [ats_take0 _ _ _ hi (by decide)]; rfl) | (rw [ats_nth0 _ _ hi]; rfl) | (rw [evs_take0 _ _ _ hi (by decide)]; rfl) | (rw [evs_nth0 _ _ hi]; rfl) | (rw [trs_take0 _ _ _ hi (by decide)]; rfl) | (rw [trs_nth0 _ _ hi]; rfl) | (rw [pths_take0 _ _ _ hi (by decide)]; rfl) | (rw [pths_nth0 _ _ hi]; rfl) | (rw [flts_take0 _ _ _ hi (by decide)]; rfl) | (rw [flts_nth0 _ _ hi]; rfl)), hc, by simpa using hb, head_eq (k1 hb) (by simp [stHb, wldL, fltL, evC])⟩)
theorem hb_e (l : List Ev) (ns : List Int) (f : Flt) (e : Ev) (k : Nat) (i : Nat) (hi : i = f.sub.length) : HT Try.prog Try.f18.ntmps (pt Try.f18 1) (stHb l ns f e k i) (EndsA Γ (.pure [] (.bool (decide (f.op = 9)))) Try.f18) :=
  HT.walk Γ_ok mo_ok (⟨([(137, .val (.agg (fltL flt0))), (139, .call [] (.bool true))] ++ []), sp18, hd18 [] [] [] [], dsp18, .pure [] (.bool (decide (f.op = 9)))⟩ : Wk) 4000 (T := .split (decide ((↑i : Int) < (↑f.sub.length : Int))) (.or (.ob ((2 : Nat) ≤ (2 : Nat)) (.ob ((0 : Int) ≤ (↑i : Int) ∧ (↑i : Int) < (↑f.sub.length : Int) ∧ (↑i : Int).toNat * (6 : Nat) < (fltsC f.sub).length) (.ob (List.take (6 : Nat) (List.drop ((↑i : Int).toNat * (6 : Nat)) (fltsC f.sub)) = [AV.int .i64 (0 : Int), AV.str flt0.nm.sp, AV.str flt0.nm.lo, AV.str flt0.val, AV.sl none (0 : Nat) [] .no, AV.sl none (0 : Nat) [] .no]) (.ob (Ctr Try.prog 18 [AV.agg (wldL l ns), AV.agg [AV.int .i64 (0 : Int), AV.str flt0.nm.sp, AV.str flt0.nm.lo, AV.str flt0.val, AV.sl none (0 : Nat) [] .no, AV.sl none (0 : Nat) [] .no], AV.int .i64 (↑k : Int)] (AV.bool true)) (.ob ((true == decide (f.op = (10 : Int))) = true) (.ob (decide (f.op = (10 : Int)) = decide (f.op = (9 : Int))) (.tt))))))) (.ob ((2 : Nat) ≤ (2 : Nat)) (.ob ((0 : Int) ≤ (↑i : Int) ∧ (↑i : Int) < (↑f.sub.length : Int) ∧ (↑i : Int).toNat * (6 : Nat) < (fltsC f.sub).length) (.ob (List.take (6 : Nat) (List.drop ((↑i : Int).toNat * (6 : Nat)) (fltsC f.sub)) = [AV.int .i64 (0 : Int), AV.str flt0.nm.sp, AV.str flt0.nm.lo, AV.str flt0.val, AV.sl none (0 : Nat) [] .no, AV.sl none (0 : Nat) [] .no]) (.ob (Ctr Try.prog 18 [AV.agg (wldL l ns), AV.agg [AV.int .i64 (0 : Int), AV.str flt0.nm.sp, AV.str flt0.nm.lo, AV.str flt0.val, AV.sl none (0 : Nat) [] .no, AV.sl none (0 : Nat) [] .no], AV.int .i64 (↑k : Int)] (AV.bool true)) (.ob ((true == decide (f.op = (10 : Int))) = false) (.head (pt Try.f18 1) ({ tmps := [(2, AV.int .i64 (↑k : Int)), (3, AV.ptr 3 0), (4, AV.ptr 4 0), (10, AV.int .i64 (IntKind.i64.wrap ((↑i : Int) + (1 : Int))))], heap := [(3, .var true (wldL l ns)), (4, .var true (fltL f)), (7, .var true (evC e))], tags := [] })))))))) (.ob (decide (f.op = (9 : Int)) = decide (f.op = (9 : Int))) (.tt))) (by kernel_rfl) (by
    have h0 : decide ((i : Int) < f.sub.length) = false := by simp; omega
    simp only [PT.holds, h0, true_implies, Bool.false_eq_true, Bool.true_eq_false, false_implies, true_and, and_true])
theorem rholds_p (l : List Ev) (ns : List Int) (f : Flt) (e : Ev) (k x : Nat) (R b8 : Bool) (m : List Int) (hk : k < ns.length) (hx : ns.getD k 0 = x) (hxl : x < l.length) (hxe : e = l.getD x ev0) (hr : f.r1) (h1 : f.op = 1 → R = true) (h2 : f.op = 2 → R = decide (e.kind = 1)) (h3 : f.op = 3 → R = !decide (e.kind = 1)) (h4 : f.op = 4 → R = (decide (e.kind = 1) && decide (e.nm = f.nm))) (h5 : f.op = 5 ∨ f.op = 6 → HT Try.prog Try.f18.ntmps (pt Try.f18 0) (stHa l ns f e k 0) (EndsA Γ (.pure [] (.bool R)) Try.f18)) (h7 : f.op = 7 → R = (!decide (e.kind = 1) && decide (e.text = f.val))) (h8 : f.op = 8 → R = !b8 ∧ Ctr Try.prog 18 [.agg (wldL l ns), .agg (fltL (f.sub.getD 0 flt0)), .int .i64 k] (.bool b8)) (h11 : f.op = 11 → R = decide (0 < m.length) ∧ Ctr Try.prog 28 [.agg (wldL l ns), .agg (pthL (f.way.getD 0 pth0)), .sl none 1 [.int .i64 k] .no] (.sl none m.length (intsC m) .no)) (h9 : f.op = 9 ∨ f.op = 10 → HT Try.prog Try.f18.ntmps (pt Try.f18 1) (stHb l ns f e k 0) (EndsA Γ (.pure [] (.bool R)) Try.f18)) : Ctr Try.prog 18 [.agg (wldL l ns), .agg (fltL f), .int .i64 k] (.bool R) :=
  Ctr.mk Γ_ok Try.func18 (by kernel_rfl) Try.call18 [] (by kernel_rfl) (HT.walk Γ_ok mo_ok (⟨([(17, .val (.int .i64 x)), (19, .val (.agg (evC e))), (108, .val (.agg (fltL (f.sub.getD 0 flt0)))), (110, .call [] (.bool b8)), (119, .val (.agg (pthL (f.way.getD 0 pth0)))), (122, .call [] (.sl none m.length (intsC m) .no))] ++ []), sp18, hd18 [] [] [] [], dsp18, .pure [] (.bool R)⟩ : Wk) 4000 (T := .ob ((0 : Int) ≤ (↑k : Int) ∧ (↑k : Int) < (↑ns.length : Int) ∧ (↑k : Int).toNat * (1 : Nat) < (intsC ns).length) (.ob ((intsC ns)[(↑k : Int).toNat * (1 : Nat)]? = some (AV.int .i64 (↑x : Int))) (.ob ((0 : Int) ≤ (↑x : Int) ∧ (↑x : Int) < (↑l.length : Int) ∧ (↑x : Int).toNat * (5 : Nat) < (evsC l).length) (.ob (List.take (5 : Nat) (List.drop ((↑x : Int).toNat * (5 : Nat)) (evsC l)) = (evC e)) (.split (decide (f.op = (1 : Int))) (.ob (true = R) (.tt)) (.split (decide (f.op = (2 : Int))) (.ob (decide (e.kind = (1 : Int)) = R) (.tt)) (.split (decide (f.op = (3 : Int))) (.ob ((!decide (e.kind = (1 : Int))) = R) (.tt)) (.split (decide (f.op = (4 : Int))) (.split (decide (e.kind = (1 : Int))) (.ob ((3 : Nat) ≤ (5 : Nat)) (.ob ((3 : Nat) ≤ (6 : Nat)) (.ob ((decide (e.nm.sp = f.nm.sp) && (decide (e.nm.lo = f.nm.lo) && true)) = R) (.tt)))) (.ob (false = R) (.tt))) (.split (decide (f.op = (5 : Int))) (.head (pt Try.f18 0) ({ tmps := [(4, AV.ptr 4 0), (7, AV.ptr 7 0), (8, AV.bool (decide (e.kind = (1 : Int)))), (9, AV.int .i64 (0 : Int))], heap := [(3, .var true (wldL l ns)), (4, .var true (fltL f)), (7, .var true (evC e))], tags := [] })) (.split (decide (f.op = (6 : Int))) (.head (pt Try.f18 0) ({ tmps := [(4, AV.ptr 4 0), (7, AV.ptr 7 0), (8, AV.bool (decide (e.kind = (1 : Int)))), (9, AV.int .i64 (0 : Int))], heap := [(3, .var true (wldL l ns)), (4, .var true (fltL f)), (7, .var true (evC e))], tags := [] })) (.split (decide (f.op = (7 : Int))) (.split (decide (e.kind = (1 : Int))) (.ob (false = R) (.tt)) (.ob (decide (e.text = f.val) = R) (.tt))) (.split (decide (f.op = (8 : Int))) (.ob ((2 : Nat) ≤ (2 : Nat)) (.ob ((0 : Int) ≤ (0 : Int) ∧ (0 : Int) < (↑f.sub.length : Int) ∧ Int.toNat (0 : Int) * (6 : Nat) < (fltsC f.sub).length) (.ob (List.take (6 : Nat) (List.drop (Int.toNat (0 : Int) * (6 : Nat)) (fltsC f.sub)) = (fltL (f.sub.getD (0 : Nat) flt0))) (.ob (Ctr Try.prog 18 [AV.agg (wldL l ns), AV.agg (fltL (f.sub.getD (0 : Nat) flt0)), AV.int .i64 (↑k : Int)] (AV.bool b8)) (.ob ((!b8) = R) (.tt)))))) (.split (decide (f.op = (11 : Int))) (.ob ((2 : Nat) ≤ (2 : Nat)) (.ob ((0 : Int) ≤ (0 : Int) ∧ (0 : Int) < (↑f.way.length : Int) ∧ Int.toNat (0 : Int) * (3 : Nat) < (pthsC f.way).length) (.ob (List.take (3 : Nat) (List.drop (Int.toNat (0 : Int) * (3 : Nat)) (pthsC f.way)) = (pthL (f.way.getD (0 : Nat) pth0))) (.ob (Ctr Try.prog 28 [AV.agg (wldL l ns), AV.agg (pthL (f.way.getD (0 : Nat) pth0)), AV.sl (some false) (1 : Nat) [AV.int .i64 (↑k : Int)] .clip] (AV.sl none m.length (intsC m) .no)) (.ob (decide ((0 : Int) < (↑m.length : Int)) = R) (.tt)))))) (.head (pt Try.f18 1) ({ tmps := [(2, AV.int .i64 (↑k : Int)), (3, AV.ptr 3 0), (4, AV.ptr 4 0), (10, AV.int .i64 (0 : Int))], heap := [(3, .var true (wldL l ns)), (4, .var true (fltL f)), (7, .var true (evC e))], tags := [] }))))))))))))))) (by kernel_rfl) (by
    simp only [PT.holds, nm_eq, Int.toNat_natCast, Nat.mul_one, intsC_len', intsC_nth ns k hk, hx, evsC_len, fltsC_len, pthsC_len, and_true, true_and, decide_eq_true_eq, decide_eq_false_iff_not]
    refine ⟨by omega, by omega, by rw [hxe]; ((try simp only [Nat.add_assoc, Nat.reduceAdd, Nat.add_zero]) <;> first | (rw [ats_take _ _ _ _ hxl (by decide)]; rfl) | (rw [ats_nth _ _ _ hxl (by decide)]; rfl) | (rw [evs_take _ _ _ _ hxl (by decide)]; rfl) | (rw [evs_nth _ _ _ hxl (by decide)]; rfl) | (rw [trs_take _ _ _ _ hxl (by decide)]; rfl) | (rw [trs_nth _ _ _ hxl (by decide)]; rfl) | (rw [pths_take _ _ _ _ hxl (by decide)]; rfl) | (rw [pths_nth _ _ _ hxl (by decide)]; rfl) | (rw [flts_take _ _ _ _ hxl (by decide)]; rfl) | (rw [flts_nth _ _ _ hxl (by decide)]; rfl) | (rw [ats_take0 _ _ _ hxl (by decide)]; rfl) | (rw [ats_nth0 _ _ hxl]; rfl) | (rw [evs_take0 _ _ _ hxl (by decide)]; rfl) | (rw [evs_nth0 _ _ hxl]; rfl) | (rw [trs_take0 _ _ _ hxl (by decide)]; rfl) | (rw [trs_nth0 _ _ hxl]; rfl) | (rw [pths_take0 _ _ _ hxl (by decide)]; rfl) | (rw [pths_nth0 _ _ hxl]; rfl) | (rw [flts_take0 _ _ _ hxl (by decide)]; rfl) | (rw [flts_nth0 _ _ hxl]; rfl)), fun e1 => (h1 e1).symm, fun e1 => ⟨fun e2 => (h2 e2).symm, fun e2 => ⟨fun e3 => (h3 e3).symm, fun e3 => ⟨fun e4 => ⟨fun ek => ?_, fun ek => ?_⟩, fun e4 => ⟨fun e5 => head_eq (h5 (.inl e5)) (by simp [stHa, wldL, fltL, evC]), fun e5 => ⟨fun e6 => head_eq (h5 (.inr e6)) (by simp [stHa, wldL, fltL, evC]), fun e6 => ⟨fun e7 => ⟨fun ek => ?_, fun ek => ?_⟩, fun e7 => ⟨fun e8 => ?_, fun e8 => ⟨fun e11 => ?_, fun e11 => head_eq (h9 (by have := hr.op; omega)) (by simp [stHb, wldL, fltL, evC])⟩⟩⟩⟩⟩⟩⟩⟩⟩
    · refine ⟨by omega, by omega, ?_⟩
      rw [h4 e4, decide_eq_true ek]; rfl
    · rw [h4 e4, decide_eq_false ek]; rfl
    · rw [h7 e7, decide_eq_true ek]; rfl
    · rw [h7 e7, decide_eq_false ek]; rfl
    · have h0 : 0 < f.sub.length := by have := hr.one e8; omega
      exact ⟨by omega, by omega, by rw [Int.toNat_zero]; ((try simp only [Nat.add_assoc, Nat.reduceAdd, Nat.add_zero]) <;> first | (rw [ats_take _ _ _ _ h0 (by decide)]; rfl) | (rw [ats_nth _ _ _ h0 (by decide)]; rfl) | (rw [evs_take _ _ _ _ h0 (by decide)]; rfl) | (rw [evs_nth _ _ _ h0 (by decide)]; rfl) | (rw [trs_take _ _ _ _ h0 (by decide)]; rfl) | (rw [trs_nth _ _ _ h0 (by decide)]; rfl) | (rw [pths_take _ _ _ _ h0 (by decide)]; rfl) | (rw [pths_nth _ _ _ h0 (by decide)]; rfl) | (rw [flts_take _ _ _ _ h0 (by decide)]; rfl) | (rw [flts_nth _ _ _ h0 (by decide)]; rfl) | (rw [ats_take0 _ _ _ h0 (by decide)]; rfl) | (rw [ats_nth0 _ _ h0]; rfl) | (rw [evs_take0 _ _ _ h0 (by decide)]; rfl) | (rw [evs_nth0 _ _ h0]; rfl) | (rw [trs_take0 _ _ _ h0 (by decide)]; rfl) | (rw [trs_nth0 _ _ h0]; rfl) | (rw [pths_take0 _ _ _ h0 (by decide)]; rfl) | (rw [pths_nth0 _ _ h0]; rfl) | (rw [flts_take0 _ _ _ h0 (by decide)]; rfl) | (rw [flts_nth0 _ _ h0]; rfl)), (h8 e8).2, (h8 e8).1.symm⟩
    · have h0 : 0 < f.way.length := by have := hr.way.1 e11; omega
      refine ⟨by omega, by omega, by rw [Int.toNat_zero]; ((try simp only [Nat.add_assoc, Nat.reduceAdd, Nat.add_zero]) <;> first | (rw [ats_take _ _ _ _ h0 (by decide)]; rfl) | (rw [ats_nth _ _ _ h0 (by decide)]; rfl) | (rw [evs_take _ _ _ _ h0 (by decide)]; rfl) | (rw [evs_nth _ _ _ h0 (by decide)]; rfl) | (rw [trs_take _ _ _ _ h0 (by decide)]; rfl) | (rw [trs_nth _ _ _ h0 (by decide)]; rfl) | (rw [pths_take _ _ _ _ h0 (by decide)]; rfl) | (rw [pths_nth _ _ _ h0 (by decide)]; rfl) | (rw [flts_take _ _ _ _ h0 (by decide)]; rfl) | (rw [flts_nth _ _ _ h0 (by decide)]; rfl) | (rw [ats_take0 _ _ _ h0 (by decide)]; rfl) | (rw [ats_nth0 _ _ h0]; rfl) | (rw [evs_take0 _ _ _ h0 (by decide)]; rfl) | (rw [evs_nth0 _ _ h0]; rfl) | (rw [trs_take0 _ _ _ h0 (by decide)]; rfl) | (rw [trs_nth0 _ _ h0]; rfl) | (rw [pths_take0 _ _ _ h0 (by decide)]; rfl) | (rw [pths_nth0 _ _ h0]; rfl) | (rw [flts_take0 _ _ _ h0 (by decide)]; rfl) | (rw [flts_nth0 _ _ h0]; rfl)), (h11 e11).2.args rfl ?_, ?_⟩
      · (repeat' first | exact rfl | refine And.intro ?_ ?_)
      · rw [(h11 e11).1]; simp))
end Go.Proofs.Ytpffjbbolaehpaa
end

section
set_option linter.unusedVariables false
set_option linter.unusedSimpArgs false
set_option maxRecDepth 100000
namespace Go.Proofs.Ytpffjbbolaehpaa
open Go Go.AX

def stRf (l : List Ev) (ns : List Int) (p : Pth) (m out : List Int) (i : Nat) : AS := ⟨[(3, .ptr 3 0), (7, .sl none m.length (intsC m) .no), (8, .sl none out.length (intsC out) (.own 1)), (9, .int .i64 i)], [(3, .var true (wldL l ns)), (4, .var true (pthL p))], [(1, ⟨out.length, 3, 1, none⟩)]⟩
def fromM (m : List Int) : Nat → Nat → List Int
  | 0, _ => []
  | d + 1, i => if (i : Int) ∈ m then (i : Int) :: fromM m d (i + 1) else fromM m d (i + 1)

theorem rf_h (l : List Ev) (ns : List Int) (p : Pth) (m out : List Int) (i : Nat) (R : List Int) (hi : i < ns.length) (hN : ns.length ≤ 1000) (hm : m.length ≤ 1000) (ho : out.length ≤ 1000) (k1 : (i : Int) ∈ m → HT Try.prog Try.f13.ntmps (pt Try.f13 0) (stRf l ns p m (out ++ [(i : Int)]) (i + 1)) (EndsA Γ (.pure [] (.sl none R.length (intsC R) .no)) Try.f13)) (k2 : ¬ (i : Int) ∈ m → HT Try.prog Try.f13.ntmps (pt Try.f13 0) (stRf l ns p m out (i + 1)) (EndsA Γ (.pure [] (.sl none R.length (intsC R) .no)) Try.f13)) : HT Try.prog Try.f13.ntmps (pt Try.f13 0) (stRf l ns p m out i) (EndsA Γ (.pure [] (.sl none R.length (intsC R) .no)) Try.f13) :=
  HT.walk Γ_ok mo_ok (⟨([(24, .call [] (.bool (decide ((i : Int) ∈ m))))] ++ []), sp13, hd13 [(8, 1, 3, 1)] [] [] [], [], .pure [] (.sl none R.length (intsC R) .no)⟩ : Wk) 4000 (T := .split (decide ((↑i : Int) < (↑ns.length : Int))) (.ob (Ctr Try.prog 29 [AV.sl none m.length (intsC m) .no, AV.int .i64 (↑i : Int)] (AV.bool (decide ((↑i : Int) ∈ m)))) (.split (decide ((↑i : Int) ∈ m)) (.ob (out.length = out.length) (.ob ((intsC out).length = out.length * ((0 : Nat) + (1 : Nat)) ∧ (splice (repL (List.map zn [AV.int .i64 (0 : Int)]) (1 : Nat)) ((0 : Nat) * (1 : Nat)) (cellsOf (AV.int .i64 (↑i : Int)))).length = (1 : Nat) * ((0 : Nat) + (1 : Nat)) ∧ (out.length + (1 : Nat)) * ((7 : Nat) + (1 : Nat)) ≤ (140737488355328 : Nat)) (.head (pt Try.f13 0) ({ tmps := [(3, AV.ptr 3 0), (7, AV.sl none m.length (intsC m) .no), (8, AV.sl none (out.length + (1 : Nat)) (intsC out ++ splice (repL (List.map zn [AV.int .i64 (0 : Int)]) (1 : Nat)) ((0 : Nat) * (1 : Nat)) (cellsOf (AV.int .i64 (↑i : Int)))) (.own (1 : Nat))), (9, AV.int .i64 (IntKind.i64.wrap ((↑i : Int) + (1 : Int))))], heap := [(3, .var true (wldL l ns)), (4, .var true (pthL p))], tags := [(1, { n := out.length + (1 : Nat), e := (3 : Nat), sz := (1 : Nat) })] })))) (.head (pt Try.f13 0) ({ tmps := [(3, AV.ptr 3 0), (7, AV.sl none m.length (intsC m) .no), (8, AV.sl none out.length (intsC out) (.own (1 : Nat))), (9, AV.int .i64 (IntKind.i64.wrap ((↑i : Int) + (1 : Int))))], heap := [(3, .var true (wldL l ns)), (4, .var true (pthL p))], tags := [(1, { n := out.length, e := (3 : Nat), sz := (1 : Nat) })] })))) (.ob (out.length = R.length) (.ob (intsC out = intsC R) (.tt)))) (by kernel_rfl) (by
    have w2 : IntKind.i64.wrap ((i : Int) + 1) = ((i + 1 : Nat) : Int) := by rw [i64_wrap (by omega) (by omega)]; rfl
    have h0 : decide ((i : Int) < ns.length) = true := by simp; omega
    simp only [PT.holds, w2, h0, Int.toNat_natCast, intsC_len', true_implies, Bool.false_eq_true, Bool.true_eq_false, false_implies, true_and, and_true]
    refine ⟨has29_ctr m _ (by omega), fun h => ?_, fun h => head_eq (k2 (of_decide_eq_false h)) (by simp [stRf, wldL, pthL])⟩
    refine ⟨⟨by omega, rfl, by omega⟩, head_eq (k1 (of_decide_eq_true h)) ?_⟩
    simp [stRf, wldL, pthL, ← intsC_app, splice, repL, cellsOf])
theorem rf_e (l : List Ev) (ns : List Int) (p : Pth) (m out : List Int) (i : Nat) (hi : i = ns.length) : HT Try.prog Try.f13.ntmps (pt Try.f13 0) (stRf l ns p m out i) (EndsA Γ (.pure [] (.sl none out.length (intsC out) .no)) Try.f13) :=
  HT.walk Γ_ok mo_ok (⟨([(24, .call [] (.bool (decide ((i : Int) ∈ m))))] ++ []), sp13, hd13 [(8, 1, 3, 1)] [] [] [], [], .pure [] (.sl none out.length (intsC out) .no)⟩ : Wk) 4000 (T := .split (decide ((↑i : Int) < (↑ns.length : Int))) (.ob (Ctr Try.prog 29 [AV.sl none m.length (intsC m) .no, AV.int .i64 (↑i : Int)] (AV.bool (decide ((↑i : Int) ∈ m)))) (.split (decide ((↑i : Int) ∈ m)) (.ob (out.length = out.length) (.ob ((intsC out).length = out.length * ((0 : Nat) + (1 : Nat)) ∧ (splice (repL (List.map zn [AV.int .i64 (0 : Int)]) (1 : Nat)) ((0 : Nat) * (1 : Nat)) (cellsOf (AV.int .i64 (↑i : Int)))).length = (1 : Nat) * ((0 : Nat) + (1 : Nat)) ∧ (out.length + (1 : Nat)) * ((7 : Nat) + (1 : Nat)) ≤ (140737488355328 : Nat)) (.head (pt Try.f13 0) ({ tmps := [(3, AV.ptr 3 0), (7, AV.sl none m.length (intsC m) .no), (8, AV.sl none (out.length + (1 : Nat)) (intsC out ++ splice (repL (List.map zn [AV.int .i64 (0 : Int)]) (1 : Nat)) ((0 : Nat) * (1 : Nat)) (cellsOf (AV.int .i64 (↑i : Int)))) (.own (1 : Nat))), (9, AV.int .i64 (IntKind.i64.wrap ((↑i : Int) + (1 : Int))))], heap := [(3, .var true (wldL l ns)), (4, .var true (pthL p))], tags := [(1, { n := out.length + (1 : Nat), e := (3 : Nat), sz := (1 : Nat) })] })))) (.head (pt Try.f13 0) ({ tmps := [(3, AV.ptr 3 0), (7, AV.sl none m.length (intsC m) .no), (8, AV.sl none out.length (intsC out) (.own (1 : Nat))), (9, AV.int .i64 (IntKind.i64.wrap ((↑i : Int) + (1 : Int))))], heap := [(3, .var true (wldL l ns)), (4, .var true (pthL p))], tags := [(1, { n := out.length, e := (3 : Nat), sz := (1 : Nat) })] })))) (.ob (out.length = out.length) (.ob (intsC out = intsC out) (.tt)))) (by kernel_rfl) (by
    have h0 : decide ((i : Int) < ns.length) = false := by simp; omega
    simp only [PT.holds, h0, true_implies, Bool.false_eq_true, Bool.true_eq_false, false_implies, true_and, and_true])
theorem rf_l (l : List Ev) (ns : List Int) (p : Pth) (m : List Int) (hN : ns.length ≤ 1000) (hm : m.length ≤ 1000) : ∀ d i out, i + d = ns.length → out.length ≤ i → HT Try.prog Try.f13.ntmps (pt Try.f13 0) (stRf l ns p m out i) (EndsA Γ (.pure [] (.sl none (out ++ fromM m d i).length (intsC (out ++ fromM m d i)) .no)) Try.f13) := by
  intro d
  induction d with
  | zero =>
    intro i out h ho
    rw [show out ++ fromM m 0 i = out by simp [fromM]]
    exact rf_e l ns p m out i (by omega)
  | succ d ih =>
    intro i out h ho
    refine rf_h l ns p m out i _ (by omega) hN hm (by omega) (fun h1 => ?_) (fun h1 => ?_)
    · rw [show out ++ fromM m (d + 1) i = out ++ [(i : Int)] ++ fromM m d (i + 1) by simp [fromM, h1]]
      exact ih (i + 1) _ (by omega) (by simp; omega)
    · rw [show out ++ fromM m (d + 1) i = out ++ fromM m d (i + 1) by simp [fromM, h1]]
      exact ih (i + 1) _ (by omega) (by omega)

theorem rfrom_ctr (l : List Ev) (ns : List Int) (p : Pth) (k : Nat) (m R : List Int) (hN : ns.length ≤ 1000) (hm : m.length ≤ 1000) (hR : R = fromM m ns.length 0) (hc : Ctr Try.prog 28 [.agg (wldL l ns), .agg (pthL p), .sl none 1 [.int .i64 k] .no] (.sl none m.length (intsC m) .no)) : Ctr Try.prog 13 [.agg (wldL l ns), .agg (pthL p), .int .i64 k] (.sl none R.length (intsC R) .no) :=
  Ctr.mk Γ_ok Try.func13 (by kernel_rfl) Try.call13 [] (by kernel_rfl) (HT.walk Γ_ok mo_ok (⟨([(14, .call [] (.sl none m.length (intsC m) .no))] ++ []), sp13, hd13 [(8, 1, 3, 1)] [] [] [], [], .pure [] (.sl none R.length (intsC R) .no)⟩ : Wk) 4000 (T := .ob ((2 : Nat) ≤ (2 : Nat)) (.ob ((3 : Nat) ≤ (3 : Nat)) (.ob (Ctr Try.prog 28 [AV.agg (wldL l ns), AV.agg (pthL p), AV.sl (some false) (1 : Nat) [AV.int .i64 (↑k : Int)] .clip] (AV.sl none m.length (intsC m) .no)) (.head (pt Try.f13 0) ({ tmps := [(3, AV.ptr 3 0), (7, AV.sl none m.length (intsC m) .no), (8, AV.sl none (0 : Nat) [] (.own (1 : Nat))), (9, AV.int .i64 (0 : Int))], heap := [(3, .var true (wldL l ns)), (4, .var true (pthL p))], tags := [(1, { n := (0 : Nat), e := (3 : Nat), sz := (1 : Nat) })] }))))) (by kernel_rfl) (by
    simp only [PT.holds]
    have hf := rf_l l ns p m hN hm ns.length 0 [] (Nat.zero_add _) (Nat.zero_le _)
    simp only [List.nil_append, ← hR] at hf
    refine ⟨by omega, by omega, hc.args rfl ?_, head_eq hf ?_⟩
    · (repeat' first | exact rfl | refine And.intro ?_ ?_)
    · simp [stRf, wldL, pthL, intsC]))
end Go.Proofs.Ytpffjbbolaehpaa
end

section
set_option linter.unusedVariables false
set_option linter.unusedSimpArgs false
namespace Go.Proofs.Ytpffjbbolaehpaa
open Go Go.AX

/-! ### What Make tells points forward -/
def FwdL (l : List Int) (N : Nat) : Prop := ∀ j, j < N → l.getD j 0 = -1 ∨ ((j : Int) < l.getD j 0 ∧ l.getD j 0 < N)
structure Inv (S : Pln) (N : Nat) : Prop where
  good : S.Good N
  fst : FwdL S.fst N
  nxt : FwdL S.nxt N
theorem FwdL.push {l : List Int} {N : Nat} (hl : l.length = N) (h : FwdL l N) : FwdL (l ++ [-1]) (N + 1) := by
  intro j hj
  rcases Nat.lt_or_eq_of_le (Nat.lt_succ_iff.1 hj) with h1 | h1
  · have e : (l ++ [-1]).getD j 0 = l.getD j 0 := by
      rw [List.getD_eq_getElem?_getD, List.getElem?_append_left (by omega), ← List.getD_eq_getElem?_getD]
    rw [e]
    have := h j h1
    omega
  · left
    rw [List.getD_eq_getElem?_getD, h1, ← hl, List.getElem?_append_right (Nat.le_refl _)]
    simp
theorem FwdL.set {l : List Int} {N : Nat} (hl : l.length = N) (h : FwdL l N) (i a : Nat) (hi : i < a) (ha : a < N) : FwdL (l.set i a) N := by
  intro j hj
  rw [getD_set _ _ _ _ _ (by omega)]
  split
  · rename_i e
    right
    omega
  · exact h j hj
theorem Inv.push {S : Pln} {N : Nat} (h : Inv S N) (t : Tr) (p : Int) : Inv (S.push t p) (N + 1) :=
  ⟨h.good.push t p, h.fst.push h.good.fst, h.nxt.push h.good.nxt⟩
theorem Inv.link {S : Pln} {N : Nat} (h : Inv S N) (n a : Nat) (l : Int) (i : Nat) (hn : n < a) (ha : a < N) (hl : 0 < i → 0 ≤ l ∧ l < a) : Inv (S.link n a l i) N := by
  refine ⟨h.good.link n a l i, ?_, ?_⟩
  · show FwdL (if i = 0 then S.fst.set n a else S.fst) N
    split
    · exact h.fst.set h.good.fst n a hn ha
    · exact h.fst
  · show FwdL (if i = 0 then S.nxt else S.nxt.set l.toNat a) N
    split
    · exact h.nxt
    · rename_i hi
      have := hl (by omega)
      exact h.nxt.set h.good.nxt l.toNat a (by omega) ha
mutual
theorem visit_inv (t : Tr) (p : Int) (S : Pln) (N : Nat) (h : Inv S N) : ∃ N', Inv (visitS t p S) N' ∧ N < N' := by
  match t with
  | .mk b tx nm a kids =>
    cases b with
    | true => exact ⟨N + 1, by simpa [visitS] using h.push _ _, by omega⟩
    | false =>
      obtain ⟨N', h1, h2⟩ := kids_inv kids S.tr.length 0 (-1) _ (N + 1) (h.push (.mk false tx nm a kids) p) (by have := h.good.tr; omega) (fun h => by omega)
      exact ⟨N', by simpa [visitS] using h1, by omega⟩
theorem kids_inv (r : List Tr) (n i : Nat) (l : Int) (S : Pln) (N : Nat) (h : Inv S N) (hn : n < N) (hl : 0 < i → 0 ≤ l ∧ l < N) : ∃ N', Inv (kidsS r n i l S) N' ∧ N ≤ N' := by
  match r with
  | [] => exact ⟨N, by simpa [kidsS] using h, by omega⟩
  | k :: r =>
    have htr := h.good.tr
    obtain ⟨N1, h1, h2⟩ := visit_inv k n S N h
    obtain ⟨N2, h4, h5⟩ := kids_inv r n (i + 1) S.tr.length _ N1 (h1.link n S.tr.length l i (by omega) (by omega) (fun hi => by have := hl hi; omega)) (by omega) (fun _ => by omega)
    exact ⟨N2, by simpa [kidsS] using h4, by omega⟩
end
/-! The trees' attributes -/
mutual
def Tr.okA : Tr → Prop
  | .mk b tx nm a kids => a.length ≤ 1048600 ∧ okAs kids
def okAs : List Tr → Prop
  | [] => True
  | k :: r => k.okA ∧ okAs r
end
mutual
theorem visit_ats (t : Tr) (p : Int) (S : Pln) (ht : t.okA) (h : ∀ u ∈ S.tr, u.attrs.length ≤ 1048600) : ∀ u ∈ (visitS t p S).tr, u.attrs.length ≤ 1048600 := by
  match t with
  | .mk b tx nm a kids =>
    simp only [Tr.okA] at ht
    have hp : ∀ u ∈ (S.push (.mk b tx nm a kids) p).tr, u.attrs.length ≤ 1048600 := by
      intro u hm
      rcases List.mem_append.1 hm with h1 | h1
      · exact h u h1
      · rw [List.mem_singleton.1 h1]; exact ht.1
    cases b with
    | true => simpa [visitS] using hp
    | false =>
      have := kids_ats kids S.tr.length 0 (-1) _ ht.2 hp
      simpa [visitS] using this
theorem kids_ats (r : List Tr) (n i : Nat) (l : Int) (S : Pln) (hr : okAs r) (h : ∀ u ∈ S.tr, u.attrs.length ≤ 1048600) : ∀ u ∈ (kidsS r n i l S).tr, u.attrs.length ≤ 1048600 := by
  match r with
  | [] => simpa [kidsS] using h
  | k :: r =>
    simp only [okAs] at hr
    have h1 := visit_ats k n S hr.1 h
    have := kids_ats r n (i + 1) S.tr.length ((visitS k n S).link n S.tr.length l i) hr.2 h1
    simpa [kidsS] using this
end
theorem make_pw (t : Tr) (ht : t.okA) (hN : cntT t ≤ 1000000) : ∃ N, PW (visitS t (-1) pln0) N ∧ FwdL (visitS t (-1) pln0).fst N ∧ FwdL (visitS t (-1) pln0).nxt N := by
  obtain ⟨N, h1, h2⟩ := visit_inv t (-1) pln0 0 ⟨⟨rfl, rfl, rfl, rfl, rfl⟩, fun j hj => by omega, fun j hj => by omega⟩
  obtain ⟨N', g1, g2, g3⟩ := visit_good t (-1) pln0 0 ⟨rfl, rfl, rfl, rfl, rfl⟩
  have hNN : N = N' := by rw [← h1.good.tr, g1.tr]
  refine ⟨N, ⟨⟨by omega, by omega⟩, h1.good.par, h1.good.fst, h1.good.nxt, h1.good.siz, h1.good.tr, fun j hj => ?_, fun j hj => ?_, visit_ats t (-1) pln0 ht (fun u hm => by cases hm)⟩, h1.fst, h1.nxt⟩
  · have := h1.fst j hj; omega
  · have := h1.nxt j hj; omega
end Go.Proofs.Ytpffjbbolaehpaa
end

section
set_option linter.unusedVariables false
set_option linter.unusedSimpArgs false
namespace Go.Proofs.Ytpffjbbolaehpaa
open Go Go.AX

/-! ### A document has as many nodes as its tree -/
mutual
theorem visit_cnt {l : List Ev} {i j : Nat} (t : Tr) (h : Nod l i t j) (p : Int) (S : Pln) (N : Nat) (hg : S.Good N) : (visitS t p S).Good (N + cntT t) := by
  match t, h with
  | _, .text i h hk => simpa [visitS, cntT, cntL] using hg.push _ p
  | .mk _ _ _ _ ks, .elem i _ e h hk hks he hke =>
    have := kids_cnt ks hks S.tr.length 0 (-1) _ (N + 1) (hg.push (.mk false ⟨#[]⟩ (l.getD i ev0).nm (l.getD i ev0).attrs ks) p)
    have e1 : N + 1 + cntL ks = N + cntT (.mk false ⟨#[]⟩ (l.getD i ev0).nm (l.getD i ev0).attrs ks) := by simp [cntT]; omega
    rw [e1] at this
    simpa [visitS] using this
theorem kids_cnt {l : List Ev} {i j : Nat} (r : List Tr) (h : Nods l i r j) (n m : Nat) (la : Int) (S : Pln) (N : Nat) (hg : S.Good N) : (kidsS r n m la S).Good (N + cntL r) := by
  match r, h with
  | [], .nil _ => simpa [kidsS, cntL] using hg
  | t :: r, .cons _ _ _ _ _ h1 h2 =>
    have g1 := visit_cnt t h1 n S N hg
    have := kids_cnt r h2 n (m + 1) S.tr.length _ _ (g1.link n S.tr.length la m)
    have e1 : N + cntT t + cntL r = N + cntL (t :: r) := by simp [cntL]; omega
    rw [e1] at this
    simpa [kidsS] using this
end
/-- How many nodes lie between two places. -/
def nodN (l : List Ev) (i d : Nat) : Nat := (nodF l d i).length
theorem nodF_add (l : List Ev) : ∀ d1 d2 i, nodF l (d1 + d2) i = nodF l d1 i ++ nodF l d2 (i + d1)
  | 0, d2, i => by simp [nodF]
  | d1 + 1, d2, i => by
    have e : d1 + 1 + d2 = (d1 + d2) + 1 := by omega
    have e2 : i + (d1 + 1) = i + 1 + d1 := by omega
    rw [e, e2]
    simp only [nodF, nodF_add l d1 d2 (i + 1)]
    split <;> simp
mutual
theorem nod_cnt {l : List Ev} {i j : Nat} (t : Tr) (h : Nod l i t j) : (nodF l (j - i) i).length = cntT t := by
  match t, h with
  | _, .text i h hk =>
    have e : i + 1 - i = 1 := by omega
    rw [e]
    simp [nodF, cntT, cntL, -List.getD_eq_getElem?_getD, hk]
  | .mk _ _ _ _ ks, .elem i _ e h hk hks he hke =>
    have h1 := nods_cnt ks hks
    have hle := nods_le hks
    have e1 : e + 1 - i = 1 + ((e - (i + 1)) + 1) := by omega
    have e2 : i + 1 + (e - (i + 1)) = e := by omega
    rw [e1, nodF_add, nodF_add, e2, List.length_append, List.length_append, h1]
    simp [nodF, cntT, -List.getD_eq_getElem?_getD, hk, hke]
theorem nods_cnt {l : List Ev} {i j : Nat} (r : List Tr) (h : Nods l i r j) : (nodF l (j - i) i).length = cntL r := by
  match r, h with
  | [], .nil _ => simp [nodF, cntL]
  | t :: r, .cons _ _ k _ _ h1 h2 =>
    have g1 := nod_cnt t h1
    have g2 := nods_cnt r h2
    have l1 := nod_le h1
    have l2 := nods_le h2
    have e1 : j - i = (k - i) + (j - k) := by omega
    have e2 : i + (k - i) = k := by omega
    rw [e1, nodF_add, List.length_append, e2, g1, g2]
    simp [cntL]
end
mutual
theorem nod_okA {l : List Ev} (ho : okEvs l) {i j : Nat} (t : Tr) (h : Nod l i t j) : t.okA := by
  match t, h with
  | _, .text i h hk => simp [Tr.okA, okAs]
  | .mk _ _ _ _ ks, .elem i _ e h hk hks he hke =>
    have := (ho _ (getD_mem l i ev0 h)).2.2.1
    simp only [Tr.okA]
    exact ⟨this, nods_okA ho ks hks⟩
theorem nods_okA {l : List Ev} (ho : okEvs l) {i j : Nat} (r : List Tr) (h : Nods l i r j) : okAs r := by
  match r, h with
  | [], .nil _ => simp [okAs]
  | t :: r, .cons _ _ k _ _ h1 h2 => simp only [okAs]; exact ⟨nod_okA ho t h1, nods_okA ho r h2⟩
end
theorem placesJ_le (s : List Bool) : ∀ d i, (placesJ s d i).length ≤ d
  | 0, i => Nat.le_refl _
  | d + 1, i => by
    have := placesJ_le s d (i + 1)
    simp only [placesJ]
    split
    · rw [List.length_cons]; omega
    · omega
end Go.Proofs.Ytpffjbbolaehpaa
end

section
set_option linter.unusedVariables false
set_option linter.unusedSimpArgs false
namespace Go.Proofs.Ytpffjbbolaehpaa
open Go Go.AX

/-! ### A tree's nodes by their places -/
/-- How many nodes lie ahead of a place. -/
def nu (l : List Ev) (x : Nat) : Nat := (nodF l x 0).length
theorem nu_zero (l : List Ev) : nu l 0 = 0 := rfl
theorem nodF_one (l : List Ev) (x : Nat) : nodF l 1 x = if (l.getD x ev0).kind = 3 then [] else [(x : Int)] := by simp only [nodF]
theorem nu_succ (l : List Ev) (x : Nat) : nu l (x + 1) = nu l x + if (l.getD x ev0).kind = 3 then 0 else 1 := by
  unfold nu
  rw [nodF_add, Nat.zero_add, List.length_append, nodF_one]
  split <;> simp
theorem nu_open {l : List Ev} {x : Nat} (h : (l.getD x ev0).kind ≠ 3) : nu l (x + 1) = nu l x + 1 := by rw [nu_succ, if_neg h]
theorem nu_close {l : List Ev} {x : Nat} (h : (l.getD x ev0).kind = 3) : nu l (x + 1) = nu l x := by rw [nu_succ, if_pos h]; rfl
theorem nu_mono (l : List Ev) : ∀ {x y : Nat}, x ≤ y → nu l x ≤ nu l y := by
  intro x y h
  obtain ⟨d, rfl⟩ := Nat.exists_eq_add_of_le h
  induction d with
  | zero => exact Nat.le_refl _
  | succ d ih =>
    have := ih (by omega)
    have h2 := nu_succ l (x + d)
    have e : x + (d + 1) = x + d + 1 := rfl
    rw [e, h2]
    omega
theorem nu_lt {l : List Ev} {x y : Nat} (h : x < y) (hk : (l.getD x ev0).kind ≠ 3) : nu l x < nu l y := by
  have := nu_mono l (show x + 1 ≤ y from h)
  rw [nu_open hk] at this
  omega
theorem nu_inj {l : List Ev} {x y : Nat} (hx : (l.getD x ev0).kind ≠ 3) (hy : (l.getD y ev0).kind ≠ 3) (h : nu l x = nu l y) : x = y := by
  rcases Nat.lt_trichotomy x y with h1 | h1 | h1
  · have := nu_lt h1 hx; omega
  · exact h1
  · have := nu_lt h1 hy; omega
theorem nodJ_at {l : List Ev} {x : Nat} (h : x < l.length) (hk : (l.getD x ev0).kind ≠ 3) : nu l x < (nodJ l).length ∧ (nodJ l).getD (nu l x) 0 = x := by
  have e : nodJ l = nodF l x 0 ++ ((x : Int) :: nodF l (l.length - (x + 1)) (x + 1)) := by
    have e1 : l.length = x + ((l.length - (x + 1)) + 1) := by omega
    rw [nodJ]
    conv => lhs; rw [e1]
    rw [nodF_add, Nat.zero_add]
    congr 1
    simp only [nodF]
    rw [if_neg hk]
  rw [e]
  unfold nu
  refine ⟨by simp, ?_⟩
  rw [List.getD_eq_getElem?_getD, List.getElem?_append_right (Nat.le_refl _)]
  simp
theorem nodF_in (l : List Ev) : ∀ d i k, k < (nodF l d i).length → ∃ x, i ≤ x ∧ x < i + d ∧ (l.getD x ev0).kind ≠ 3 ∧ (nodF l d i).getD k 0 = x := by
  intro d
  induction d with
  | zero => intro i k h; simp [nodF] at h
  | succ d ih =>
    intro i k h
    simp only [nodF] at h ⊢
    split at h
    · rename_i hk
      rw [if_pos hk]
      obtain ⟨x, a, b, c, e⟩ := ih (i + 1) k h
      exact ⟨x, by omega, by omega, c, e⟩
    · rename_i hk
      rw [if_neg hk]
      cases k with
      | zero => exact ⟨i, by omega, by omega, hk, rfl⟩
      | succ k =>
        obtain ⟨x, a, b, c, e⟩ := ih (i + 1) k (by simpa using h)
        exact ⟨x, by omega, by omega, c, e⟩
theorem nodF_sorted (l : List Ev) : ∀ d i, (nodF l d i).Pairwise (· < ·) := by
  intro d
  induction d with
  | zero => intro i; simp [nodF]
  | succ d ih =>
    intro i
    simp only [nodF]
    split
    · exact ih (i + 1)
    · refine List.Pairwise.cons (fun y hy => ?_) (ih (i + 1))
      obtain ⟨k, hk, rfl⟩ := List.getElem_of_mem hy
      obtain ⟨x, a, b, c, e⟩ := nodF_in l d (i + 1) k hk
      rw [List.getD_eq_getElem?_getD, List.getElem?_eq_getElem hk] at e
      simp only [Option.getD_some] at e
      omega
theorem nodJ_in {l : List Ev} {k : Nat} (h : k < (nodJ l).length) : ∃ x, x < l.length ∧ (l.getD x ev0).kind ≠ 3 ∧ (nodJ l).getD k 0 = x ∧ nu l x = k := by
  obtain ⟨x, a, b, c, e⟩ := nodF_in l l.length 0 k h
  have hx : x < l.length := by omega
  obtain ⟨h1, h2⟩ := nodJ_at hx c
  refine ⟨x, hx, c, e, ?_⟩
  have hp := List.pairwise_iff_getElem.1 (nodF_sorted l l.length 0)
  have e1 : (nodJ l)[nu l x] = (x : Int) := by
    rw [List.getD_eq_getElem?_getD, List.getElem?_eq_getElem h1] at h2
    simpa using h2
  have e2 : (nodJ l)[k] = (x : Int) := by
    have : (nodJ l).getD k 0 = x := e
    rw [List.getD_eq_getElem?_getD, List.getElem?_eq_getElem h] at this
    simpa using this
  rcases Nat.lt_trichotomy (nu l x) k with h3 | h3 | h3
  · have := hp _ _ h1 h h3
    have h4 : (nodJ l)[nu l x] < (nodJ l)[k] := this
    omega
  · exact h3
  · have := hp _ _ h h1 h3
    have h4 : (nodJ l)[k] < (nodJ l)[nu l x] := this
    omega
/-- The number at a place; below 0: none. -/
def numV (l : List Ev) (x : Nat) : Int := if (l.getD x ev0).kind = 3 then -1 else nu l x
def fstV (l : List Ev) (x : Nat) : Int := if (l.getD x ev0).kind = 1 then numV l (x + 1) else -1
theorem numV_h1 {l : List Ev} {x : Nat} (k : Nat) (h : k < (nodJ l).length) (he : (nodJ l).getD k 0 = (x : Int)) : numV l x = k := by
  obtain ⟨y, a, b, c, d⟩ := nodJ_in h
  have : y = x := by omega
  subst this
  rw [numV, if_neg b, d]
theorem numV_h0 {l : List Ev} {x : Nat} (hx : x < l.length) (h : ∀ k, k < (nodJ l).length → (nodJ l).getD k 0 ≠ (x : Int)) : numV l x = -1 := by
  rw [numV]
  split
  · rfl
  · rename_i hk
    obtain ⟨a, b⟩ := nodJ_at hx hk
    exact absurd b (h _ a)
theorem getD_app_lt {α : Type} (a b : List α) (i : Nat) (d : α) (h : i < a.length) : (a ++ b).getD i d = a.getD i d := by
  rw [List.getD_eq_getElem?_getD, List.getElem?_append_left h, ← List.getD_eq_getElem?_getD]
theorem getD_app_at {α : Type} (a : List α) (x : α) (i : Nat) (d : α) (h : i = a.length) : (a ++ [x]).getD i d = x := by
  subst h
  rw [List.getD_eq_getElem?_getD, List.getElem?_append_right (Nat.le_refl _)]
  simp
theorem nod_kind {l : List Ev} {i : Nat} {t : Tr} {j : Nat} (h : Nod l i t j) : (l.getD i ev0).kind ≠ 3 := by
  cases h with
  | text h hk => omega
  | elem ks e h hk hks he hke => omega
theorem link_fst (S : Pln) (n a m : Nat) (la : Int) (k : Nat) (hn : n < S.fst.length) : (S.link n a la m).fst.getD k 0 = if k = n ∧ m = 0 then (a : Int) else S.fst.getD k 0 := by
  simp only [Pln.link]
  by_cases hm : m = 0
  · rw [if_pos hm, getD_set _ _ _ _ _ hn]
    simp [hm]
  · rw [if_neg hm, if_neg (fun h => hm h.2)]
theorem link_nxt (S : Pln) (n a m : Nat) (la : Nat) (k : Nat) (hn : m ≠ 0 → la < S.nxt.length) : (S.link n a la m).nxt.getD k 0 = if k = la ∧ m ≠ 0 then (a : Int) else S.nxt.getD k 0 := by
  simp only [Pln.link]
  by_cases hm : m = 0
  · rw [if_pos hm, if_neg (fun h => h.2 hm)]
  · rw [if_neg hm, Int.toNat_natCast, getD_set _ _ _ _ _ (hn hm)]
    simp [hm]
theorem link_nxt0 (S : Pln) (n a : Nat) (la : Int) : (S.link n a la 0).nxt = S.nxt := rfl
theorem link_tr (S : Pln) (n a m : Nat) (la : Int) : (S.link n a la m).tr = S.tr := rfl
/-- What a plan says of a node. -/
structure Says (l : List Ev) (S : Pln) (x : Nat) (t : Tr) (e : Nat) (nx : Int) : Prop where
  nod : Nod l x t e
  tr : S.tr.getD (nu l x) tr0 = t
  fst : S.fst.getD (nu l x) 0 = fstV l x
  nxt : S.nxt.getD (nu l x) 0 = nx
mutual
theorem visit_says {l : List Ev} {i j : Nat} (t : Tr) (h : Nod l i t j) (p : Int) (S : Pln) (hg : S.Good (nu l i)) :
    (visitS t p S).Good (nu l j) ∧
    (∀ k, k < nu l i → (visitS t p S).fst.getD k 0 = S.fst.getD k 0 ∧ (visitS t p S).nxt.getD k 0 = S.nxt.getD k 0 ∧ (visitS t p S).tr.getD k tr0 = S.tr.getD k tr0) ∧
    Says l (visitS t p S) i t j (-1) ∧
    ∀ x, i < x → x < j → (l.getD x ev0).kind ≠ 3 → ∃ t' e, e < j ∧ Says l (visitS t p S) x t' e (numV l e) := by
  match t, h with
  | _, .text i h hk =>
    have hk3 : (l.getD i ev0).kind ≠ 3 := by omega
    have hp := hg.push (.mk true (l.getD i ev0).text nm0 [] []) p
    simp only [visitS]
    refine ⟨by rw [nu_open hk3]; exact hp, fun k hk' => ?_, ⟨.text i h hk, ?_, ?_, ?_⟩, fun x h1 h2 => by omega⟩
    · simp only [Pln.push]
      exact ⟨getD_app_lt _ _ _ _ (by rw [hg.fst]; exact hk'), getD_app_lt _ _ _ _ (by rw [hg.nxt]; exact hk'), getD_app_lt _ _ _ _ (by rw [hg.tr]; exact hk')⟩
    · exact getD_app_at _ _ _ _ hg.tr.symm
    · rw [fstV, if_neg (by omega)]
      exact getD_app_at _ _ _ _ hg.fst.symm
    · exact getD_app_at _ _ _ _ hg.nxt.symm
  | .mk _ _ _ _ ks, .elem i _ e h hk hks he hke =>
    have hk3 : (l.getD i ev0).kind ≠ 3 := by omega
    have hp := hg.push (.mk false ⟨#[]⟩ (l.getD i ev0).nm (l.getD i ev0).attrs ks) p
    rw [← nu_open hk3] at hp
    have hlt : nu l i < nu l (i + 1) := by rw [nu_open hk3]; omega
    obtain ⟨g1, g2, g3⟩ := kids_says ks hks hke (nu l i) 0 (-1) _ hp hlt (fun h => absurd rfl h)
    simp only [visitS]
    rw [hg.tr]
    refine ⟨by rw [nu_close hke]; exact g1, fun k hk' => ?_, ⟨.elem i ks e h hk hks he hke, ?_, ?_, ?_⟩, fun x h1 h2 h3 => ?_⟩
    · obtain ⟨a, b, c⟩ := g2 k (by omega)
      rw [a, b, c, if_neg (by omega), if_neg (by simp)]
      simp only [Pln.push]
      exact ⟨getD_app_lt _ _ _ _ (by rw [hg.fst]; exact hk'), getD_app_lt _ _ _ _ (by rw [hg.nxt]; exact hk'), getD_app_lt _ _ _ _ (by rw [hg.tr]; exact hk')⟩
    · rw [(g2 (nu l i) hlt).2.2]
      exact getD_app_at _ _ _ _ hg.tr.symm
    · rw [(g2 (nu l i) hlt).1, fstV, if_pos hk, numV]
      cases hks with
      | nil =>
        rw [if_neg (by simp), if_pos hke]
        exact getD_app_at _ _ _ _ hg.fst.symm
      | cons _ t i1 r _ h1 h2 =>
        rw [if_pos (by simp), if_neg (nod_kind h1)]
    · rw [(g2 (nu l i) hlt).2.1, if_neg (by simp)]
      exact getD_app_at _ _ _ _ hg.nxt.symm
    · have hx : x ≠ e := fun hx => by subst hx; exact h3 hke
      obtain ⟨t', e', a, b⟩ := g3 x (by omega) (by omega) h3
      exact ⟨t', e', by omega, b⟩
theorem kids_says {l : List Ev} {i j : Nat} (r : List Tr) (h : Nods l i r j) (hj : (l.getD j ev0).kind = 3) (n m : Nat) (la : Int) (S : Pln) (hg : S.Good (nu l i)) (hn : n < nu l i) (hla : m ≠ 0 → ∃ b : Nat, la = b ∧ b < nu l i) :
    (kidsS r n m la S).Good (nu l j) ∧
    (∀ k, k < nu l i → (kidsS r n m la S).fst.getD k 0 = (if k = n ∧ m = 0 ∧ r ≠ [] then (nu l i : Int) else S.fst.getD k 0) ∧ (kidsS r n m la S).nxt.getD k 0 = (if (k : Int) = la ∧ m ≠ 0 ∧ r ≠ [] then (nu l i : Int) else S.nxt.getD k 0) ∧ (kidsS r n m la S).tr.getD k tr0 = S.tr.getD k tr0) ∧
    ∀ x, i ≤ x → x < j → (l.getD x ev0).kind ≠ 3 → ∃ t' e, e ≤ j ∧ Says l (kidsS r n m la S) x t' e (numV l e) := by
  match r, h with
  | [], .nil _ =>
    simp only [kidsS]
    exact ⟨hg, fun k hk => ⟨by simp, by simp, by simp⟩, fun x h1 h2 => by omega⟩
  | t :: r, .cons _ _ i1 _ _ h1 h2 =>
    have hk1 := nod_kind h1
    have l1 := nod_le h1
    have l2 := nods_le h2
    obtain ⟨g1, g2, g3, g4⟩ := visit_says t h1 n S hg
    have hS : S.tr.length = nu l i := hg.tr
    have hlt : nu l i < nu l i1 := nu_lt l1.1 hk1
    simp only [kidsS]
    rw [hS]
    have hL := g1.link n (nu l i) la m
    obtain ⟨q1, q2, q3⟩ := kids_says r h2 hj n (m + 1) (nu l i : Nat) _ hL (by omega) (fun _ => ⟨_, rfl, hlt⟩)
    have lnf : ∀ k, ((visitS t n S).link n (nu l i) la m).fst.getD k 0 = if k = n ∧ m = 0 then ((nu l i : Nat) : Int) else (visitS t n S).fst.getD k 0 := fun k => link_fst _ _ _ _ _ _ (by rw [g1.fst]; omega)
    have ln : ∀ k, ((visitS t n S).link n (nu l i) la m).nxt.getD k 0 = if (k : Int) = la ∧ m ≠ 0 then ((nu l i : Nat) : Int) else (visitS t n S).nxt.getD k 0 := by
      intro k
      by_cases hm : m = 0
      · subst hm
        rw [link_nxt0, if_neg (by simp)]
      · obtain ⟨b, rfl, hb⟩ := hla hm
        rw [link_nxt _ _ _ _ _ _ (fun _ => by rw [g1.nxt]; omega)]
        by_cases e : k = b
        · subst e; simp [hm]
        · rw [if_neg (fun h => e h.1), if_neg (fun h => e (by omega))]
    refine ⟨q1, fun k hk => ?_, fun x hx1 hx2 hx3 => ?_⟩
    · obtain ⟨a, b, c⟩ := q2 k (by omega)
      obtain ⟨a', b', c'⟩ := g2 k hk
      rw [if_neg (fun h => by omega), lnf, a'] at a
      rw [if_neg (fun h => by have := h.1; omega), ln, b'] at b
      rw [link_tr, c'] at c
      rw [a, b, c]
      simp
    · rcases Nat.lt_or_ge x i1 with hx4 | hx4
      · have hxl : nu l x < nu l i1 := nu_lt hx4 hx3
        have hxg : nu l i ≤ nu l x := nu_mono l hx1
        obtain ⟨a, b, c⟩ := q2 (nu l x) hxl
        have hx5 : ¬ (nu l x = n ∧ m = 0) := by omega
        have hx6 : ¬ (((nu l x : Nat) : Int) = la ∧ m ≠ 0) := fun h => by
          obtain ⟨b, h1, h2⟩ := hla h.2
          omega
        rw [if_neg (by simp), lnf, if_neg hx5] at a
        rw [ln, if_neg hx6] at b
        rw [link_tr] at c
        rcases Nat.eq_or_lt_of_le hx1 with hxi | hxi
        · subst hxi
          refine ⟨t, i1, l2, g3.nod, by rw [c]; exact g3.tr, by rw [a]; exact g3.fst, ?_⟩
          rw [b, g3.nxt, numV]
          cases h2 with
          | nil => rw [if_neg (by simp), if_pos hj]
          | cons _ t2 i2 r2 _ k1 k2 => rw [if_pos ⟨rfl, by simp, by simp⟩, if_neg (nod_kind k1)]
        · obtain ⟨t', e, he, hs⟩ := g4 x hxi hx4 hx3
          refine ⟨t', e, by omega, hs.nod, by rw [c]; exact hs.tr, by rw [a]; exact hs.fst, ?_⟩
          have hne := nu_lt hxi hk1
          rw [b, if_neg (fun h => by omega), hs.nxt]
      · exact q3 x hx4 hx2 hx3
end
/-- What the plan of a document's tree says of each node. -/
theorem doc_says {l : List Ev} (T : Tr) (hT : Nod l 0 T l.length) : (visitS T (-1) pln0).Good (nodJ l).length ∧ ∀ k, k < (nodJ l).length → ∃ x t e, x < l.length ∧ (nodJ l).getD k 0 = x ∧ nu l x = k ∧ (l.getD x ev0).kind ≠ 3 ∧ (x ≠ 0 → e < l.length) ∧ Says l (visitS T (-1) pln0) x t e (if k = 0 then -1 else numV l e) := by
  obtain ⟨g1, g2, g3, g4⟩ := visit_says T hT (-1) pln0 ⟨rfl, rfl, rfl, rfl, rfl⟩
  refine ⟨g1, fun k hk => ?_⟩
  obtain ⟨x, a, b, c, d⟩ := nodJ_in hk
  rcases Nat.eq_zero_or_pos x with h0 | h0
  · subst h0
    have hk0 : k = 0 := by rw [← d]; rfl
    exact ⟨0, T, l.length, a, c, d, b, fun h => absurd rfl h, by rw [if_pos hk0]; exact g3⟩
  · have hk0 : k ≠ 0 := by
      have := nu_lt h0 (nod_kind hT)
      rw [nu_zero] at this
      omega
    obtain ⟨t, e, he, hs⟩ := g4 x h0 a b
    exact ⟨x, t, e, a, c, d, b, fun _ => he, by rw [if_neg hk0]; exact hs⟩
end Go.Proofs.Ytpffjbbolaehpaa
end

section
set_option linter.unusedVariables false
set_option linter.unusedSimpArgs false
namespace Go.Proofs.Ytpffjbbolaehpaa
open Go Go.AX

/-! ### A path is a relation from one node -/
inductive Star (R : Nat → Nat → Prop) : Nat → Nat → Prop
  | refl (k : Nat) : Star R k k
  | step (k i j : Nat) (h : Star R k i) (h2 : R i j) : Star R k j
theorem Star.cl {R : Nat → Nat → Prop} {Q : Nat → Prop} (hQ : ∀ i j, Q i → R i j → Q j) {k j : Nat} (h : Star R k j) (h0 : Q k) : Q j := by
  induction h with
  | refl => exact h0
  | step i j h1 h2 ih => exact hQ i j ih h2
theorem Star.head {R : Nat → Nat → Prop} {i k j : Nat} (h7 : R i k) (h4 : Star R k j) : Star R i j := by
  induction h4 with
  | refl => exact .step _ _ _ (.refl _) h7
  | step i' j' h8 h9 ih2 => exact .step _ _ _ ih2 h9
def RlW (P : Pln) : List Flt → Nat → Prop
  | [], k => True
  | f :: _, k => holdsJ P f k = true
mutual
def Rl (P : Pln) : Pth → Nat → Nat → Prop
  | .mk op sub test, k, j =>
    if op = 1 then k = j
    else if op = 2 then P.fst.getD k 0 = j
    else if op = 3 then P.nxt.getD k 0 = j
    else if op = 4 then RlSeq P sub k j
    else if op = 5 then RlAlt P sub k j
    else if op = 6 then RlStar P sub k j
    else if op = 7 then k = j ∧ RlW P test k
    else False
def RlSeq (P : Pln) : List Pth → Nat → Nat → Prop
  | [], k, j => k = j
  | p :: r, k, j => ∃ i, Rl P p k i ∧ RlSeq P r i j
def RlAlt (P : Pln) : List Pth → Nat → Nat → Prop
  | [], k, j => False
  | p :: r, k, j => Rl P p k j ∨ RlAlt P r k j
def RlStar (P : Pln) : List Pth → Nat → Nat → Prop
  | [], k, j => k = j
  | p :: _, k, j => Star (Rl P p) k j
end
theorem Rl_eq (P : Pln) (p : Pth) (k j : Nat) : Rl P p k j = (if p.op = 1 then k = j
    else if p.op = 2 then P.fst.getD k 0 = j
    else if p.op = 3 then P.nxt.getD k 0 = j
    else if p.op = 4 then RlSeq P p.sub k j
    else if p.op = 5 then RlAlt P p.sub k j
    else if p.op = 6 then RlStar P p.sub k j
    else if p.op = 7 then k = j ∧ RlW P p.test k
    else False) := by cases p; rfl
theorem getD_out {α : Type} (l : List α) (i : Nat) (d : α) (h : l.length ≤ i) : l.getD i d = d := by
  rw [List.getD_eq_getElem?_getD, List.getElem?_eq_none h]; rfl
theorem lt_of_getD {S : List Bool} {k : Nat} (h : S.getD k false = true) : k < S.length := by
  rcases Nat.lt_or_ge k S.length with h1 | h1
  · exact h1
  · rw [getD_out _ _ _ h1] at h; cases h
theorem noneL_get (n k : Nat) : (noneL n).getD k false = false := by
  rcases Nat.lt_or_ge k n with h | h
  · simp [noneL, List.getD_eq_getElem?_getD, h]
  · exact getD_out _ _ _ (by rw [noneL_len]; exact h)
theorem orZ_iff (a b : List Bool) (h : a.length = b.length) (j : Nat) : (orZ a b).getD j false = true ↔ a.getD j false = true ∨ b.getD j false = true := by
  rcases Nat.lt_or_ge j a.length with h1 | h1
  · rw [orZ_get a b j h1 (by omega)]; simp
  · rw [getD_out (orZ a b) _ _ (by rw [orZ_len _ _ h]; omega), getD_out a _ _ h1, getD_out b _ _ (by omega)]; simp
theorem stepF_iff (to : List Int) (S : List Bool) (N : Nat) (hto : ∀ j, j < N → to.getD j 0 < N) (hS : S.length = N) : ∀ d i out, i + d = N → out.length = N → ∀ j, (stepF to S d i out).getD j false = true ↔ out.getD j false = true ∨ ∃ k, i ≤ k ∧ S.getD k false = true ∧ to.getD k 0 = (j : Int) := by
  intro d
  induction d with
  | zero =>
    intro i out h ho j
    simp only [stepF]
    refine ⟨fun h => .inl h, fun h => h.elim id fun ⟨k, h1, h2, h3⟩ => ?_⟩
    have := lt_of_getD h2
    omega
  | succ d ih =>
    intro i out h ho j
    simp only [stepF]
    have hi : i < N := by omega
    by_cases hc : S.getD i false = true ∧ 0 ≤ to.getD i 0
    · have hlt := hto i hi
      rw [if_pos (by simp only [hc.1, Bool.true_and]; exact decide_eq_true hc.2), ih (i + 1) _ (by omega) (by simp [ho]) j, getD_set _ _ _ _ _ (by omega)]
      constructor
      · rintro (h1 | ⟨k, h1, h2, h3⟩)
        · split at h1
          · exact .inr ⟨i, Nat.le_refl _, hc.1, by omega⟩
          · exact .inl h1
        · exact .inr ⟨k, by omega, h2, h3⟩
      · rintro (h1 | ⟨k, h1, h2, h3⟩)
        · left; split
          · rfl
          · exact h1
        · rcases Nat.eq_or_lt_of_le h1 with h4 | h4
          · left; subst h4; rw [if_pos (by omega)]
          · exact .inr ⟨k, h4, h2, h3⟩
    · rw [if_neg (by simp only [Bool.and_eq_true, decide_eq_true_eq]; exact hc), ih (i + 1) _ (by omega) ho j]
      constructor
      · rintro (h1 | ⟨k, h1, h2, h3⟩)
        · exact .inl h1
        · exact .inr ⟨k, by omega, h2, h3⟩
      · rintro (h1 | ⟨k, h1, h2, h3⟩)
        · exact .inl h1
        · rcases Nat.eq_or_lt_of_le h1 with h4 | h4
          · exfalso; subst h4; exact hc ⟨h2, by omega⟩
          · exact .inr ⟨k, h4, h2, h3⟩
theorem starF_iff (f : List Bool → List Bool) (N : Nat) (hl : ∀ s, s.length = N → (f s).length = N) (R : Nat → Nat → Prop) (hf : ∀ s, s.length = N → ∀ j, (f s).getD j false = true ↔ ∃ k, s.getD k false = true ∧ R k j) : ∀ d s, s.length = N → cntF s < d → ∀ j, (starF f d s).getD j false = true ↔ ∃ k, s.getD k false = true ∧ Star R k j := by
  intro d
  induction d with
  | zero => intro s hs h; omega
  | succ d ih =>
    intro s hs h j
    have hle := hl s hs
    simp only [starF]
    split
    · rename_i he
      refine ⟨fun h1 => ⟨j, h1, .refl _⟩, fun ⟨k, h1, h2⟩ => ?_⟩
      refine h2.cl (Q := fun k => s.getD k false = true) (fun i j h5 h4 => ?_) h1
      have h6 : (orZ s (f s)).getD j false = true := (orZ_iff _ _ (by omega) j).2 (.inr ((hf s hs j).2 ⟨i, h5, h4⟩))
      rwa [he] at h6
    · rename_i hne
      have h2 := (cntF_or s (f s) (by omega)).2 hne
      rw [ih _ (by rw [orZ_len _ _ (by omega), hle]) (by omega) j]
      constructor
      · rintro ⟨k, h3, h4⟩
        rcases (orZ_iff _ _ (by omega) k).1 h3 with h5 | h5
        · exact ⟨k, h5, h4⟩
        · obtain ⟨i, h6, h7⟩ := (hf s hs k).1 h5
          exact ⟨i, h6, Star.head h7 h4⟩
      · rintro ⟨k, h3, h4⟩
        exact ⟨k, (orZ_iff _ _ (by omega) k).2 (.inl h3), h4⟩
mutual
theorem leads_iff (P : Pln) (N : Nat) (hP : PW P N) (p : Pth) (S : List Bool) (hS : S.length = N) (j : Nat) : (leadsJ P p S).getD j false = true ↔ ∃ k, S.getD k false = true ∧ Rl P p k j := by
  match p with
  | .mk op sub test =>
    simp only [leadsJ, Rl]
    by_cases h1 : op = 1
    · simp only [if_pos h1]
      exact ⟨fun h => ⟨j, h, rfl⟩, fun ⟨k, h, e⟩ => e ▸ h⟩
    simp only [if_neg h1]
    by_cases h2 : op = 2
    · simp only [if_pos h2]
      rw [stepF_iff P.fst S N hP.fok hS _ 0 _ (by omega) (by rw [noneL_len, hS]), noneL_get]
      simp
    simp only [if_neg h2]
    by_cases h3 : op = 3
    · simp only [if_pos h3]
      rw [stepF_iff P.nxt S N hP.nok hS _ 0 _ (by omega) (by rw [noneL_len, hS]), noneL_get]
      simp
    simp only [if_neg h3]
    by_cases h4 : op = 4
    · simp only [if_pos h4]
      exact seq_iff P N hP sub S hS j
    simp only [if_neg h4]
    by_cases h5 : op = 5
    · simp only [if_pos h5]
      rw [alt_iff P N hP sub S _ hS (by rw [noneL_len, hS]) j, noneL_get]
      simp
    simp only [if_neg h5]
    by_cases h6 : op = 6
    · simp only [if_pos h6]
      exact star_iff P N hP sub S hS j
    simp only [if_neg h6]
    by_cases h7 : op = 7
    · simp only [if_pos h7]
      cases test with
      | nil => simp only [whereJ, RlW]; exact ⟨fun h => ⟨j, h, rfl, trivial⟩, fun ⟨k, h, e, _⟩ => e ▸ h⟩
      | cons f r =>
        simp only [whereJ, RlW]
        rcases Nat.lt_or_ge j S.length with hj | hj
        · rw [whereF_get _ _ _ hj, Bool.and_eq_true]
          exact ⟨fun h => ⟨j, h.1, rfl, h.2⟩, fun ⟨k, h, e, g⟩ => by subst e; exact ⟨h, g⟩⟩
        · rw [getD_out _ _ _ (by rw [whereF_len]; exact hj)]
          exact ⟨fun h => Bool.noConfusion h, fun ⟨k, h, e, g⟩ => absurd (lt_of_getD h) (by omega)⟩
    · simp only [if_neg h7, noneL_get]
      simp
theorem seq_iff (P : Pln) (N : Nat) (hP : PW P N) (r : List Pth) (S : List Bool) (hS : S.length = N) (j : Nat) : (seqJ P r S).getD j false = true ↔ ∃ k, S.getD k false = true ∧ RlSeq P r k j := by
  match r with
  | [] => simp only [seqJ, RlSeq]; exact ⟨fun h => ⟨j, h, rfl⟩, fun ⟨k, h, e⟩ => e ▸ h⟩
  | p :: r =>
    simp only [seqJ, RlSeq]
    rw [seq_iff P N hP r _ (leads_len P N p S hS) j]
    constructor
    · rintro ⟨k, h1, h2⟩
      obtain ⟨i, h3, h4⟩ := (leads_iff P N hP p S hS k).1 h1
      exact ⟨i, h3, k, h4, h2⟩
    · rintro ⟨k, h1, i, h2, h3⟩
      exact ⟨i, (leads_iff P N hP p S hS i).2 ⟨k, h1, h2⟩, h3⟩
theorem alt_iff (P : Pln) (N : Nat) (hP : PW P N) (r : List Pth) (S out : List Bool) (hS : S.length = N) (ho : out.length = N) (j : Nat) : (altJ P r S out).getD j false = true ↔ out.getD j false = true ∨ ∃ k, S.getD k false = true ∧ RlAlt P r k j := by
  match r with
  | [] => simp [altJ, RlAlt]
  | p :: r =>
    have hle := leads_len P N p S hS
    simp only [altJ, RlAlt]
    rw [alt_iff P N hP r S _ hS (by rw [orZ_len _ _ (by omega), hle]) j, orZ_iff _ _ (by omega), leads_iff P N hP p S hS j]
    constructor
    · rintro ((h | ⟨k, h1, h2⟩) | ⟨k, h1, h2⟩)
      · exact .inl h
      · exact .inr ⟨k, h1, .inl h2⟩
      · exact .inr ⟨k, h1, .inr h2⟩
    · rintro (h | ⟨k, h1, h2 | h2⟩)
      · exact .inl (.inl h)
      · exact .inl (.inr ⟨k, h1, h2⟩)
      · exact .inr ⟨k, h1, h2⟩
theorem star_iff (P : Pln) (N : Nat) (hP : PW P N) (r : List Pth) (S : List Bool) (hS : S.length = N) (j : Nat) : (starJ P r S).getD j false = true ↔ ∃ k, S.getD k false = true ∧ RlStar P r k j := by
  match r with
  | [] => simp only [starJ, RlStar]; exact ⟨fun h => ⟨j, h, rfl⟩, fun ⟨k, h, e⟩ => e ▸ h⟩
  | p :: r =>
    simp only [starJ, RlStar]
    exact starF_iff (leadsJ P p) N (fun s hs => leads_len P N p s hs) (Rl P p) (fun s hs j => leads_iff P N hP p s hs j) _ S hS (Nat.lt_succ_of_le (cntF_le S)) j
end
/-! ### Lists of nodes -/
structure LS (N : Nat) (Q : Nat → Prop) (a : List Int) : Prop where
  mem : ∀ v : Int, v ∈ a ↔ ∃ k : Nat, v = k ∧ k < N ∧ Q k
  nd : a.Nodup
theorem nodup_le : ∀ (N : Nat) (a : List Int), a.Nodup → (∀ v ∈ a, 0 ≤ v ∧ v < N) → a.length ≤ N := by
  intro N
  induction N with
  | zero =>
    intro a _ h
    cases a with
    | nil => exact Nat.le_refl _
    | cons x r => have := h x List.mem_cons_self; omega
  | succ N ih =>
    intro a hn h
    by_cases hm : (N : Int) ∈ a
    · have h1 := ih (a.erase N) (hn.erase _) fun v hv => by
        have := (hn.mem_erase_iff).1 hv
        have h2 := h v this.2
        have h3 := this.1
        omega
      rw [List.length_erase_of_mem hm] at h1
      omega
    · have h1 := ih a hn fun v hv => by
        have h2 := h v hv
        have h3 : v ≠ N := fun e => hm (e ▸ hv)
        omega
      omega
theorem LS.le {N : Nat} {Q : Nat → Prop} {a : List Int} (h : LS N Q a) : a.length ≤ N :=
  nodup_le N a h.nd fun v hv => by
    obtain ⟨k, rfl, hk, _⟩ := (h.mem v).1 hv
    omega
theorem LS.congr {N : Nat} {Q Q' : Nat → Prop} {a : List Int} (h : LS N Q a) (e : ∀ k, k < N → (Q k ↔ Q' k)) : LS N Q' a :=
  ⟨fun v => by
    rw [h.mem]
    exact ⟨fun ⟨k, h1, h2, h3⟩ => ⟨k, h1, h2, (e k h2).1 h3⟩, fun ⟨k, h1, h2, h3⟩ => ⟨k, h1, h2, (e k h2).2 h3⟩⟩, h.nd⟩
theorem LS.at {N : Nat} {Q : Nat → Prop} {a : List Int} (h : LS N Q a) {i : Nat} (hi : i < a.length) : ∃ k : Nat, a.getD i 0 = k ∧ k < N ∧ Q k := (h.mem _).1 (getD_mem a i 0 hi)
theorem LS.one {N : Nat} {k : Nat} (h : k < N) : LS N (fun j => j = k) [(k : Int)] :=
  ⟨fun v => by
    simp only [List.mem_singleton]
    exact ⟨fun e => ⟨k, e, h, rfl⟩, fun ⟨j, e, _, e2⟩ => by rw [e, e2]⟩, by simp⟩
theorem LS.nil {N : Nat} : LS N (fun _ => False) [] := ⟨fun v => by simp, by simp⟩
/-- What is not there yet is added. -/
def addA (out : List Int) : List Int → List Int
  | [] => out
  | v :: m => if v ∈ out then addA out m else addA (out ++ [v]) m
theorem addA_pre : ∀ (m out : List Int), ∃ r, addA out m = out ++ r := by
  intro m
  induction m with
  | nil => exact fun out => ⟨[], by simp [addA]⟩
  | cons v m ih =>
    intro out
    simp only [addA]
    split
    · exact ih out
    · obtain ⟨r, h⟩ := ih (out ++ [v])
      exact ⟨[v] ++ r, by rw [h, List.append_assoc]⟩
theorem addA_mem : ∀ (m out : List Int) (v : Int), v ∈ addA out m ↔ v ∈ out ∨ v ∈ m := by
  intro m
  induction m with
  | nil => intro out v; simp [addA]
  | cons w m ih =>
    intro out v
    simp only [addA]
    split
    · rename_i hw
      rw [ih, List.mem_cons]
      exact ⟨fun h => h.elim .inl fun h => .inr (.inr h), fun h => h.elim .inl fun h => h.elim (fun e => .inl (e ▸ hw)) .inr⟩
    · rw [ih, List.mem_append, List.mem_singleton, List.mem_cons]
      exact or_assoc
theorem addA_nd : ∀ (m out : List Int), out.Nodup → (addA out m).Nodup := by
  intro m
  induction m with
  | nil => intro out h; simpa [addA] using h
  | cons w m ih =>
    intro out h
    simp only [addA]
    split
    · exact ih out h
    · rename_i hw
      refine ih _ (List.nodup_append.2 ⟨h, by simp, fun a ha b hb => ?_⟩)
      rw [List.mem_singleton] at hb
      intro e
      exact hw (hb ▸ e ▸ ha)
theorem LS.add {N : Nat} {Q Q' : Nat → Prop} {out m : List Int} (h : LS N Q out) (h' : LS N Q' m) : LS N (fun k => Q k ∨ Q' k) (addA out m) :=
  ⟨fun v => by
    rw [addA_mem, h.mem, h'.mem]
    constructor
    · rintro (⟨k, a, b, c⟩ | ⟨k, a, b, c⟩)
      · exact ⟨k, a, b, .inl c⟩
      · exact ⟨k, a, b, .inr c⟩
    · rintro ⟨k, a, b, c | c⟩
      · exact .inl ⟨k, a, b, c⟩
      · exact .inr ⟨k, a, b, c⟩, addA_nd m out h.nd⟩
/-- A step from each of a list's nodes. -/
def stepA (g : Int → List Int) (a : List Int) : List Int := a.flatMap g
theorem LS.step {N : Nat} {Q : Nat → Prop} {a : List Int} (h : LS N Q a) (to : Nat → Int) (g : Int → List Int) (hg : ∀ k : Nat, k < N → g k = if 0 ≤ to k then [to k] else []) (hr : ∀ k, k < N → to k < N) (hi : ∀ k k', k < N → k' < N → 0 ≤ to k → to k = to k' → k = k') : LS N (fun j => ∃ k, k < N ∧ Q k ∧ to k = j) (stepA g a) := by
  constructor
  · intro v
    unfold stepA
    rw [List.mem_flatMap]
    constructor
    · rintro ⟨w, h1, h2⟩
      obtain ⟨k, rfl, h3, h4⟩ := (h.mem w).1 h1
      rw [hg k h3] at h2
      split at h2
      · rename_i h5
        rw [List.mem_singleton] at h2
        have := hr k h3
        refine ⟨(to k).toNat, by omega, by omega, k, h3, h4, by omega⟩
      · simp at h2
    · rintro ⟨j, rfl, h1, k, h2, h3, h4⟩
      refine ⟨k, (h.mem _).2 ⟨k, rfl, h2, h3⟩, ?_⟩
      rw [hg k h2, if_pos (by omega), h4]
      simp
  · have key : ∀ l : List Int, l.Nodup → (∀ v ∈ l, ∃ k : Nat, v = k ∧ k < N) → (l.flatMap g).Nodup := by
      intro l
      induction l with
      | nil => intro _ _; simp
      | cons x r ih =>
        intro hn hm
        obtain ⟨hx, hr'⟩ := List.nodup_cons.1 hn
        rw [List.flatMap_cons]
        obtain ⟨k, rfl, hk⟩ := hm x List.mem_cons_self
        refine List.nodup_append.2 ⟨?_, ih hr' fun v hv => hm v (List.mem_cons_of_mem _ hv), fun a ha b hb e => ?_⟩
        · rw [hg k hk]; split <;> simp
        · subst e
          rw [List.mem_flatMap] at hb
          obtain ⟨w, h1, h2⟩ := hb
          obtain ⟨k', rfl, hk'⟩ := hm w (List.mem_cons_of_mem _ h1)
          rw [hg k hk] at ha
          rw [hg k' hk'] at h2
          split at ha
          · split at h2
            · rw [List.mem_singleton] at ha h2
              have := hi k k' hk hk' (by assumption) (by rw [← ha, h2])
              subst this
              exact hx h1
            · simp at h2
          · simp at ha
    exact key a h.nd fun v hv => by
      obtain ⟨k, e, hk, _⟩ := (h.mem v).1 hv
      exact ⟨k, e, hk⟩
end Go.Proofs.Ytpffjbbolaehpaa
end
