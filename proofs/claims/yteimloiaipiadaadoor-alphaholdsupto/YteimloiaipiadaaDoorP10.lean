import Derived.Test.YteimloiaipiadaaDoorP9
section
set_option linter.unusedVariables false
set_option linter.unusedSimpArgs false
set_option maxRecDepth 100000
namespace Go.Proofs.YteimloiaipiadaaDoor
open Go Go.AX

/-! ### A path's machine -/
structure Pg where
  st : Int
  s : Int
  e : Int
  edges : List (Int × Int × Int × Int)
  tests : List Flt
/-- A machine, and a part's start and end. -/
structure Pt where
  m : Pg
  s : Int
  e : Int
def edC (x : Int × Int × Int × Int) : List AV := [.int .i64 x.1, .int .i64 x.2.1, .int .i64 x.2.2.1, .int .i64 x.2.2.2]
def edgC (l : List (Int × Int × Int × Int)) : List AV := l.flatMap edC
theorem edgC_len (l : List (Int × Int × Int × Int)) : (edgC l).length = l.length * 4 := flat_len (k := 4) (f := edC) (fun _ => rfl) l
theorem edgC_app (l : List (Int × Int × Int × Int)) (a b c d : Int) : edgC (l ++ [(a, b, c, d)]) = edgC l ++ [.int .i64 a, .int .i64 b, .int .i64 c, .int .i64 d] := by simp [edgC, edC]
def pgC (m : Pg) : List AV := [.int .i64 m.st, .int .i64 m.s, .int .i64 m.e, .sl none m.edges.length (edgC m.edges) .no, .sl none m.tests.length (fltsC m.tests) .no]
def ptC (x : Pt) : List AV := pgC x.m ++ [.int .i64 x.s, .int .i64 x.e]
def addE (m : Pg) (a b c d : Int) : Pg := ⟨m.st, m.s, m.e, m.edges ++ [(a, b, c, d)], m.tests⟩
def incS (m : Pg) (k : Int) : Pg := ⟨m.st + k, m.s, m.e, m.edges, m.tests⟩
def addT (m : Pg) (f : Flt) : Pg := ⟨m.st, m.s, m.e, m.edges, m.tests ++ [f]⟩
def zpt : List AV := [.int .i64 0, .int .i64 0, .int .i64 0, .sl (some true) 0 [] .clip, .sl (some true) 0 [] .clip, .int .i64 0, .int .i64 0]
def intsC (l : List Int) : List AV := l.map (.int .i64)
theorem ints_len (l : List Int) : (intsC l).length = l.length := by simp [intsC]
theorem intsC_app (l : List Int) (x : Int) : intsC (l ++ [x]) = intsC l ++ [.int .i64 x] := by simp [intsC]
theorem ints_nth (l : List Int) (i : Nat) (hi : i < l.length) : (intsC l)[i]? = some (.int .i64 (l.getD i 0)) := by simp [intsC, List.getD_eq_getElem?_getD, hi]
theorem flts_app (l : List Flt) (f : Flt) : fltsC (l ++ [f]) = fltsC l ++ fltL f := by rw [fltsC_eq, fltsC_eq]; simp [fltC_L]
def stA4 (p : Pth) (m : Pg) (x : Pt) (n s0 : Int) (i : Nat) : AS := ⟨[(3, .ptr 3 0), (4, .ptr 4 0), (6, .ptr 6 0), (7, .int .i64 s0), (8, .int .i64 i)], [(2, .var true (pgC m)), (3, .var true (pthL p)), (4, .var true zpt), (6, .var true (ptC x))], []⟩
def stA5 (p : Pth) (m : Pg) (n : Int) (ends : List Int) (i : Nat) : AS := ⟨[(2, .ptr 2 0), (3, .ptr 3 0), (4, .ptr 4 0), (5, .int .i64 n), (10, .sl none ends.length (intsC ends) (.own 3)), (11, .int .i64 i)], [(2, .var true (pgC m)), (3, .var true (pthL p)), (4, .var true zpt)], [(3, ⟨ends.length, 3, 1, none⟩)]⟩
def stA6 (p : Pth) (m : Pg) (n en : Int) (ends : List Int) (i : Nat) : AS := ⟨[(2, .ptr 2 0), (4, .ptr 4 0), (5, .int .i64 n), (10, .sl none ends.length (intsC ends) (.own 3)), (13, .int .i64 en), (14, .int .i64 i)], [(2, .var true (pgC m)), (3, .var true (pthL p)), (4, .var true zpt)], [(3, ⟨ends.length, 3, 1, none⟩)]⟩

theorem edge_ctr (m : Pg) (a b c d : Int) (he : m.edges.length ≤ 1000000) : Ctr Tryd.prog 72 [.agg (pgC m), .int .i64 a, .int .i64 b, .int .i64 c, .int .i64 d] (.agg (pgC (addE m a b c d))) :=
  Ctr.mk Γ_ok Tryd.func72 (by kernel_rfl) Tryd.call72 [] (by kernel_rfl) (HT.walk Γ_ok mo_ok (⟨[], sp72, [], [], .pure [] (.agg (pgC (addE m a b c d)))⟩ : Wk) 4000 (T := .ob ((repL (List.map zn [AV.int .i64 (0 : Int), AV.int .i64 (0 : Int), AV.int .i64 (0 : Int), AV.int .i64 (0 : Int)]) (0 : Nat)).length = (0 : Nat) * ((3 : Nat) + (1 : Nat)) ∧ (edgC m.edges).length = m.edges.length * ((3 : Nat) + (1 : Nat)) ∧ ((0 : Nat) + m.edges.length) * ((31 : Nat) + (1 : Nat)) ≤ (140737488355328 : Nat)) (.ob ((0 : Nat) + m.edges.length = (0 : Nat) + m.edges.length) (.ob ((repL (List.map zn [AV.int .i64 (0 : Int), AV.int .i64 (0 : Int), AV.int .i64 (0 : Int), AV.int .i64 (0 : Int)]) (0 : Nat) ++ edgC m.edges).length = ((0 : Nat) + m.edges.length) * ((3 : Nat) + (1 : Nat)) ∧ (splice (repL (List.map zn [AV.int .i64 (0 : Int), AV.int .i64 (0 : Int), AV.int .i64 (0 : Int), AV.int .i64 (0 : Int)]) (1 : Nat)) ((0 : Nat) * (4 : Nat)) (cellsOf (AV.agg [AV.int .i64 a, AV.int .i64 b, AV.int .i64 c, AV.int .i64 d]))).length = (1 : Nat) * ((3 : Nat) + (1 : Nat)) ∧ ((0 : Nat) + m.edges.length + (1 : Nat)) * ((31 : Nat) + (1 : Nat)) ≤ (140737488355328 : Nat)) (.ob ((5 : Nat) ≤ (5 : Nat)) (.ob (m.st = (addE m a b c d).st) (.ob (m.s = (addE m a b c d).s) (.ob (m.e = (addE m a b c d).e) (.ob ((0 : Nat) + m.edges.length + (1 : Nat) = (addE m a b c d).edges.length) (.ob (repL (List.map zn [AV.int .i64 (0 : Int), AV.int .i64 (0 : Int), AV.int .i64 (0 : Int), AV.int .i64 (0 : Int)]) (0 : Nat) ++ edgC m.edges ++ splice (repL (List.map zn [AV.int .i64 (0 : Int), AV.int .i64 (0 : Int), AV.int .i64 (0 : Int), AV.int .i64 (0 : Int)]) (1 : Nat)) ((0 : Nat) * (4 : Nat)) (cellsOf (AV.agg [AV.int .i64 a, AV.int .i64 b, AV.int .i64 c, AV.int .i64 d])) = edgC (addE m a b c d).edges) (.ob (m.tests.length = (addE m a b c d).tests.length) (.ob (fltsC m.tests = fltsC (addE m a b c d).tests) (.tt)))))))))))) (by kernel_rfl) (by
    simp only [PT.holds, true_implies, Bool.false_eq_true, Bool.true_eq_false, false_implies, true_and, and_true, repL0, List.nil_append, Nat.zero_add, Int.toNat_natCast, Int.toNat_zero, Nat.zero_mul]
    repeat' (with_reducible apply And.intro)
    all_goals first | omega | rfl | exact edgC_len _ | (simp only [addE, edgC_app]; rfl) | (simp [addE]; done)))
theorem ad4_p (p : Pth) (m : Pg) (R : Pt) (hs : p.sub.length ≤ 1048600) (x : Pt) (ho : p.op = 4) (hi : 0 < p.sub.length) (c59 : Ctr Tryd.prog 59 [.agg (pgC m), .agg (pthL (p.sub.getD 0 pth0))] (.agg (ptC x))) (k : HT Tryd.prog Tryd.f59.ntmps (pt Tryd.f59 0) (stA4 p m x m.st x.s 1) (EndsA Γ (.pure [] (.agg (ptC R))) Tryd.f59)) : Ctr Tryd.prog 59 [.agg (pgC m), .agg (pthL p)] (.agg (ptC R)) :=
  Ctr.mk Γ_ok Tryd.func59 (by kernel_rfl) Tryd.call59 [] (by kernel_rfl) (HT.walk Γ_ok mo_ok (⟨[(22, .val (.bool true)), (27, .val (.agg (pthL (p.sub.getD 0 pth0)))), (28, .call [] (.agg (ptC x)))], [], hd59 [(10, 3, 3, 1)] [] [] [], [], .pure [] (.agg (ptC R))⟩ : Wk) 4000 (T := .ob (decide (p.op = (4 : Int)) = true) (.ob ((5 : Nat) ≤ (5 : Nat)) (.ob ((0 : Int) ≤ (0 : Int) ∧ (0 : Int) < (↑p.sub.length : Int) ∧ Int.toNat (0 : Int) * (3 : Nat) < (pthsC p.sub).length) (.ob (List.take (3 : Nat) (List.drop (Int.toNat (0 : Int) * (3 : Nat)) (pthsC p.sub)) = (pthL (p.sub.getD (0 : Nat) pth0))) (.ob (Ctr Tryd.prog 59 [AV.agg [AV.int .i64 m.st, AV.int .i64 m.s, AV.int .i64 m.e, AV.sl none m.edges.length (edgC m.edges) .no, AV.sl none m.tests.length (fltsC m.tests) .no], AV.agg (pthL (p.sub.getD (0 : Nat) pth0))] (AV.agg [AV.int .i64 x.m.st, AV.int .i64 x.m.s, AV.int .i64 x.m.e, AV.sl none x.m.edges.length (edgC x.m.edges) .no, AV.sl none x.m.tests.length (fltsC x.m.tests) .no, AV.int .i64 x.s, AV.int .i64 x.e])) (.head (pt Tryd.f59 0) ({ tmps := [(3, AV.ptr 3 0), (4, AV.ptr 4 0), (6, AV.ptr 6 0), (7, AV.int .i64 x.s), (8, AV.int .i64 (1 : Int))], heap := [(2, .var true [AV.int .i64 m.st, AV.int .i64 m.s, AV.int .i64 m.e, AV.sl none m.edges.length (edgC m.edges) .no, AV.sl none m.tests.length (fltsC m.tests) .no]), (3, .var true (pthL p)), (4, .var true [AV.int .i64 (0 : Int), AV.int .i64 (0 : Int), AV.int .i64 (0 : Int), AV.sl (some true) (0 : Nat) [] .clip, AV.sl (some true) (0 : Nat) [] .clip, AV.int .i64 (0 : Int), AV.int .i64 (0 : Int)]), (6, .var true [AV.int .i64 x.m.st, AV.int .i64 x.m.s, AV.int .i64 x.m.e, AV.sl none x.m.edges.length (edgC x.m.edges) .no, AV.sl none x.m.tests.length (fltsC x.m.tests) .no, AV.int .i64 x.s, AV.int .i64 x.e])], tags := [] }))))))) (by kernel_rfl) (by
    simp only [PT.holds, true_implies, Bool.false_eq_true, Bool.true_eq_false, false_implies, true_and, and_true, repL0, List.nil_append, Nat.zero_add, Int.toNat_natCast, Int.toNat_zero, Nat.zero_mul]
    repeat' (with_reducible apply And.intro)
    all_goals first | assumption | omega | exact decide_eq_true (by omega) | ((try simp only [Nat.add_assoc, Nat.reduceAdd, Nat.add_zero]) <;> first | (rw [ats_take _ _ _ _ hi (by decide)]; rfl) | (rw [ats_nth _ _ _ hi (by decide)]; rfl) | (rw [pths_take _ _ _ _ hi (by decide)]; rfl) | (rw [pths_nth _ _ _ hi (by decide)]; rfl) | (rw [flts_take _ _ _ _ hi (by decide)]; rfl) | (rw [flts_nth _ _ _ hi (by decide)]; rfl) | (rw [ats_take0 _ _ _ hi (by decide)]; rfl) | (rw [ats_nth0 _ _ hi]; rfl) | (rw [pths_take0 _ _ _ hi (by decide)]; rfl) | (rw [pths_nth0 _ _ hi]; rfl) | (rw [flts_take0 _ _ _ hi (by decide)]; rfl) | (rw [flts_nth0 _ _ hi]; rfl)) | (simp only [pthsC_len]; omega)))
theorem ad4_h (p : Pth) (m : Pg) (R : Pt) (hs : p.sub.length ≤ 1048600) (x y : Pt) (n s0 : Int) (i : Nat) (hi : i < p.sub.length) (he : y.m.edges.length ≤ 1000000) (c59 : Ctr Tryd.prog 59 [.agg (pgC x.m), .agg (pthL (p.sub.getD i pth0))] (.agg (ptC y))) (k : HT Tryd.prog Tryd.f59.ntmps (pt Tryd.f59 0) (stA4 p m ⟨addE y.m x.e y.s 0 0, s0, y.e⟩ n s0 (i + 1)) (EndsA Γ (.pure [] (.agg (ptC R))) Tryd.f59)) : HT Tryd.prog Tryd.f59.ntmps (pt Tryd.f59 0) (stA4 p m x n s0 i) (EndsA Γ (.pure [] (.agg (ptC R))) Tryd.f59) :=
  HT.walk Γ_ok mo_ok (⟨[(35, .val (.bool true)), (44, .val (.agg (pthL (p.sub.getD i pth0)))), (45, .call [] (.agg (ptC y))), (52, .call [] (.agg (pgC (addE y.m x.e y.s 0 0))))], [], hd59 [(10, 3, 3, 1)] [] [] [], [], .pure [] (.agg (ptC R))⟩ : Wk) 4000 (T := .ob (decide ((↑i : Int) < (↑p.sub.length : Int)) = true) (.ob ((5 : Nat) ≤ (7 : Nat)) (.ob ((0 : Int) ≤ (↑i : Int) ∧ (↑i : Int) < (↑p.sub.length : Int) ∧ (↑i : Int).toNat * (3 : Nat) < (pthsC p.sub).length) (.ob (List.take (3 : Nat) (List.drop ((↑i : Int).toNat * (3 : Nat)) (pthsC p.sub)) = (pthL (p.sub.getD i pth0))) (.ob (Ctr Tryd.prog 59 [AV.agg [AV.int .i64 x.m.st, AV.int .i64 x.m.s, AV.int .i64 x.m.e, AV.sl none x.m.edges.length (edgC x.m.edges) .no, AV.sl none x.m.tests.length (fltsC x.m.tests) .no], AV.agg (pthL (p.sub.getD i pth0))] (AV.agg [AV.int .i64 y.m.st, AV.int .i64 y.m.s, AV.int .i64 y.m.e, AV.sl none y.m.edges.length (edgC y.m.edges) .no, AV.sl none y.m.tests.length (fltsC y.m.tests) .no, AV.int .i64 y.s, AV.int .i64 y.e])) (.ob ((5 : Nat) ≤ (7 : Nat)) (.ob (Ctr Tryd.prog 72 [AV.agg [AV.int .i64 y.m.st, AV.int .i64 y.m.s, AV.int .i64 y.m.e, AV.sl none y.m.edges.length (edgC y.m.edges) .no, AV.sl none y.m.tests.length (fltsC y.m.tests) .no], AV.int .i64 x.e, AV.int .i64 y.s, AV.int .i64 (0 : Int), AV.int .i64 (0 : Int)] (AV.agg [AV.int .i64 (addE y.m x.e y.s (0 : Int) (0 : Int)).st, AV.int .i64 (addE y.m x.e y.s (0 : Int) (0 : Int)).s, AV.int .i64 (addE y.m x.e y.s (0 : Int) (0 : Int)).e, AV.sl none (addE y.m x.e y.s (0 : Int) (0 : Int)).edges.length (edgC (addE y.m x.e y.s (0 : Int) (0 : Int)).edges) .no, AV.sl none (addE y.m x.e y.s (0 : Int) (0 : Int)).tests.length (fltsC (addE y.m x.e y.s (0 : Int) (0 : Int)).tests) .no])) (.head (pt Tryd.f59 0) ({ tmps := [(3, AV.ptr 3 0), (4, AV.ptr 4 0), (6, AV.ptr 6 0), (7, AV.int .i64 s0), (8, AV.int .i64 (IntKind.i64.wrap ((↑i : Int) + (1 : Int))))], heap := [(2, .var true [AV.int .i64 m.st, AV.int .i64 m.s, AV.int .i64 m.e, AV.sl none m.edges.length (edgC m.edges) .no, AV.sl none m.tests.length (fltsC m.tests) .no]), (3, .var true (pthL p)), (4, .var true [AV.int .i64 (0 : Int), AV.int .i64 (0 : Int), AV.int .i64 (0 : Int), AV.sl (some true) (0 : Nat) [] .clip, AV.sl (some true) (0 : Nat) [] .clip, AV.int .i64 (0 : Int), AV.int .i64 (0 : Int)]), (6, .var true [AV.int .i64 (addE y.m x.e y.s (0 : Int) (0 : Int)).st, AV.int .i64 (addE y.m x.e y.s (0 : Int) (0 : Int)).s, AV.int .i64 (addE y.m x.e y.s (0 : Int) (0 : Int)).e, AV.sl none (addE y.m x.e y.s (0 : Int) (0 : Int)).edges.length (edgC (addE y.m x.e y.s (0 : Int) (0 : Int)).edges) .no, AV.sl none (addE y.m x.e y.s (0 : Int) (0 : Int)).tests.length (fltsC (addE y.m x.e y.s (0 : Int) (0 : Int)).tests) .no, AV.int .i64 s0, AV.int .i64 y.e])], tags := [] }))))))))) (by kernel_rfl) (by
    have w2 : IntKind.i64.wrap ((i : Int) + 1) = ((i + 1 : Nat) : Int) := by rw [i64_wrap (by omega) (by omega)]; rfl
    simp only [PT.holds, w2, true_implies, Bool.false_eq_true, Bool.true_eq_false, false_implies, true_and, and_true, repL0, List.nil_append, Nat.zero_add, Int.toNat_natCast, Int.toNat_zero, Nat.zero_mul]
    repeat' (with_reducible apply And.intro)
    all_goals first | assumption | omega | exact decide_eq_true (by omega) | ((try simp only [Nat.add_assoc, Nat.reduceAdd, Nat.add_zero]) <;> first | (rw [ats_take _ _ _ _ hi (by decide)]; rfl) | (rw [ats_nth _ _ _ hi (by decide)]; rfl) | (rw [pths_take _ _ _ _ hi (by decide)]; rfl) | (rw [pths_nth _ _ _ hi (by decide)]; rfl) | (rw [flts_take _ _ _ _ hi (by decide)]; rfl) | (rw [flts_nth _ _ _ hi (by decide)]; rfl) | (rw [ats_take0 _ _ _ hi (by decide)]; rfl) | (rw [ats_nth0 _ _ hi]; rfl) | (rw [pths_take0 _ _ _ hi (by decide)]; rfl) | (rw [pths_nth0 _ _ hi]; rfl) | (rw [flts_take0 _ _ _ hi (by decide)]; rfl) | (rw [flts_nth0 _ _ hi]; rfl)) | (simp only [pthsC_len]; omega) | exact edge_ctr _ _ _ _ _ (by omega))
theorem ad4_e (p : Pth) (m : Pg) (x : Pt) (n s0 : Int) (i : Nat) (hi : i = p.sub.length) : HT Tryd.prog Tryd.f59.ntmps (pt Tryd.f59 0) (stA4 p m x n s0 i) (EndsA Γ (.pure [] (.agg (ptC x))) Tryd.f59) :=
  HT.walk Γ_ok mo_ok (⟨[(35, .val (.bool false)), (44, .val (.agg (pthL pth0))), (45, .call [] (.agg (ptC x))), (52, .call [] (.agg (pgC x.m)))], [], hd59 [(10, 3, 3, 1)] [] [] [], [], .pure [] (.agg (ptC x))⟩ : Wk) 4000 (T := .ob (decide ((↑i : Int) < (↑p.sub.length : Int)) = false) (.ob ((7 : Nat) ≤ (7 : Nat)) (.ob (x.m.st = x.m.st) (.ob (x.m.s = x.m.s) (.ob (x.m.e = x.m.e) (.ob (x.m.edges.length = x.m.edges.length) (.ob (edgC x.m.edges = edgC x.m.edges) (.ob (x.m.tests.length = x.m.tests.length) (.ob (fltsC x.m.tests = fltsC x.m.tests) (.ob (x.s = x.s) (.ob (x.e = x.e) (.tt)))))))))))) (by kernel_rfl) (by
    simp only [PT.holds, true_implies, Bool.false_eq_true, Bool.true_eq_false, false_implies, true_and, and_true, repL0, List.nil_append, Nat.zero_add, Int.toNat_natCast, Int.toNat_zero, Nat.zero_mul]
    repeat' (with_reducible apply And.intro)
    all_goals first | omega | exact decide_eq_false (by omega))
theorem ad5_p (p : Pth) (m : Pg) (R : Pt) (hs : p.sub.length ≤ 1048600) (hn : 0 ≤ m.st ∧ m.st ≤ 1000000) (ho : p.op = 5) (k : HT Tryd.prog Tryd.f59.ntmps (pt Tryd.f59 1) (stA5 p (incS m 1) m.st [] 0) (EndsA Γ (.pure [] (.agg (ptC R))) Tryd.f59)) : Ctr Tryd.prog 59 [.agg (pgC m), .agg (pthL p)] (.agg (ptC R)) :=
  Ctr.mk Γ_ok Tryd.func59 (by kernel_rfl) Tryd.call59 [] (by kernel_rfl) (HT.walk Γ_ok mo_ok (⟨[(22, .val (.bool false)), (60, .val (.bool true))], [], hd59 [(10, 3, 3, 1)] [] [] [], [], .pure [] (.agg (ptC R))⟩ : Wk) 4000 (T := .ob (decide (p.op = (4 : Int)) = false) (.ob (decide (p.op = (5 : Int)) = true) (.head (pt Tryd.f59 1) ({ tmps := [(2, AV.ptr 2 0), (3, AV.ptr 3 0), (4, AV.ptr 4 0), (5, AV.int .i64 m.st), (10, AV.sl none (0 : Nat) [] (.own (3 : Nat))), (11, AV.int .i64 (0 : Int))], heap := [(2, .var true [AV.int .i64 (IntKind.i64.wrap (m.st + (1 : Int))), AV.int .i64 m.s, AV.int .i64 m.e, AV.sl none m.edges.length (edgC m.edges) .no, AV.sl none m.tests.length (fltsC m.tests) .no]), (3, .var true (pthL p)), (4, .var true [AV.int .i64 (0 : Int), AV.int .i64 (0 : Int), AV.int .i64 (0 : Int), AV.sl (some true) (0 : Nat) [] .clip, AV.sl (some true) (0 : Nat) [] .clip, AV.int .i64 (0 : Int), AV.int .i64 (0 : Int)])], tags := [(3, { n := (0 : Nat), e := (3 : Nat), sz := (1 : Nat) })] })))) (by kernel_rfl) (by
    have w1 : IntKind.i64.wrap (m.st + 1) = m.st + 1 := by rw [i64_wrap (by omega) (by omega)]
    simp only [PT.holds, w1, true_implies, Bool.false_eq_true, Bool.true_eq_false, false_implies, true_and, and_true, repL0, List.nil_append, Nat.zero_add, Int.toNat_natCast, Int.toNat_zero, Nat.zero_mul]
    repeat' (with_reducible apply And.intro)
    all_goals first | assumption | exact decide_eq_true (by omega) | exact decide_eq_false (by omega)))
theorem ad5_h (p : Pth) (m : Pg) (R : Pt) (hs : p.sub.length ≤ 1048600) (x : Pt) (n : Int) (ends : List Int) (i : Nat) (hi : i < p.sub.length) (hel : ends.length ≤ 1000000) (he : x.m.edges.length ≤ 1000000) (c59 : Ctr Tryd.prog 59 [.agg (pgC m), .agg (pthL (p.sub.getD i pth0))] (.agg (ptC x))) (k : HT Tryd.prog Tryd.f59.ntmps (pt Tryd.f59 1) (stA5 p (addE x.m n x.s 0 0) n (ends ++ [x.e]) (i + 1)) (EndsA Γ (.pure [] (.agg (ptC R))) Tryd.f59)) : HT Tryd.prog Tryd.f59.ntmps (pt Tryd.f59 1) (stA5 p m n ends i) (EndsA Γ (.pure [] (.agg (ptC R))) Tryd.f59) :=
  HT.walk Γ_ok mo_ok (⟨[(68, .val (.bool true)), (76, .val (.agg (pthL (p.sub.getD i pth0)))), (77, .call [] (.agg (ptC x))), (83, .call [] (.agg (pgC (addE x.m n x.s 0 0))))], [], hd59 [(10, 3, 3, 1)] [] [] [], [], .pure [] (.agg (ptC R))⟩ : Wk) 4000 (T := .ob (decide ((↑i : Int) < (↑p.sub.length : Int)) = true) (.ob ((5 : Nat) ≤ (5 : Nat)) (.ob ((0 : Int) ≤ (↑i : Int) ∧ (↑i : Int) < (↑p.sub.length : Int) ∧ (↑i : Int).toNat * (3 : Nat) < (pthsC p.sub).length) (.ob (List.take (3 : Nat) (List.drop ((↑i : Int).toNat * (3 : Nat)) (pthsC p.sub)) = (pthL (p.sub.getD i pth0))) (.ob (Ctr Tryd.prog 59 [AV.agg [AV.int .i64 m.st, AV.int .i64 m.s, AV.int .i64 m.e, AV.sl none m.edges.length (edgC m.edges) .no, AV.sl none m.tests.length (fltsC m.tests) .no], AV.agg (pthL (p.sub.getD i pth0))] (AV.agg [AV.int .i64 x.m.st, AV.int .i64 x.m.s, AV.int .i64 x.m.e, AV.sl none x.m.edges.length (edgC x.m.edges) .no, AV.sl none x.m.tests.length (fltsC x.m.tests) .no, AV.int .i64 x.s, AV.int .i64 x.e])) (.ob ((5 : Nat) ≤ (7 : Nat)) (.ob (Ctr Tryd.prog 72 [AV.agg [AV.int .i64 x.m.st, AV.int .i64 x.m.s, AV.int .i64 x.m.e, AV.sl none x.m.edges.length (edgC x.m.edges) .no, AV.sl none x.m.tests.length (fltsC x.m.tests) .no], AV.int .i64 n, AV.int .i64 x.s, AV.int .i64 (0 : Int), AV.int .i64 (0 : Int)] (AV.agg [AV.int .i64 (addE x.m n x.s (0 : Int) (0 : Int)).st, AV.int .i64 (addE x.m n x.s (0 : Int) (0 : Int)).s, AV.int .i64 (addE x.m n x.s (0 : Int) (0 : Int)).e, AV.sl none (addE x.m n x.s (0 : Int) (0 : Int)).edges.length (edgC (addE x.m n x.s (0 : Int) (0 : Int)).edges) .no, AV.sl none (addE x.m n x.s (0 : Int) (0 : Int)).tests.length (fltsC (addE x.m n x.s (0 : Int) (0 : Int)).tests) .no])) (.ob (ends.length = ends.length) (.ob ((intsC ends).length = ends.length * ((0 : Nat) + (1 : Nat)) ∧ (splice (repL (List.map zn [AV.int .i64 (0 : Int)]) (1 : Nat)) ((0 : Nat) * (1 : Nat)) (cellsOf (AV.int .i64 x.e))).length = (1 : Nat) * ((0 : Nat) + (1 : Nat)) ∧ (ends.length + (1 : Nat)) * ((7 : Nat) + (1 : Nat)) ≤ (140737488355328 : Nat)) (.head (pt Tryd.f59 1) ({ tmps := [(2, AV.ptr 2 0), (3, AV.ptr 3 0), (4, AV.ptr 4 0), (5, AV.int .i64 n), (10, AV.sl none (ends.length + (1 : Nat)) (intsC ends ++ splice (repL (List.map zn [AV.int .i64 (0 : Int)]) (1 : Nat)) ((0 : Nat) * (1 : Nat)) (cellsOf (AV.int .i64 x.e))) (.own (3 : Nat))), (11, AV.int .i64 (IntKind.i64.wrap ((↑i : Int) + (1 : Int))))], heap := [(2, .var true [AV.int .i64 (addE x.m n x.s (0 : Int) (0 : Int)).st, AV.int .i64 (addE x.m n x.s (0 : Int) (0 : Int)).s, AV.int .i64 (addE x.m n x.s (0 : Int) (0 : Int)).e, AV.sl none (addE x.m n x.s (0 : Int) (0 : Int)).edges.length (edgC (addE x.m n x.s (0 : Int) (0 : Int)).edges) .no, AV.sl none (addE x.m n x.s (0 : Int) (0 : Int)).tests.length (fltsC (addE x.m n x.s (0 : Int) (0 : Int)).tests) .no]), (3, .var true (pthL p)), (4, .var true [AV.int .i64 (0 : Int), AV.int .i64 (0 : Int), AV.int .i64 (0 : Int), AV.sl (some true) (0 : Nat) [] .clip, AV.sl (some true) (0 : Nat) [] .clip, AV.int .i64 (0 : Int), AV.int .i64 (0 : Int)])], tags := [(3, { n := ends.length + (1 : Nat), e := (3 : Nat), sz := (1 : Nat) })] }))))))))))) (by kernel_rfl) (by
    have w2 : IntKind.i64.wrap ((i : Int) + 1) = ((i + 1 : Nat) : Int) := by rw [i64_wrap (by omega) (by omega)]; rfl
    simp only [PT.holds, w2, true_implies, Bool.false_eq_true, Bool.true_eq_false, false_implies, true_and, and_true, repL0, List.nil_append, Nat.zero_add, Int.toNat_natCast, Int.toNat_zero, Nat.zero_mul]
    repeat' (with_reducible apply And.intro)
    all_goals first | assumption | omega | rfl | exact decide_eq_true (by omega) | ((try simp only [Nat.add_assoc, Nat.reduceAdd, Nat.add_zero]) <;> first | (rw [ats_take _ _ _ _ hi (by decide)]; rfl) | (rw [ats_nth _ _ _ hi (by decide)]; rfl) | (rw [pths_take _ _ _ _ hi (by decide)]; rfl) | (rw [pths_nth _ _ _ hi (by decide)]; rfl) | (rw [flts_take _ _ _ _ hi (by decide)]; rfl) | (rw [flts_nth _ _ _ hi (by decide)]; rfl) | (rw [ats_take0 _ _ _ hi (by decide)]; rfl) | (rw [ats_nth0 _ _ hi]; rfl) | (rw [pths_take0 _ _ _ hi (by decide)]; rfl) | (rw [pths_nth0 _ _ hi]; rfl) | (rw [flts_take0 _ _ _ hi (by decide)]; rfl) | (rw [flts_nth0 _ _ hi]; rfl)) | (simp only [pthsC_len]; omega) | (rw [ints_len]; omega) | exact edge_ctr _ _ _ _ _ (by omega) | exact head_eq k (by simp [stA4, stA5, stA6, ptC, pgC, pthL, zpt, addE, incS, intsC_app, splice, repL, cellsOf]))
theorem ad5_e (p : Pth) (m : Pg) (R : Pt) (hs : p.sub.length ≤ 1048600) (hn : 0 ≤ m.st ∧ m.st ≤ 1000000) (n : Int) (ends : List Int) (i : Nat) (hi : i = p.sub.length) (k : HT Tryd.prog Tryd.f59.ntmps (pt Tryd.f59 2) (stA6 p (incS m 1) n m.st ends 0) (EndsA Γ (.pure [] (.agg (ptC R))) Tryd.f59)) : HT Tryd.prog Tryd.f59.ntmps (pt Tryd.f59 1) (stA5 p m n ends i) (EndsA Γ (.pure [] (.agg (ptC R))) Tryd.f59) :=
  HT.walk Γ_ok mo_ok (⟨[(68, .val (.bool false)), (76, .val (.agg (pthL pth0))), (77, .call [] (.agg (ptC R))), (83, .call [] (.agg (pgC m)))], [], hd59 [(10, 3, 3, 1)] [] [] [], [], .pure [] (.agg (ptC R))⟩ : Wk) 4000 (T := .ob (decide ((↑i : Int) < (↑p.sub.length : Int)) = false) (.head (pt Tryd.f59 2) ({ tmps := [(2, AV.ptr 2 0), (4, AV.ptr 4 0), (5, AV.int .i64 n), (10, AV.sl none ends.length (intsC ends) (.own (3 : Nat))), (13, AV.int .i64 m.st), (14, AV.int .i64 (0 : Int))], heap := [(2, .var true [AV.int .i64 (IntKind.i64.wrap (m.st + (1 : Int))), AV.int .i64 m.s, AV.int .i64 m.e, AV.sl none m.edges.length (edgC m.edges) .no, AV.sl none m.tests.length (fltsC m.tests) .no]), (3, .var true (pthL p)), (4, .var true [AV.int .i64 (0 : Int), AV.int .i64 (0 : Int), AV.int .i64 (0 : Int), AV.sl (some true) (0 : Nat) [] .clip, AV.sl (some true) (0 : Nat) [] .clip, AV.int .i64 (0 : Int), AV.int .i64 (0 : Int)])], tags := [(3, { n := ends.length, e := (3 : Nat), sz := (1 : Nat) })] }))) (by kernel_rfl) (by
    have w1 : IntKind.i64.wrap (m.st + 1) = m.st + 1 := by rw [i64_wrap (by omega) (by omega)]
    simp only [PT.holds, w1, true_implies, Bool.false_eq_true, Bool.true_eq_false, false_implies, true_and, and_true, repL0, List.nil_append, Nat.zero_add, Int.toNat_natCast, Int.toNat_zero, Nat.zero_mul]
    repeat' (with_reducible apply And.intro)
    all_goals first | assumption | exact decide_eq_false (by omega))
theorem ad6_h (p : Pth) (m : Pg) (R : Pt) (hs : p.sub.length ≤ 1048600) (n en : Int) (ends : List Int) (i : Nat) (hi : i < ends.length) (hel : ends.length ≤ 1000000) (he : m.edges.length ≤ 1000000) (k : HT Tryd.prog Tryd.f59.ntmps (pt Tryd.f59 2) (stA6 p (addE m (ends.getD i 0) en 0 0) n en ends (i + 1)) (EndsA Γ (.pure [] (.agg (ptC R))) Tryd.f59)) : HT Tryd.prog Tryd.f59.ntmps (pt Tryd.f59 2) (stA6 p m n en ends i) (EndsA Γ (.pure [] (.agg (ptC R))) Tryd.f59) :=
  HT.walk Γ_ok mo_ok (⟨[(98, .val (.bool true)), (105, .val (.int .i64 (ends.getD i 0))), (107, .call [] (.agg (pgC (addE m (ends.getD i 0) en 0 0))))], [], hd59 [(10, 3, 3, 1)] [] [] [], [], .pure [] (.agg (ptC R))⟩ : Wk) 4000 (T := .ob (decide ((↑i : Int) < (↑ends.length : Int)) = true) (.ob ((5 : Nat) ≤ (5 : Nat)) (.ob ((0 : Int) ≤ (↑i : Int) ∧ (↑i : Int) < (↑ends.length : Int) ∧ (↑i : Int).toNat * (1 : Nat) < (intsC ends).length) (.ob ((intsC ends)[(↑i : Int).toNat * (1 : Nat)]? = some (AV.int .i64 (ends.getD i (0 : Int)))) (.ob (Ctr Tryd.prog 72 [AV.agg [AV.int .i64 m.st, AV.int .i64 m.s, AV.int .i64 m.e, AV.sl none m.edges.length (edgC m.edges) .no, AV.sl none m.tests.length (fltsC m.tests) .no], AV.int .i64 (ends.getD i (0 : Int)), AV.int .i64 en, AV.int .i64 (0 : Int), AV.int .i64 (0 : Int)] (AV.agg [AV.int .i64 (addE m (ends.getD i (0 : Int)) en (0 : Int) (0 : Int)).st, AV.int .i64 (addE m (ends.getD i (0 : Int)) en (0 : Int) (0 : Int)).s, AV.int .i64 (addE m (ends.getD i (0 : Int)) en (0 : Int) (0 : Int)).e, AV.sl none (addE m (ends.getD i (0 : Int)) en (0 : Int) (0 : Int)).edges.length (edgC (addE m (ends.getD i (0 : Int)) en (0 : Int) (0 : Int)).edges) .no, AV.sl none (addE m (ends.getD i (0 : Int)) en (0 : Int) (0 : Int)).tests.length (fltsC (addE m (ends.getD i (0 : Int)) en (0 : Int) (0 : Int)).tests) .no])) (.head (pt Tryd.f59 2) ({ tmps := [(2, AV.ptr 2 0), (4, AV.ptr 4 0), (5, AV.int .i64 n), (10, AV.sl none ends.length (intsC ends) (.own (3 : Nat))), (13, AV.int .i64 en), (14, AV.int .i64 (IntKind.i64.wrap ((↑i : Int) + (1 : Int))))], heap := [(2, .var true [AV.int .i64 (addE m (ends.getD i (0 : Int)) en (0 : Int) (0 : Int)).st, AV.int .i64 (addE m (ends.getD i (0 : Int)) en (0 : Int) (0 : Int)).s, AV.int .i64 (addE m (ends.getD i (0 : Int)) en (0 : Int) (0 : Int)).e, AV.sl none (addE m (ends.getD i (0 : Int)) en (0 : Int) (0 : Int)).edges.length (edgC (addE m (ends.getD i (0 : Int)) en (0 : Int) (0 : Int)).edges) .no, AV.sl none (addE m (ends.getD i (0 : Int)) en (0 : Int) (0 : Int)).tests.length (fltsC (addE m (ends.getD i (0 : Int)) en (0 : Int) (0 : Int)).tests) .no]), (3, .var true (pthL p)), (4, .var true [AV.int .i64 (0 : Int), AV.int .i64 (0 : Int), AV.int .i64 (0 : Int), AV.sl (some true) (0 : Nat) [] .clip, AV.sl (some true) (0 : Nat) [] .clip, AV.int .i64 (0 : Int), AV.int .i64 (0 : Int)])], tags := [(3, { n := ends.length, e := (3 : Nat), sz := (1 : Nat) })] }))))))) (by kernel_rfl) (by
    have w2 : IntKind.i64.wrap ((i : Int) + 1) = ((i + 1 : Nat) : Int) := by rw [i64_wrap (by omega) (by omega)]; rfl
    simp only [PT.holds, w2, true_implies, Bool.false_eq_true, Bool.true_eq_false, false_implies, true_and, and_true, repL0, List.nil_append, Nat.zero_add, Int.toNat_natCast, Int.toNat_zero, Nat.zero_mul]
    repeat' (with_reducible apply And.intro)
    all_goals first | assumption | omega | exact decide_eq_true (by omega) | (rw [ints_len]; omega) | (rw [Nat.mul_one]; exact ints_nth _ _ (by omega)) | exact edge_ctr _ _ _ _ _ (by omega))
theorem ad6_e (p : Pth) (m : Pg) (n en : Int) (ends : List Int) (i : Nat) (hi : i = ends.length) : HT Tryd.prog Tryd.f59.ntmps (pt Tryd.f59 2) (stA6 p m n en ends i) (EndsA Γ (.pure [] (.agg (ptC ⟨m, n, en⟩))) Tryd.f59) :=
  HT.walk Γ_ok mo_ok (⟨[(98, .val (.bool false)), (105, .val (.int .i64 0)), (107, .call [] (.agg (pgC m)))], [], hd59 [(10, 3, 3, 1)] [] [] [], [], .pure [] (.agg (ptC ⟨m, n, en⟩))⟩ : Wk) 4000 (T := .ob (decide ((↑i : Int) < (↑ends.length : Int)) = false) (.ob ((5 : Nat) ≤ (5 : Nat)) (.ob (m.st = m.st) (.ob (m.s = m.s) (.ob (m.e = m.e) (.ob (m.edges.length = m.edges.length) (.ob (edgC m.edges = edgC m.edges) (.ob (m.tests.length = m.tests.length) (.ob (fltsC m.tests = fltsC m.tests) (.ob (n = n) (.ob (en = en) (.tt)))))))))))) (by kernel_rfl) (by
    simp only [PT.holds, true_implies, Bool.false_eq_true, Bool.true_eq_false, false_implies, true_and, and_true, repL0, List.nil_append, Nat.zero_add, Int.toNat_natCast, Int.toNat_zero, Nat.zero_mul]
    repeat' (with_reducible apply And.intro)
    all_goals first | omega | exact decide_eq_false (by omega))
theorem adS_p (p : Pth) (m : Pg) (x : Pt) (hn : 0 ≤ m.st ∧ m.st ≤ 1000000) (ho : p.op = 6) (hi : 0 < p.sub.length) (he : x.m.edges.length ≤ 999999) (c59 : Ctr Tryd.prog 59 [.agg (pgC (incS m 1)), .agg (pthL (p.sub.getD 0 pth0))] (.agg (ptC x))) : Ctr Tryd.prog 59 [.agg (pgC m), .agg (pthL p)] (.agg (ptC ⟨addE (addE x.m m.st x.s 0 0) x.e m.st 0 0, m.st, m.st⟩)) :=
  Ctr.mk Γ_ok Tryd.func59 (by kernel_rfl) Tryd.call59 [] (by kernel_rfl) (HT.walk Γ_ok mo_ok (⟨[(22, .val (.bool false)), (60, .val (.bool false)), (114, .val (.bool true)), (122, .val (.agg (pthL (p.sub.getD 0 pth0)))), (123, .call [] (.agg (ptC x))), (129, .call [] (.agg (pgC (addE x.m m.st x.s 0 0)))), (133, .call [] (.agg (pgC (addE (addE x.m m.st x.s 0 0) x.e m.st 0 0))))], [], hd59 [(10, 3, 3, 1)] [] [] [], [], .pure [] (.agg (ptC ⟨addE (addE x.m m.st x.s 0 0) x.e m.st 0 0, m.st, m.st⟩))⟩ : Wk) 4000 (T := .ob (decide (p.op = (4 : Int)) = false) (.ob (decide (p.op = (5 : Int)) = false) (.ob (decide (p.op = (6 : Int)) = true) (.ob ((5 : Nat) ≤ (5 : Nat)) (.ob ((0 : Int) ≤ (0 : Int) ∧ (0 : Int) < (↑p.sub.length : Int) ∧ Int.toNat (0 : Int) * (3 : Nat) < (pthsC p.sub).length) (.ob (List.take (3 : Nat) (List.drop (Int.toNat (0 : Int) * (3 : Nat)) (pthsC p.sub)) = (pthL (p.sub.getD (0 : Nat) pth0))) (.ob (Ctr Tryd.prog 59 [AV.agg [AV.int .i64 (IntKind.i64.wrap (m.st + (1 : Int))), AV.int .i64 m.s, AV.int .i64 m.e, AV.sl none m.edges.length (edgC m.edges) .no, AV.sl none m.tests.length (fltsC m.tests) .no], AV.agg (pthL (p.sub.getD (0 : Nat) pth0))] (AV.agg [AV.int .i64 x.m.st, AV.int .i64 x.m.s, AV.int .i64 x.m.e, AV.sl none x.m.edges.length (edgC x.m.edges) .no, AV.sl none x.m.tests.length (fltsC x.m.tests) .no, AV.int .i64 x.s, AV.int .i64 x.e])) (.ob ((5 : Nat) ≤ (7 : Nat)) (.ob (Ctr Tryd.prog 72 [AV.agg [AV.int .i64 x.m.st, AV.int .i64 x.m.s, AV.int .i64 x.m.e, AV.sl none x.m.edges.length (edgC x.m.edges) .no, AV.sl none x.m.tests.length (fltsC x.m.tests) .no], AV.int .i64 m.st, AV.int .i64 x.s, AV.int .i64 (0 : Int), AV.int .i64 (0 : Int)] (AV.agg [AV.int .i64 (addE x.m m.st x.s (0 : Int) (0 : Int)).st, AV.int .i64 (addE x.m m.st x.s (0 : Int) (0 : Int)).s, AV.int .i64 (addE x.m m.st x.s (0 : Int) (0 : Int)).e, AV.sl none (addE x.m m.st x.s (0 : Int) (0 : Int)).edges.length (edgC (addE x.m m.st x.s (0 : Int) (0 : Int)).edges) .no, AV.sl none (addE x.m m.st x.s (0 : Int) (0 : Int)).tests.length (fltsC (addE x.m m.st x.s (0 : Int) (0 : Int)).tests) .no])) (.ob (Ctr Tryd.prog 72 [AV.agg [AV.int .i64 (addE x.m m.st x.s (0 : Int) (0 : Int)).st, AV.int .i64 (addE x.m m.st x.s (0 : Int) (0 : Int)).s, AV.int .i64 (addE x.m m.st x.s (0 : Int) (0 : Int)).e, AV.sl none (addE x.m m.st x.s (0 : Int) (0 : Int)).edges.length (edgC (addE x.m m.st x.s (0 : Int) (0 : Int)).edges) .no, AV.sl none (addE x.m m.st x.s (0 : Int) (0 : Int)).tests.length (fltsC (addE x.m m.st x.s (0 : Int) (0 : Int)).tests) .no], AV.int .i64 x.e, AV.int .i64 m.st, AV.int .i64 (0 : Int), AV.int .i64 (0 : Int)] (AV.agg [AV.int .i64 (addE (addE x.m m.st x.s (0 : Int) (0 : Int)) x.e m.st (0 : Int) (0 : Int)).st, AV.int .i64 (addE (addE x.m m.st x.s (0 : Int) (0 : Int)) x.e m.st (0 : Int) (0 : Int)).s, AV.int .i64 (addE (addE x.m m.st x.s (0 : Int) (0 : Int)) x.e m.st (0 : Int) (0 : Int)).e, AV.sl none (addE (addE x.m m.st x.s (0 : Int) (0 : Int)) x.e m.st (0 : Int) (0 : Int)).edges.length (edgC (addE (addE x.m m.st x.s (0 : Int) (0 : Int)) x.e m.st (0 : Int) (0 : Int)).edges) .no, AV.sl none (addE (addE x.m m.st x.s (0 : Int) (0 : Int)) x.e m.st (0 : Int) (0 : Int)).tests.length (fltsC (addE (addE x.m m.st x.s (0 : Int) (0 : Int)) x.e m.st (0 : Int) (0 : Int)).tests) .no])) (.ob ((5 : Nat) ≤ (5 : Nat)) (.ob ((addE (addE x.m m.st x.s (0 : Int) (0 : Int)) x.e m.st (0 : Int) (0 : Int)).st = (addE (addE x.m m.st x.s (0 : Int) (0 : Int)) x.e m.st (0 : Int) (0 : Int)).st) (.ob ((addE (addE x.m m.st x.s (0 : Int) (0 : Int)) x.e m.st (0 : Int) (0 : Int)).s = (addE (addE x.m m.st x.s (0 : Int) (0 : Int)) x.e m.st (0 : Int) (0 : Int)).s) (.ob ((addE (addE x.m m.st x.s (0 : Int) (0 : Int)) x.e m.st (0 : Int) (0 : Int)).e = (addE (addE x.m m.st x.s (0 : Int) (0 : Int)) x.e m.st (0 : Int) (0 : Int)).e) (.ob ((addE (addE x.m m.st x.s (0 : Int) (0 : Int)) x.e m.st (0 : Int) (0 : Int)).edges.length = (addE (addE x.m m.st x.s (0 : Int) (0 : Int)) x.e m.st (0 : Int) (0 : Int)).edges.length) (.ob (edgC (addE (addE x.m m.st x.s (0 : Int) (0 : Int)) x.e m.st (0 : Int) (0 : Int)).edges = edgC (addE (addE x.m m.st x.s (0 : Int) (0 : Int)) x.e m.st (0 : Int) (0 : Int)).edges) (.ob ((addE (addE x.m m.st x.s (0 : Int) (0 : Int)) x.e m.st (0 : Int) (0 : Int)).tests.length = (addE (addE x.m m.st x.s (0 : Int) (0 : Int)) x.e m.st (0 : Int) (0 : Int)).tests.length) (.ob (fltsC (addE (addE x.m m.st x.s (0 : Int) (0 : Int)) x.e m.st (0 : Int) (0 : Int)).tests = fltsC (addE (addE x.m m.st x.s (0 : Int) (0 : Int)) x.e m.st (0 : Int) (0 : Int)).tests) (.ob (m.st = m.st) (.ob (m.st = m.st) (.tt))))))))))))))))))))) (by kernel_rfl) (by
    have w1 : IntKind.i64.wrap (m.st + 1) = m.st + 1 := by rw [i64_wrap (by omega) (by omega)]
    have he2 : (addE x.m m.st x.s 0 0).edges.length ≤ 1000000 := by simp [addE]; omega
    simp only [PT.holds, w1, true_implies, Bool.false_eq_true, Bool.true_eq_false, false_implies, true_and, and_true, repL0, List.nil_append, Nat.zero_add, Int.toNat_natCast, Int.toNat_zero, Nat.zero_mul]
    repeat' (with_reducible apply And.intro)
    all_goals first | assumption | omega | exact decide_eq_true (by omega) | exact decide_eq_false (by omega) | ((try simp only [Nat.add_assoc, Nat.reduceAdd, Nat.add_zero]) <;> first | (rw [ats_take _ _ _ _ hi (by decide)]; rfl) | (rw [ats_nth _ _ _ hi (by decide)]; rfl) | (rw [pths_take _ _ _ _ hi (by decide)]; rfl) | (rw [pths_nth _ _ _ hi (by decide)]; rfl) | (rw [flts_take _ _ _ _ hi (by decide)]; rfl) | (rw [flts_nth _ _ _ hi (by decide)]; rfl) | (rw [ats_take0 _ _ _ hi (by decide)]; rfl) | (rw [ats_nth0 _ _ hi]; rfl) | (rw [pths_take0 _ _ _ hi (by decide)]; rfl) | (rw [pths_nth0 _ _ hi]; rfl) | (rw [flts_take0 _ _ _ hi (by decide)]; rfl) | (rw [flts_nth0 _ _ hi]; rfl)) | (simp only [pthsC_len]; omega) | exact edge_ctr _ _ _ _ _ (by omega)))
theorem adL_p (p : Pth) (m : Pg) (hn : 0 ≤ m.st ∧ m.st ≤ 1000000) (ho : p.op = 1) (he : m.edges.length ≤ 1000000) : Ctr Tryd.prog 59 [.agg (pgC m), .agg (pthL p)] (.agg (ptC ⟨addE (incS m 2) m.st (m.st + 1) 0 0, m.st, m.st + 1⟩)) :=
  Ctr.mk Γ_ok Tryd.func59 (by kernel_rfl) Tryd.call59 [] (by kernel_rfl) (HT.walk Γ_ok mo_ok (⟨[(22, .val (.bool false)), (60, .val (.bool false)), (114, .val (.bool false)), (143, .val (.bool false)), (146, .val (.bool false)), (149, .val (.bool false)), (170, .call [] (.agg (pgC (addE (incS m 2) m.st (m.st + 1) 0 0))))], [], hd59 [(10, 3, 3, 1)] [] [] [], [], .pure [] (.agg (ptC ⟨addE (incS m 2) m.st (m.st + 1) 0 0, m.st, m.st + 1⟩))⟩ : Wk) 4000 (T := .ob (decide (p.op = (4 : Int)) = false) (.ob (decide (p.op = (5 : Int)) = false) (.ob (decide (p.op = (6 : Int)) = false) (.ob (decide (p.op = (2 : Int)) = false) (.ob (decide (p.op = (3 : Int)) = false) (.ob (decide (p.op = (7 : Int)) = false) (.ob ((5 : Nat) ≤ (5 : Nat)) (.ob (Ctr Tryd.prog 72 [AV.agg [AV.int .i64 (IntKind.i64.wrap (m.st + (2 : Int))), AV.int .i64 m.s, AV.int .i64 m.e, AV.sl none m.edges.length (edgC m.edges) .no, AV.sl none m.tests.length (fltsC m.tests) .no], AV.int .i64 m.st, AV.int .i64 (IntKind.i64.wrap (m.st + (1 : Int))), AV.int .i64 (0 : Int), AV.int .i64 (0 : Int)] (AV.agg [AV.int .i64 (addE (incS m (2 : Int)) m.st (m.st + (1 : Int)) (0 : Int) (0 : Int)).st, AV.int .i64 (addE (incS m (2 : Int)) m.st (m.st + (1 : Int)) (0 : Int) (0 : Int)).s, AV.int .i64 (addE (incS m (2 : Int)) m.st (m.st + (1 : Int)) (0 : Int) (0 : Int)).e, AV.sl none (addE (incS m (2 : Int)) m.st (m.st + (1 : Int)) (0 : Int) (0 : Int)).edges.length (edgC (addE (incS m (2 : Int)) m.st (m.st + (1 : Int)) (0 : Int) (0 : Int)).edges) .no, AV.sl none (addE (incS m (2 : Int)) m.st (m.st + (1 : Int)) (0 : Int) (0 : Int)).tests.length (fltsC (addE (incS m (2 : Int)) m.st (m.st + (1 : Int)) (0 : Int) (0 : Int)).tests) .no])) (.ob ((addE (incS m (2 : Int)) m.st (m.st + (1 : Int)) (0 : Int) (0 : Int)).st = (addE (incS m (2 : Int)) m.st (m.st + (1 : Int)) (0 : Int) (0 : Int)).st) (.ob ((addE (incS m (2 : Int)) m.st (m.st + (1 : Int)) (0 : Int) (0 : Int)).s = (addE (incS m (2 : Int)) m.st (m.st + (1 : Int)) (0 : Int) (0 : Int)).s) (.ob ((addE (incS m (2 : Int)) m.st (m.st + (1 : Int)) (0 : Int) (0 : Int)).e = (addE (incS m (2 : Int)) m.st (m.st + (1 : Int)) (0 : Int) (0 : Int)).e) (.ob ((addE (incS m (2 : Int)) m.st (m.st + (1 : Int)) (0 : Int) (0 : Int)).edges.length = (addE (incS m (2 : Int)) m.st (m.st + (1 : Int)) (0 : Int) (0 : Int)).edges.length) (.ob (edgC (addE (incS m (2 : Int)) m.st (m.st + (1 : Int)) (0 : Int) (0 : Int)).edges = edgC (addE (incS m (2 : Int)) m.st (m.st + (1 : Int)) (0 : Int) (0 : Int)).edges) (.ob ((addE (incS m (2 : Int)) m.st (m.st + (1 : Int)) (0 : Int) (0 : Int)).tests.length = (addE (incS m (2 : Int)) m.st (m.st + (1 : Int)) (0 : Int) (0 : Int)).tests.length) (.ob (fltsC (addE (incS m (2 : Int)) m.st (m.st + (1 : Int)) (0 : Int) (0 : Int)).tests = fltsC (addE (incS m (2 : Int)) m.st (m.st + (1 : Int)) (0 : Int) (0 : Int)).tests) (.ob (m.st = m.st) (.ob (IntKind.i64.wrap (m.st + (1 : Int)) = m.st + (1 : Int)) (.tt)))))))))))))))))) (by kernel_rfl) (by
    have w1 : IntKind.i64.wrap (m.st + 1) = m.st + 1 := by rw [i64_wrap (by omega) (by omega)]
    have w2 : IntKind.i64.wrap (m.st + 2) = m.st + 2 := by rw [i64_wrap (by omega) (by omega)]
    simp only [PT.holds, w1, w2, true_implies, Bool.false_eq_true, Bool.true_eq_false, false_implies, true_and, and_true, repL0, List.nil_append, Nat.zero_add, Int.toNat_natCast, Int.toNat_zero, Nat.zero_mul]
    repeat' (with_reducible apply And.intro)
    all_goals first | omega | exact decide_eq_false (by omega) | exact edge_ctr (incS m 2) _ _ _ _ he))
theorem adF_p (p : Pth) (m : Pg) (hn : 0 ≤ m.st ∧ m.st ≤ 1000000) (ho : p.op = 2) (he : m.edges.length ≤ 1000000) : Ctr Tryd.prog 59 [.agg (pgC m), .agg (pthL p)] (.agg (ptC ⟨addE (incS m 2) m.st (m.st + 1) 1 0, m.st, m.st + 1⟩)) :=
  Ctr.mk Γ_ok Tryd.func59 (by kernel_rfl) Tryd.call59 [] (by kernel_rfl) (HT.walk Γ_ok mo_ok (⟨[(22, .val (.bool false)), (60, .val (.bool false)), (114, .val (.bool false)), (143, .val (.bool true)), (146, .val (.bool false)), (149, .val (.bool false)), (170, .call [] (.agg (pgC (addE (incS m 2) m.st (m.st + 1) 1 0))))], [], hd59 [(10, 3, 3, 1)] [] [] [], [], .pure [] (.agg (ptC ⟨addE (incS m 2) m.st (m.st + 1) 1 0, m.st, m.st + 1⟩))⟩ : Wk) 4000 (T := .ob (decide (p.op = (4 : Int)) = false) (.ob (decide (p.op = (5 : Int)) = false) (.ob (decide (p.op = (6 : Int)) = false) (.ob (decide (p.op = (2 : Int)) = true) (.ob (decide (p.op = (3 : Int)) = false) (.ob (decide (p.op = (7 : Int)) = false) (.ob ((5 : Nat) ≤ (5 : Nat)) (.ob (Ctr Tryd.prog 72 [AV.agg [AV.int .i64 (IntKind.i64.wrap (m.st + (2 : Int))), AV.int .i64 m.s, AV.int .i64 m.e, AV.sl none m.edges.length (edgC m.edges) .no, AV.sl none m.tests.length (fltsC m.tests) .no], AV.int .i64 m.st, AV.int .i64 (IntKind.i64.wrap (m.st + (1 : Int))), AV.int .i64 (1 : Int), AV.int .i64 (0 : Int)] (AV.agg [AV.int .i64 (addE (incS m (2 : Int)) m.st (m.st + (1 : Int)) (1 : Int) (0 : Int)).st, AV.int .i64 (addE (incS m (2 : Int)) m.st (m.st + (1 : Int)) (1 : Int) (0 : Int)).s, AV.int .i64 (addE (incS m (2 : Int)) m.st (m.st + (1 : Int)) (1 : Int) (0 : Int)).e, AV.sl none (addE (incS m (2 : Int)) m.st (m.st + (1 : Int)) (1 : Int) (0 : Int)).edges.length (edgC (addE (incS m (2 : Int)) m.st (m.st + (1 : Int)) (1 : Int) (0 : Int)).edges) .no, AV.sl none (addE (incS m (2 : Int)) m.st (m.st + (1 : Int)) (1 : Int) (0 : Int)).tests.length (fltsC (addE (incS m (2 : Int)) m.st (m.st + (1 : Int)) (1 : Int) (0 : Int)).tests) .no])) (.ob ((addE (incS m (2 : Int)) m.st (m.st + (1 : Int)) (1 : Int) (0 : Int)).st = (addE (incS m (2 : Int)) m.st (m.st + (1 : Int)) (1 : Int) (0 : Int)).st) (.ob ((addE (incS m (2 : Int)) m.st (m.st + (1 : Int)) (1 : Int) (0 : Int)).s = (addE (incS m (2 : Int)) m.st (m.st + (1 : Int)) (1 : Int) (0 : Int)).s) (.ob ((addE (incS m (2 : Int)) m.st (m.st + (1 : Int)) (1 : Int) (0 : Int)).e = (addE (incS m (2 : Int)) m.st (m.st + (1 : Int)) (1 : Int) (0 : Int)).e) (.ob ((addE (incS m (2 : Int)) m.st (m.st + (1 : Int)) (1 : Int) (0 : Int)).edges.length = (addE (incS m (2 : Int)) m.st (m.st + (1 : Int)) (1 : Int) (0 : Int)).edges.length) (.ob (edgC (addE (incS m (2 : Int)) m.st (m.st + (1 : Int)) (1 : Int) (0 : Int)).edges = edgC (addE (incS m (2 : Int)) m.st (m.st + (1 : Int)) (1 : Int) (0 : Int)).edges) (.ob ((addE (incS m (2 : Int)) m.st (m.st + (1 : Int)) (1 : Int) (0 : Int)).tests.length = (addE (incS m (2 : Int)) m.st (m.st + (1 : Int)) (1 : Int) (0 : Int)).tests.length) (.ob (fltsC (addE (incS m (2 : Int)) m.st (m.st + (1 : Int)) (1 : Int) (0 : Int)).tests = fltsC (addE (incS m (2 : Int)) m.st (m.st + (1 : Int)) (1 : Int) (0 : Int)).tests) (.ob (m.st = m.st) (.ob (IntKind.i64.wrap (m.st + (1 : Int)) = m.st + (1 : Int)) (.tt)))))))))))))))))) (by kernel_rfl) (by
    have w1 : IntKind.i64.wrap (m.st + 1) = m.st + 1 := by rw [i64_wrap (by omega) (by omega)]
    have w2 : IntKind.i64.wrap (m.st + 2) = m.st + 2 := by rw [i64_wrap (by omega) (by omega)]
    simp only [PT.holds, w1, w2, true_implies, Bool.false_eq_true, Bool.true_eq_false, false_implies, true_and, and_true, repL0, List.nil_append, Nat.zero_add, Int.toNat_natCast, Int.toNat_zero, Nat.zero_mul]
    repeat' (with_reducible apply And.intro)
    all_goals first | omega | exact decide_eq_true (by omega) | exact decide_eq_false (by omega) | exact edge_ctr (incS m 2) _ _ _ _ he))
theorem adN_p (p : Pth) (m : Pg) (hn : 0 ≤ m.st ∧ m.st ≤ 1000000) (ho : p.op = 3) (he : m.edges.length ≤ 1000000) : Ctr Tryd.prog 59 [.agg (pgC m), .agg (pthL p)] (.agg (ptC ⟨addE (incS m 2) m.st (m.st + 1) 2 0, m.st, m.st + 1⟩)) :=
  Ctr.mk Γ_ok Tryd.func59 (by kernel_rfl) Tryd.call59 [] (by kernel_rfl) (HT.walk Γ_ok mo_ok (⟨[(22, .val (.bool false)), (60, .val (.bool false)), (114, .val (.bool false)), (143, .val (.bool false)), (146, .val (.bool true)), (149, .val (.bool false)), (170, .call [] (.agg (pgC (addE (incS m 2) m.st (m.st + 1) 2 0))))], [], hd59 [(10, 3, 3, 1)] [] [] [], [], .pure [] (.agg (ptC ⟨addE (incS m 2) m.st (m.st + 1) 2 0, m.st, m.st + 1⟩))⟩ : Wk) 4000 (T := .ob (decide (p.op = (4 : Int)) = false) (.ob (decide (p.op = (5 : Int)) = false) (.ob (decide (p.op = (6 : Int)) = false) (.ob (decide (p.op = (2 : Int)) = false) (.ob (decide (p.op = (3 : Int)) = true) (.ob (decide (p.op = (7 : Int)) = false) (.ob ((5 : Nat) ≤ (5 : Nat)) (.ob (Ctr Tryd.prog 72 [AV.agg [AV.int .i64 (IntKind.i64.wrap (m.st + (2 : Int))), AV.int .i64 m.s, AV.int .i64 m.e, AV.sl none m.edges.length (edgC m.edges) .no, AV.sl none m.tests.length (fltsC m.tests) .no], AV.int .i64 m.st, AV.int .i64 (IntKind.i64.wrap (m.st + (1 : Int))), AV.int .i64 (2 : Int), AV.int .i64 (0 : Int)] (AV.agg [AV.int .i64 (addE (incS m (2 : Int)) m.st (m.st + (1 : Int)) (2 : Int) (0 : Int)).st, AV.int .i64 (addE (incS m (2 : Int)) m.st (m.st + (1 : Int)) (2 : Int) (0 : Int)).s, AV.int .i64 (addE (incS m (2 : Int)) m.st (m.st + (1 : Int)) (2 : Int) (0 : Int)).e, AV.sl none (addE (incS m (2 : Int)) m.st (m.st + (1 : Int)) (2 : Int) (0 : Int)).edges.length (edgC (addE (incS m (2 : Int)) m.st (m.st + (1 : Int)) (2 : Int) (0 : Int)).edges) .no, AV.sl none (addE (incS m (2 : Int)) m.st (m.st + (1 : Int)) (2 : Int) (0 : Int)).tests.length (fltsC (addE (incS m (2 : Int)) m.st (m.st + (1 : Int)) (2 : Int) (0 : Int)).tests) .no])) (.ob ((addE (incS m (2 : Int)) m.st (m.st + (1 : Int)) (2 : Int) (0 : Int)).st = (addE (incS m (2 : Int)) m.st (m.st + (1 : Int)) (2 : Int) (0 : Int)).st) (.ob ((addE (incS m (2 : Int)) m.st (m.st + (1 : Int)) (2 : Int) (0 : Int)).s = (addE (incS m (2 : Int)) m.st (m.st + (1 : Int)) (2 : Int) (0 : Int)).s) (.ob ((addE (incS m (2 : Int)) m.st (m.st + (1 : Int)) (2 : Int) (0 : Int)).e = (addE (incS m (2 : Int)) m.st (m.st + (1 : Int)) (2 : Int) (0 : Int)).e) (.ob ((addE (incS m (2 : Int)) m.st (m.st + (1 : Int)) (2 : Int) (0 : Int)).edges.length = (addE (incS m (2 : Int)) m.st (m.st + (1 : Int)) (2 : Int) (0 : Int)).edges.length) (.ob (edgC (addE (incS m (2 : Int)) m.st (m.st + (1 : Int)) (2 : Int) (0 : Int)).edges = edgC (addE (incS m (2 : Int)) m.st (m.st + (1 : Int)) (2 : Int) (0 : Int)).edges) (.ob ((addE (incS m (2 : Int)) m.st (m.st + (1 : Int)) (2 : Int) (0 : Int)).tests.length = (addE (incS m (2 : Int)) m.st (m.st + (1 : Int)) (2 : Int) (0 : Int)).tests.length) (.ob (fltsC (addE (incS m (2 : Int)) m.st (m.st + (1 : Int)) (2 : Int) (0 : Int)).tests = fltsC (addE (incS m (2 : Int)) m.st (m.st + (1 : Int)) (2 : Int) (0 : Int)).tests) (.ob (m.st = m.st) (.ob (IntKind.i64.wrap (m.st + (1 : Int)) = m.st + (1 : Int)) (.tt)))))))))))))))))) (by kernel_rfl) (by
    have w1 : IntKind.i64.wrap (m.st + 1) = m.st + 1 := by rw [i64_wrap (by omega) (by omega)]
    have w2 : IntKind.i64.wrap (m.st + 2) = m.st + 2 := by rw [i64_wrap (by omega) (by omega)]
    simp only [PT.holds, w1, w2, true_implies, Bool.false_eq_true, Bool.true_eq_false, false_implies, true_and, and_true, repL0, List.nil_append, Nat.zero_add, Int.toNat_natCast, Int.toNat_zero, Nat.zero_mul]
    repeat' (with_reducible apply And.intro)
    all_goals first | omega | exact decide_eq_true (by omega) | exact decide_eq_false (by omega) | exact edge_ctr (incS m 2) _ _ _ _ he))
theorem adW_p (p : Pth) (m : Pg) (hn : 0 ≤ m.st ∧ m.st ≤ 1000000) (ho : p.op = 7) (hi : 0 < p.test.length) (he : m.edges.length ≤ 1000000) (ht : m.tests.length ≤ 1000000) : Ctr Tryd.prog 59 [.agg (pgC m), .agg (pthL p)] (.agg (ptC ⟨addE (addT (incS m 2) (p.test.getD 0 flt0)) m.st (m.st + 1) 3 m.tests.length, m.st, m.st + 1⟩)) :=
  Ctr.mk Γ_ok Tryd.func59 (by kernel_rfl) Tryd.call59 [] (by kernel_rfl) (HT.walk Γ_ok mo_ok (⟨[(22, .val (.bool false)), (60, .val (.bool false)), (114, .val (.bool false)), (143, .val (.bool false)), (146, .val (.bool false)), (149, .val (.bool true)), (160, .val (.agg (fltL (p.test.getD 0 flt0)))), (170, .call [] (.agg (pgC (addE (addT (incS m 2) (p.test.getD 0 flt0)) m.st (m.st + 1) 3 m.tests.length))))], [], hd59 [(10, 3, 3, 1)] [] [] [], [], .pure [] (.agg (ptC ⟨addE (addT (incS m 2) (p.test.getD 0 flt0)) m.st (m.st + 1) 3 m.tests.length, m.st, m.st + 1⟩))⟩ : Wk) 4000 (T := .ob (decide (p.op = (4 : Int)) = false) (.ob (decide (p.op = (5 : Int)) = false) (.ob (decide (p.op = (6 : Int)) = false) (.ob (decide (p.op = (2 : Int)) = false) (.ob (decide (p.op = (3 : Int)) = false) (.ob (decide (p.op = (7 : Int)) = true) (.ob ((repL (List.map zn [AV.int .i64 (0 : Int), AV.str (ByteArray.mk #[]), AV.str (ByteArray.mk #[]), AV.str (ByteArray.mk #[]), AV.sl (some true) (0 : Nat) [] .clip, AV.sl (some true) (0 : Nat) [] .clip]) (0 : Nat)).length = (0 : Nat) * ((5 : Nat) + (1 : Nat)) ∧ (fltsC m.tests).length = m.tests.length * ((5 : Nat) + (1 : Nat)) ∧ ((0 : Nat) + m.tests.length) * ((103 : Nat) + (1 : Nat)) ≤ (140737488355328 : Nat)) (.ob ((0 : Int) ≤ (0 : Int) ∧ (0 : Int) < (↑p.test.length : Int) ∧ Int.toNat (0 : Int) * (6 : Nat) < (fltsC p.test).length) (.ob (List.take (6 : Nat) (List.drop (Int.toNat (0 : Int) * (6 : Nat)) (fltsC p.test)) = (fltL (p.test.getD (0 : Nat) flt0))) (.ob ((0 : Nat) + m.tests.length = (0 : Nat) + m.tests.length) (.ob ((repL (List.map zn [AV.int .i64 (0 : Int), AV.str (ByteArray.mk #[]), AV.str (ByteArray.mk #[]), AV.str (ByteArray.mk #[]), AV.sl (some true) (0 : Nat) [] .clip, AV.sl (some true) (0 : Nat) [] .clip]) (0 : Nat) ++ fltsC m.tests).length = ((0 : Nat) + m.tests.length) * ((5 : Nat) + (1 : Nat)) ∧ (splice (repL (List.map zn [AV.int .i64 (0 : Int), AV.str (ByteArray.mk #[]), AV.str (ByteArray.mk #[]), AV.str (ByteArray.mk #[]), AV.sl (some true) (0 : Nat) [] .clip, AV.sl (some true) (0 : Nat) [] .clip]) (1 : Nat)) ((0 : Nat) * (6 : Nat)) (cellsOf (AV.agg (fltL (p.test.getD (0 : Nat) flt0))))).length = (1 : Nat) * ((5 : Nat) + (1 : Nat)) ∧ ((0 : Nat) + m.tests.length + (1 : Nat)) * ((103 : Nat) + (1 : Nat)) ≤ (140737488355328 : Nat)) (.ob ((5 : Nat) ≤ (5 : Nat)) (.ob (Ctr Tryd.prog 72 [AV.agg [AV.int .i64 (IntKind.i64.wrap (m.st + (2 : Int))), AV.int .i64 m.s, AV.int .i64 m.e, AV.sl none m.edges.length (edgC m.edges) .no, AV.sl none ((0 : Nat) + m.tests.length + (1 : Nat)) (repL (List.map zn [AV.int .i64 (0 : Int), AV.str (ByteArray.mk #[]), AV.str (ByteArray.mk #[]), AV.str (ByteArray.mk #[]), AV.sl (some true) (0 : Nat) [] .clip, AV.sl (some true) (0 : Nat) [] .clip]) (0 : Nat) ++ fltsC m.tests ++ splice (repL (List.map zn [AV.int .i64 (0 : Int), AV.str (ByteArray.mk #[]), AV.str (ByteArray.mk #[]), AV.str (ByteArray.mk #[]), AV.sl (some true) (0 : Nat) [] .clip, AV.sl (some true) (0 : Nat) [] .clip]) (1 : Nat)) ((0 : Nat) * (6 : Nat)) (cellsOf (AV.agg (fltL (p.test.getD (0 : Nat) flt0))))) .no], AV.int .i64 m.st, AV.int .i64 (IntKind.i64.wrap (m.st + (1 : Int))), AV.int .i64 (3 : Int), AV.int .i64 (↑m.tests.length : Int)] (AV.agg [AV.int .i64 (addE (addT (incS m (2 : Int)) (p.test.getD (0 : Nat) flt0)) m.st (m.st + (1 : Int)) (3 : Int) (↑m.tests.length : Int)).st, AV.int .i64 (addE (addT (incS m (2 : Int)) (p.test.getD (0 : Nat) flt0)) m.st (m.st + (1 : Int)) (3 : Int) (↑m.tests.length : Int)).s, AV.int .i64 (addE (addT (incS m (2 : Int)) (p.test.getD (0 : Nat) flt0)) m.st (m.st + (1 : Int)) (3 : Int) (↑m.tests.length : Int)).e, AV.sl none (addE (addT (incS m (2 : Int)) (p.test.getD (0 : Nat) flt0)) m.st (m.st + (1 : Int)) (3 : Int) (↑m.tests.length : Int)).edges.length (edgC (addE (addT (incS m (2 : Int)) (p.test.getD (0 : Nat) flt0)) m.st (m.st + (1 : Int)) (3 : Int) (↑m.tests.length : Int)).edges) .no, AV.sl none (addE (addT (incS m (2 : Int)) (p.test.getD (0 : Nat) flt0)) m.st (m.st + (1 : Int)) (3 : Int) (↑m.tests.length : Int)).tests.length (fltsC (addE (addT (incS m (2 : Int)) (p.test.getD (0 : Nat) flt0)) m.st (m.st + (1 : Int)) (3 : Int) (↑m.tests.length : Int)).tests) .no])) (.ob ((addE (addT (incS m (2 : Int)) (p.test.getD (0 : Nat) flt0)) m.st (m.st + (1 : Int)) (3 : Int) (↑m.tests.length : Int)).st = (addE (addT (incS m (2 : Int)) (p.test.getD (0 : Nat) flt0)) m.st (m.st + (1 : Int)) (3 : Int) (↑m.tests.length : Int)).st) (.ob ((addE (addT (incS m (2 : Int)) (p.test.getD (0 : Nat) flt0)) m.st (m.st + (1 : Int)) (3 : Int) (↑m.tests.length : Int)).s = (addE (addT (incS m (2 : Int)) (p.test.getD (0 : Nat) flt0)) m.st (m.st + (1 : Int)) (3 : Int) (↑m.tests.length : Int)).s) (.ob ((addE (addT (incS m (2 : Int)) (p.test.getD (0 : Nat) flt0)) m.st (m.st + (1 : Int)) (3 : Int) (↑m.tests.length : Int)).e = (addE (addT (incS m (2 : Int)) (p.test.getD (0 : Nat) flt0)) m.st (m.st + (1 : Int)) (3 : Int) (↑m.tests.length : Int)).e) (.ob ((addE (addT (incS m (2 : Int)) (p.test.getD (0 : Nat) flt0)) m.st (m.st + (1 : Int)) (3 : Int) (↑m.tests.length : Int)).edges.length = (addE (addT (incS m (2 : Int)) (p.test.getD (0 : Nat) flt0)) m.st (m.st + (1 : Int)) (3 : Int) (↑m.tests.length : Int)).edges.length) (.ob (edgC (addE (addT (incS m (2 : Int)) (p.test.getD (0 : Nat) flt0)) m.st (m.st + (1 : Int)) (3 : Int) (↑m.tests.length : Int)).edges = edgC (addE (addT (incS m (2 : Int)) (p.test.getD (0 : Nat) flt0)) m.st (m.st + (1 : Int)) (3 : Int) (↑m.tests.length : Int)).edges) (.ob ((addE (addT (incS m (2 : Int)) (p.test.getD (0 : Nat) flt0)) m.st (m.st + (1 : Int)) (3 : Int) (↑m.tests.length : Int)).tests.length = (addE (addT (incS m (2 : Int)) (p.test.getD (0 : Nat) flt0)) m.st (m.st + (1 : Int)) (3 : Int) (↑m.tests.length : Int)).tests.length) (.ob (fltsC (addE (addT (incS m (2 : Int)) (p.test.getD (0 : Nat) flt0)) m.st (m.st + (1 : Int)) (3 : Int) (↑m.tests.length : Int)).tests = fltsC (addE (addT (incS m (2 : Int)) (p.test.getD (0 : Nat) flt0)) m.st (m.st + (1 : Int)) (3 : Int) (↑m.tests.length : Int)).tests) (.ob (m.st = m.st) (.ob (IntKind.i64.wrap (m.st + (1 : Int)) = m.st + (1 : Int)) (.tt))))))))))))))))))))))) (by kernel_rfl) (by
    have w1 : IntKind.i64.wrap (m.st + 1) = m.st + 1 := by rw [i64_wrap (by omega) (by omega)]
    have w2 : IntKind.i64.wrap (m.st + 2) = m.st + 2 := by rw [i64_wrap (by omega) (by omega)]
    simp only [PT.holds, w1, w2, true_implies, Bool.false_eq_true, Bool.true_eq_false, false_implies, true_and, and_true, repL0, List.nil_append, Nat.zero_add, Int.toNat_natCast, Int.toNat_zero, Nat.zero_mul]
    repeat' (with_reducible apply And.intro)
    all_goals first | omega | rfl | exact decide_eq_true (by omega) | exact decide_eq_false (by omega) | ((try simp only [Nat.add_assoc, Nat.reduceAdd, Nat.add_zero]) <;> first | (rw [ats_take _ _ _ _ hi (by decide)]; rfl) | (rw [ats_nth _ _ _ hi (by decide)]; rfl) | (rw [pths_take _ _ _ _ hi (by decide)]; rfl) | (rw [pths_nth _ _ _ hi (by decide)]; rfl) | (rw [flts_take _ _ _ _ hi (by decide)]; rfl) | (rw [flts_nth _ _ _ hi (by decide)]; rfl) | (rw [ats_take0 _ _ _ hi (by decide)]; rfl) | (rw [ats_nth0 _ _ hi]; rfl) | (rw [pths_take0 _ _ _ hi (by decide)]; rfl) | (rw [pths_nth0 _ _ hi]; rfl) | (rw [flts_take0 _ _ _ hi (by decide)]; rfl) | (rw [flts_nth0 _ _ hi]; rfl)) | (simp [fltsC_len]; done) | (simp only [fltsC_len]; omega) | (have h := edge_ctr (addT (incS m 2) (p.test.getD 0 flt0)) m.st (m.st + 1) 3 m.tests.length he; simp only [pgC, addT, incS, flts_app, List.length_append, List.length_singleton] at h; exact h)))
end Go.Proofs.YteimloiaipiadaaDoor
end

section
set_option linter.unusedVariables false
set_option linter.unusedSimpArgs false
set_option maxRecDepth 100000
namespace Go.Proofs.YteimloiaipiadaaDoor
open Go Go.AX

/-- What a part's machine keeps to. -/
structure AddR (m : Pg) (k : Nat) (x : Pt) : Prop where
  st : m.st < x.m.st ∧ x.m.st ≤ m.st + 2 * (k : Int)
  s : m.st ≤ x.s ∧ x.s < x.m.st
  edges : x.m.edges.length + 3 ≤ m.edges.length + 4 * k
  tests : x.m.tests.length ≤ m.tests.length + k
structure AddB (m : Pg) (k : Nat) : Prop where
  st : 0 ≤ m.st ∧ m.st + 2 * (k : Int) ≤ 100000
  edges : m.edges.length + 4 * k ≤ 100000
  tests : m.tests.length + k ≤ 100000
theorem addE_len (m : Pg) (a b c d : Int) : (addE m a b c d).edges.length = m.edges.length + 1 := by simp [addE]
theorem partsP_pos (p : Pth) : 1 ≤ partsP p := by rw [partsP_eq]; omega
theorem partsPs_drop (l : List Pth) (i : Nat) (h : i < l.length) : partsPs (l.drop i) = partsP (l.getD i pth0) + partsPs (l.drop (i + 1)) := by
  rw [drop_cons l i pth0 h]; simp only [partsPs]
theorem ad4_l (p : Pth) (m : Pg) (hs : p.sub.length ≤ 1048600) (s0 : Int) (h0 : m.st ≤ s0) (K : Nat) (hK : AddB m K) (hc : ∀ q ∈ p.sub, ∀ m, AddB m (partsP q) → ∃ x, AddR m (partsP q) x ∧ Ctr Tryd.prog 59 [.agg (pgC m), .agg (pthL q)] (.agg (ptC x))) :
    ∀ d i (x : Pt), i + d = p.sub.length → m.st < x.m.st ∧ s0 < x.m.st → x.m.st + 2 * (partsPs (p.sub.drop i) : Int) ≤ m.st + 2 * (K : Int) → x.m.edges.length + 3 + 4 * partsPs (p.sub.drop i) ≤ m.edges.length + 4 * K → x.m.tests.length + partsPs (p.sub.drop i) ≤ m.tests.length + K → x.s = s0 → ∃ R : Pt, AddR m K R ∧ HT Tryd.prog Tryd.f59.ntmps (pt Tryd.f59 0) (stA4 p m x m.st s0 i) (EndsA Γ (.pure [] (.agg (ptC R))) Tryd.f59) := by
  obtain ⟨k1, k2, k3⟩ := hK
  intro d
  induction d with
  | zero =>
    intro i x h h1 h2 h3 h4 h5
    rw [List.drop_of_length_le (by omega)] at h2 h3 h4
    simp only [partsPs] at h2 h3 h4
    exact ⟨x, ⟨⟨h1.1, by omega⟩, ⟨by omega, by omega⟩, by omega, by omega⟩, ad4_e p m x m.st s0 i (by omega)⟩
  | succ d ih =>
    intro i x h h1 h2 h3 h4 h5
    have hi : i < p.sub.length := by omega
    have hp := partsPs_drop p.sub i hi
    have hpp := partsP_pos (p.sub.getD i pth0)
    rw [hp] at h2 h3 h4
    obtain ⟨y, hy, c59⟩ := hc _ (getD_mem p.sub i pth0 hi) x.m ⟨⟨by omega, by omega⟩, by omega, by omega⟩
    obtain ⟨y1, y2, y3, y4⟩ := hy
    have hle := addE_len y.m x.e y.s 0 0
    obtain ⟨R, hR, k⟩ := ih (i + 1) ⟨addE y.m x.e y.s 0 0, s0, y.e⟩ (by omega) ⟨by show m.st < y.m.st; omega, by show s0 < y.m.st; omega⟩ (by show y.m.st + _ ≤ _; omega) (by show (addE y.m x.e y.s 0 0).edges.length + _ + _ ≤ _; omega) (by show y.m.tests.length + _ ≤ _; omega) rfl
    exact ⟨R, hR, ad4_h p m R hs x y m.st s0 i hi (by omega) c59 k⟩
theorem ad6_l (p : Pth) (m0 : Pg) (K : Nat) (hK : AddB m0 K) (hs : p.sub.length ≤ 1048600) (n en : Int) (ends : List Int) (hel : ends.length ≤ 100000) :
    ∀ d i (m : Pg), i + d = ends.length → m0.st < m.st ∧ m.st ≤ m0.st + 2 * (K : Int) → m0.st ≤ n ∧ n < m.st → m.edges.length + 3 + d ≤ m0.edges.length + 4 * K → m.tests.length ≤ m0.tests.length + K → ∃ R : Pt, AddR m0 K R ∧ HT Tryd.prog Tryd.f59.ntmps (pt Tryd.f59 2) (stA6 p m n en ends i) (EndsA Γ (.pure [] (.agg (ptC R))) Tryd.f59) := by
  obtain ⟨k1, k2, k3⟩ := hK
  intro d
  induction d with
  | zero =>
    intro i m h h1 h2 h3 h4
    exact ⟨⟨m, n, en⟩, ⟨⟨h1.1, h1.2⟩, ⟨h2.1, h2.2⟩, by show m.edges.length + 3 ≤ _; omega, h4⟩, ad6_e p m n en ends i (by omega)⟩
  | succ d ih =>
    intro i m h h1 h2 h3 h4
    have hle := addE_len m (ends.getD i 0) en 0 0
    obtain ⟨R, hR, k⟩ := ih (i + 1) (addE m (ends.getD i 0) en 0 0) (by omega) h1 h2 (by omega) h4
    exact ⟨R, hR, ad6_h p m R hs n en ends i (by omega) (by omega) (by omega) k⟩
theorem ad5_l (p : Pth) (m0 : Pg) (K : Nat) (hK : AddB m0 K) (hs : p.sub.length ≤ 100000) (n : Int) (hn : n = m0.st) (hc : ∀ q ∈ p.sub, ∀ m, AddB m (partsP q) → ∃ x, AddR m (partsP q) x ∧ Ctr Tryd.prog 59 [.agg (pgC m), .agg (pthL q)] (.agg (ptC x))) :
    ∀ d i (m : Pg) (ends : List Int), i + d = p.sub.length → ends.length = i → m0.st < m.st → m.st + 2 * (partsPs (p.sub.drop i) : Int) + 1 ≤ m0.st + 2 * (K : Int) → m.edges.length + 4 * partsPs (p.sub.drop i) + 2 * i + 4 ≤ m0.edges.length + 4 * K → m.tests.length + partsPs (p.sub.drop i) ≤ m0.tests.length + K → ∃ R : Pt, AddR m0 K R ∧ HT Tryd.prog Tryd.f59.ntmps (pt Tryd.f59 1) (stA5 p m n ends i) (EndsA Γ (.pure [] (.agg (ptC R))) Tryd.f59) := by
  have hK' := hK
  obtain ⟨k1, k2, k3⟩ := hK
  intro d
  induction d with
  | zero =>
    intro i m ends h he h1 h2 h3 h4
    rw [List.drop_of_length_le (by omega)] at h2 h3 h4
    simp only [partsPs] at h2 h3 h4
    obtain ⟨R, hR, k⟩ := ad6_l p m0 K hK' (by omega) n m.st ends (by omega) ends.length 0 (incS m 1) (Nat.zero_add _) ⟨by show m0.st < m.st + 1; omega, by show m.st + 1 ≤ _; omega⟩ ⟨by omega, by show n < m.st + 1; omega⟩ (by show m.edges.length + 3 + ends.length ≤ _; omega) (by show m.tests.length ≤ _; omega)
    exact ⟨R, hR, ad5_e p m R (by omega) ⟨by omega, by omega⟩ n ends i (by omega) k⟩
  | succ d ih =>
    intro i m ends h he h1 h2 h3 h4
    have hi : i < p.sub.length := by omega
    have hp := partsPs_drop p.sub i hi
    have hpp := partsP_pos (p.sub.getD i pth0)
    rw [hp] at h2 h3 h4
    obtain ⟨x, hx, c59⟩ := hc _ (getD_mem p.sub i pth0 hi) m ⟨⟨by omega, by omega⟩, by omega, by omega⟩
    obtain ⟨y1, y2, y3, y4⟩ := hx
    have hle := addE_len x.m n x.s 0 0
    obtain ⟨R, hR, k⟩ := ih (i + 1) (addE x.m n x.s 0 0) (ends ++ [x.e]) (by omega) (by simp [he]) (by show m0.st < x.m.st; omega) (by show x.m.st + _ + _ ≤ _; omega) (by omega) (by show x.m.tests.length + _ ≤ _; omega)
    exact ⟨R, hR, ad5_h p m R (by omega) x n ends i hi (by omega) (by omega) c59 k⟩
theorem add_ex (p : Pth) (hok : p.ok) (hr : p.r) : ∀ m, AddB m (partsP p) → ∃ x, AddR m (partsP p) x ∧ Ctr Tryd.prog 59 [.agg (pgC m), .agg (pthL p)] (.agg (ptC x)) := by
  intro m hB
  have hB' := hB
  obtain ⟨b1, b2, b3⟩ := hB
  have ho := Pth.ok_i hok
  have hpe := partsP_eq p
  have hr1 : p.r1 ∧ (∀ q ∈ p.sub, q.r) := by cases hr; exact ⟨by assumption, by assumption⟩
  have hsl : p.sub.length ≤ partsPs p.sub := by
    have : ∀ l : List Pth, l.length ≤ partsPs l := fun l => by
      induction l with
      | nil => simp
      | cons a r ih => have := partsP_pos a; simp only [List.length_cons, partsPs]; omega
    exact this _
  have hc : ∀ q ∈ p.sub, ∀ m, AddB m (partsP q) → ∃ x, AddR m (partsP q) x ∧ Ctr Tryd.prog 59 [.agg (pgC m), .agg (pthL q)] (.agg (ptC x)) := fun q hq => have := sub_lt p q hq; add_ex q (ho.2.2.1 q hq) (hr1.2 q hq)
  have hop := hr1.1.op
  by_cases h4 : p.op = 4
  · have h2 := hr1.1.two (.inl h4)
    have hd := partsPs_drop p.sub 0 (by omega)
    rw [List.drop_zero] at hd
    obtain ⟨x, hx, c59⟩ := hc _ (getD_mem p.sub 0 pth0 (by omega)) m ⟨⟨by omega, by omega⟩, by omega, by omega⟩
    obtain ⟨y1, y2, y3, y4⟩ := hx
    obtain ⟨R, hR, k⟩ := ad4_l p m ho.1 x.s y2.1 (partsP p) hB' hc (p.sub.length - 1) 1 x (by omega) ⟨y1.1, y2.2⟩ (by simp only [Nat.zero_add] at hd; omega) (by simp only [Nat.zero_add] at hd; omega) (by simp only [Nat.zero_add] at hd; omega) rfl
    exact ⟨R, hR, ad4_p p m R ho.1 x h4 (by omega) c59 k⟩
  by_cases h5 : p.op = 5
  · have h2 := hr1.1.two (.inr h5)
    obtain ⟨R, hR, k⟩ := ad5_l p m (partsP p) hB' (by omega) m.st rfl hc p.sub.length 0 (incS m 1) [] (Nat.zero_add _) rfl (by show m.st < m.st + 1; omega) (by rw [List.drop_zero]; show m.st + 1 + _ + _ ≤ _; omega) (by rw [List.drop_zero]; show m.edges.length + _ + _ + _ ≤ _; omega) (by rw [List.drop_zero]; show m.tests.length + _ ≤ _; omega)
    exact ⟨R, hR, ad5_p p m R ho.1 ⟨by omega, by omega⟩ h5 k⟩
  by_cases h6 : p.op = 6
  · have h2 := hr1.1.one h6
    have hd := partsPs_drop p.sub 0 (by omega)
    rw [List.drop_zero, List.drop_of_length_le (by omega)] at hd
    simp only [partsPs] at hd
    obtain ⟨x, hx, c59⟩ := hc _ (getD_mem p.sub 0 pth0 (by omega)) (incS m 1) ⟨⟨by show 0 ≤ m.st + 1; omega, by show m.st + 1 + _ ≤ _; omega⟩, by show m.edges.length + _ ≤ _; omega, by show m.tests.length + _ ≤ _; omega⟩
    obtain ⟨y1, y2, y3, y4⟩ := hx
    have e1 : (incS m 1).st = m.st + 1 := rfl
    have e2 : (incS m 1).edges = m.edges := rfl
    have e3 : (incS m 1).tests = m.tests := rfl
    rw [e1] at y1 y2
    rw [e2] at y3
    rw [e3] at y4
    have hle := addE_len (addE x.m m.st x.s 0 0) x.e m.st 0 0
    have hle2 := addE_len x.m m.st x.s 0 0
    refine ⟨_, ⟨⟨?_, ?_⟩, ⟨?_, ?_⟩, ?_, ?_⟩, adS_p p m x ⟨by omega, by omega⟩ h6 (by omega) (by omega) c59⟩
    · show m.st < x.m.st; omega
    · show x.m.st ≤ _; omega
    · show m.st ≤ m.st; omega
    · show m.st < x.m.st; omega
    · show (addE (addE x.m m.st x.s 0 0) x.e m.st 0 0).edges.length + 3 ≤ _; omega
    · show x.m.tests.length ≤ _; omega
  have leaf : ∀ kd : Int, AddR m (partsP p) ⟨addE (incS m 2) m.st (m.st + 1) kd 0, m.st, m.st + 1⟩ := fun kd => by
    have hle := addE_len (incS m 2) m.st (m.st + 1) kd 0
    have e2 : (incS m 2).edges = m.edges := rfl
    rw [e2] at hle
    refine ⟨⟨?_, ?_⟩, ⟨?_, ?_⟩, ?_, ?_⟩
    · show m.st < m.st + 2; omega
    · show m.st + 2 ≤ _; omega
    · show m.st ≤ m.st; omega
    · show m.st < m.st + 2; omega
    · show (addE (incS m 2) m.st (m.st + 1) kd 0).edges.length + 3 ≤ _; omega
    · show m.tests.length ≤ _; omega
  by_cases h7 : p.op = 7
  · have ht := hr1.1.test.1 h7
    have hle := addE_len (addT (incS m 2) (p.test.getD 0 flt0)) m.st (m.st + 1) 3 m.tests.length
    have e2 : (addT (incS m 2) (p.test.getD 0 flt0)).edges = m.edges := rfl
    rw [e2] at hle
    refine ⟨_, ⟨⟨?_, ?_⟩, ⟨?_, ?_⟩, ?_, ?_⟩, adW_p p m ⟨by omega, by omega⟩ h7 (by omega) (by omega) (by omega)⟩
    · show m.st < m.st + 2; omega
    · show m.st + 2 ≤ _; omega
    · show m.st ≤ m.st; omega
    · show m.st < m.st + 2; omega
    · show (addE (addT (incS m 2) (p.test.getD 0 flt0)) m.st (m.st + 1) 3 m.tests.length).edges.length + 3 ≤ _; omega
    · show (m.tests ++ [p.test.getD 0 flt0]).length ≤ _; rw [List.length_append, List.length_singleton]; omega
  by_cases h2 : p.op = 2
  · exact ⟨_, leaf 1, adF_p p m ⟨by omega, by omega⟩ h2 (by omega)⟩
  by_cases h3 : p.op = 3
  · exact ⟨_, leaf 2, adN_p p m ⟨by omega, by omega⟩ h3 (by omega)⟩
  exact ⟨_, leaf 0, adL_p p m ⟨by omega, by omega⟩ (by omega) (by omega)⟩
termination_by SizeOf.sizeOf p

end Go.Proofs.YteimloiaipiadaaDoor
end

section
set_option linter.unusedVariables false
set_option linter.unusedSimpArgs false
set_option maxRecDepth 100000
namespace Go.Proofs.YteimloiaipiadaaDoor
open Go Go.AX

theorem paths_app (a b : List Pth) : pthsC (a ++ b) = pthsC a ++ pthsC b := by rw [pthsC_eq, pthsC_eq, pthsC_eq, List.flatMap_append]
theorem path_app (a : List Pth) (q : Pth) : pthsC (a ++ [q]) = pthsC a ++ pthL q := by rw [pthsC_eq, pthsC_eq]; simp [pthC_L]
def stI0 (p : Pth) (out : List Pth) (i : Nat) : AS := ⟨[(1, .ptr 1 0), (3, .sl none out.length (pthsC out) (.own 1)), (4, .int .i64 i)], [(1, .var true (pthL p))], [(1, ⟨out.length, 25, 3, none⟩)]⟩
def stI1 (p : Pth) (out : List Pth) (i : Nat) : AS := ⟨[(1, .ptr 1 0), (3, .sl none out.length (pthsC out) (.own 1)), (5, .int .i64 i)], [(1, .var true (pthL p))], [(1, ⟨out.length, 25, 3, none⟩)]⟩
def stW (p : Flt) (out : List Pth) (i : Nat) : AS := ⟨[(1, .ptr 1 0), (3, .sl none out.length (pthsC out) (.own 1)), (4, .int .i64 i)], [(1, .var true (fltL p))], [(1, ⟨out.length, 25, 3, none⟩)]⟩

theorem cp_p (p : Pth) (x : Pt) (c59 : Ctr Tryd.prog 59 [.agg [.int .i64 0, .int .i64 0, .int .i64 0, .sl (some true) 0 [] .clip, .sl (some true) 0 [] .clip], .agg (pthL p)] (.agg (ptC x))) : Ctr Tryd.prog 41 [.agg (pthL p)] (.agg (pgC ⟨x.m.st, x.s, x.e, x.m.edges, x.m.tests⟩)) :=
  Ctr.mk Γ_ok Tryd.func41 (by kernel_rfl) Tryd.call41 [] (by kernel_rfl) (HT.walk Γ_ok mo_ok (⟨[(6, .call [] (.agg (ptC x)))], [], [], [], .pure [] (.agg (pgC ⟨x.m.st, x.s, x.e, x.m.edges, x.m.tests⟩))⟩ : Wk) 4000 (T := .ob ((3 : Nat) ≤ (3 : Nat)) (.ob (Ctr Tryd.prog 59 [AV.agg [AV.int .i64 (0 : Int), AV.int .i64 (0 : Int), AV.int .i64 (0 : Int), AV.sl (some true) (0 : Nat) [] .clip, AV.sl (some true) (0 : Nat) [] .clip], AV.agg (pthL p)] (AV.agg [AV.int .i64 x.m.st, AV.int .i64 x.m.s, AV.int .i64 x.m.e, AV.sl none x.m.edges.length (edgC x.m.edges) .no, AV.sl none x.m.tests.length (fltsC x.m.tests) .no, AV.int .i64 x.s, AV.int .i64 x.e])) (.ob ((5 : Nat) ≤ (7 : Nat)) (.ob (x.m.st = x.m.st) (.ob (x.s = x.s) (.ob (x.e = x.e) (.ob (x.m.edges.length = x.m.edges.length) (.ob (edgC x.m.edges = edgC x.m.edges) (.ob (x.m.tests.length = x.m.tests.length) (.ob (fltsC x.m.tests = fltsC x.m.tests) (.tt))))))))))) (by kernel_rfl) (by
    simp only [PT.holds, true_implies, Bool.false_eq_true, Bool.true_eq_false, false_implies, true_and, and_true, repL0, List.nil_append, Nat.zero_add, Int.toNat_natCast, Int.toNat_zero, Nat.zero_mul]
    repeat' (with_reducible apply And.intro)
    all_goals first | exact c59 | omega))
theorem in0_h (p : Pth) (out l R : List Pth) (i : Nat) (hi : i < p.sub.length) (hs : p.sub.length ≤ 1048600) (ho : out.length + l.length ≤ 1000000) (hc : Ctr Tryd.prog 42 [.agg (pthL (p.sub.getD i pth0))] (.sl none l.length (pthsC l) .no)) (k : HT Tryd.prog Tryd.f42.ntmps (pt Tryd.f42 0) (stI0 p (out ++ l) (i + 1)) (EndsA Γ (.pure [] (.sl none R.length (pthsC R) .no)) Tryd.f42)) : HT Tryd.prog Tryd.f42.ntmps (pt Tryd.f42 0) (stI0 p out i) (EndsA Γ (.pure [] (.sl none R.length (pthsC R) .no)) Tryd.f42) :=
  HT.walk Γ_ok mo_ok (⟨[(10, .val (.bool true)), (18, .val (.agg (pthL (p.sub.getD i pth0)))), (19, .call [] (.sl none l.length (pthsC l) .no))], [], hd42 [(3, 1, 25, 3)] [] [] [], [], .pure [] (.sl none R.length (pthsC R) .no)⟩ : Wk) 4000 (T := .ob (decide ((↑i : Int) < (↑p.sub.length : Int)) = true) (.ob ((0 : Int) ≤ (↑i : Int) ∧ (↑i : Int) < (↑p.sub.length : Int) ∧ (↑i : Int).toNat * (3 : Nat) < (pthsC p.sub).length) (.ob (List.take (3 : Nat) (List.drop ((↑i : Int).toNat * (3 : Nat)) (pthsC p.sub)) = (pthL (p.sub.getD i pth0))) (.ob (Ctr Tryd.prog 42 [AV.agg (pthL (p.sub.getD i pth0))] (AV.sl none l.length (pthsC l) .no)) (.ob (out.length = out.length) (.ob ((pthsC out).length = out.length * ((2 : Nat) + (1 : Nat)) ∧ (pthsC l).length = l.length * ((2 : Nat) + (1 : Nat)) ∧ (out.length + l.length) * ((55 : Nat) + (1 : Nat)) ≤ (140737488355328 : Nat)) (.head (pt Tryd.f42 0) ({ tmps := [(1, AV.ptr 1 0), (3, AV.sl none (out.length + l.length) (pthsC out ++ pthsC l) (.own (1 : Nat))), (4, AV.int .i64 (IntKind.i64.wrap ((↑i : Int) + (1 : Int))))], heap := [(1, .var true (pthL p))], tags := [(1, { n := out.length + l.length, e := (25 : Nat), sz := (3 : Nat) })] })))))))) (by kernel_rfl) (by
    have w2 : IntKind.i64.wrap ((i : Int) + 1) = ((i + 1 : Nat) : Int) := by rw [i64_wrap (by omega) (by omega)]; rfl
    simp only [PT.holds, w2, true_implies, Bool.false_eq_true, Bool.true_eq_false, false_implies, true_and, and_true, repL0, List.nil_append, Nat.zero_add, Int.toNat_natCast, Int.toNat_zero, Nat.zero_mul]
    repeat' (with_reducible apply And.intro)
    all_goals first | assumption | omega | exact decide_eq_true (by omega) | ((try simp only [Nat.add_assoc, Nat.reduceAdd, Nat.add_zero]) <;> first | (rw [ats_take _ _ _ _ hi (by decide)]; rfl) | (rw [pths_take _ _ _ _ hi (by decide)]; rfl) | (rw [flts_take _ _ _ _ hi (by decide)]; rfl) | (rw [ats_take0 _ _ _ hi (by decide)]; rfl) | (rw [pths_take0 _ _ _ hi (by decide)]; rfl) | (rw [flts_take0 _ _ _ hi (by decide)]; rfl)) | (simp only [pthsC_len, fltsC_len]; omega) | (rw [pthsC_len]) | exact head_eq k (by simp [stI0, stI1, stW, pthL, fltL, paths_app, path_app, splice, repL, cellsOf]))
theorem in0_e (p : Pth) (out R : List Pth) (i : Nat) (hi : i = p.sub.length) (k : HT Tryd.prog Tryd.f42.ntmps (pt Tryd.f42 1) (stI1 p out 0) (EndsA Γ (.pure [] (.sl none R.length (pthsC R) .no)) Tryd.f42)) : HT Tryd.prog Tryd.f42.ntmps (pt Tryd.f42 0) (stI0 p out i) (EndsA Γ (.pure [] (.sl none R.length (pthsC R) .no)) Tryd.f42) :=
  HT.walk Γ_ok mo_ok (⟨[(10, .val (.bool false)), (18, .val (.agg (pthL pth0))), (19, .call [] (.sl none out.length (pthsC out) .no))], [], hd42 [(3, 1, 25, 3)] [] [] [], [], .pure [] (.sl none R.length (pthsC R) .no)⟩ : Wk) 4000 (T := .ob (decide ((↑i : Int) < (↑p.sub.length : Int)) = false) (.head (pt Tryd.f42 1) ({ tmps := [(1, AV.ptr 1 0), (3, AV.sl none out.length (pthsC out) (.own (1 : Nat))), (5, AV.int .i64 (0 : Int))], heap := [(1, .var true (pthL p))], tags := [(1, { n := out.length, e := (25 : Nat), sz := (3 : Nat) })] }))) (by kernel_rfl) (by
    simp only [PT.holds, true_implies, Bool.false_eq_true, Bool.true_eq_false, false_implies, true_and, and_true, repL0, List.nil_append, Nat.zero_add, Int.toNat_natCast, Int.toNat_zero, Nat.zero_mul]
    repeat' (with_reducible apply And.intro)
    all_goals first | assumption | exact decide_eq_false (by omega))
theorem in1_h (p : Pth) (out l R : List Pth) (i : Nat) (hi : i < p.test.length) (hs : p.test.length ≤ 1048600) (ho : out.length + l.length ≤ 1000000) (hc : Ctr Tryd.prog 60 [.agg (fltL (p.test.getD i flt0))] (.sl none l.length (pthsC l) .no)) (k : HT Tryd.prog Tryd.f42.ntmps (pt Tryd.f42 1) (stI1 p (out ++ l) (i + 1)) (EndsA Γ (.pure [] (.sl none R.length (pthsC R) .no)) Tryd.f42)) : HT Tryd.prog Tryd.f42.ntmps (pt Tryd.f42 1) (stI1 p out i) (EndsA Γ (.pure [] (.sl none R.length (pthsC R) .no)) Tryd.f42) :=
  HT.walk Γ_ok mo_ok (⟨[(25, .val (.bool true)), (33, .val (.agg (fltL (p.test.getD i flt0)))), (34, .call [] (.sl none l.length (pthsC l) .no))], [], hd42 [(3, 1, 25, 3)] [] [] [], [], .pure [] (.sl none R.length (pthsC R) .no)⟩ : Wk) 4000 (T := .ob (decide ((↑i : Int) < (↑p.test.length : Int)) = true) (.ob ((0 : Int) ≤ (↑i : Int) ∧ (↑i : Int) < (↑p.test.length : Int) ∧ (↑i : Int).toNat * (6 : Nat) < (fltsC p.test).length) (.ob (List.take (6 : Nat) (List.drop ((↑i : Int).toNat * (6 : Nat)) (fltsC p.test)) = (fltL (p.test.getD i flt0))) (.ob (Ctr Tryd.prog 60 [AV.agg (fltL (p.test.getD i flt0))] (AV.sl none l.length (pthsC l) .no)) (.ob (out.length = out.length) (.ob ((pthsC out).length = out.length * ((2 : Nat) + (1 : Nat)) ∧ (pthsC l).length = l.length * ((2 : Nat) + (1 : Nat)) ∧ (out.length + l.length) * ((55 : Nat) + (1 : Nat)) ≤ (140737488355328 : Nat)) (.head (pt Tryd.f42 1) ({ tmps := [(1, AV.ptr 1 0), (3, AV.sl none (out.length + l.length) (pthsC out ++ pthsC l) (.own (1 : Nat))), (5, AV.int .i64 (IntKind.i64.wrap ((↑i : Int) + (1 : Int))))], heap := [(1, .var true (pthL p))], tags := [(1, { n := out.length + l.length, e := (25 : Nat), sz := (3 : Nat) })] })))))))) (by kernel_rfl) (by
    have w2 : IntKind.i64.wrap ((i : Int) + 1) = ((i + 1 : Nat) : Int) := by rw [i64_wrap (by omega) (by omega)]; rfl
    simp only [PT.holds, w2, true_implies, Bool.false_eq_true, Bool.true_eq_false, false_implies, true_and, and_true, repL0, List.nil_append, Nat.zero_add, Int.toNat_natCast, Int.toNat_zero, Nat.zero_mul]
    repeat' (with_reducible apply And.intro)
    all_goals first | assumption | omega | exact decide_eq_true (by omega) | ((try simp only [Nat.add_assoc, Nat.reduceAdd, Nat.add_zero]) <;> first | (rw [ats_take _ _ _ _ hi (by decide)]; rfl) | (rw [pths_take _ _ _ _ hi (by decide)]; rfl) | (rw [flts_take _ _ _ _ hi (by decide)]; rfl) | (rw [ats_take0 _ _ _ hi (by decide)]; rfl) | (rw [pths_take0 _ _ _ hi (by decide)]; rfl) | (rw [flts_take0 _ _ _ hi (by decide)]; rfl)) | (simp only [pthsC_len, fltsC_len]; omega) | (rw [pthsC_len]) | exact head_eq k (by simp [stI0, stI1, stW, pthL, fltL, paths_app, path_app, splice, repL, cellsOf]))
theorem in1_e (p : Pth) (out : List Pth) (i : Nat) (hi : i = p.test.length) : HT Tryd.prog Tryd.f42.ntmps (pt Tryd.f42 1) (stI1 p out i) (EndsA Γ (.pure [] (.sl none out.length (pthsC out) .no)) Tryd.f42) :=
  HT.walk Γ_ok mo_ok (⟨[(25, .val (.bool false)), (33, .val (.agg (fltL flt0))), (34, .call [] (.sl none out.length (pthsC out) .no))], [], hd42 [(3, 1, 25, 3)] [] [] [], [], .pure [] (.sl none out.length (pthsC out) .no)⟩ : Wk) 4000 (T := .ob (decide ((↑i : Int) < (↑p.test.length : Int)) = false) (.ob (out.length = out.length) (.ob (pthsC out = pthsC out) (.tt)))) (by kernel_rfl) (by
    simp only [PT.holds, true_implies, Bool.false_eq_true, Bool.true_eq_false, false_implies, true_and, and_true, repL0, List.nil_append, Nat.zero_add, Int.toNat_natCast, Int.toNat_zero, Nat.zero_mul]
    repeat' (with_reducible apply And.intro)
    all_goals first | exact decide_eq_false (by omega))
theorem in_p (p : Pth) (R : List Pth) (k : HT Tryd.prog Tryd.f42.ntmps (pt Tryd.f42 0) (stI0 p [] 0) (EndsA Γ (.pure [] (.sl none R.length (pthsC R) .no)) Tryd.f42)) : Ctr Tryd.prog 42 [.agg (pthL p)] (.sl none R.length (pthsC R) .no) :=
  Ctr.mk Γ_ok Tryd.func42 (by kernel_rfl) Tryd.call42 [] (by kernel_rfl) (HT.walk Γ_ok mo_ok (⟨[], [], hd42 [(3, 1, 25, 3)] [] [] [], [], .pure [] (.sl none R.length (pthsC R) .no)⟩ : Wk) 4000 (T := .head (pt Tryd.f42 0) ({ tmps := [(1, AV.ptr 1 0), (3, AV.sl none (0 : Nat) [] (.own (1 : Nat))), (4, AV.int .i64 (0 : Int))], heap := [(1, .var true (pthL p))], tags := [(1, { n := (0 : Nat), e := (25 : Nat), sz := (3 : Nat) })] })) (by kernel_rfl) (by
    simp only [PT.holds, true_implies, Bool.false_eq_true, Bool.true_eq_false, false_implies, true_and, and_true, repL0, List.nil_append, Nat.zero_add, Int.toNat_natCast, Int.toNat_zero, Nat.zero_mul]
    exact head_eq k (by simp [stI0, pthL, pthsC])))
theorem wi_h (p : Flt) (out l R : List Pth) (i : Nat) (hi : i < p.sub.length) (hs : p.sub.length ≤ 1048600) (ho : out.length + l.length ≤ 1000000) (hc : Ctr Tryd.prog 60 [.agg (fltL (p.sub.getD i flt0))] (.sl none l.length (pthsC l) .no)) (k : HT Tryd.prog Tryd.f60.ntmps (pt Tryd.f60 0) (stW p (out ++ l) (i + 1)) (EndsA Γ (.pure [] (.sl none R.length (pthsC R) .no)) Tryd.f60)) : HT Tryd.prog Tryd.f60.ntmps (pt Tryd.f60 0) (stW p out i) (EndsA Γ (.pure [] (.sl none R.length (pthsC R) .no)) Tryd.f60) :=
  HT.walk Γ_ok mo_ok (⟨[(9, .val (.bool true)), (17, .val (.agg (fltL (p.sub.getD i flt0)))), (18, .call [] (.sl none l.length (pthsC l) .no))], [], hd60 [(3, 1, 25, 3)] [] [] [], [], .pure [] (.sl none R.length (pthsC R) .no)⟩ : Wk) 4000 (T := .ob (decide ((↑i : Int) < (↑p.sub.length : Int)) = true) (.ob ((0 : Int) ≤ (↑i : Int) ∧ (↑i : Int) < (↑p.sub.length : Int) ∧ (↑i : Int).toNat * (6 : Nat) < (fltsC p.sub).length) (.ob (List.take (6 : Nat) (List.drop ((↑i : Int).toNat * (6 : Nat)) (fltsC p.sub)) = (fltL (p.sub.getD i flt0))) (.ob (Ctr Tryd.prog 60 [AV.agg (fltL (p.sub.getD i flt0))] (AV.sl none l.length (pthsC l) .no)) (.ob (out.length = out.length) (.ob ((pthsC out).length = out.length * ((2 : Nat) + (1 : Nat)) ∧ (pthsC l).length = l.length * ((2 : Nat) + (1 : Nat)) ∧ (out.length + l.length) * ((55 : Nat) + (1 : Nat)) ≤ (140737488355328 : Nat)) (.head (pt Tryd.f60 0) ({ tmps := [(1, AV.ptr 1 0), (3, AV.sl none (out.length + l.length) (pthsC out ++ pthsC l) (.own (1 : Nat))), (4, AV.int .i64 (IntKind.i64.wrap ((↑i : Int) + (1 : Int))))], heap := [(1, .var true (fltL p))], tags := [(1, { n := out.length + l.length, e := (25 : Nat), sz := (3 : Nat) })] })))))))) (by kernel_rfl) (by
    have w2 : IntKind.i64.wrap ((i : Int) + 1) = ((i + 1 : Nat) : Int) := by rw [i64_wrap (by omega) (by omega)]; rfl
    simp only [PT.holds, w2, true_implies, Bool.false_eq_true, Bool.true_eq_false, false_implies, true_and, and_true, repL0, List.nil_append, Nat.zero_add, Int.toNat_natCast, Int.toNat_zero, Nat.zero_mul]
    repeat' (with_reducible apply And.intro)
    all_goals first | assumption | omega | exact decide_eq_true (by omega) | ((try simp only [Nat.add_assoc, Nat.reduceAdd, Nat.add_zero]) <;> first | (rw [ats_take _ _ _ _ hi (by decide)]; rfl) | (rw [pths_take _ _ _ _ hi (by decide)]; rfl) | (rw [flts_take _ _ _ _ hi (by decide)]; rfl) | (rw [ats_take0 _ _ _ hi (by decide)]; rfl) | (rw [pths_take0 _ _ _ hi (by decide)]; rfl) | (rw [flts_take0 _ _ _ hi (by decide)]; rfl)) | (simp only [pthsC_len, fltsC_len]; omega) | (rw [pthsC_len]) | exact head_eq k (by simp [stI0, stI1, stW, pthL, fltL, paths_app, path_app, splice, repL, cellsOf]))
theorem wi_e (p : Flt) (out : List Pth) (i : Nat) (hi : i = p.sub.length) (ho : p.op ≠ 11) : HT Tryd.prog Tryd.f60.ntmps (pt Tryd.f60 0) (stW p out i) (EndsA Γ (.pure [] (.sl none out.length (pthsC out) .no)) Tryd.f60) :=
  HT.walk Γ_ok mo_ok (⟨[(9, .val (.bool false)), (22, .val (.bool false)), (17, .val (.agg (fltL flt0))), (18, .call [] (.sl none out.length (pthsC out) .no))], [], hd60 [(3, 1, 25, 3)] [] [] [], [], .pure [] (.sl none out.length (pthsC out) .no)⟩ : Wk) 4000 (T := .ob (decide ((↑i : Int) < (↑p.sub.length : Int)) = false) (.ob (decide (p.op = (11 : Int)) = false) (.ob (out.length = out.length) (.ob (pthsC out = pthsC out) (.tt))))) (by kernel_rfl) (by
    simp only [PT.holds, true_implies, Bool.false_eq_true, Bool.true_eq_false, false_implies, true_and, and_true, repL0, List.nil_append, Nat.zero_add, Int.toNat_natCast, Int.toNat_zero, Nat.zero_mul]
    repeat' (with_reducible apply And.intro)
    all_goals first | exact decide_eq_false (by omega))
theorem wi_e11 (p : Flt) (out l : List Pth) (i : Nat) (hi0 : i = p.sub.length) (ho : p.op = 11) (hi : 0 < p.way.length) (hl : out.length + l.length ≤ 100000) (hc : Ctr Tryd.prog 42 [.agg (pthL (p.way.getD 0 pth0))] (.sl none l.length (pthsC l) .no)) : HT Tryd.prog Tryd.f60.ntmps (pt Tryd.f60 0) (stW p out i) (EndsA Γ (.pure [] (.sl none (out ++ l ++ [(p.way.getD 0 pth0)]).length (pthsC (out ++ l ++ [(p.way.getD 0 pth0)])) .no)) Tryd.f60) :=
  HT.walk Γ_ok mo_ok (⟨[(9, .val (.bool false)), (22, .val (.bool true)), (17, .val (.agg (fltL flt0))), (18, .call [] (.sl none out.length (pthsC out) .no)), (27, .val (.agg (pthL (p.way.getD 0 pth0)))), (28, .call [] (.sl none l.length (pthsC l) .no)), (34, .val (.agg (pthL (p.way.getD 0 pth0))))], [], hd60 [(3, 1, 25, 3)] [] [] [], [], .pure [] (.sl none (out ++ l ++ [(p.way.getD 0 pth0)]).length (pthsC (out ++ l ++ [(p.way.getD 0 pth0)])) .no)⟩ : Wk) 4000 (T := .ob (decide ((↑i : Int) < (↑p.sub.length : Int)) = false) (.ob (decide (p.op = (11 : Int)) = true) (.ob ((0 : Int) ≤ (0 : Int) ∧ (0 : Int) < (↑p.way.length : Int) ∧ Int.toNat (0 : Int) * (3 : Nat) < (pthsC p.way).length) (.ob (List.take (3 : Nat) (List.drop (Int.toNat (0 : Int) * (3 : Nat)) (pthsC p.way)) = (pthL (p.way.getD (0 : Nat) pth0))) (.ob (Ctr Tryd.prog 42 [AV.agg (pthL (p.way.getD (0 : Nat) pth0))] (AV.sl none l.length (pthsC l) .no)) (.ob (out.length = out.length) (.ob ((pthsC out).length = out.length * ((2 : Nat) + (1 : Nat)) ∧ (pthsC l).length = l.length * ((2 : Nat) + (1 : Nat)) ∧ (out.length + l.length) * ((55 : Nat) + (1 : Nat)) ≤ (140737488355328 : Nat)) (.ob ((0 : Int) ≤ (0 : Int) ∧ (0 : Int) < (↑p.way.length : Int) ∧ Int.toNat (0 : Int) * (3 : Nat) < (pthsC p.way).length) (.ob (List.take (3 : Nat) (List.drop (Int.toNat (0 : Int) * (3 : Nat)) (pthsC p.way)) = (pthL (p.way.getD (0 : Nat) pth0))) (.ob (out.length + l.length = out.length + l.length) (.ob ((pthsC out ++ pthsC l).length = (out.length + l.length) * ((2 : Nat) + (1 : Nat)) ∧ (splice (repL (List.map zn [AV.int .i64 (0 : Int), AV.sl (some true) (0 : Nat) [] .clip, AV.sl (some true) (0 : Nat) [] .clip]) (1 : Nat)) ((0 : Nat) * (3 : Nat)) (cellsOf (AV.agg (pthL (p.way.getD (0 : Nat) pth0))))).length = (1 : Nat) * ((2 : Nat) + (1 : Nat)) ∧ (out.length + l.length + (1 : Nat)) * ((55 : Nat) + (1 : Nat)) ≤ (140737488355328 : Nat)) (.ob (out.length + l.length + (1 : Nat) = (out ++ l ++ [p.way.getD (0 : Nat) pth0]).length) (.ob (pthsC out ++ pthsC l ++ splice (repL (List.map zn [AV.int .i64 (0 : Int), AV.sl (some true) (0 : Nat) [] .clip, AV.sl (some true) (0 : Nat) [] .clip]) (1 : Nat)) ((0 : Nat) * (3 : Nat)) (cellsOf (AV.agg (pthL (p.way.getD (0 : Nat) pth0)))) = pthsC (out ++ l ++ [p.way.getD (0 : Nat) pth0])) (.tt)))))))))))))) (by kernel_rfl) (by
    simp only [PT.holds, true_implies, Bool.false_eq_true, Bool.true_eq_false, false_implies, true_and, and_true, repL0, List.nil_append, Nat.zero_add, Int.toNat_natCast, Int.toNat_zero, Nat.zero_mul]
    repeat' (with_reducible apply And.intro)
    all_goals first | assumption | omega | rfl | exact decide_eq_true (by omega) | exact decide_eq_false (by omega) | ((try simp only [Nat.add_assoc, Nat.reduceAdd, Nat.add_zero]) <;> first | (rw [ats_take _ _ _ _ hi (by decide)]; rfl) | (rw [pths_take _ _ _ _ hi (by decide)]; rfl) | (rw [flts_take _ _ _ _ hi (by decide)]; rfl) | (rw [ats_take0 _ _ _ hi (by decide)]; rfl) | (rw [pths_take0 _ _ _ hi (by decide)]; rfl) | (rw [flts_take0 _ _ _ hi (by decide)]; rfl)) | (simp only [pthsC_len, fltsC_len]; omega) | (rw [pthsC_len]) | (simp [pthsC_len]; omega) | (rw [path_app, paths_app]; rfl))
theorem wi_p (p : Flt) (R : List Pth) (k : HT Tryd.prog Tryd.f60.ntmps (pt Tryd.f60 0) (stW p [] 0) (EndsA Γ (.pure [] (.sl none R.length (pthsC R) .no)) Tryd.f60)) : Ctr Tryd.prog 60 [.agg (fltL p)] (.sl none R.length (pthsC R) .no) :=
  Ctr.mk Γ_ok Tryd.func60 (by kernel_rfl) Tryd.call60 [] (by kernel_rfl) (HT.walk Γ_ok mo_ok (⟨[], [], hd60 [(3, 1, 25, 3)] [] [] [], [], .pure [] (.sl none R.length (pthsC R) .no)⟩ : Wk) 4000 (T := .head (pt Tryd.f60 0) ({ tmps := [(1, AV.ptr 1 0), (3, AV.sl none (0 : Nat) [] (.own (1 : Nat))), (4, AV.int .i64 (0 : Int))], heap := [(1, .var true (fltL p))], tags := [(1, { n := (0 : Nat), e := (25 : Nat), sz := (3 : Nat) })] })) (by kernel_rfl) (by
    simp only [PT.holds, true_implies, Bool.false_eq_true, Bool.true_eq_false, false_implies, true_and, and_true, repL0, List.nil_append, Nat.zero_add, Int.toNat_natCast, Int.toNat_zero, Nat.zero_mul]
    exact head_eq k (by simp [stW, fltL, pthsC])))
end Go.Proofs.YteimloiaipiadaaDoor
end

section
set_option linter.unusedVariables false
set_option linter.unusedSimpArgs false
set_option maxRecDepth 100000
namespace Go.Proofs.YteimloiaipiadaaDoor
open Go Go.AX

theorem nmNeq {a b : Nm} (h : a ≠ b) : (!(decide (a.sp = b.sp) && (decide (a.lo = b.lo) && true))) = true := by
  cases a; cases b; simp_all; exact Classical.or_iff_not_imp_left.2 fun h1 => h (Classical.not_not.1 h1)
def stSp0 (p q : Pth) (i : Nat) : AS := ⟨[(2, .ptr 2 0), (3, .ptr 3 0), (5, .int .i64 i)], [(2, .var true (pthL p)), (3, .var true (pthL q))], []⟩
def stSp1 (p q : Pth) (i : Nat) : AS := ⟨[(2, .ptr 2 0), (3, .ptr 3 0), (6, .int .i64 i)], [(2, .var true (pthL p)), (3, .var true (pthL q))], []⟩
def stSg0 (f g : Flt) (i : Nat) : AS := ⟨[(2, .ptr 2 0), (3, .ptr 3 0), (5, .int .i64 i)], [(2, .var true (fltL f)), (3, .var true (fltL g))], []⟩
def stSg1 (f g : Flt) (i : Nat) : AS := ⟨[(2, .ptr 2 0), (3, .ptr 3 0), (6, .int .i64 i)], [(2, .var true (fltL f)), (3, .var true (fltL g))], []⟩

theorem spn0 (p q : Pth) (hp : p.sub.length ≤ 1048600 ∧ p.test.length ≤ 1048600 ∧ q.sub.length ≤ 1048600 ∧ q.test.length ≤ 1048600)  (h0 : p.op ≠ q.op) : Ctr Tryd.prog 61 [.agg (pthL p), .agg (pthL q)] (.bool false) :=
  Ctr.mk Γ_ok Tryd.func61 (by kernel_rfl) Tryd.call61 [] (by kernel_rfl) (HT.walk Γ_ok mo_ok (⟨[(11, .val (.bool true)), (29, .val (.bool true))], [], hd61 [] [] [] [], dsp61, .pure [] (.bool false)⟩ : Wk) 4000 (T := .ob ((!decide (p.op = q.op)) = true) (.ob (true = true) (.ob (false = false) (.tt)))) (by kernel_rfl) (by
    simp only [PT.holds, true_implies, Bool.false_eq_true, Bool.true_eq_false, false_implies, true_and, and_true, repL0, List.nil_append, Nat.zero_add, Int.toNat_natCast, Int.toNat_zero, Nat.zero_mul]
    repeat' (with_reducible apply And.intro)
    all_goals first | (simp; omega)))
theorem spn1 (p q : Pth) (hp : p.sub.length ≤ 1048600 ∧ p.test.length ≤ 1048600 ∧ q.sub.length ≤ 1048600 ∧ q.test.length ≤ 1048600) (h0 : p.op = q.op) (h1 : p.sub.length ≠ q.sub.length) : Ctr Tryd.prog 61 [.agg (pthL p), .agg (pthL q)] (.bool false) :=
  Ctr.mk Γ_ok Tryd.func61 (by kernel_rfl) Tryd.call61 [] (by kernel_rfl) (HT.walk Γ_ok mo_ok (⟨[(11, .val (.bool false)), (19, .val (.bool true)), (29, .val (.bool true))], [], hd61 [] [] [] [], dsp61, .pure [] (.bool false)⟩ : Wk) 4000 (T := .ob ((!decide (p.op = q.op)) = false) (.ob ((!decide ((↑p.sub.length : Int) = (↑q.sub.length : Int))) = true) (.ob (true = true) (.ob (false = false) (.tt))))) (by kernel_rfl) (by
    simp only [PT.holds, true_implies, Bool.false_eq_true, Bool.true_eq_false, false_implies, true_and, and_true, repL0, List.nil_append, Nat.zero_add, Int.toNat_natCast, Int.toNat_zero, Nat.zero_mul]
    repeat' (with_reducible apply And.intro)
    all_goals first | (simp; omega)))
theorem spn2 (p q : Pth) (hp : p.sub.length ≤ 1048600 ∧ p.test.length ≤ 1048600 ∧ q.sub.length ≤ 1048600 ∧ q.test.length ≤ 1048600) (h0 : p.op = q.op) (h1 : p.sub.length = q.sub.length) (h2 : p.test.length ≠ q.test.length) : Ctr Tryd.prog 61 [.agg (pthL p), .agg (pthL q)] (.bool false) :=
  Ctr.mk Γ_ok Tryd.func61 (by kernel_rfl) Tryd.call61 [] (by kernel_rfl) (HT.walk Γ_ok mo_ok (⟨[(11, .val (.bool false)), (19, .val (.bool false)), (28, .val (.bool true)), (29, .val (.bool true))], [], hd61 [] [] [] [], dsp61, .pure [] (.bool false)⟩ : Wk) 4000 (T := .ob ((!decide (p.op = q.op)) = false) (.ob ((!decide ((↑p.sub.length : Int) = (↑q.sub.length : Int))) = false) (.ob ((!decide ((↑p.test.length : Int) = (↑q.test.length : Int))) = true) (.ob (true = true) (.ob (false = false) (.tt)))))) (by kernel_rfl) (by
    simp only [PT.holds, true_implies, Bool.false_eq_true, Bool.true_eq_false, false_implies, true_and, and_true, repL0, List.nil_append, Nat.zero_add, Int.toNat_natCast, Int.toNat_zero, Nat.zero_mul]
    repeat' (with_reducible apply And.intro)
    all_goals first | (simp; omega)))
theorem spp (p q : Pth) (b : Bool) (hp : p.sub.length ≤ 1048600 ∧ p.test.length ≤ 1048600 ∧ q.sub.length ≤ 1048600 ∧ q.test.length ≤ 1048600) (h0 : p.op = q.op) (h1 : p.sub.length = q.sub.length) (h2 : p.test.length = q.test.length) (k : HT Tryd.prog Tryd.f61.ntmps (pt Tryd.f61 0) (stSp0 p q 0) (EndsA Γ (.pure [] (.bool b)) Tryd.f61)) : Ctr Tryd.prog 61 [.agg (pthL p), .agg (pthL q)] (.bool b) :=
  Ctr.mk Γ_ok Tryd.func61 (by kernel_rfl) Tryd.call61 [] (by kernel_rfl) (HT.walk Γ_ok mo_ok (⟨[(11, .val (.bool false)), (19, .val (.bool false)), (28, .val (.bool false)), (29, .val (.bool false))], [], hd61 [] [] [] [], dsp61, .pure [] (.bool b)⟩ : Wk) 4000 (T := .ob ((!decide (p.op = q.op)) = false) (.ob ((!decide ((↑p.sub.length : Int) = (↑q.sub.length : Int))) = false) (.ob ((!decide ((↑p.test.length : Int) = (↑q.test.length : Int))) = false) (.ob (false = false) (.head (pt Tryd.f61 0) ({ tmps := [(2, AV.ptr 2 0), (3, AV.ptr 3 0), (5, AV.int .i64 (0 : Int))], heap := [(2, .var true (pthL p)), (3, .var true (pthL q))], tags := [] })))))) (by kernel_rfl) (by
    simp only [PT.holds, true_implies, Bool.false_eq_true, Bool.true_eq_false, false_implies, true_and, and_true, repL0, List.nil_append, Nat.zero_add, Int.toNat_natCast, Int.toNat_zero, Nat.zero_mul]
    repeat' (with_reducible apply And.intro)
    all_goals first | assumption | (simp; omega)))
theorem sgn0 (f g : Flt) (hp : f.sub.length ≤ 1048600 ∧ f.way.length ≤ 1048600 ∧ g.sub.length ≤ 1048600 ∧ g.way.length ≤ 1048600)  (h0 : f.op ≠ g.op) : Ctr Tryd.prog 73 [.agg (fltL f), .agg (fltL g)] (.bool false) :=
  Ctr.mk Γ_ok Tryd.func73 (by kernel_rfl) Tryd.call73 [] (by kernel_rfl) (HT.walk Γ_ok mo_ok (⟨[(11, .val (.bool true)), (43, .val (.bool true))], [], hd73 [] [] [] [], dsp73, .pure [] (.bool false)⟩ : Wk) 4000 (T := .ob ((!decide (f.op = g.op)) = true) (.ob (true = true) (.ob (false = false) (.tt)))) (by kernel_rfl) (by
    simp only [PT.holds, true_implies, Bool.false_eq_true, Bool.true_eq_false, false_implies, true_and, and_true, repL0, List.nil_append, Nat.zero_add, Int.toNat_natCast, Int.toNat_zero, Nat.zero_mul]
    repeat' (with_reducible apply And.intro)
    all_goals first | (simp; omega)))
theorem sgn1 (f g : Flt) (hp : f.sub.length ≤ 1048600 ∧ f.way.length ≤ 1048600 ∧ g.sub.length ≤ 1048600 ∧ g.way.length ≤ 1048600) (h0 : f.op = g.op) (h1 : f.nm ≠ g.nm) : Ctr Tryd.prog 73 [.agg (fltL f), .agg (fltL g)] (.bool false) :=
  Ctr.mk Γ_ok Tryd.func73 (by kernel_rfl) Tryd.call73 [] (by kernel_rfl) (HT.walk Γ_ok mo_ok (⟨[(11, .val (.bool false)), (17, .val (.bool true)), (43, .val (.bool true))], [], hd73 [] [] [] [], dsp73, .pure [] (.bool false)⟩ : Wk) 4000 (T := .ob ((!decide (f.op = g.op)) = false) (.ob ((3 : Nat) ≤ (6 : Nat)) (.ob ((3 : Nat) ≤ (6 : Nat)) (.ob ((!(decide (f.nm.sp = g.nm.sp) && (decide (f.nm.lo = g.nm.lo) && true))) = true) (.ob (true = true) (.ob (false = false) (.tt))))))) (by kernel_rfl) (by
    simp only [PT.holds, true_implies, Bool.false_eq_true, Bool.true_eq_false, false_implies, true_and, and_true, repL0, List.nil_append, Nat.zero_add, Int.toNat_natCast, Int.toNat_zero, Nat.zero_mul]
    repeat' (with_reducible apply And.intro)
    all_goals first | omega | (simp; omega) | exact nmNeq h1))
theorem sgn2 (f g : Flt) (hp : f.sub.length ≤ 1048600 ∧ f.way.length ≤ 1048600 ∧ g.sub.length ≤ 1048600 ∧ g.way.length ≤ 1048600) (h0 : f.op = g.op) (h1 : f.nm = g.nm) (h2 : f.val ≠ g.val) : Ctr Tryd.prog 73 [.agg (fltL f), .agg (fltL g)] (.bool false) :=
  Ctr.mk Γ_ok Tryd.func73 (by kernel_rfl) Tryd.call73 [] (by kernel_rfl) (HT.walk Γ_ok mo_ok (⟨[(11, .val (.bool false)), (17, .val (.bool false)), (24, .val (.bool true)), (43, .val (.bool true))], [], hd73 [] [] [] [], dsp73, .pure [] (.bool false)⟩ : Wk) 4000 (T := .ob ((!decide (f.op = g.op)) = false) (.ob ((3 : Nat) ≤ (6 : Nat)) (.ob ((3 : Nat) ≤ (6 : Nat)) (.ob ((!(decide (f.nm.sp = g.nm.sp) && (decide (f.nm.lo = g.nm.lo) && true))) = false) (.ob ((!decide (f.val = g.val)) = true) (.ob (true = true) (.ob (false = false) (.tt)))))))) (by kernel_rfl) (by
    simp only [PT.holds, true_implies, Bool.false_eq_true, Bool.true_eq_false, false_implies, true_and, and_true, repL0, List.nil_append, Nat.zero_add, Int.toNat_natCast, Int.toNat_zero, Nat.zero_mul]
    repeat' (with_reducible apply And.intro)
    all_goals first | omega | (simp; omega) | (simp [*]; done)))
theorem sgn3 (f g : Flt) (hp : f.sub.length ≤ 1048600 ∧ f.way.length ≤ 1048600 ∧ g.sub.length ≤ 1048600 ∧ g.way.length ≤ 1048600) (h0 : f.op = g.op) (h1 : f.nm = g.nm) (h2 : f.val = g.val) (h3 : f.sub.length ≠ g.sub.length) : Ctr Tryd.prog 73 [.agg (fltL f), .agg (fltL g)] (.bool false) :=
  Ctr.mk Γ_ok Tryd.func73 (by kernel_rfl) Tryd.call73 [] (by kernel_rfl) (HT.walk Γ_ok mo_ok (⟨[(11, .val (.bool false)), (17, .val (.bool false)), (24, .val (.bool false)), (33, .val (.bool true)), (43, .val (.bool true))], [], hd73 [] [] [] [], dsp73, .pure [] (.bool false)⟩ : Wk) 4000 (T := .ob ((!decide (f.op = g.op)) = false) (.ob ((3 : Nat) ≤ (6 : Nat)) (.ob ((3 : Nat) ≤ (6 : Nat)) (.ob ((!(decide (f.nm.sp = g.nm.sp) && (decide (f.nm.lo = g.nm.lo) && true))) = false) (.ob ((!decide (f.val = g.val)) = false) (.ob ((!decide ((↑f.sub.length : Int) = (↑g.sub.length : Int))) = true) (.ob (true = true) (.ob (false = false) (.tt))))))))) (by kernel_rfl) (by
    simp only [PT.holds, true_implies, Bool.false_eq_true, Bool.true_eq_false, false_implies, true_and, and_true, repL0, List.nil_append, Nat.zero_add, Int.toNat_natCast, Int.toNat_zero, Nat.zero_mul]
    repeat' (with_reducible apply And.intro)
    all_goals first | omega | (simp; omega) | (simp [*]; done)))
theorem sgn4 (f g : Flt) (hp : f.sub.length ≤ 1048600 ∧ f.way.length ≤ 1048600 ∧ g.sub.length ≤ 1048600 ∧ g.way.length ≤ 1048600) (h0 : f.op = g.op) (h1 : f.nm = g.nm) (h2 : f.val = g.val) (h3 : f.sub.length = g.sub.length) (h4 : f.way.length ≠ g.way.length) : Ctr Tryd.prog 73 [.agg (fltL f), .agg (fltL g)] (.bool false) :=
  Ctr.mk Γ_ok Tryd.func73 (by kernel_rfl) Tryd.call73 [] (by kernel_rfl) (HT.walk Γ_ok mo_ok (⟨[(11, .val (.bool false)), (17, .val (.bool false)), (24, .val (.bool false)), (33, .val (.bool false)), (42, .val (.bool true)), (43, .val (.bool true))], [], hd73 [] [] [] [], dsp73, .pure [] (.bool false)⟩ : Wk) 4000 (T := .ob ((!decide (f.op = g.op)) = false) (.ob ((3 : Nat) ≤ (6 : Nat)) (.ob ((3 : Nat) ≤ (6 : Nat)) (.ob ((!(decide (f.nm.sp = g.nm.sp) && (decide (f.nm.lo = g.nm.lo) && true))) = false) (.ob ((!decide (f.val = g.val)) = false) (.ob ((!decide ((↑f.sub.length : Int) = (↑g.sub.length : Int))) = false) (.ob ((!decide ((↑f.way.length : Int) = (↑g.way.length : Int))) = true) (.ob (true = true) (.ob (false = false) (.tt)))))))))) (by kernel_rfl) (by
    simp only [PT.holds, true_implies, Bool.false_eq_true, Bool.true_eq_false, false_implies, true_and, and_true, repL0, List.nil_append, Nat.zero_add, Int.toNat_natCast, Int.toNat_zero, Nat.zero_mul]
    repeat' (with_reducible apply And.intro)
    all_goals first | omega | (simp; omega) | (simp [*]; done)))
theorem sgp (f g : Flt) (b : Bool) (hp : f.sub.length ≤ 1048600 ∧ f.way.length ≤ 1048600 ∧ g.sub.length ≤ 1048600 ∧ g.way.length ≤ 1048600) (h0 : f.op = g.op) (h1 : f.nm = g.nm) (h2 : f.val = g.val) (h3 : f.sub.length = g.sub.length) (h4 : f.way.length = g.way.length) (k : HT Tryd.prog Tryd.f73.ntmps (pt Tryd.f73 0) (stSg0 f g 0) (EndsA Γ (.pure [] (.bool b)) Tryd.f73)) : Ctr Tryd.prog 73 [.agg (fltL f), .agg (fltL g)] (.bool b) :=
  Ctr.mk Γ_ok Tryd.func73 (by kernel_rfl) Tryd.call73 [] (by kernel_rfl) (HT.walk Γ_ok mo_ok (⟨[(11, .val (.bool false)), (17, .val (.bool false)), (24, .val (.bool false)), (33, .val (.bool false)), (42, .val (.bool false)), (43, .val (.bool false))], [], hd73 [] [] [] [], dsp73, .pure [] (.bool b)⟩ : Wk) 4000 (T := .ob ((!decide (f.op = g.op)) = false) (.ob ((3 : Nat) ≤ (6 : Nat)) (.ob ((3 : Nat) ≤ (6 : Nat)) (.ob ((!(decide (f.nm.sp = g.nm.sp) && (decide (f.nm.lo = g.nm.lo) && true))) = false) (.ob ((!decide (f.val = g.val)) = false) (.ob ((!decide ((↑f.sub.length : Int) = (↑g.sub.length : Int))) = false) (.ob ((!decide ((↑f.way.length : Int) = (↑g.way.length : Int))) = false) (.ob (false = false) (.head (pt Tryd.f73 0) ({ tmps := [(2, AV.ptr 2 0), (3, AV.ptr 3 0), (5, AV.int .i64 (0 : Int))], heap := [(2, .var true (fltL f)), (3, .var true (fltL g))], tags := [] })))))))))) (by kernel_rfl) (by
    simp only [PT.holds, true_implies, Bool.false_eq_true, Bool.true_eq_false, false_implies, true_and, and_true, repL0, List.nil_append, Nat.zero_add, Int.toNat_natCast, Int.toNat_zero, Nat.zero_mul]
    repeat' (with_reducible apply And.intro)
    all_goals first | assumption | omega | (simp; omega) | (simp [*]; done)))
theorem sp0f (p q : Pth) (i : Nat) (hp : p.sub.length ≤ 1048600 ∧ p.test.length ≤ 1048600 ∧ q.sub.length ≤ 1048600 ∧ q.test.length ≤ 1048600) (hi : i < p.sub.length) (he : p.sub.length = q.sub.length) (hc : Ctr Tryd.prog 61 [.agg (pthL (p.sub.getD i pth0)), .agg (pthL (q.sub.getD i pth0))] (.bool false))  : HT Tryd.prog Tryd.f61.ntmps (pt Tryd.f61 0) (stSp0 p q i) (EndsA Γ (.pure [] (.bool false)) Tryd.f61) :=
  HT.walk Γ_ok mo_ok (⟨[(34, .val (.bool true)), (41, .val (.agg (pthL (p.sub.getD i pth0)))), (46, .val (.agg (pthL (q.sub.getD i pth0)))), (47, .call [] (.bool false))], [], hd61 [] [] [] [], [], .pure [] (.bool false)⟩ : Wk) 4000 (T := .ob (decide ((↑i : Int) < (↑p.sub.length : Int)) = true) (.ob ((0 : Int) ≤ (↑i : Int) ∧ (↑i : Int) < (↑p.sub.length : Int) ∧ (↑i : Int).toNat * (3 : Nat) < (pthsC p.sub).length) (.ob (List.take (3 : Nat) (List.drop ((↑i : Int).toNat * (3 : Nat)) (pthsC p.sub)) = (pthL (p.sub.getD i pth0))) (.ob ((0 : Int) ≤ (↑i : Int) ∧ (↑i : Int) < (↑q.sub.length : Int) ∧ (↑i : Int).toNat * (3 : Nat) < (pthsC q.sub).length) (.ob (List.take (3 : Nat) (List.drop ((↑i : Int).toNat * (3 : Nat)) (pthsC q.sub)) = (pthL (q.sub.getD i pth0))) (.ob (Ctr Tryd.prog 61 [AV.agg (pthL (p.sub.getD i pth0)), AV.agg (pthL (q.sub.getD i pth0))] (AV.bool false)) (.ob (false = false) (.tt)))))))) (by kernel_rfl) (by
    have w2 : IntKind.i64.wrap ((i : Int) + 1) = ((i + 1 : Nat) : Int) := by rw [i64_wrap (by omega) (by omega)]; rfl
    have hj : i < q.sub.length := by omega
    simp only [PT.holds, w2, true_implies, Bool.false_eq_true, Bool.true_eq_false, false_implies, true_and, and_true, repL0, List.nil_append, Nat.zero_add, Int.toNat_natCast, Int.toNat_zero, Nat.zero_mul]
    repeat' (with_reducible apply And.intro)
    all_goals first | assumption | omega | exact decide_eq_true (by omega) | ((try simp only [Nat.add_assoc, Nat.reduceAdd, Nat.add_zero]) <;> first | (rw [ats_take _ _ _ _ hi (by decide)]; rfl) | (rw [pths_take _ _ _ _ hi (by decide)]; rfl) | (rw [flts_take _ _ _ _ hi (by decide)]; rfl) | (rw [ats_take0 _ _ _ hi (by decide)]; rfl) | (rw [pths_take0 _ _ _ hi (by decide)]; rfl) | (rw [flts_take0 _ _ _ hi (by decide)]; rfl)) | ((try simp only [Nat.add_assoc, Nat.reduceAdd, Nat.add_zero]) <;> first | (rw [ats_take _ _ _ _ hj (by decide)]; rfl) | (rw [pths_take _ _ _ _ hj (by decide)]; rfl) | (rw [flts_take _ _ _ _ hj (by decide)]; rfl) | (rw [ats_take0 _ _ _ hj (by decide)]; rfl) | (rw [pths_take0 _ _ _ hj (by decide)]; rfl) | (rw [flts_take0 _ _ _ hj (by decide)]; rfl)) | (simp only [pthsC_len, fltsC_len]; omega))
theorem sp0t (p q : Pth) (i : Nat) (hp : p.sub.length ≤ 1048600 ∧ p.test.length ≤ 1048600 ∧ q.sub.length ≤ 1048600 ∧ q.test.length ≤ 1048600) (hi : i < p.sub.length) (he : p.sub.length = q.sub.length) (hc : Ctr Tryd.prog 61 [.agg (pthL (p.sub.getD i pth0)), .agg (pthL (q.sub.getD i pth0))] (.bool true)) (b : Bool) (k : HT Tryd.prog Tryd.f61.ntmps (pt Tryd.f61 0) (stSp0 p q (i + 1)) (EndsA Γ (.pure [] (.bool b)) Tryd.f61)) : HT Tryd.prog Tryd.f61.ntmps (pt Tryd.f61 0) (stSp0 p q i) (EndsA Γ (.pure [] (.bool b)) Tryd.f61) :=
  HT.walk Γ_ok mo_ok (⟨[(34, .val (.bool true)), (41, .val (.agg (pthL (p.sub.getD i pth0)))), (46, .val (.agg (pthL (q.sub.getD i pth0)))), (47, .call [] (.bool true))], [], hd61 [] [] [] [], [], .pure [] (.bool b)⟩ : Wk) 4000 (T := .ob (decide ((↑i : Int) < (↑p.sub.length : Int)) = true) (.ob ((0 : Int) ≤ (↑i : Int) ∧ (↑i : Int) < (↑p.sub.length : Int) ∧ (↑i : Int).toNat * (3 : Nat) < (pthsC p.sub).length) (.ob (List.take (3 : Nat) (List.drop ((↑i : Int).toNat * (3 : Nat)) (pthsC p.sub)) = (pthL (p.sub.getD i pth0))) (.ob ((0 : Int) ≤ (↑i : Int) ∧ (↑i : Int) < (↑q.sub.length : Int) ∧ (↑i : Int).toNat * (3 : Nat) < (pthsC q.sub).length) (.ob (List.take (3 : Nat) (List.drop ((↑i : Int).toNat * (3 : Nat)) (pthsC q.sub)) = (pthL (q.sub.getD i pth0))) (.ob (Ctr Tryd.prog 61 [AV.agg (pthL (p.sub.getD i pth0)), AV.agg (pthL (q.sub.getD i pth0))] (AV.bool true)) (.head (pt Tryd.f61 0) ({ tmps := [(2, AV.ptr 2 0), (3, AV.ptr 3 0), (5, AV.int .i64 (IntKind.i64.wrap ((↑i : Int) + (1 : Int))))], heap := [(2, .var true (pthL p)), (3, .var true (pthL q))], tags := [] })))))))) (by kernel_rfl) (by
    have w2 : IntKind.i64.wrap ((i : Int) + 1) = ((i + 1 : Nat) : Int) := by rw [i64_wrap (by omega) (by omega)]; rfl
    have hj : i < q.sub.length := by omega
    simp only [PT.holds, w2, true_implies, Bool.false_eq_true, Bool.true_eq_false, false_implies, true_and, and_true, repL0, List.nil_append, Nat.zero_add, Int.toNat_natCast, Int.toNat_zero, Nat.zero_mul]
    repeat' (with_reducible apply And.intro)
    all_goals first | assumption | omega | exact decide_eq_true (by omega) | ((try simp only [Nat.add_assoc, Nat.reduceAdd, Nat.add_zero]) <;> first | (rw [ats_take _ _ _ _ hi (by decide)]; rfl) | (rw [pths_take _ _ _ _ hi (by decide)]; rfl) | (rw [flts_take _ _ _ _ hi (by decide)]; rfl) | (rw [ats_take0 _ _ _ hi (by decide)]; rfl) | (rw [pths_take0 _ _ _ hi (by decide)]; rfl) | (rw [flts_take0 _ _ _ hi (by decide)]; rfl)) | ((try simp only [Nat.add_assoc, Nat.reduceAdd, Nat.add_zero]) <;> first | (rw [ats_take _ _ _ _ hj (by decide)]; rfl) | (rw [pths_take _ _ _ _ hj (by decide)]; rfl) | (rw [flts_take _ _ _ _ hj (by decide)]; rfl) | (rw [ats_take0 _ _ _ hj (by decide)]; rfl) | (rw [pths_take0 _ _ _ hj (by decide)]; rfl) | (rw [flts_take0 _ _ _ hj (by decide)]; rfl)) | (simp only [pthsC_len, fltsC_len]; omega))
theorem sp0e (p q : Pth) (i : Nat) (hi : i = p.sub.length) (b : Bool) (k : HT Tryd.prog Tryd.f61.ntmps (pt Tryd.f61 1) (stSp1 p q 0) (EndsA Γ (.pure [] (.bool b)) Tryd.f61)) : HT Tryd.prog Tryd.f61.ntmps (pt Tryd.f61 0) (stSp0 p q i) (EndsA Γ (.pure [] (.bool b)) Tryd.f61) :=
  HT.walk Γ_ok mo_ok (⟨[(34, .val (.bool false)), (41, .val (.agg (pthL pth0))), (46, .val (.agg (pthL pth0))), (47, .call [] (.bool true))], [], hd61 [] [] [] [], [], .pure [] (.bool b)⟩ : Wk) 4000 (T := .ob (decide ((↑i : Int) < (↑p.sub.length : Int)) = false) (.head (pt Tryd.f61 1) ({ tmps := [(2, AV.ptr 2 0), (3, AV.ptr 3 0), (6, AV.int .i64 (0 : Int))], heap := [(2, .var true (pthL p)), (3, .var true (pthL q))], tags := [] }))) (by kernel_rfl) (by
    simp only [PT.holds, true_implies, Bool.false_eq_true, Bool.true_eq_false, false_implies, true_and, and_true, repL0, List.nil_append, Nat.zero_add, Int.toNat_natCast, Int.toNat_zero, Nat.zero_mul]
    repeat' (with_reducible apply And.intro)
    all_goals first | assumption | exact decide_eq_false (by omega))
theorem sp1f (p q : Pth) (i : Nat) (hp : p.sub.length ≤ 1048600 ∧ p.test.length ≤ 1048600 ∧ q.sub.length ≤ 1048600 ∧ q.test.length ≤ 1048600) (hi : i < p.test.length) (he : p.test.length = q.test.length) (hc : Ctr Tryd.prog 73 [.agg (fltL (p.test.getD i flt0)), .agg (fltL (q.test.getD i flt0))] (.bool false))  : HT Tryd.prog Tryd.f61.ntmps (pt Tryd.f61 1) (stSp1 p q i) (EndsA Γ (.pure [] (.bool false)) Tryd.f61) :=
  HT.walk Γ_ok mo_ok (⟨[(53, .val (.bool true)), (60, .val (.agg (fltL (p.test.getD i flt0)))), (65, .val (.agg (fltL (q.test.getD i flt0)))), (66, .call [] (.bool false))], [], hd61 [] [] [] [], [], .pure [] (.bool false)⟩ : Wk) 4000 (T := .ob (decide ((↑i : Int) < (↑p.test.length : Int)) = true) (.ob ((0 : Int) ≤ (↑i : Int) ∧ (↑i : Int) < (↑p.test.length : Int) ∧ (↑i : Int).toNat * (6 : Nat) < (fltsC p.test).length) (.ob (List.take (6 : Nat) (List.drop ((↑i : Int).toNat * (6 : Nat)) (fltsC p.test)) = (fltL (p.test.getD i flt0))) (.ob ((0 : Int) ≤ (↑i : Int) ∧ (↑i : Int) < (↑q.test.length : Int) ∧ (↑i : Int).toNat * (6 : Nat) < (fltsC q.test).length) (.ob (List.take (6 : Nat) (List.drop ((↑i : Int).toNat * (6 : Nat)) (fltsC q.test)) = (fltL (q.test.getD i flt0))) (.ob (Ctr Tryd.prog 73 [AV.agg (fltL (p.test.getD i flt0)), AV.agg (fltL (q.test.getD i flt0))] (AV.bool false)) (.ob (false = false) (.tt)))))))) (by kernel_rfl) (by
    have w2 : IntKind.i64.wrap ((i : Int) + 1) = ((i + 1 : Nat) : Int) := by rw [i64_wrap (by omega) (by omega)]; rfl
    have hj : i < q.test.length := by omega
    simp only [PT.holds, w2, true_implies, Bool.false_eq_true, Bool.true_eq_false, false_implies, true_and, and_true, repL0, List.nil_append, Nat.zero_add, Int.toNat_natCast, Int.toNat_zero, Nat.zero_mul]
    repeat' (with_reducible apply And.intro)
    all_goals first | assumption | omega | exact decide_eq_true (by omega) | ((try simp only [Nat.add_assoc, Nat.reduceAdd, Nat.add_zero]) <;> first | (rw [ats_take _ _ _ _ hi (by decide)]; rfl) | (rw [pths_take _ _ _ _ hi (by decide)]; rfl) | (rw [flts_take _ _ _ _ hi (by decide)]; rfl) | (rw [ats_take0 _ _ _ hi (by decide)]; rfl) | (rw [pths_take0 _ _ _ hi (by decide)]; rfl) | (rw [flts_take0 _ _ _ hi (by decide)]; rfl)) | ((try simp only [Nat.add_assoc, Nat.reduceAdd, Nat.add_zero]) <;> first | (rw [ats_take _ _ _ _ hj (by decide)]; rfl) | (rw [pths_take _ _ _ _ hj (by decide)]; rfl) | (rw [flts_take _ _ _ _ hj (by decide)]; rfl) | (rw [ats_take0 _ _ _ hj (by decide)]; rfl) | (rw [pths_take0 _ _ _ hj (by decide)]; rfl) | (rw [flts_take0 _ _ _ hj (by decide)]; rfl)) | (simp only [pthsC_len, fltsC_len]; omega))
theorem sp1t (p q : Pth) (i : Nat) (hp : p.sub.length ≤ 1048600 ∧ p.test.length ≤ 1048600 ∧ q.sub.length ≤ 1048600 ∧ q.test.length ≤ 1048600) (hi : i < p.test.length) (he : p.test.length = q.test.length) (hc : Ctr Tryd.prog 73 [.agg (fltL (p.test.getD i flt0)), .agg (fltL (q.test.getD i flt0))] (.bool true)) (b : Bool) (k : HT Tryd.prog Tryd.f61.ntmps (pt Tryd.f61 1) (stSp1 p q (i + 1)) (EndsA Γ (.pure [] (.bool b)) Tryd.f61)) : HT Tryd.prog Tryd.f61.ntmps (pt Tryd.f61 1) (stSp1 p q i) (EndsA Γ (.pure [] (.bool b)) Tryd.f61) :=
  HT.walk Γ_ok mo_ok (⟨[(53, .val (.bool true)), (60, .val (.agg (fltL (p.test.getD i flt0)))), (65, .val (.agg (fltL (q.test.getD i flt0)))), (66, .call [] (.bool true))], [], hd61 [] [] [] [], [], .pure [] (.bool b)⟩ : Wk) 4000 (T := .ob (decide ((↑i : Int) < (↑p.test.length : Int)) = true) (.ob ((0 : Int) ≤ (↑i : Int) ∧ (↑i : Int) < (↑p.test.length : Int) ∧ (↑i : Int).toNat * (6 : Nat) < (fltsC p.test).length) (.ob (List.take (6 : Nat) (List.drop ((↑i : Int).toNat * (6 : Nat)) (fltsC p.test)) = (fltL (p.test.getD i flt0))) (.ob ((0 : Int) ≤ (↑i : Int) ∧ (↑i : Int) < (↑q.test.length : Int) ∧ (↑i : Int).toNat * (6 : Nat) < (fltsC q.test).length) (.ob (List.take (6 : Nat) (List.drop ((↑i : Int).toNat * (6 : Nat)) (fltsC q.test)) = (fltL (q.test.getD i flt0))) (.ob (Ctr Tryd.prog 73 [AV.agg (fltL (p.test.getD i flt0)), AV.agg (fltL (q.test.getD i flt0))] (AV.bool true)) (.head (pt Tryd.f61 1) ({ tmps := [(2, AV.ptr 2 0), (3, AV.ptr 3 0), (6, AV.int .i64 (IntKind.i64.wrap ((↑i : Int) + (1 : Int))))], heap := [(2, .var true (pthL p)), (3, .var true (pthL q))], tags := [] })))))))) (by kernel_rfl) (by
    have w2 : IntKind.i64.wrap ((i : Int) + 1) = ((i + 1 : Nat) : Int) := by rw [i64_wrap (by omega) (by omega)]; rfl
    have hj : i < q.test.length := by omega
    simp only [PT.holds, w2, true_implies, Bool.false_eq_true, Bool.true_eq_false, false_implies, true_and, and_true, repL0, List.nil_append, Nat.zero_add, Int.toNat_natCast, Int.toNat_zero, Nat.zero_mul]
    repeat' (with_reducible apply And.intro)
    all_goals first | assumption | omega | exact decide_eq_true (by omega) | ((try simp only [Nat.add_assoc, Nat.reduceAdd, Nat.add_zero]) <;> first | (rw [ats_take _ _ _ _ hi (by decide)]; rfl) | (rw [pths_take _ _ _ _ hi (by decide)]; rfl) | (rw [flts_take _ _ _ _ hi (by decide)]; rfl) | (rw [ats_take0 _ _ _ hi (by decide)]; rfl) | (rw [pths_take0 _ _ _ hi (by decide)]; rfl) | (rw [flts_take0 _ _ _ hi (by decide)]; rfl)) | ((try simp only [Nat.add_assoc, Nat.reduceAdd, Nat.add_zero]) <;> first | (rw [ats_take _ _ _ _ hj (by decide)]; rfl) | (rw [pths_take _ _ _ _ hj (by decide)]; rfl) | (rw [flts_take _ _ _ _ hj (by decide)]; rfl) | (rw [ats_take0 _ _ _ hj (by decide)]; rfl) | (rw [pths_take0 _ _ _ hj (by decide)]; rfl) | (rw [flts_take0 _ _ _ hj (by decide)]; rfl)) | (simp only [pthsC_len, fltsC_len]; omega))
theorem sp1e (p q : Pth) (i : Nat) (hi : i = p.test.length)  : HT Tryd.prog Tryd.f61.ntmps (pt Tryd.f61 1) (stSp1 p q i) (EndsA Γ (.pure [] (.bool true)) Tryd.f61) :=
  HT.walk Γ_ok mo_ok (⟨[(53, .val (.bool false)), (60, .val (.agg (fltL flt0))), (65, .val (.agg (fltL flt0))), (66, .call [] (.bool true))], [], hd61 [] [] [] [], [], .pure [] (.bool true)⟩ : Wk) 4000 (T := .ob (decide ((↑i : Int) < (↑p.test.length : Int)) = false) (.ob (true = true) (.tt))) (by kernel_rfl) (by
    simp only [PT.holds, true_implies, Bool.false_eq_true, Bool.true_eq_false, false_implies, true_and, and_true, repL0, List.nil_append, Nat.zero_add, Int.toNat_natCast, Int.toNat_zero, Nat.zero_mul]
    repeat' (with_reducible apply And.intro)
    all_goals first | exact decide_eq_false (by omega))
theorem sg0f (f g : Flt) (i : Nat) (hp : f.sub.length ≤ 1048600 ∧ f.way.length ≤ 1048600 ∧ g.sub.length ≤ 1048600 ∧ g.way.length ≤ 1048600) (hi : i < f.sub.length) (he : f.sub.length = g.sub.length) (hc : Ctr Tryd.prog 73 [.agg (fltL (f.sub.getD i flt0)), .agg (fltL (g.sub.getD i flt0))] (.bool false))  : HT Tryd.prog Tryd.f73.ntmps (pt Tryd.f73 0) (stSg0 f g i) (EndsA Γ (.pure [] (.bool false)) Tryd.f73) :=
  HT.walk Γ_ok mo_ok (⟨[(48, .val (.bool true)), (55, .val (.agg (fltL (f.sub.getD i flt0)))), (60, .val (.agg (fltL (g.sub.getD i flt0)))), (61, .call [] (.bool false))], [], hd73 [] [] [] [], [], .pure [] (.bool false)⟩ : Wk) 4000 (T := .ob (decide ((↑i : Int) < (↑f.sub.length : Int)) = true) (.ob ((0 : Int) ≤ (↑i : Int) ∧ (↑i : Int) < (↑f.sub.length : Int) ∧ (↑i : Int).toNat * (6 : Nat) < (fltsC f.sub).length) (.ob (List.take (6 : Nat) (List.drop ((↑i : Int).toNat * (6 : Nat)) (fltsC f.sub)) = (fltL (f.sub.getD i flt0))) (.ob ((0 : Int) ≤ (↑i : Int) ∧ (↑i : Int) < (↑g.sub.length : Int) ∧ (↑i : Int).toNat * (6 : Nat) < (fltsC g.sub).length) (.ob (List.take (6 : Nat) (List.drop ((↑i : Int).toNat * (6 : Nat)) (fltsC g.sub)) = (fltL (g.sub.getD i flt0))) (.ob (Ctr Tryd.prog 73 [AV.agg (fltL (f.sub.getD i flt0)), AV.agg (fltL (g.sub.getD i flt0))] (AV.bool false)) (.ob (false = false) (.tt)))))))) (by kernel_rfl) (by
    have w2 : IntKind.i64.wrap ((i : Int) + 1) = ((i + 1 : Nat) : Int) := by rw [i64_wrap (by omega) (by omega)]; rfl
    have hj : i < g.sub.length := by omega
    simp only [PT.holds, w2, true_implies, Bool.false_eq_true, Bool.true_eq_false, false_implies, true_and, and_true, repL0, List.nil_append, Nat.zero_add, Int.toNat_natCast, Int.toNat_zero, Nat.zero_mul]
    repeat' (with_reducible apply And.intro)
    all_goals first | assumption | omega | exact decide_eq_true (by omega) | ((try simp only [Nat.add_assoc, Nat.reduceAdd, Nat.add_zero]) <;> first | (rw [ats_take _ _ _ _ hi (by decide)]; rfl) | (rw [pths_take _ _ _ _ hi (by decide)]; rfl) | (rw [flts_take _ _ _ _ hi (by decide)]; rfl) | (rw [ats_take0 _ _ _ hi (by decide)]; rfl) | (rw [pths_take0 _ _ _ hi (by decide)]; rfl) | (rw [flts_take0 _ _ _ hi (by decide)]; rfl)) | ((try simp only [Nat.add_assoc, Nat.reduceAdd, Nat.add_zero]) <;> first | (rw [ats_take _ _ _ _ hj (by decide)]; rfl) | (rw [pths_take _ _ _ _ hj (by decide)]; rfl) | (rw [flts_take _ _ _ _ hj (by decide)]; rfl) | (rw [ats_take0 _ _ _ hj (by decide)]; rfl) | (rw [pths_take0 _ _ _ hj (by decide)]; rfl) | (rw [flts_take0 _ _ _ hj (by decide)]; rfl)) | (simp only [pthsC_len, fltsC_len]; omega))
theorem sg0t (f g : Flt) (i : Nat) (hp : f.sub.length ≤ 1048600 ∧ f.way.length ≤ 1048600 ∧ g.sub.length ≤ 1048600 ∧ g.way.length ≤ 1048600) (hi : i < f.sub.length) (he : f.sub.length = g.sub.length) (hc : Ctr Tryd.prog 73 [.agg (fltL (f.sub.getD i flt0)), .agg (fltL (g.sub.getD i flt0))] (.bool true)) (b : Bool) (k : HT Tryd.prog Tryd.f73.ntmps (pt Tryd.f73 0) (stSg0 f g (i + 1)) (EndsA Γ (.pure [] (.bool b)) Tryd.f73)) : HT Tryd.prog Tryd.f73.ntmps (pt Tryd.f73 0) (stSg0 f g i) (EndsA Γ (.pure [] (.bool b)) Tryd.f73) :=
  HT.walk Γ_ok mo_ok (⟨[(48, .val (.bool true)), (55, .val (.agg (fltL (f.sub.getD i flt0)))), (60, .val (.agg (fltL (g.sub.getD i flt0)))), (61, .call [] (.bool true))], [], hd73 [] [] [] [], [], .pure [] (.bool b)⟩ : Wk) 4000 (T := .ob (decide ((↑i : Int) < (↑f.sub.length : Int)) = true) (.ob ((0 : Int) ≤ (↑i : Int) ∧ (↑i : Int) < (↑f.sub.length : Int) ∧ (↑i : Int).toNat * (6 : Nat) < (fltsC f.sub).length) (.ob (List.take (6 : Nat) (List.drop ((↑i : Int).toNat * (6 : Nat)) (fltsC f.sub)) = (fltL (f.sub.getD i flt0))) (.ob ((0 : Int) ≤ (↑i : Int) ∧ (↑i : Int) < (↑g.sub.length : Int) ∧ (↑i : Int).toNat * (6 : Nat) < (fltsC g.sub).length) (.ob (List.take (6 : Nat) (List.drop ((↑i : Int).toNat * (6 : Nat)) (fltsC g.sub)) = (fltL (g.sub.getD i flt0))) (.ob (Ctr Tryd.prog 73 [AV.agg (fltL (f.sub.getD i flt0)), AV.agg (fltL (g.sub.getD i flt0))] (AV.bool true)) (.head (pt Tryd.f73 0) ({ tmps := [(2, AV.ptr 2 0), (3, AV.ptr 3 0), (5, AV.int .i64 (IntKind.i64.wrap ((↑i : Int) + (1 : Int))))], heap := [(2, .var true (fltL f)), (3, .var true (fltL g))], tags := [] })))))))) (by kernel_rfl) (by
    have w2 : IntKind.i64.wrap ((i : Int) + 1) = ((i + 1 : Nat) : Int) := by rw [i64_wrap (by omega) (by omega)]; rfl
    have hj : i < g.sub.length := by omega
    simp only [PT.holds, w2, true_implies, Bool.false_eq_true, Bool.true_eq_false, false_implies, true_and, and_true, repL0, List.nil_append, Nat.zero_add, Int.toNat_natCast, Int.toNat_zero, Nat.zero_mul]
    repeat' (with_reducible apply And.intro)
    all_goals first | assumption | omega | exact decide_eq_true (by omega) | ((try simp only [Nat.add_assoc, Nat.reduceAdd, Nat.add_zero]) <;> first | (rw [ats_take _ _ _ _ hi (by decide)]; rfl) | (rw [pths_take _ _ _ _ hi (by decide)]; rfl) | (rw [flts_take _ _ _ _ hi (by decide)]; rfl) | (rw [ats_take0 _ _ _ hi (by decide)]; rfl) | (rw [pths_take0 _ _ _ hi (by decide)]; rfl) | (rw [flts_take0 _ _ _ hi (by decide)]; rfl)) | ((try simp only [Nat.add_assoc, Nat.reduceAdd, Nat.add_zero]) <;> first | (rw [ats_take _ _ _ _ hj (by decide)]; rfl) | (rw [pths_take _ _ _ _ hj (by decide)]; rfl) | (rw [flts_take _ _ _ _ hj (by decide)]; rfl) | (rw [ats_take0 _ _ _ hj (by decide)]; rfl) | (rw [pths_take0 _ _ _ hj (by decide)]; rfl) | (rw [flts_take0 _ _ _ hj (by decide)]; rfl)) | (simp only [pthsC_len, fltsC_len]; omega))
theorem sg0e (f g : Flt) (i : Nat) (hi : i = f.sub.length) (b : Bool) (k : HT Tryd.prog Tryd.f73.ntmps (pt Tryd.f73 1) (stSg1 f g 0) (EndsA Γ (.pure [] (.bool b)) Tryd.f73)) : HT Tryd.prog Tryd.f73.ntmps (pt Tryd.f73 0) (stSg0 f g i) (EndsA Γ (.pure [] (.bool b)) Tryd.f73) :=
  HT.walk Γ_ok mo_ok (⟨[(48, .val (.bool false)), (55, .val (.agg (fltL flt0))), (60, .val (.agg (fltL flt0))), (61, .call [] (.bool true))], [], hd73 [] [] [] [], [], .pure [] (.bool b)⟩ : Wk) 4000 (T := .ob (decide ((↑i : Int) < (↑f.sub.length : Int)) = false) (.head (pt Tryd.f73 1) ({ tmps := [(2, AV.ptr 2 0), (3, AV.ptr 3 0), (6, AV.int .i64 (0 : Int))], heap := [(2, .var true (fltL f)), (3, .var true (fltL g))], tags := [] }))) (by kernel_rfl) (by
    simp only [PT.holds, true_implies, Bool.false_eq_true, Bool.true_eq_false, false_implies, true_and, and_true, repL0, List.nil_append, Nat.zero_add, Int.toNat_natCast, Int.toNat_zero, Nat.zero_mul]
    repeat' (with_reducible apply And.intro)
    all_goals first | assumption | exact decide_eq_false (by omega))
theorem sg1f (f g : Flt) (i : Nat) (hp : f.sub.length ≤ 1048600 ∧ f.way.length ≤ 1048600 ∧ g.sub.length ≤ 1048600 ∧ g.way.length ≤ 1048600) (hi : i < f.way.length) (he : f.way.length = g.way.length) (hc : Ctr Tryd.prog 61 [.agg (pthL (f.way.getD i pth0)), .agg (pthL (g.way.getD i pth0))] (.bool false))  : HT Tryd.prog Tryd.f73.ntmps (pt Tryd.f73 1) (stSg1 f g i) (EndsA Γ (.pure [] (.bool false)) Tryd.f73) :=
  HT.walk Γ_ok mo_ok (⟨[(67, .val (.bool true)), (74, .val (.agg (pthL (f.way.getD i pth0)))), (79, .val (.agg (pthL (g.way.getD i pth0)))), (80, .call [] (.bool false))], [], hd73 [] [] [] [], [], .pure [] (.bool false)⟩ : Wk) 4000 (T := .ob (decide ((↑i : Int) < (↑f.way.length : Int)) = true) (.ob ((0 : Int) ≤ (↑i : Int) ∧ (↑i : Int) < (↑f.way.length : Int) ∧ (↑i : Int).toNat * (3 : Nat) < (pthsC f.way).length) (.ob (List.take (3 : Nat) (List.drop ((↑i : Int).toNat * (3 : Nat)) (pthsC f.way)) = (pthL (f.way.getD i pth0))) (.ob ((0 : Int) ≤ (↑i : Int) ∧ (↑i : Int) < (↑g.way.length : Int) ∧ (↑i : Int).toNat * (3 : Nat) < (pthsC g.way).length) (.ob (List.take (3 : Nat) (List.drop ((↑i : Int).toNat * (3 : Nat)) (pthsC g.way)) = (pthL (g.way.getD i pth0))) (.ob (Ctr Tryd.prog 61 [AV.agg (pthL (f.way.getD i pth0)), AV.agg (pthL (g.way.getD i pth0))] (AV.bool false)) (.ob (false = false) (.tt)))))))) (by kernel_rfl) (by
    have w2 : IntKind.i64.wrap ((i : Int) + 1) = ((i + 1 : Nat) : Int) := by rw [i64_wrap (by omega) (by omega)]; rfl
    have hj : i < g.way.length := by omega
    simp only [PT.holds, w2, true_implies, Bool.false_eq_true, Bool.true_eq_false, false_implies, true_and, and_true, repL0, List.nil_append, Nat.zero_add, Int.toNat_natCast, Int.toNat_zero, Nat.zero_mul]
    repeat' (with_reducible apply And.intro)
    all_goals first | assumption | omega | exact decide_eq_true (by omega) | ((try simp only [Nat.add_assoc, Nat.reduceAdd, Nat.add_zero]) <;> first | (rw [ats_take _ _ _ _ hi (by decide)]; rfl) | (rw [pths_take _ _ _ _ hi (by decide)]; rfl) | (rw [flts_take _ _ _ _ hi (by decide)]; rfl) | (rw [ats_take0 _ _ _ hi (by decide)]; rfl) | (rw [pths_take0 _ _ _ hi (by decide)]; rfl) | (rw [flts_take0 _ _ _ hi (by decide)]; rfl)) | ((try simp only [Nat.add_assoc, Nat.reduceAdd, Nat.add_zero]) <;> first | (rw [ats_take _ _ _ _ hj (by decide)]; rfl) | (rw [pths_take _ _ _ _ hj (by decide)]; rfl) | (rw [flts_take _ _ _ _ hj (by decide)]; rfl) | (rw [ats_take0 _ _ _ hj (by decide)]; rfl) | (rw [pths_take0 _ _ _ hj (by decide)]; rfl) | (rw [flts_take0 _ _ _ hj (by decide)]; rfl)) | (simp only [pthsC_len, fltsC_len]; omega))
theorem sg1t (f g : Flt) (i : Nat) (hp : f.sub.length ≤ 1048600 ∧ f.way.length ≤ 1048600 ∧ g.sub.length ≤ 1048600 ∧ g.way.length ≤ 1048600) (hi : i < f.way.length) (he : f.way.length = g.way.length) (hc : Ctr Tryd.prog 61 [.agg (pthL (f.way.getD i pth0)), .agg (pthL (g.way.getD i pth0))] (.bool true)) (b : Bool) (k : HT Tryd.prog Tryd.f73.ntmps (pt Tryd.f73 1) (stSg1 f g (i + 1)) (EndsA Γ (.pure [] (.bool b)) Tryd.f73)) : HT Tryd.prog Tryd.f73.ntmps (pt Tryd.f73 1) (stSg1 f g i) (EndsA Γ (.pure [] (.bool b)) Tryd.f73) :=
  HT.walk Γ_ok mo_ok (⟨[(67, .val (.bool true)), (74, .val (.agg (pthL (f.way.getD i pth0)))), (79, .val (.agg (pthL (g.way.getD i pth0)))), (80, .call [] (.bool true))], [], hd73 [] [] [] [], [], .pure [] (.bool b)⟩ : Wk) 4000 (T := .ob (decide ((↑i : Int) < (↑f.way.length : Int)) = true) (.ob ((0 : Int) ≤ (↑i : Int) ∧ (↑i : Int) < (↑f.way.length : Int) ∧ (↑i : Int).toNat * (3 : Nat) < (pthsC f.way).length) (.ob (List.take (3 : Nat) (List.drop ((↑i : Int).toNat * (3 : Nat)) (pthsC f.way)) = (pthL (f.way.getD i pth0))) (.ob ((0 : Int) ≤ (↑i : Int) ∧ (↑i : Int) < (↑g.way.length : Int) ∧ (↑i : Int).toNat * (3 : Nat) < (pthsC g.way).length) (.ob (List.take (3 : Nat) (List.drop ((↑i : Int).toNat * (3 : Nat)) (pthsC g.way)) = (pthL (g.way.getD i pth0))) (.ob (Ctr Tryd.prog 61 [AV.agg (pthL (f.way.getD i pth0)), AV.agg (pthL (g.way.getD i pth0))] (AV.bool true)) (.head (pt Tryd.f73 1) ({ tmps := [(2, AV.ptr 2 0), (3, AV.ptr 3 0), (6, AV.int .i64 (IntKind.i64.wrap ((↑i : Int) + (1 : Int))))], heap := [(2, .var true (fltL f)), (3, .var true (fltL g))], tags := [] })))))))) (by kernel_rfl) (by
    have w2 : IntKind.i64.wrap ((i : Int) + 1) = ((i + 1 : Nat) : Int) := by rw [i64_wrap (by omega) (by omega)]; rfl
    have hj : i < g.way.length := by omega
    simp only [PT.holds, w2, true_implies, Bool.false_eq_true, Bool.true_eq_false, false_implies, true_and, and_true, repL0, List.nil_append, Nat.zero_add, Int.toNat_natCast, Int.toNat_zero, Nat.zero_mul]
    repeat' (with_reducible apply And.intro)
    all_goals first | assumption | omega | exact decide_eq_true (by omega) | ((try simp only [Nat.add_assoc, Nat.reduceAdd, Nat.add_zero]) <;> first | (rw [ats_take _ _ _ _ hi (by decide)]; rfl) | (rw [pths_take _ _ _ _ hi (by decide)]; rfl) | (rw [flts_take _ _ _ _ hi (by decide)]; rfl) | (rw [ats_take0 _ _ _ hi (by decide)]; rfl) | (rw [pths_take0 _ _ _ hi (by decide)]; rfl) | (rw [flts_take0 _ _ _ hi (by decide)]; rfl)) | ((try simp only [Nat.add_assoc, Nat.reduceAdd, Nat.add_zero]) <;> first | (rw [ats_take _ _ _ _ hj (by decide)]; rfl) | (rw [pths_take _ _ _ _ hj (by decide)]; rfl) | (rw [flts_take _ _ _ _ hj (by decide)]; rfl) | (rw [ats_take0 _ _ _ hj (by decide)]; rfl) | (rw [pths_take0 _ _ _ hj (by decide)]; rfl) | (rw [flts_take0 _ _ _ hj (by decide)]; rfl)) | (simp only [pthsC_len, fltsC_len]; omega))
theorem sg1e (f g : Flt) (i : Nat) (hi : i = f.way.length)  : HT Tryd.prog Tryd.f73.ntmps (pt Tryd.f73 1) (stSg1 f g i) (EndsA Γ (.pure [] (.bool true)) Tryd.f73) :=
  HT.walk Γ_ok mo_ok (⟨[(67, .val (.bool false)), (74, .val (.agg (pthL pth0))), (79, .val (.agg (pthL pth0))), (80, .call [] (.bool true))], [], hd73 [] [] [] [], [], .pure [] (.bool true)⟩ : Wk) 4000 (T := .ob (decide ((↑i : Int) < (↑f.way.length : Int)) = false) (.ob (true = true) (.tt))) (by kernel_rfl) (by
    simp only [PT.holds, true_implies, Bool.false_eq_true, Bool.true_eq_false, false_implies, true_and, and_true, repL0, List.nil_append, Nat.zero_add, Int.toNat_natCast, Int.toNat_zero, Nat.zero_mul]
    repeat' (with_reducible apply And.intro)
    all_goals first | exact decide_eq_false (by omega))
theorem sp1_l (p q : Pth) (hp : p.sub.length ≤ 1048600 ∧ p.test.length ≤ 1048600 ∧ q.sub.length ≤ 1048600 ∧ q.test.length ≤ 1048600) (he : p.test.length = q.test.length) (hc : ∀ i, i < p.test.length → ∃ b, Ctr Tryd.prog 73 [.agg (fltL (p.test.getD i flt0)), .agg (fltL (q.test.getD i flt0))] (.bool b)) : ∀ d i, i + d = p.test.length → ∃ b, HT Tryd.prog Tryd.f61.ntmps (pt Tryd.f61 1) (stSp1 p q i) (EndsA Γ (.pure [] (.bool b)) Tryd.f61) := by
  intro d
  induction d with
  | zero => exact fun i h => ⟨_, sp1e p q i (by omega)⟩
  | succ d ih =>
    intro i h
    obtain ⟨c, hc1⟩ := hc i (by omega)
    cases c
    · exact ⟨_, sp1f p q i hp (by omega) he hc1⟩
    · obtain ⟨b, k⟩ := ih (i + 1) (by omega)
      exact ⟨b, sp1t p q i hp (by omega) he hc1 b k⟩
theorem sp0_l (p q : Pth) (hp : p.sub.length ≤ 1048600 ∧ p.test.length ≤ 1048600 ∧ q.sub.length ≤ 1048600 ∧ q.test.length ≤ 1048600) (he : p.sub.length = q.sub.length) (hc : ∀ i, i < p.sub.length → ∃ b, Ctr Tryd.prog 61 [.agg (pthL (p.sub.getD i pth0)), .agg (pthL (q.sub.getD i pth0))] (.bool b)) (k : ∃ b, HT Tryd.prog Tryd.f61.ntmps (pt Tryd.f61 1) (stSp1 p q 0) (EndsA Γ (.pure [] (.bool b)) Tryd.f61)) : ∀ d i, i + d = p.sub.length → ∃ b, HT Tryd.prog Tryd.f61.ntmps (pt Tryd.f61 0) (stSp0 p q i) (EndsA Γ (.pure [] (.bool b)) Tryd.f61) := by
  intro d
  induction d with
  | zero => obtain ⟨b, k⟩ := k; exact fun i h => ⟨_, sp0e p q i (by omega) b k⟩
  | succ d ih =>
    intro i h
    obtain ⟨c, hc1⟩ := hc i (by omega)
    cases c
    · exact ⟨_, sp0f p q i hp (by omega) he hc1⟩
    · obtain ⟨b, k⟩ := ih (i + 1) (by omega)
      exact ⟨b, sp0t p q i hp (by omega) he hc1 b k⟩
theorem sg1_l (p q : Flt) (hp : p.sub.length ≤ 1048600 ∧ p.way.length ≤ 1048600 ∧ q.sub.length ≤ 1048600 ∧ q.way.length ≤ 1048600) (he : p.way.length = q.way.length) (hc : ∀ i, i < p.way.length → ∃ b, Ctr Tryd.prog 61 [.agg (pthL (p.way.getD i pth0)), .agg (pthL (q.way.getD i pth0))] (.bool b)) : ∀ d i, i + d = p.way.length → ∃ b, HT Tryd.prog Tryd.f73.ntmps (pt Tryd.f73 1) (stSg1 p q i) (EndsA Γ (.pure [] (.bool b)) Tryd.f73) := by
  intro d
  induction d with
  | zero => exact fun i h => ⟨_, sg1e p q i (by omega)⟩
  | succ d ih =>
    intro i h
    obtain ⟨c, hc1⟩ := hc i (by omega)
    cases c
    · exact ⟨_, sg1f p q i hp (by omega) he hc1⟩
    · obtain ⟨b, k⟩ := ih (i + 1) (by omega)
      exact ⟨b, sg1t p q i hp (by omega) he hc1 b k⟩
theorem sg0_l (p q : Flt) (hp : p.sub.length ≤ 1048600 ∧ p.way.length ≤ 1048600 ∧ q.sub.length ≤ 1048600 ∧ q.way.length ≤ 1048600) (he : p.sub.length = q.sub.length) (hc : ∀ i, i < p.sub.length → ∃ b, Ctr Tryd.prog 73 [.agg (fltL (p.sub.getD i flt0)), .agg (fltL (q.sub.getD i flt0))] (.bool b)) (k : ∃ b, HT Tryd.prog Tryd.f73.ntmps (pt Tryd.f73 1) (stSg1 p q 0) (EndsA Γ (.pure [] (.bool b)) Tryd.f73)) : ∀ d i, i + d = p.sub.length → ∃ b, HT Tryd.prog Tryd.f73.ntmps (pt Tryd.f73 0) (stSg0 p q i) (EndsA Γ (.pure [] (.bool b)) Tryd.f73) := by
  intro d
  induction d with
  | zero => obtain ⟨b, k⟩ := k; exact fun i h => ⟨_, sg0e p q i (by omega) b k⟩
  | succ d ih =>
    intro i h
    obtain ⟨c, hc1⟩ := hc i (by omega)
    cases c
    · exact ⟨_, sg0f p q i hp (by omega) he hc1⟩
    · obtain ⟨b, k⟩ := ih (i + 1) (by omega)
      exact ⟨b, sg0t p q i hp (by omega) he hc1 b k⟩
mutual
theorem same_ex (p q : Pth) (hp : p.ok) (hq : q.ok) : ∃ b, Ctr Tryd.prog 61 [.agg (pthL p), .agg (pthL q)] (.bool b) := by
  have o1 := Pth.ok_i hp
  have o2 := Pth.ok_i hq
  have hl := And.intro o1.1 (And.intro o1.2.1 (And.intro o2.1 o2.2.1))
  by_cases h0 : p.op = q.op
  · by_cases h1 : p.sub.length = q.sub.length
    · by_cases h2 : p.test.length = q.test.length
      · obtain ⟨b, k⟩ := sp0_l p q hl h1 (fun i hi => have := sub_lt p _ (getD_mem p.sub i pth0 hi); same_ex _ _ (o1.2.2.1 _ (getD_mem p.sub i pth0 hi)) (o2.2.2.1 _ (getD_mem q.sub i pth0 (by omega))))
          (sp1_l p q hl h2 (fun i hi => have := test_lt p _ (getD_mem p.test i flt0 hi); sameF_ex _ _ (o1.2.2.2 _ (getD_mem p.test i flt0 hi)) (o2.2.2.2 _ (getD_mem q.test i flt0 (by omega)))) p.test.length 0 (Nat.zero_add _)) p.sub.length 0 (Nat.zero_add _)
        exact ⟨b, spp p q b hl h0 h1 h2 k⟩
      · exact ⟨_, spn2 p q hl h0 h1 h2⟩
    · exact ⟨_, spn1 p q hl h0 h1⟩
  · exact ⟨_, spn0 p q hl h0⟩
termination_by SizeOf.sizeOf p
theorem sameF_ex (p q : Flt) (hp : p.ok) (hq : q.ok) : ∃ b, Ctr Tryd.prog 73 [.agg (fltL p), .agg (fltL q)] (.bool b) := by
  have o1 := (Flt.ok_i hp).2.2
  have o2 := (Flt.ok_i hq).2.2
  have hl := And.intro o1.1 (And.intro o1.2.1 (And.intro o2.1 o2.2.1))
  by_cases h0 : p.op = q.op
  · by_cases h1 : p.nm = q.nm
    · by_cases h2 : p.val = q.val
      · by_cases h3 : p.sub.length = q.sub.length
        · by_cases h4 : p.way.length = q.way.length
          · obtain ⟨b, k⟩ := sg0_l p q hl h3 (fun i hi => have := fsub_lt p _ (getD_mem p.sub i flt0 hi); sameF_ex _ _ (o1.2.2.1 _ (getD_mem p.sub i flt0 hi)) (o2.2.2.1 _ (getD_mem q.sub i flt0 (by omega))))
              (sg1_l p q hl h4 (fun i hi => have := way_lt p _ (getD_mem p.way i pth0 hi); same_ex _ _ (o1.2.2.2 _ (getD_mem p.way i pth0 hi)) (o2.2.2.2 _ (getD_mem q.way i pth0 (by omega)))) p.way.length 0 (Nat.zero_add _)) p.sub.length 0 (Nat.zero_add _)
            exact ⟨b, sgp p q b hl h0 h1 h2 h3 h4 k⟩
          · exact ⟨_, sgn4 p q hl h0 h1 h2 h3 h4⟩
        · exact ⟨_, sgn3 p q hl h0 h1 h2 h3⟩
      · exact ⟨_, sgn2 p q hl h0 h1 h2⟩
    · exact ⟨_, sgn1 p q hl h0 h1⟩
  · exact ⟨_, sgn0 p q hl h0⟩
termination_by SizeOf.sizeOf p
end

end Go.Proofs.YteimloiaipiadaaDoor
end

section
set_option linter.unusedVariables false
set_option linter.unusedSimpArgs false
set_option maxRecDepth 100000
namespace Go.Proofs.YteimloiaipiadaaDoor
open Go Go.AX

def GoodP (q : Pth) : Prop := q.ok ∧ q.r ∧ partsP q ≤ 64
theorem partsFs_drop (l : List Flt) (i : Nat) (h : i < l.length) : partsFs (l.drop i) = partsF (l.getD i flt0) + partsFs (l.drop (i + 1)) := by
  rw [drop_cons l i flt0 h]; simp only [partsFs]
theorem in1_l (p : Pth) (N : Nat) (hN : N ≤ 1000) (hs : p.test.length ≤ 1048600) (hc : ∀ f ∈ p.test, ∃ l : List Pth, (∀ q ∈ l, GoodP q) ∧ l.length ≤ partsF f ∧ Ctr Tryd.prog 60 [.agg (fltL f)] (.sl none l.length (pthsC l) .no)) :
    ∀ d i (out : List Pth), i + d = p.test.length → (∀ q ∈ out, GoodP q) → out.length + partsFs (p.test.drop i) ≤ N → ∃ R : List Pth, (∀ q ∈ R, GoodP q) ∧ R.length ≤ N ∧ HT Tryd.prog Tryd.f42.ntmps (pt Tryd.f42 1) (stI1 p out i) (EndsA Γ (.pure [] (.sl none R.length (pthsC R) .no)) Tryd.f42) := by
  intro d
  induction d with
  | zero => exact fun i out h h1 h2 => ⟨out, h1, by omega, in1_e p out i (by omega)⟩
  | succ d ih =>
    intro i out h h1 h2
    have hi : i < p.test.length := by omega
    obtain ⟨l, g1, g2, g3⟩ := hc _ (getD_mem p.test i flt0 hi)
    rw [partsFs_drop p.test i hi] at h2
    obtain ⟨R, r1, r2, k⟩ := ih (i + 1) (out ++ l) (by omega) (fun q hq => (List.mem_append.1 hq).elim (h1 q) (g1 q)) (by rw [List.length_append]; omega)
    exact ⟨R, r1, r2, in1_h p out l R i hi hs (by omega) g3 k⟩
theorem in0_l (p : Pth) (N : Nat) (hN : N ≤ 1000) (hs : p.sub.length ≤ 1048600) (hc : ∀ f ∈ p.sub, ∃ l : List Pth, (∀ q ∈ l, GoodP q) ∧ l.length ≤ partsP f ∧ Ctr Tryd.prog 42 [.agg (pthL f)] (.sl none l.length (pthsC l) .no)) (k : ∀ out : List Pth, (∀ q ∈ out, GoodP q) → out.length + partsFs p.test ≤ N → ∃ R : List Pth, (∀ q ∈ R, GoodP q) ∧ R.length ≤ N ∧ HT Tryd.prog Tryd.f42.ntmps (pt Tryd.f42 1) (stI1 p out 0) (EndsA Γ (.pure [] (.sl none R.length (pthsC R) .no)) Tryd.f42)) :
    ∀ d i (out : List Pth), i + d = p.sub.length → (∀ q ∈ out, GoodP q) → out.length + partsPs (p.sub.drop i) + partsFs p.test ≤ N → ∃ R : List Pth, (∀ q ∈ R, GoodP q) ∧ R.length ≤ N ∧ HT Tryd.prog Tryd.f42.ntmps (pt Tryd.f42 0) (stI0 p out i) (EndsA Γ (.pure [] (.sl none R.length (pthsC R) .no)) Tryd.f42) := by
  intro d
  induction d with
  | zero =>
    intro i out h h1 h2
    obtain ⟨R, r1, r2, kk⟩ := k out h1 (by omega)
    exact ⟨R, r1, r2, in0_e p out R i (by omega) kk⟩
  | succ d ih =>
    intro i out h h1 h2
    have hi : i < p.sub.length := by omega
    obtain ⟨l, g1, g2, g3⟩ := hc _ (getD_mem p.sub i pth0 hi)
    rw [partsPs_drop p.sub i hi] at h2
    obtain ⟨R, r1, r2, kk⟩ := ih (i + 1) (out ++ l) (by omega) (fun q hq => (List.mem_append.1 hq).elim (h1 q) (g1 q)) (by rw [List.length_append]; omega)
    exact ⟨R, r1, r2, in0_h p out l R i hi hs (by omega) g3 kk⟩
theorem wi_l (p : Flt) (hok : p.ok) (hr : p.r1) (hN : partsF p ≤ 64) (hc : ∀ f ∈ p.sub, ∃ l : List Pth, (∀ q ∈ l, GoodP q) ∧ l.length ≤ partsF f ∧ Ctr Tryd.prog 60 [.agg (fltL f)] (.sl none l.length (pthsC l) .no)) (hw : ∀ f ∈ p.way, GoodP f ∧ ∃ l : List Pth, (∀ q ∈ l, GoodP q) ∧ l.length + 1 ≤ partsP f ∧ Ctr Tryd.prog 42 [.agg (pthL f)] (.sl none l.length (pthsC l) .no)) :
    ∀ d i (out : List Pth), i + d = p.sub.length → (∀ q ∈ out, GoodP q) → out.length + partsFs (p.sub.drop i) + partsPs p.way + 1 ≤ partsF p → ∃ R : List Pth, (∀ q ∈ R, GoodP q) ∧ R.length ≤ partsF p ∧ HT Tryd.prog Tryd.f60.ntmps (pt Tryd.f60 0) (stW p out i) (EndsA Γ (.pure [] (.sl none R.length (pthsC R) .no)) Tryd.f60) := by
  have hs := (Flt.ok_i hok).2.2.1
  intro d
  induction d with
  | zero =>
    intro i out h h1 h2
    by_cases ho : p.op = 11
    · have hw1 := hr.way.1 ho
      obtain ⟨g0, l, g1, g2, g3⟩ := hw _ (getD_mem p.way 0 pth0 (by omega))
      have h3 := partsPs_drop p.way 0 (by omega)
      rw [List.drop_zero] at h3
      refine ⟨out ++ l ++ [p.way.getD 0 pth0], fun q hq => ?_, ?_, wi_e11 p out l i (by omega) ho (by omega) (by omega) g3⟩
      · simp only [List.mem_append, List.mem_singleton] at hq
        rcases hq with (hq | hq) | hq
        · exact h1 q hq
        · exact g1 q hq
        · rw [hq]; exact g0
      · simp only [List.length_append, List.length_singleton]; omega
    · exact ⟨out, h1, by omega, wi_e p out i (by omega) ho⟩
  | succ d ih =>
    intro i out h h1 h2
    have hi : i < p.sub.length := by omega
    obtain ⟨l, g1, g2, g3⟩ := hc _ (getD_mem p.sub i flt0 hi)
    rw [partsFs_drop p.sub i hi] at h2
    obtain ⟨R, r1, r2, kk⟩ := ih (i + 1) (out ++ l) (by omega) (fun q hq => (List.mem_append.1 hq).elim (h1 q) (g1 q)) (by rw [List.length_append]; omega)
    exact ⟨R, r1, r2, wi_h p out l R i hi hs (by omega) g3 kk⟩
theorem partsPs_mem : ∀ (l : List Pth), ∀ q ∈ l, partsP q ≤ partsPs l
  | [], q, h => by simp at h
  | a :: r, q, h => by
    simp only [partsPs]
    rcases List.mem_cons.1 h with h | h
    · rw [h]; omega
    · have := partsPs_mem r q h; omega
theorem partsFs_mem : ∀ (l : List Flt), ∀ q ∈ l, partsF q ≤ partsFs l
  | [], q, h => by simp at h
  | a :: r, q, h => by
    simp only [partsFs]
    rcases List.mem_cons.1 h with h | h
    · rw [h]; omega
    · have := partsFs_mem r q h; omega
theorem Pth.r_j {p : Pth} (h : p.r) : p.r1 ∧ (∀ q ∈ p.sub, q.r) ∧ ∀ f ∈ p.test, f.r := by cases h with | mk _ h1 h2 h3 => exact ⟨h1, h2, h3⟩
theorem Flt.r_j {p : Flt} (h : p.r) : p.r1 ∧ (∀ q ∈ p.sub, q.r) ∧ ∀ f ∈ p.way, f.r := by cases h with | mk _ h1 h2 h3 => exact ⟨h1, h2, h3⟩
mutual
theorem inner_ex (p : Pth) (hg : GoodP p) : ∃ l : List Pth, (∀ q ∈ l, GoodP q) ∧ l.length + 1 ≤ partsP p ∧ Ctr Tryd.prog 42 [.agg (pthL p)] (.sl none l.length (pthsC l) .no) := by
  obtain ⟨hok, hr, hN⟩ := hg
  have o := Pth.ok_i hok
  have r := Pth.r_j hr
  have e := partsP_eq p
  have hS := partsPs_mem p.sub
  have hT := partsFs_mem p.test
  obtain ⟨R, r1, r2, k⟩ := in0_l p (partsPs p.sub + partsFs p.test) (by omega) o.1 (fun f hf => by
      have := sub_lt p f hf
      have h1 := hS f hf
      obtain ⟨l, g1, g2, g3⟩ := inner_ex f ⟨o.2.2.1 f hf, r.2.1 f hf, by omega⟩
      exact ⟨l, g1, by omega, g3⟩)
    (fun out h1 h2 => in1_l p (partsPs p.sub + partsFs p.test) (by omega) o.2.1 (fun f hf => by
      have := test_lt p f hf
      have h1 := hT f hf
      exact within_ex f (o.2.2.2 f hf) (r.2.2 f hf) (by omega)) p.test.length 0 out (Nat.zero_add _) h1 (by rw [List.drop_zero]; omega))
    p.sub.length 0 [] (Nat.zero_add _) (by simp) (by rw [List.drop_zero, List.length_nil]; omega)
  exact ⟨R, r1, by omega, in_p p R k⟩
termination_by SizeOf.sizeOf p
theorem within_ex (p : Flt) (hok : p.ok) (hr : p.r) (hN : partsF p ≤ 64) : ∃ l : List Pth, (∀ q ∈ l, GoodP q) ∧ l.length ≤ partsF p ∧ Ctr Tryd.prog 60 [.agg (fltL p)] (.sl none l.length (pthsC l) .no) := by
  have o := (Flt.ok_i hok).2.2
  have r := Flt.r_j hr
  have e := partsF_eq p
  have hS := partsFs_mem p.sub
  have hT := partsPs_mem p.way
  obtain ⟨R, r1, r2, k⟩ := wi_l p hok r.1 hN (fun f hf => by
      have := fsub_lt p f hf
      have h1 := hS f hf
      exact within_ex f (o.2.2.1 f hf) (r.2.1 f hf) (by omega))
    (fun f hf => by
      have := way_lt p f hf
      have h1 := hT f hf
      have hg : GoodP f := ⟨o.2.2.2 f hf, r.2.2 f hf, by omega⟩
      exact ⟨hg, inner_ex f hg⟩)
    p.sub.length 0 [] (Nat.zero_add _) (by simp) (by rw [List.drop_zero, List.length_nil]; omega)
  exact ⟨R, r1, r2, wi_p p R k⟩
termination_by SizeOf.sizeOf p
end

end Go.Proofs.YteimloiaipiadaaDoor
end
