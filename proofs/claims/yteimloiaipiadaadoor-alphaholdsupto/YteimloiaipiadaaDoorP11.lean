import Derived.Test.YteimloiaipiadaaDoorP10
section
set_option linter.unusedVariables false
set_option linter.unusedSimpArgs false
set_option maxRecDepth 100000
namespace Go.Proofs.YteimloiaipiadaaDoor
open Go Go.AX

/-- The strategy of a path. -/
structure St where
  ps : List Pth
  pg : List Pg
  bs : List Int
  m : Pg
def pgsC (l : List Pg) : List AV := l.flatMap pgC
def pg0 : Pg := ⟨0, 0, 0, [], []⟩
theorem pgC_len (m : Pg) : (pgC m).length = 5 := rfl
theorem pgsC_len (l : List Pg) : (pgsC l).length = l.length * 5 := flat_len pgC_len l
theorem pgs_app (l : List Pg) (m : Pg) : pgsC (l ++ [m]) = pgsC l ++ pgC m := by simp [pgsC]
theorem pgs_st (l : List Pg) (i : Nat) (hi : i < l.length) : (pgsC l)[i * 5]? = some (.int .i64 (l.getD i pg0).st) := flat_nth0 pgC_len pg0 l i hi (by decide)
theorem pgs_s (l : List Pg) (i : Nat) (hi : i < l.length) : (pgsC l)[i * 5 + 1]? = some (.int .i64 (l.getD i pg0).s) := flat_nth pgC_len pg0 l i 1 hi (by decide)
def stC (s : St) : List AV := [.sl none s.ps.length (pthsC s.ps) .no, .sl none s.pg.length (pgsC s.pg) .no, .sl none s.bs.length (intsC s.bs) .no] ++ pgC s.m
def stFd (s : St) (q : Pth) (i : Nat) : AS := ⟨[(2, .ptr 2 0), (3, .ptr 3 0), (5, .int .i64 i)], [(2, .var true (stC s)), (3, .var true (pthL q))], []⟩
def stIt (s : St) (a : Int) (i : Nat) : AS := ⟨[(1, .ptr 1 0), (3, .int .i64 a), (4, .int .i64 i)], [(1, .var true (stC s))], []⟩
def stMk (p : Pth) (l ps : List Pth) (pg : List Pg) (bs : List Int) (m : Pg) (b : Int) (i : Nat) : AS := ⟨[(2, .ptr 2 0), (3, .ptr 3 0), (4, .sl none l.length (pthsC l) .no), (5, .int .i64 b), (6, .int .i64 i)], [(1, .var true (pthL p)), (2, .var true [.sl (some true) 0 [] .clip, .sl (some true) 0 [] .clip, .sl (some true) 0 [] .clip, .int .i64 0, .int .i64 0, .int .i64 0, .sl (some true) 0 [] .clip, .sl (some true) 0 [] .clip]), (3, .var true ([.sl none ps.length (pthsC ps) (.own 1), .sl none pg.length (pgsC pg) (.own 2), .sl none bs.length (intsC bs) (.own 3)] ++ pgC m))], [(1, ⟨ps.length, 25, 3, none⟩), (2, ⟨pg.length, 46, 5, none⟩), (3, ⟨bs.length, 3, 1, none⟩)]⟩

theorem fd_p (s : St) (q : Pth) (x : Int) (k : HT Tryd.prog Tryd.f43.ntmps (pt Tryd.f43 0) (stFd s q 0) (EndsA Γ (.pure [] (.int .i64 x)) Tryd.f43)) : Ctr Tryd.prog 43 [.agg (stC s), .agg (pthL q)] (.int .i64 x) :=
  Ctr.mk Γ_ok Tryd.func43 (by kernel_rfl) Tryd.call43 [] (by kernel_rfl) (HT.walk Γ_ok mo_ok (⟨[], [], hd43 [] [] [] [], dsp43, .pure [] (.int .i64 x)⟩ : Wk) 4000 (T := .head (pt Tryd.f43 0) ({ tmps := [(2, AV.ptr 2 0), (3, AV.ptr 3 0), (5, AV.int .i64 (0 : Int))], heap := [(2, .var true [AV.sl none s.ps.length (pthsC s.ps) .no, AV.sl none s.pg.length (pgsC s.pg) .no, AV.sl none s.bs.length (intsC s.bs) .no, AV.int .i64 s.m.st, AV.int .i64 s.m.s, AV.int .i64 s.m.e, AV.sl none s.m.edges.length (edgC s.m.edges) .no, AV.sl none s.m.tests.length (fltsC s.m.tests) .no]), (3, .var true (pthL q))], tags := [] })) (by kernel_rfl) (by
    simp only [PT.holds, true_implies, Bool.false_eq_true, Bool.true_eq_false, false_implies, true_and, and_true, repL0, List.nil_append, Nat.zero_add, Int.toNat_natCast, Int.toNat_zero, Nat.zero_mul]
    exact head_eq k (by simp [stFd, stC, pthL, pgC])))
theorem fd_t (s : St) (q : Pth) (i : Nat) (hi : i < s.ps.length) (hs : s.ps.length ≤ 1000) (hc : Ctr Tryd.prog 61 [.agg (pthL (s.ps.getD i pth0)), .agg (pthL q)] (.bool true)) : HT Tryd.prog Tryd.f43.ntmps (pt Tryd.f43 0) (stFd s q i) (EndsA Γ (.pure [] (.int .i64 i)) Tryd.f43) :=
  HT.walk Γ_ok mo_ok (⟨[(10, .val (.bool true)), (17, .val (.agg (pthL (s.ps.getD i pth0)))), (19, .call [] (.bool true))], [], hd43 [] [] [] [], [], .pure [] (.int .i64 i)⟩ : Wk) 4000 (T := .ob (decide ((↑i : Int) < (↑s.ps.length : Int)) = true) (.ob ((0 : Int) ≤ (↑i : Int) ∧ (↑i : Int) < (↑s.ps.length : Int) ∧ (↑i : Int).toNat * (3 : Nat) < (pthsC s.ps).length) (.ob (List.take (3 : Nat) (List.drop ((↑i : Int).toNat * (3 : Nat)) (pthsC s.ps)) = (pthL (s.ps.getD i pth0))) (.ob ((3 : Nat) ≤ (3 : Nat)) (.ob (Ctr Tryd.prog 61 [AV.agg (pthL (s.ps.getD i pth0)), AV.agg (pthL q)] (AV.bool true)) (.ob ((↑i : Int) = (↑i : Int)) (.tt))))))) (by kernel_rfl) (by
    have w2 : IntKind.i64.wrap ((i : Int) + 1) = ((i + 1 : Nat) : Int) := by rw [i64_wrap (by omega) (by omega)]; rfl
    simp only [PT.holds, w2, true_implies, Bool.false_eq_true, Bool.true_eq_false, false_implies, true_and, and_true, repL0, List.nil_append, Nat.zero_add, Int.toNat_natCast, Int.toNat_zero, Nat.zero_mul]
    repeat' (with_reducible apply And.intro)
    all_goals first | assumption | omega | exact decide_eq_true (by omega) | ((try simp only [Nat.add_assoc, Nat.reduceAdd, Nat.add_zero]) <;> first | (rw [ats_take _ _ _ _ hi (by decide)]; rfl) | (rw [ats_nth _ _ _ hi (by decide)]; rfl) | (rw [pths_take _ _ _ _ hi (by decide)]; rfl) | (rw [pths_nth _ _ _ hi (by decide)]; rfl) | (rw [flts_take _ _ _ _ hi (by decide)]; rfl) | (rw [flts_nth _ _ _ hi (by decide)]; rfl) | (rw [ats_take0 _ _ _ hi (by decide)]; rfl) | (rw [ats_nth0 _ _ hi]; rfl) | (rw [pths_take0 _ _ _ hi (by decide)]; rfl) | (rw [pths_nth0 _ _ hi]; rfl) | (rw [flts_take0 _ _ _ hi (by decide)]; rfl) | (rw [flts_nth0 _ _ hi]; rfl)) | (simp only [pthsC_len, pgsC_len, ints_len]; omega))
theorem fd_f (s : St) (q : Pth) (x : Int) (i : Nat) (hi : i < s.ps.length) (hs : s.ps.length ≤ 1000) (hc : Ctr Tryd.prog 61 [.agg (pthL (s.ps.getD i pth0)), .agg (pthL q)] (.bool false)) (k : HT Tryd.prog Tryd.f43.ntmps (pt Tryd.f43 0) (stFd s q (i + 1)) (EndsA Γ (.pure [] (.int .i64 x)) Tryd.f43)) : HT Tryd.prog Tryd.f43.ntmps (pt Tryd.f43 0) (stFd s q i) (EndsA Γ (.pure [] (.int .i64 x)) Tryd.f43) :=
  HT.walk Γ_ok mo_ok (⟨[(10, .val (.bool true)), (17, .val (.agg (pthL (s.ps.getD i pth0)))), (19, .call [] (.bool false))], [], hd43 [] [] [] [], [], .pure [] (.int .i64 x)⟩ : Wk) 4000 (T := .ob (decide ((↑i : Int) < (↑s.ps.length : Int)) = true) (.ob ((0 : Int) ≤ (↑i : Int) ∧ (↑i : Int) < (↑s.ps.length : Int) ∧ (↑i : Int).toNat * (3 : Nat) < (pthsC s.ps).length) (.ob (List.take (3 : Nat) (List.drop ((↑i : Int).toNat * (3 : Nat)) (pthsC s.ps)) = (pthL (s.ps.getD i pth0))) (.ob ((3 : Nat) ≤ (3 : Nat)) (.ob (Ctr Tryd.prog 61 [AV.agg (pthL (s.ps.getD i pth0)), AV.agg (pthL q)] (AV.bool false)) (.head (pt Tryd.f43 0) ({ tmps := [(2, AV.ptr 2 0), (3, AV.ptr 3 0), (5, AV.int .i64 (IntKind.i64.wrap ((↑i : Int) + (1 : Int))))], heap := [(2, .var true [AV.sl none s.ps.length (pthsC s.ps) .no, AV.sl none s.pg.length (pgsC s.pg) .no, AV.sl none s.bs.length (intsC s.bs) .no, AV.int .i64 s.m.st, AV.int .i64 s.m.s, AV.int .i64 s.m.e, AV.sl none s.m.edges.length (edgC s.m.edges) .no, AV.sl none s.m.tests.length (fltsC s.m.tests) .no]), (3, .var true (pthL q))], tags := [] }))))))) (by kernel_rfl) (by
    have w2 : IntKind.i64.wrap ((i : Int) + 1) = ((i + 1 : Nat) : Int) := by rw [i64_wrap (by omega) (by omega)]; rfl
    simp only [PT.holds, w2, true_implies, Bool.false_eq_true, Bool.true_eq_false, false_implies, true_and, and_true, repL0, List.nil_append, Nat.zero_add, Int.toNat_natCast, Int.toNat_zero, Nat.zero_mul]
    repeat' (with_reducible apply And.intro)
    all_goals first | assumption | omega | exact decide_eq_true (by omega) | ((try simp only [Nat.add_assoc, Nat.reduceAdd, Nat.add_zero]) <;> first | (rw [ats_take _ _ _ _ hi (by decide)]; rfl) | (rw [ats_nth _ _ _ hi (by decide)]; rfl) | (rw [pths_take _ _ _ _ hi (by decide)]; rfl) | (rw [pths_nth _ _ _ hi (by decide)]; rfl) | (rw [flts_take _ _ _ _ hi (by decide)]; rfl) | (rw [flts_nth _ _ _ hi (by decide)]; rfl) | (rw [ats_take0 _ _ _ hi (by decide)]; rfl) | (rw [ats_nth0 _ _ hi]; rfl) | (rw [pths_take0 _ _ _ hi (by decide)]; rfl) | (rw [pths_nth0 _ _ hi]; rfl) | (rw [flts_take0 _ _ _ hi (by decide)]; rfl) | (rw [flts_nth0 _ _ hi]; rfl)) | (simp only [pthsC_len, pgsC_len, ints_len]; omega))
theorem fd_e (s : St) (q : Pth) (i : Nat) (hi : i = s.ps.length) : HT Tryd.prog Tryd.f43.ntmps (pt Tryd.f43 0) (stFd s q i) (EndsA Γ (.pure [] (.int .i64 (-1))) Tryd.f43) :=
  HT.walk Γ_ok mo_ok (⟨[(10, .val (.bool false)), (17, .val (.agg (pthL pth0))), (19, .call [] (.bool false))], [], hd43 [] [] [] [], [], .pure [] (.int .i64 (-1))⟩ : Wk) 4000 (T := .ob (decide ((↑i : Int) < (↑s.ps.length : Int)) = false) (.ob ((-1 : Int) = (-1 : Int)) (.tt))) (by kernel_rfl) (by
    simp only [PT.holds, true_implies, Bool.false_eq_true, Bool.true_eq_false, false_implies, true_and, and_true, repL0, List.nil_append, Nat.zero_add, Int.toNat_natCast, Int.toNat_zero, Nat.zero_mul]
    repeat' (with_reducible apply And.intro)
    all_goals first | exact decide_eq_false (by omega))
theorem it_p (s : St) (x : Int) (k : HT Tryd.prog Tryd.f17.ntmps (pt Tryd.f17 0) (stIt s 0 0) (EndsA Γ (.pure [] (.int .i64 x)) Tryd.f17)) : Ctr Tryd.prog 17 [.agg (stC s)] (.int .i64 x) :=
  Ctr.mk Γ_ok Tryd.func17 (by kernel_rfl) Tryd.call17 [] (by kernel_rfl) (HT.walk Γ_ok mo_ok (⟨[], [], hd17 [] [] [] [], [], .pure [] (.int .i64 x)⟩ : Wk) 4000 (T := .head (pt Tryd.f17 0) ({ tmps := [(1, AV.ptr 1 0), (3, AV.int .i64 (0 : Int)), (4, AV.int .i64 (0 : Int))], heap := [(1, .var true [AV.sl none s.ps.length (pthsC s.ps) .no, AV.sl none s.pg.length (pgsC s.pg) .no, AV.sl none s.bs.length (intsC s.bs) .no, AV.int .i64 s.m.st, AV.int .i64 s.m.s, AV.int .i64 s.m.e, AV.sl none s.m.edges.length (edgC s.m.edges) .no, AV.sl none s.m.tests.length (fltsC s.m.tests) .no])], tags := [] })) (by kernel_rfl) (by
    simp only [PT.holds, true_implies, Bool.false_eq_true, Bool.true_eq_false, false_implies, true_and, and_true, repL0, List.nil_append, Nat.zero_add, Int.toNat_natCast, Int.toNat_zero, Nat.zero_mul]
    exact head_eq k (by simp [stIt, stC, pgC])))
theorem it_h (s : St) (a x : Int) (i : Nat) (hi : i < s.pg.length) (hs : s.pg.length ≤ 1000) (ha : 0 ≤ a ∧ a ≤ 100000) (hm : 0 ≤ (s.pg.getD i pg0).st ∧ (s.pg.getD i pg0).st ≤ 1000) (k : HT Tryd.prog Tryd.f17.ntmps (pt Tryd.f17 0) (stIt s (a + (s.pg.getD i pg0).st) (i + 1)) (EndsA Γ (.pure [] (.int .i64 x)) Tryd.f17)) : HT Tryd.prog Tryd.f17.ntmps (pt Tryd.f17 0) (stIt s a i) (EndsA Γ (.pure [] (.int .i64 x)) Tryd.f17) :=
  HT.walk Γ_ok mo_ok (⟨[(9, .val (.bool true)), (18, .val (.int .i64 (s.pg.getD i pg0).st))], [], hd17 [] [] [] [], [], .pure [] (.int .i64 x)⟩ : Wk) 4000 (T := .ob (decide ((↑i : Int) < (↑s.pg.length : Int)) = true) (.ob ((0 : Int) ≤ (↑i : Int) ∧ (↑i : Int) < (↑s.pg.length : Int) ∧ (↑i : Int).toNat * (5 : Nat) < (pgsC s.pg).length) (.ob ((pgsC s.pg)[(↑i : Int).toNat * (5 : Nat) + (0 : Nat)]? = some (AV.int .i64 (s.pg.getD i pg0).st)) (.head (pt Tryd.f17 0) ({ tmps := [(1, AV.ptr 1 0), (3, AV.int .i64 (IntKind.i64.wrap (a + (s.pg.getD i pg0).st))), (4, AV.int .i64 (IntKind.i64.wrap ((↑i : Int) + (1 : Int))))], heap := [(1, .var true [AV.sl none s.ps.length (pthsC s.ps) .no, AV.sl none s.pg.length (pgsC s.pg) .no, AV.sl none s.bs.length (intsC s.bs) .no, AV.int .i64 s.m.st, AV.int .i64 s.m.s, AV.int .i64 s.m.e, AV.sl none s.m.edges.length (edgC s.m.edges) .no, AV.sl none s.m.tests.length (fltsC s.m.tests) .no])], tags := [] }))))) (by kernel_rfl) (by
    have w2 : IntKind.i64.wrap ((i : Int) + 1) = ((i + 1 : Nat) : Int) := by rw [i64_wrap (by omega) (by omega)]; rfl
    have w3 : IntKind.i64.wrap (a + (s.pg.getD i pg0).st) = a + (s.pg.getD i pg0).st := i64_wrap (by omega) (by omega)
    simp only [PT.holds, w2, w3, true_implies, Bool.false_eq_true, Bool.true_eq_false, false_implies, true_and, and_true, repL0, List.nil_append, Nat.zero_add, Int.toNat_natCast, Int.toNat_zero, Nat.zero_mul]
    repeat' (with_reducible apply And.intro)
    all_goals first | assumption | omega | exact decide_eq_true (by omega) | (simp only [pthsC_len, pgsC_len, ints_len]; omega) | exact pgs_st _ _ hi)
theorem it_e (s : St) (a : Int) (i : Nat) (hi : i = s.pg.length) : HT Tryd.prog Tryd.f17.ntmps (pt Tryd.f17 0) (stIt s a i) (EndsA Γ (.pure [] (.int .i64 a)) Tryd.f17) :=
  HT.walk Γ_ok mo_ok (⟨[(9, .val (.bool false)), (18, .val (.int .i64 0))], [], hd17 [] [] [] [], [], .pure [] (.int .i64 a)⟩ : Wk) 4000 (T := .ob (decide ((↑i : Int) < (↑s.pg.length : Int)) = false) (.ob (a = a) (.tt))) (by kernel_rfl) (by
    simp only [PT.holds, true_implies, Bool.false_eq_true, Bool.true_eq_false, false_implies, true_and, and_true, repL0, List.nil_append, Nat.zero_add, Int.toNat_natCast, Int.toNat_zero, Nat.zero_mul]
    repeat' (with_reducible apply And.intro)
    all_goals first | exact decide_eq_false (by omega))
theorem mk_p (p : Pth) (x : Pg) (l : List Pth) (hx : Ctr Tryd.prog 41 [.agg (pthL p)] (.agg (pgC x))) (hc : Ctr Tryd.prog 42 [.agg (pthL p)] (.sl none l.length (pthsC l) .no)) (R : St) (k : HT Tryd.prog Tryd.f16.ntmps (pt Tryd.f16 0) (stMk p l [] [] [] x 0 0) (EndsA Γ (.pure [] (.agg (stC R))) Tryd.f16)) : Ctr Tryd.prog 16 [.agg (pthL p)] (.agg (stC R)) :=
  Ctr.mk Γ_ok Tryd.func16 (by kernel_rfl) Tryd.call16 [] (by kernel_rfl) (HT.walk Γ_ok mo_ok (⟨[(9, .call [] (.agg (pgC x))), (12, .call [] (.sl none l.length (pthsC l) .no))], [], hd16 [] [(false, 3, 0, 1, 25, 3), (false, 3, 1, 2, 46, 5), (false, 3, 2, 3, 3, 1)] [] [1, 2, 3], dsp16, .pure [] (.agg (stC R))⟩ : Wk) 4000 (T := .ob ((3 : Nat) ≤ (3 : Nat)) (.ob (Ctr Tryd.prog 41 [AV.agg (pthL p)] (AV.agg [AV.int .i64 x.st, AV.int .i64 x.s, AV.int .i64 x.e, AV.sl none x.edges.length (edgC x.edges) .no, AV.sl none x.tests.length (fltsC x.tests) .no])) (.ob ((3 : Nat) ≤ (3 : Nat)) (.ob (Ctr Tryd.prog 42 [AV.agg (pthL p)] (AV.sl none l.length (pthsC l) .no)) (.head (pt Tryd.f16 0) ({ tmps := [(2, AV.ptr 2 0), (3, AV.ptr 3 0), (4, AV.sl none l.length (pthsC l) .no), (5, AV.int .i64 (0 : Int)), (6, AV.int .i64 (0 : Int))], heap := [(1, .var true (pthL p)), (2, .var true [AV.sl (some true) (0 : Nat) [] .clip, AV.sl (some true) (0 : Nat) [] .clip, AV.sl (some true) (0 : Nat) [] .clip, AV.int .i64 (0 : Int), AV.int .i64 (0 : Int), AV.int .i64 (0 : Int), AV.sl (some true) (0 : Nat) [] .clip, AV.sl (some true) (0 : Nat) [] .clip]), (3, .var true [AV.sl none (0 : Nat) [] (.own (1 : Nat)), AV.sl none (0 : Nat) [] (.own (2 : Nat)), AV.sl none (0 : Nat) [] (.own (3 : Nat)), AV.int .i64 x.st, AV.int .i64 x.s, AV.int .i64 x.e, AV.sl none x.edges.length (edgC x.edges) .no, AV.sl none x.tests.length (fltsC x.tests) .no])], tags := [(1, { n := (0 : Nat), e := (25 : Nat), sz := (3 : Nat) }), (2, { n := (0 : Nat), e := (46 : Nat), sz := (5 : Nat) }), (3, { n := (0 : Nat), e := (3 : Nat), sz := (1 : Nat) })] })))))) (by kernel_rfl) (by
    simp only [PT.holds, true_implies, Bool.false_eq_true, Bool.true_eq_false, false_implies, true_and, and_true, repL0, List.nil_append, Nat.zero_add, Int.toNat_natCast, Int.toNat_zero, Nat.zero_mul]
    repeat' (with_reducible apply And.intro)
    all_goals first | assumption | omega))
theorem mk_e (p : Pth) (l ps : List Pth) (pg : List Pg) (bs : List Int) (m : Pg) (b : Int) (i : Nat) (hi : i = l.length) : HT Tryd.prog Tryd.f16.ntmps (pt Tryd.f16 0) (stMk p l ps pg bs m b i) (EndsA Γ (.pure [] (.agg (stC ⟨ps, pg, bs, m⟩))) Tryd.f16) :=
  HT.walk Γ_ok mo_ok (⟨[(16, .val (.bool false)), (23, .val (.agg (pthL pth0))), (24, .call [] (.int .i64 0))], [], hd16 [] [(false, 3, 0, 1, 25, 3), (false, 3, 1, 2, 46, 5), (false, 3, 2, 3, 3, 1)] [] [1, 2, 3], [], .pure [] (.agg (stC ⟨ps, pg, bs, m⟩))⟩ : Wk) 4000 (T := .ob (decide ((↑i : Int) < (↑l.length : Int)) = false) (.ob ((8 : Nat) ≤ (8 : Nat)) (.ob (ps.length = ps.length) (.ob (pthsC ps = pthsC ps) (.ob (pg.length = pg.length) (.ob (pgsC pg = pgsC pg) (.ob (bs.length = bs.length) (.ob (intsC bs = intsC bs) (.ob (m.st = m.st) (.ob (m.s = m.s) (.ob (m.e = m.e) (.ob (m.edges.length = m.edges.length) (.ob (edgC m.edges = edgC m.edges) (.ob (m.tests.length = m.tests.length) (.ob (fltsC m.tests = fltsC m.tests) (.tt)))))))))))))))) (by kernel_rfl) (by
    simp only [PT.holds, true_implies, Bool.false_eq_true, Bool.true_eq_false, false_implies, true_and, and_true, repL0, List.nil_append, Nat.zero_add, Int.toNat_natCast, Int.toNat_zero, Nat.zero_mul]
    repeat' (with_reducible apply And.intro)
    all_goals first | omega | exact decide_eq_false (by omega))
theorem mk_o (p : Pth) (l ps : List Pth) (pg : List Pg) (bs : List Int) (x m : Pg) (b : Int) (i : Nat) (y : Int) (hy : 0 ≤ y) (hi : i < l.length) (hl : l.length ≤ 1000 ∧ ps.length ≤ 1000 ∧ pg.length ≤ 1000 ∧ bs.length ≤ 1000) (hb : 0 ≤ b ∧ b ≤ 100000) (R : St) (hc : Ctr Tryd.prog 43 [.agg (stC ⟨ps, pg, bs, m⟩), .agg (pthL (l.getD i pth0))] (.int .i64 y)) (k : HT Tryd.prog Tryd.f16.ntmps (pt Tryd.f16 0) (stMk p l ps pg bs m b (i + 1)) (EndsA Γ (.pure [] (.agg (stC R))) Tryd.f16)) : HT Tryd.prog Tryd.f16.ntmps (pt Tryd.f16 0) (stMk p l ps pg bs m b i) (EndsA Γ (.pure [] (.agg (stC R))) Tryd.f16) :=
  HT.walk Γ_ok mo_ok (⟨[(16, .val (.bool true)), (25, .val (.bool true)), (23, .val (.agg (pthL (l.getD i pth0)))), (24, .call [] (.int .i64 y))], [], hd16 [] [(false, 3, 0, 1, 25, 3), (false, 3, 1, 2, 46, 5), (false, 3, 2, 3, 3, 1)] [] [1, 2, 3], [], .pure [] (.agg (stC R))⟩ : Wk) 4000 (T := .ob (decide ((↑i : Int) < (↑l.length : Int)) = true) (.ob ((8 : Nat) ≤ (8 : Nat)) (.ob ((0 : Int) ≤ (↑i : Int) ∧ (↑i : Int) < (↑l.length : Int) ∧ (↑i : Int).toNat * (3 : Nat) < (pthsC l).length) (.ob (List.take (3 : Nat) (List.drop ((↑i : Int).toNat * (3 : Nat)) (pthsC l)) = (pthL (l.getD i pth0))) (.ob (Ctr Tryd.prog 43 [AV.agg [AV.sl none ps.length (pthsC ps) .no, AV.sl none pg.length (pgsC pg) .no, AV.sl none bs.length (intsC bs) .no, AV.int .i64 m.st, AV.int .i64 m.s, AV.int .i64 m.e, AV.sl none m.edges.length (edgC m.edges) .no, AV.sl none m.tests.length (fltsC m.tests) .no], AV.agg (pthL (l.getD i pth0))] (AV.int .i64 y)) (.ob (decide ((0 : Int) ≤ y) = true) (.head (pt Tryd.f16 0) ({ tmps := [(2, AV.ptr 2 0), (3, AV.ptr 3 0), (4, AV.sl none l.length (pthsC l) .no), (5, AV.int .i64 b), (6, AV.int .i64 (IntKind.i64.wrap ((↑i : Int) + (1 : Int))))], heap := [(1, .var true (pthL p)), (2, .var true [AV.sl (some true) (0 : Nat) [] .clip, AV.sl (some true) (0 : Nat) [] .clip, AV.sl (some true) (0 : Nat) [] .clip, AV.int .i64 (0 : Int), AV.int .i64 (0 : Int), AV.int .i64 (0 : Int), AV.sl (some true) (0 : Nat) [] .clip, AV.sl (some true) (0 : Nat) [] .clip]), (3, .var true [AV.sl none ps.length (pthsC ps) (.own (1 : Nat)), AV.sl none pg.length (pgsC pg) (.own (2 : Nat)), AV.sl none bs.length (intsC bs) (.own (3 : Nat)), AV.int .i64 m.st, AV.int .i64 m.s, AV.int .i64 m.e, AV.sl none m.edges.length (edgC m.edges) .no, AV.sl none m.tests.length (fltsC m.tests) .no])], tags := [(1, { n := ps.length, e := (25 : Nat), sz := (3 : Nat) }), (2, { n := pg.length, e := (46 : Nat), sz := (5 : Nat) }), (3, { n := bs.length, e := (3 : Nat), sz := (1 : Nat) })] })))))))) (by kernel_rfl) (by
    have w2 : IntKind.i64.wrap ((i : Int) + 1) = ((i + 1 : Nat) : Int) := by rw [i64_wrap (by omega) (by omega)]; rfl
    simp only [PT.holds, w2, true_implies, Bool.false_eq_true, Bool.true_eq_false, false_implies, true_and, and_true, repL0, List.nil_append, Nat.zero_add, Int.toNat_natCast, Int.toNat_zero, Nat.zero_mul]
    repeat' (with_reducible apply And.intro)
    all_goals first | assumption | omega | exact decide_eq_true (by omega) | ((try simp only [Nat.add_assoc, Nat.reduceAdd, Nat.add_zero]) <;> first | (rw [ats_take _ _ _ _ hi (by decide)]; rfl) | (rw [ats_nth _ _ _ hi (by decide)]; rfl) | (rw [pths_take _ _ _ _ hi (by decide)]; rfl) | (rw [pths_nth _ _ _ hi (by decide)]; rfl) | (rw [flts_take _ _ _ _ hi (by decide)]; rfl) | (rw [flts_nth _ _ _ hi (by decide)]; rfl) | (rw [ats_take0 _ _ _ hi (by decide)]; rfl) | (rw [ats_nth0 _ _ hi]; rfl) | (rw [pths_take0 _ _ _ hi (by decide)]; rfl) | (rw [pths_nth0 _ _ hi]; rfl) | (rw [flts_take0 _ _ _ hi (by decide)]; rfl) | (rw [flts_nth0 _ _ hi]; rfl)) | (simp only [pthsC_len, pgsC_len, ints_len]; omega))
theorem mk_n (p : Pth) (l ps : List Pth) (pg : List Pg) (bs : List Int) (x m : Pg) (b : Int) (i : Nat) (y : Int) (hy : y < 0) (hi : i < l.length) (hl : l.length ≤ 1000 ∧ ps.length ≤ 1000 ∧ pg.length ≤ 1000 ∧ bs.length ≤ 1000) (hb : 0 ≤ b ∧ b ≤ 100000) (R : St) (hc : Ctr Tryd.prog 43 [.agg (stC ⟨ps, pg, bs, m⟩), .agg (pthL (l.getD i pth0))] (.int .i64 y)) (hx : Ctr Tryd.prog 41 [.agg (pthL (l.getD i pth0))] (.agg (pgC x))) (hxs : 0 ≤ x.st ∧ x.st ≤ 1000) (k : HT Tryd.prog Tryd.f16.ntmps (pt Tryd.f16 0) (stMk p l (ps ++ [(l.getD i pth0)]) (pg ++ [x]) (bs ++ [b]) m (b + x.st) (i + 1)) (EndsA Γ (.pure [] (.agg (stC R))) Tryd.f16)) : HT Tryd.prog Tryd.f16.ntmps (pt Tryd.f16 0) (stMk p l ps pg bs m b i) (EndsA Γ (.pure [] (.agg (stC R))) Tryd.f16) :=
  HT.walk Γ_ok mo_ok (⟨[(16, .val (.bool true)), (25, .val (.bool false)), (23, .val (.agg (pthL (l.getD i pth0)))), (24, .call [] (.int .i64 y)), (29, .val (.agg (pthL (l.getD i pth0)))), (30, .call [] (.agg (pgC x))), (36, .val (.agg (pthL (l.getD i pth0))))], [], hd16 [] [(false, 3, 0, 1, 25, 3), (false, 3, 1, 2, 46, 5), (false, 3, 2, 3, 3, 1)] [] [1, 2, 3], [], .pure [] (.agg (stC R))⟩ : Wk) 4000 (T := .ob (decide ((↑i : Int) < (↑l.length : Int)) = true) (.ob ((8 : Nat) ≤ (8 : Nat)) (.ob ((0 : Int) ≤ (↑i : Int) ∧ (↑i : Int) < (↑l.length : Int) ∧ (↑i : Int).toNat * (3 : Nat) < (pthsC l).length) (.ob (List.take (3 : Nat) (List.drop ((↑i : Int).toNat * (3 : Nat)) (pthsC l)) = (pthL (l.getD i pth0))) (.ob (Ctr Tryd.prog 43 [AV.agg [AV.sl none ps.length (pthsC ps) .no, AV.sl none pg.length (pgsC pg) .no, AV.sl none bs.length (intsC bs) .no, AV.int .i64 m.st, AV.int .i64 m.s, AV.int .i64 m.e, AV.sl none m.edges.length (edgC m.edges) .no, AV.sl none m.tests.length (fltsC m.tests) .no], AV.agg (pthL (l.getD i pth0))] (AV.int .i64 y)) (.ob (decide ((0 : Int) ≤ y) = false) (.ob ((0 : Int) ≤ (↑i : Int) ∧ (↑i : Int) < (↑l.length : Int) ∧ (↑i : Int).toNat * (3 : Nat) < (pthsC l).length) (.ob (List.take (3 : Nat) (List.drop ((↑i : Int).toNat * (3 : Nat)) (pthsC l)) = (pthL (l.getD i pth0))) (.ob (Ctr Tryd.prog 41 [AV.agg (pthL (l.getD i pth0))] (AV.agg [AV.int .i64 x.st, AV.int .i64 x.s, AV.int .i64 x.e, AV.sl none x.edges.length (edgC x.edges) .no, AV.sl none x.tests.length (fltsC x.tests) .no])) (.ob ((0 : Int) ≤ (↑i : Int) ∧ (↑i : Int) < (↑l.length : Int) ∧ (↑i : Int).toNat * (3 : Nat) < (pthsC l).length) (.ob (List.take (3 : Nat) (List.drop ((↑i : Int).toNat * (3 : Nat)) (pthsC l)) = (pthL (l.getD i pth0))) (.ob (ps.length = ps.length) (.ob ((pthsC ps).length = ps.length * ((2 : Nat) + (1 : Nat)) ∧ (splice (repL (List.map zn [AV.int .i64 (0 : Int), AV.sl (some true) (0 : Nat) [] .clip, AV.sl (some true) (0 : Nat) [] .clip]) (1 : Nat)) ((0 : Nat) * (3 : Nat)) (cellsOf (AV.agg (pthL (l.getD i pth0))))).length = (1 : Nat) * ((2 : Nat) + (1 : Nat)) ∧ (ps.length + (1 : Nat)) * ((55 : Nat) + (1 : Nat)) ≤ (140737488355328 : Nat)) (.ob ((5 : Nat) ≤ (5 : Nat)) (.ob (pg.length = pg.length) (.ob ((pgsC pg).length = pg.length * ((4 : Nat) + (1 : Nat)) ∧ (splice (repL (List.map zn [AV.int .i64 (0 : Int), AV.int .i64 (0 : Int), AV.int .i64 (0 : Int), AV.sl (some true) (0 : Nat) [] .clip, AV.sl (some true) (0 : Nat) [] .clip]) (1 : Nat)) ((0 : Nat) * (5 : Nat)) (cellsOf (AV.agg [AV.int .i64 x.st, AV.int .i64 x.s, AV.int .i64 x.e, AV.sl none x.edges.length (edgC x.edges) .no, AV.sl none x.tests.length (fltsC x.tests) .no]))).length = (1 : Nat) * ((4 : Nat) + (1 : Nat)) ∧ (pg.length + (1 : Nat)) * ((71 : Nat) + (1 : Nat)) ≤ (140737488355328 : Nat)) (.ob (bs.length = bs.length) (.ob ((intsC bs).length = bs.length * ((0 : Nat) + (1 : Nat)) ∧ (splice (repL (List.map zn [AV.int .i64 (0 : Int)]) (1 : Nat)) ((0 : Nat) * (1 : Nat)) (cellsOf (AV.int .i64 b))).length = (1 : Nat) * ((0 : Nat) + (1 : Nat)) ∧ (bs.length + (1 : Nat)) * ((7 : Nat) + (1 : Nat)) ≤ (140737488355328 : Nat)) (.head (pt Tryd.f16 0) ({ tmps := [(2, AV.ptr 2 0), (3, AV.ptr 3 0), (4, AV.sl none l.length (pthsC l) .no), (5, AV.int .i64 (IntKind.i64.wrap (b + x.st))), (6, AV.int .i64 (IntKind.i64.wrap ((↑i : Int) + (1 : Int))))], heap := [(1, .var true (pthL p)), (2, .var true [AV.sl (some true) (0 : Nat) [] .clip, AV.sl (some true) (0 : Nat) [] .clip, AV.sl (some true) (0 : Nat) [] .clip, AV.int .i64 (0 : Int), AV.int .i64 (0 : Int), AV.int .i64 (0 : Int), AV.sl (some true) (0 : Nat) [] .clip, AV.sl (some true) (0 : Nat) [] .clip]), (3, .var true [AV.sl none (ps.length + (1 : Nat)) (pthsC ps ++ splice (repL (List.map zn [AV.int .i64 (0 : Int), AV.sl (some true) (0 : Nat) [] .clip, AV.sl (some true) (0 : Nat) [] .clip]) (1 : Nat)) ((0 : Nat) * (3 : Nat)) (cellsOf (AV.agg (pthL (l.getD i pth0))))) (.own (1 : Nat)), AV.sl none (pg.length + (1 : Nat)) (pgsC pg ++ splice (repL (List.map zn [AV.int .i64 (0 : Int), AV.int .i64 (0 : Int), AV.int .i64 (0 : Int), AV.sl (some true) (0 : Nat) [] .clip, AV.sl (some true) (0 : Nat) [] .clip]) (1 : Nat)) ((0 : Nat) * (5 : Nat)) (cellsOf (AV.agg [AV.int .i64 x.st, AV.int .i64 x.s, AV.int .i64 x.e, AV.sl none x.edges.length (edgC x.edges) .no, AV.sl none x.tests.length (fltsC x.tests) .no]))) (.own (2 : Nat)), AV.sl none (bs.length + (1 : Nat)) (intsC bs ++ splice (repL (List.map zn [AV.int .i64 (0 : Int)]) (1 : Nat)) ((0 : Nat) * (1 : Nat)) (cellsOf (AV.int .i64 b))) (.own (3 : Nat)), AV.int .i64 m.st, AV.int .i64 m.s, AV.int .i64 m.e, AV.sl none m.edges.length (edgC m.edges) .no, AV.sl none m.tests.length (fltsC m.tests) .no])], tags := [(1, { n := ps.length + (1 : Nat), e := (25 : Nat), sz := (3 : Nat) }), (2, { n := pg.length + (1 : Nat), e := (46 : Nat), sz := (5 : Nat) }), (3, { n := bs.length + (1 : Nat), e := (3 : Nat), sz := (1 : Nat) })] })))))))))))))))))))) (by kernel_rfl) (by
    have w2 : IntKind.i64.wrap ((i : Int) + 1) = ((i + 1 : Nat) : Int) := by rw [i64_wrap (by omega) (by omega)]; rfl
    have w3 : IntKind.i64.wrap (b + x.st) = b + x.st := i64_wrap (by omega) (by omega)
    simp only [PT.holds, w2, w3, true_implies, Bool.false_eq_true, Bool.true_eq_false, false_implies, true_and, and_true, repL0, List.nil_append, Nat.zero_add, Int.toNat_natCast, Int.toNat_zero, Nat.zero_mul]
    repeat' (with_reducible apply And.intro)
    all_goals first | assumption | omega | rfl | exact decide_eq_true (by omega) | exact decide_eq_false (by omega) | ((try simp only [Nat.add_assoc, Nat.reduceAdd, Nat.add_zero]) <;> first | (rw [ats_take _ _ _ _ hi (by decide)]; rfl) | (rw [ats_nth _ _ _ hi (by decide)]; rfl) | (rw [pths_take _ _ _ _ hi (by decide)]; rfl) | (rw [pths_nth _ _ _ hi (by decide)]; rfl) | (rw [flts_take _ _ _ _ hi (by decide)]; rfl) | (rw [flts_nth _ _ _ hi (by decide)]; rfl) | (rw [ats_take0 _ _ _ hi (by decide)]; rfl) | (rw [ats_nth0 _ _ hi]; rfl) | (rw [pths_take0 _ _ _ hi (by decide)]; rfl) | (rw [pths_nth0 _ _ hi]; rfl) | (rw [flts_take0 _ _ _ hi (by decide)]; rfl) | (rw [flts_nth0 _ _ hi]; rfl)) | (simp only [pthsC_len, pgsC_len, ints_len]; omega) | (rw [pthsC_len]) | exact pgsC_len _ | exact head_eq k (by simp [stMk, stC, pgC, pthL, path_app, pgs_app, intsC_app, splice, repL, cellsOf]))
end Go.Proofs.YteimloiaipiadaaDoor
end

section
set_option linter.unusedVariables false
set_option linter.unusedSimpArgs false
set_option maxRecDepth 100000
namespace Go.Proofs.YteimloiaipiadaaDoor
open Go Go.AX

/-- What a compiled machine keeps to. -/
structure PgR (x : Pg) : Prop where
  st : 1 ≤ x.st ∧ x.st ≤ 128
  s : 0 ≤ x.s ∧ x.s < x.st
theorem compile_ex (p : Pth) (hg : GoodP p) : ∃ x, PgR x ∧ Ctr Tryd.prog 41 [.agg (pthL p)] (.agg (pgC x)) := by
  obtain ⟨hok, hr, hN⟩ := hg
  obtain ⟨x, hx, c⟩ := add_ex p hok hr pg0 ⟨⟨by show (0 : Int) ≤ 0; omega, by show (0 : Int) + _ ≤ _; omega⟩, by show 0 + _ ≤ _; omega, by show 0 + _ ≤ _; omega⟩
  obtain ⟨y1, y2, y3, y4⟩ := hx
  have e0 : pg0.st = 0 := rfl
  rw [e0] at y1 y2
  have c2 : Ctr Tryd.prog 59 [.agg [.int .i64 0, .int .i64 0, .int .i64 0, .sl (some true) 0 [] .clip, .sl (some true) 0 [] .clip], .agg (pthL p)] (.agg (ptC x)) := c.args rfl (by simp [All, pg0, edgC, fltsC])
  exact ⟨_, ⟨⟨by show 1 ≤ x.m.st; omega, by show x.m.st ≤ 128; omega⟩, ⟨by show 0 ≤ x.s; omega, by show x.s < x.m.st; omega⟩⟩, cp_p p x c2⟩
theorem findS_ex (s : St) (q : Pth) (hs : s.ps.length ≤ 1000) (hq : q.ok) (hp : ∀ p ∈ s.ps, p.ok) : ∃ x : Int, (x = -1 ∨ 0 ≤ x ∧ x < s.ps.length) ∧ Ctr Tryd.prog 43 [.agg (stC s), .agg (pthL q)] (.int .i64 x) := by
  have hl : ∀ d i, i + d = s.ps.length → ∃ x : Int, (x = -1 ∨ 0 ≤ x ∧ x < s.ps.length) ∧ HT Tryd.prog Tryd.f43.ntmps (pt Tryd.f43 0) (stFd s q i) (EndsA Γ (.pure [] (.int .i64 x)) Tryd.f43) := by
    intro d
    induction d with
    | zero => exact fun i h => ⟨_, .inl rfl, fd_e s q i (by omega)⟩
    | succ d ih =>
      intro i h
      obtain ⟨b, hb⟩ := same_ex (s.ps.getD i pth0) q (hp _ (getD_mem s.ps i pth0 (by omega))) hq
      cases b
      · obtain ⟨x, hx, k⟩ := ih (i + 1) (by omega)
        exact ⟨x, hx, fd_f s q x i (by omega) hs hb k⟩
      · exact ⟨_, .inr ⟨by omega, by omega⟩, fd_t s q i (by omega) hs hb⟩
  obtain ⟨x, hx, k⟩ := hl s.ps.length 0 (Nat.zero_add _)
  exact ⟨x, hx, fd_p s q x k⟩
def sumS : List Pg → Int
  | [] => 0
  | m :: r => m.st + sumS r
theorem sumS_app (l : List Pg) (m : Pg) : sumS (l ++ [m]) = sumS l + m.st := by
  induction l with
  | nil => simp [sumS]
  | cons a r ih => simp only [List.cons_append, sumS, ih]; omega
theorem sumS_le : ∀ (l : List Pg), (∀ m ∈ l, PgR m) → 0 ≤ sumS l ∧ sumS l ≤ 128 * (l.length : Int)
  | [], _ => by simp [sumS]
  | a :: r, h => by
    have h1 := sumS_le r (fun m hm => h m (by simp [hm]))
    have h2 := (h a (by simp)).st
    simp only [sumS, List.length_cons]
    omega
/-- What a strategy keeps to. -/
structure StR (s : St) : Prop where
  pg : s.pg.length = s.ps.length
  bs : s.bs.length = s.ps.length
  le : s.ps.length ≤ 64
  r : ∀ m ∈ s.pg, PgR m
  ok : ∀ q ∈ s.ps, q.ok
  at_ : ∀ i, i < s.ps.length → 0 ≤ s.bs.getD i 0 ∧ 0 ≤ s.bs.getD i 0 + (s.pg.getD i pg0).s ∧ s.bs.getD i 0 + (s.pg.getD i pg0).s < sumS s.pg
theorem items_ctr (s : St) (h : StR s) : Ctr Tryd.prog 17 [.agg (stC s)] (.int .i64 (sumS s.pg)) := by
  have hn := h.pg
  have hle := h.le
  have hall : 0 ≤ sumS s.pg ∧ sumS s.pg ≤ 128 * (s.pg.length : Int) := sumS_le _ h.r
  have hl : ∀ d i (a : Int), i + d = s.pg.length → 0 ≤ a → a + sumS (s.pg.drop i) = sumS s.pg → HT Tryd.prog Tryd.f17.ntmps (pt Tryd.f17 0) (stIt s a i) (EndsA Γ (.pure [] (.int .i64 (sumS s.pg))) Tryd.f17) := by
    intro d
    induction d with
    | zero =>
      intro i a hi ha he
      rw [List.drop_of_length_le (by omega)] at he
      simp only [sumS, Int.add_zero] at he
      rw [← he]
      exact it_e s a i (by omega)
    | succ d ih =>
      intro i a hi ha he
      have h1 := (h.r _ (getD_mem s.pg i pg0 (by omega))).st
      have h2 := sumS_le (s.pg.drop i) (fun m hm => h.r m (List.mem_of_mem_drop hm))
      have h3 := drop_cons s.pg i pg0 (by omega)
      rw [h3] at he
      simp only [sumS] at he
      rw [h3] at h2
      simp only [sumS] at h2
      have h4 := sumS_le (s.pg.drop (i + 1)) (fun m hm => h.r m (List.mem_of_mem_drop hm))
      exact it_h s a _ i (by omega) (by omega) ⟨by omega, by omega⟩ ⟨by omega, by omega⟩ (ih (i + 1) _ (by omega) (by omega) (by omega))
  exact it_p s _ (hl s.pg.length 0 0 (Nat.zero_add _) (by omega) (by rw [List.drop_zero]; omega))
theorem make_ex (p : Pth) (hg : GoodP p) : ∃ s, StR s ∧ Ctr Tryd.prog 16 [.agg (pthL p)] (.agg (stC s)) := by
  obtain ⟨x, hx, c41⟩ := compile_ex p hg
  obtain ⟨l, hl, hle, c42⟩ := inner_ex p hg
  have hN := hg.2.2
  have hlp : ∀ d i (ps : List Pth) (pg : List Pg) (bs : List Int), i + d = l.length → ps.length ≤ i → StR ⟨ps, pg, bs, x⟩ → ∃ s, StR s ∧ HT Tryd.prog Tryd.f16.ntmps (pt Tryd.f16 0) (stMk p l ps pg bs x (sumS pg) i) (EndsA Γ (.pure [] (.agg (stC s))) Tryd.f16) := by
    intro d
    induction d with
    | zero => exact fun i ps pg bs h h1 h2 => ⟨_, h2, mk_e p l ps pg bs x (sumS pg) i (by omega)⟩
    | succ d ih =>
      intro i ps pg bs h h1 h2
      have hi : i < l.length := by omega
      have hm := getD_mem l i pth0 hi
      have hgi := hl _ hm
      have e1 : pg.length = ps.length := h2.pg
      have e2 : bs.length = ps.length := h2.bs
      have hb := sumS_le pg h2.r
      obtain ⟨y, hy, c43⟩ := findS_ex ⟨ps, pg, bs, x⟩ (l.getD i pth0) (by show ps.length ≤ 1000; omega) hgi.1 h2.ok
      by_cases hy0 : 0 ≤ y
      · obtain ⟨R, hR, k⟩ := ih (i + 1) ps pg bs (by omega) (by omega) h2
        exact ⟨R, hR, mk_o p l ps pg bs x x (sumS pg) i y hy0 hi ⟨by omega, by omega, by omega, by omega⟩ ⟨by omega, by omega⟩ R c43 k⟩
      · obtain ⟨z, hz, c41z⟩ := compile_ex _ hgi
        have hz1 := hz.st
        have hz2 := hz.s
        have e3 := sumS_app pg z
        obtain ⟨R, hR, k⟩ := ih (i + 1) (ps ++ [l.getD i pth0]) (pg ++ [z]) (bs ++ [sumS pg]) (by omega) (by rw [List.length_append, List.length_singleton]; omega)
          ⟨by simp [e1], by simp [e2], by simp; omega, fun m hm => by
            rcases List.mem_append.1 hm with hm | hm
            · exact h2.r m hm
            · rw [List.mem_singleton.1 hm]; exact hz, fun q hq => by
            rcases List.mem_append.1 hq with hq | hq
            · exact h2.ok q hq
            · rw [List.mem_singleton.1 hq]; exact hgi.1, fun j hj => by
            show 0 ≤ (bs ++ [sumS pg]).getD j 0 ∧ 0 ≤ (bs ++ [sumS pg]).getD j 0 + ((pg ++ [z]).getD j pg0).s ∧ (bs ++ [sumS pg]).getD j 0 + ((pg ++ [z]).getD j pg0).s < sumS (pg ++ [z])
            rw [e3]
            by_cases hj2 : j < ps.length
            · have h5 := h2.at_ j hj2
              have h5' : 0 ≤ bs.getD j 0 ∧ 0 ≤ bs.getD j 0 + (pg.getD j pg0).s ∧ bs.getD j 0 + (pg.getD j pg0).s < sumS pg := h5
              have g1 : (bs ++ [sumS pg]).getD j 0 = bs.getD j 0 := by simp [List.getD_eq_getElem?_getD, List.getElem?_append_left (show j < bs.length by omega)]
              have g2 : (pg ++ [z]).getD j pg0 = pg.getD j pg0 := by simp [List.getD_eq_getElem?_getD, List.getElem?_append_left (show j < pg.length by omega)]
              rw [g1, g2]
              omega
            · have hj3 : j = ps.length := by
                have : j < (ps ++ [l.getD i pth0]).length := hj
                rw [List.length_append, List.length_singleton] at this
                omega
              have g1 : (bs ++ [sumS pg]).getD j 0 = sumS pg := by rw [hj3, ← e2]; simp [List.getD_eq_getElem?_getD]
              have g2 : (pg ++ [z]).getD j pg0 = z := by rw [hj3, ← e1]; simp [List.getD_eq_getElem?_getD]
              rw [g1, g2]
              omega⟩
        rw [e3] at k
        exact ⟨R, hR, mk_n p l ps pg bs z x (sumS pg) i y (by omega) hi ⟨by omega, by omega, by omega, by omega⟩ ⟨by omega, by omega⟩ R c43 c41z ⟨by omega, by omega⟩ k⟩
  obtain ⟨s, hs, k⟩ := hlp l.length 0 [] [] [] (Nat.zero_add _) (Nat.le_refl _) ⟨rfl, rfl, by simp, by simp, by simp, fun i hi => by simp at hi⟩
  exact ⟨s, hs, mk_p p x l c41 c42 s k⟩

end Go.Proofs.YteimloiaipiadaaDoor
end

section
set_option linter.unusedVariables false
set_option linter.unusedSimpArgs false
set_option maxRecDepth 100000
namespace Go.Proofs.YteimloiaipiadaaDoor
open Go Go.AX

def zbC (n : Nat) : List AV := List.replicate n (.int .u8 0)
theorem nmEqT {a b : Nm} (h : a = b) : (decide (a.sp = b.sp) && (decide (a.lo = b.lo) && true)) = true := by subst h; simp
theorem nmNeF {a b : Nm} (h : a ≠ b) : (decide (a.sp = b.sp) && (decide (a.lo = b.lo) && true)) = false := by have := nmNeq h; rwa [Bool.not_eq_true'] at this
theorem zbC_len (n : Nat) : (zbC n).length = n := by simp [zbC]
theorem zb_nth (n k : Nat) (h : k < n) : (zbC n)[k]? = some (.int .u8 0) := by simp [zbC, h]
theorem ints_nthN (l : List Int) (i : Nat) (hi : i < l.length) : (intsC l)[i * 1]? = some (.int .i64 (l.getD i 0)) := by rw [Nat.mul_one]; exact ints_nth l i hi
theorem pgs_sN (l : List Pg) (i : Nat) (hi : i < l.length) : (pgsC l)[i * 5 + 1]? = some (.int .i64 (l.getD i pg0).s) := pgs_s l i hi
def stHl (s : St) (f : Flt) (e : Ev) (n : Nat) (a b : Bool) (i : Nat) : AS := ⟨[(3, .sl none n (zbC n) .no), (4, .ptr 4 0), (5, .ptr 5 0), (6, .ptr 6 0), (9, .bool a), (10, .bool b), (11, .int .i64 i)], [(4, .var true (stC s)), (5, .var true (fltL f)), (6, .var true (evC e))], []⟩
def stHa (s : St) (f : Flt) (e : Ev) (n : Nat) (i : Nat) : AS := ⟨[(5, .ptr 5 0), (6, .ptr 6 0), (14, .int .i64 i)], [(4, .var true (stC s)), (5, .var true (fltL f)), (6, .var true (evC e))], []⟩

theorem ho8 (s : St) (f : Flt) (e : Ev) (n : Nat) (b : Bool) (ho : f.op = 8) (hi : 0 < f.sub.length) (hc : Ctr Tryd.prog 19 [.agg (stC s), .agg (fltL (f.sub.getD 0 flt0)), .agg (evC e), .sl none n (zbC n) .no] (.bool b)) : Ctr Tryd.prog 19 [.agg (stC s), .agg (fltL f), .agg (evC e), .sl none n (zbC n) .no] (.bool (!b)) :=
  Ctr.mk Γ_ok Tryd.func19 (by kernel_rfl) Tryd.call19 [] (by kernel_rfl) (HT.walk Γ_ok mo_ok (⟨[(17, .val (.bool true)), (22, .val (.agg (fltL (f.sub.getD 0 flt0)))), (25, .call [] (.bool b))], [], hd19 [] [] [] [], [], .pure [] (.bool (!b))⟩ : Wk) 4000 (T := .ob (decide (f.op = (8 : Int)) = true) (.ob ((8 : Nat) ≤ (8 : Nat)) (.ob ((0 : Int) ≤ (0 : Int) ∧ (0 : Int) < (↑f.sub.length : Int) ∧ Int.toNat (0 : Int) * (6 : Nat) < (fltsC f.sub).length) (.ob (List.take (6 : Nat) (List.drop (Int.toNat (0 : Int) * (6 : Nat)) (fltsC f.sub)) = (fltL (f.sub.getD (0 : Nat) flt0))) (.ob ((5 : Nat) ≤ (5 : Nat)) (.ob (Ctr Tryd.prog 19 [AV.agg [AV.sl none s.ps.length (pthsC s.ps) .no, AV.sl none s.pg.length (pgsC s.pg) .no, AV.sl none s.bs.length (intsC s.bs) .no, AV.int .i64 s.m.st, AV.int .i64 s.m.s, AV.int .i64 s.m.e, AV.sl none s.m.edges.length (edgC s.m.edges) .no, AV.sl none s.m.tests.length (fltsC s.m.tests) .no], AV.agg (fltL (f.sub.getD (0 : Nat) flt0)), AV.agg (evC e), AV.sl none n (zbC n) .no] (AV.bool b)) (.ob ((!b) = !b) (.tt)))))))) (by kernel_rfl) (by
    simp only [PT.holds, true_implies, Bool.false_eq_true, Bool.true_eq_false, false_implies, true_and, and_true, repL0, List.nil_append, Nat.zero_add, Int.toNat_natCast, Int.toNat_zero, Nat.zero_mul]
    repeat' (with_reducible apply And.intro)
    all_goals first | assumption | omega | exact decide_eq_true (by omega) | ((try simp only [Nat.add_assoc, Nat.reduceAdd, Nat.add_zero]) <;> first | (rw [ats_take _ _ _ _ hi (by decide)]; rfl) | (rw [ats_nth _ _ _ hi (by decide)]; rfl) | (rw [evs_take _ _ _ _ hi (by decide)]; rfl) | (rw [evs_nth _ _ _ hi (by decide)]; rfl) | (rw [pths_take _ _ _ _ hi (by decide)]; rfl) | (rw [pths_nth _ _ _ hi (by decide)]; rfl) | (rw [flts_take _ _ _ _ hi (by decide)]; rfl) | (rw [flts_nth _ _ _ hi (by decide)]; rfl) | (rw [ats_take0 _ _ _ hi (by decide)]; rfl) | (rw [ats_nth0 _ _ hi]; rfl) | (rw [evs_take0 _ _ _ hi (by decide)]; rfl) | (rw [evs_nth0 _ _ hi]; rfl) | (rw [pths_take0 _ _ _ hi (by decide)]; rfl) | (rw [pths_nth0 _ _ hi]; rfl) | (rw [flts_take0 _ _ _ hi (by decide)]; rfl) | (rw [flts_nth0 _ _ hi]; rfl)) | (simp only [pthsC_len, pgsC_len, ints_len, fltsC_len, zbC_len, atsC_len]; omega)))
theorem ho9 (s : St) (f : Flt) (e : Ev) (n : Nat) (b : Bool) (ho : f.op = 9) (k : HT Tryd.prog Tryd.f19.ntmps (pt Tryd.f19 0) (stHl s f e n true false 0) (EndsA Γ (.pure [] (.bool b)) Tryd.f19)) : Ctr Tryd.prog 19 [.agg (stC s), .agg (fltL f), .agg (evC e), .sl none n (zbC n) .no] (.bool b) :=
  Ctr.mk Γ_ok Tryd.func19 (by kernel_rfl) Tryd.call19 [] (by kernel_rfl) (HT.walk Γ_ok mo_ok (⟨[(17, .val (.bool false)), (29, .val (.bool true))], [], hd19 [] [] [] [], [], .pure [] (.bool b)⟩ : Wk) 4000 (T := .ob (decide (f.op = (8 : Int)) = false) (.ob (decide (f.op = (9 : Int)) = true) (.head (pt Tryd.f19 0) ({ tmps := [(3, AV.sl none n (zbC n) .no), (4, AV.ptr 4 0), (5, AV.ptr 5 0), (6, AV.ptr 6 0), (9, AV.bool true), (10, AV.bool false), (11, AV.int .i64 (0 : Int))], heap := [(4, .var true [AV.sl none s.ps.length (pthsC s.ps) .no, AV.sl none s.pg.length (pgsC s.pg) .no, AV.sl none s.bs.length (intsC s.bs) .no, AV.int .i64 s.m.st, AV.int .i64 s.m.s, AV.int .i64 s.m.e, AV.sl none s.m.edges.length (edgC s.m.edges) .no, AV.sl none s.m.tests.length (fltsC s.m.tests) .no]), (5, .var true (fltL f)), (6, .var true (evC e))], tags := [] })))) (by kernel_rfl) (by
    simp only [PT.holds, true_implies, Bool.false_eq_true, Bool.true_eq_false, false_implies, true_and, and_true, repL0, List.nil_append, Nat.zero_add, Int.toNat_natCast, Int.toNat_zero, Nat.zero_mul]
    repeat' (with_reducible apply And.intro)
    all_goals first | assumption | exact decide_eq_true (by omega) | exact decide_eq_false (by omega)))
theorem ho10 (s : St) (f : Flt) (e : Ev) (n : Nat) (b : Bool) (ho : f.op = 10) (k : HT Tryd.prog Tryd.f19.ntmps (pt Tryd.f19 0) (stHl s f e n true false 0) (EndsA Γ (.pure [] (.bool b)) Tryd.f19)) : Ctr Tryd.prog 19 [.agg (stC s), .agg (fltL f), .agg (evC e), .sl none n (zbC n) .no] (.bool b) :=
  Ctr.mk Γ_ok Tryd.func19 (by kernel_rfl) Tryd.call19 [] (by kernel_rfl) (HT.walk Γ_ok mo_ok (⟨[(17, .val (.bool false)), (29, .val (.bool false)), (33, .val (.bool true))], [], hd19 [] [] [] [], [], .pure [] (.bool b)⟩ : Wk) 4000 (T := .ob (decide (f.op = (8 : Int)) = false) (.ob (decide (f.op = (9 : Int)) = false) (.ob (decide (f.op = (10 : Int)) = true) (.head (pt Tryd.f19 0) ({ tmps := [(3, AV.sl none n (zbC n) .no), (4, AV.ptr 4 0), (5, AV.ptr 5 0), (6, AV.ptr 6 0), (9, AV.bool true), (10, AV.bool false), (11, AV.int .i64 (0 : Int))], heap := [(4, .var true [AV.sl none s.ps.length (pthsC s.ps) .no, AV.sl none s.pg.length (pgsC s.pg) .no, AV.sl none s.bs.length (intsC s.bs) .no, AV.int .i64 s.m.st, AV.int .i64 s.m.s, AV.int .i64 s.m.e, AV.sl none s.m.edges.length (edgC s.m.edges) .no, AV.sl none s.m.tests.length (fltsC s.m.tests) .no]), (5, .var true (fltL f)), (6, .var true (evC e))], tags := [] }))))) (by kernel_rfl) (by
    simp only [PT.holds, true_implies, Bool.false_eq_true, Bool.true_eq_false, false_implies, true_and, and_true, repL0, List.nil_append, Nat.zero_add, Int.toNat_natCast, Int.toNat_zero, Nat.zero_mul]
    repeat' (with_reducible apply And.intro)
    all_goals first | assumption | exact decide_eq_true (by omega) | exact decide_eq_false (by omega)))
theorem hl_tt (s : St) (f : Flt) (e : Ev) (n : Nat) (c r : Bool) (i : Nat) (hi : i < f.sub.length) (hs : f.sub.length ≤ 1048600) (hc : Ctr Tryd.prog 19 [.agg (stC s), .agg (fltL (f.sub.getD i flt0)), .agg (evC e), .sl none n (zbC n) .no] (.bool c)) (k : HT Tryd.prog Tryd.f19.ntmps (pt Tryd.f19 0) (stHl s f e n c true (i + 1)) (EndsA Γ (.pure [] (.bool r)) Tryd.f19)) : HT Tryd.prog Tryd.f19.ntmps (pt Tryd.f19 0) (stHl s f e n true true i) (EndsA Γ (.pure [] (.bool r)) Tryd.f19) :=
  HT.walk Γ_ok mo_ok (⟨[(39, .val (.bool true)), (47, .val (.agg (fltL (f.sub.getD i flt0)))), (50, .call [] (.bool c))], [], hd19 [] [] [] [], [], .pure [] (.bool r)⟩ : Wk) 4000 (T := .ob (decide ((↑i : Int) < (↑f.sub.length : Int)) = true) (.ob ((8 : Nat) ≤ (8 : Nat)) (.ob ((0 : Int) ≤ (↑i : Int) ∧ (↑i : Int) < (↑f.sub.length : Int) ∧ (↑i : Int).toNat * (6 : Nat) < (fltsC f.sub).length) (.ob (List.take (6 : Nat) (List.drop ((↑i : Int).toNat * (6 : Nat)) (fltsC f.sub)) = (fltL (f.sub.getD i flt0))) (.ob ((5 : Nat) ≤ (5 : Nat)) (.ob (Ctr Tryd.prog 19 [AV.agg [AV.sl none s.ps.length (pthsC s.ps) .no, AV.sl none s.pg.length (pgsC s.pg) .no, AV.sl none s.bs.length (intsC s.bs) .no, AV.int .i64 s.m.st, AV.int .i64 s.m.s, AV.int .i64 s.m.e, AV.sl none s.m.edges.length (edgC s.m.edges) .no, AV.sl none s.m.tests.length (fltsC s.m.tests) .no], AV.agg (fltL (f.sub.getD i flt0)), AV.agg (evC e), AV.sl none n (zbC n) .no] (AV.bool c)) (.head (pt Tryd.f19 0) ({ tmps := [(3, AV.sl none n (zbC n) .no), (4, AV.ptr 4 0), (5, AV.ptr 5 0), (6, AV.ptr 6 0), (9, AV.bool c), (10, AV.bool true), (11, AV.int .i64 (IntKind.i64.wrap ((↑i : Int) + (1 : Int))))], heap := [(4, .var true [AV.sl none s.ps.length (pthsC s.ps) .no, AV.sl none s.pg.length (pgsC s.pg) .no, AV.sl none s.bs.length (intsC s.bs) .no, AV.int .i64 s.m.st, AV.int .i64 s.m.s, AV.int .i64 s.m.e, AV.sl none s.m.edges.length (edgC s.m.edges) .no, AV.sl none s.m.tests.length (fltsC s.m.tests) .no]), (5, .var true (fltL f)), (6, .var true (evC e))], tags := [] })))))))) (by kernel_rfl) (by
    have w2 : IntKind.i64.wrap ((i : Int) + 1) = ((i + 1 : Nat) : Int) := by rw [i64_wrap (by omega) (by omega)]; rfl
    simp only [PT.holds, w2, true_implies, Bool.false_eq_true, Bool.true_eq_false, false_implies, true_and, and_true, repL0, List.nil_append, Nat.zero_add, Int.toNat_natCast, Int.toNat_zero, Nat.zero_mul]
    repeat' (with_reducible apply And.intro)
    all_goals first | assumption | omega | exact decide_eq_true (by omega) | ((try simp only [Nat.add_assoc, Nat.reduceAdd, Nat.add_zero]) <;> first | (rw [ats_take _ _ _ _ hi (by decide)]; rfl) | (rw [ats_nth _ _ _ hi (by decide)]; rfl) | (rw [evs_take _ _ _ _ hi (by decide)]; rfl) | (rw [evs_nth _ _ _ hi (by decide)]; rfl) | (rw [pths_take _ _ _ _ hi (by decide)]; rfl) | (rw [pths_nth _ _ _ hi (by decide)]; rfl) | (rw [flts_take _ _ _ _ hi (by decide)]; rfl) | (rw [flts_nth _ _ _ hi (by decide)]; rfl) | (rw [ats_take0 _ _ _ hi (by decide)]; rfl) | (rw [ats_nth0 _ _ hi]; rfl) | (rw [evs_take0 _ _ _ hi (by decide)]; rfl) | (rw [evs_nth0 _ _ hi]; rfl) | (rw [pths_take0 _ _ _ hi (by decide)]; rfl) | (rw [pths_nth0 _ _ hi]; rfl) | (rw [flts_take0 _ _ _ hi (by decide)]; rfl) | (rw [flts_nth0 _ _ hi]; rfl)) | (simp only [pthsC_len, pgsC_len, ints_len, fltsC_len, zbC_len, atsC_len]; omega))
theorem hl_tf (s : St) (f : Flt) (e : Ev) (n : Nat) (c r : Bool) (i : Nat) (hi : i < f.sub.length) (hs : f.sub.length ≤ 1048600) (hc : Ctr Tryd.prog 19 [.agg (stC s), .agg (fltL (f.sub.getD i flt0)), .agg (evC e), .sl none n (zbC n) .no] (.bool c)) (k : HT Tryd.prog Tryd.f19.ntmps (pt Tryd.f19 0) (stHl s f e n c c (i + 1)) (EndsA Γ (.pure [] (.bool r)) Tryd.f19)) : HT Tryd.prog Tryd.f19.ntmps (pt Tryd.f19 0) (stHl s f e n true false i) (EndsA Γ (.pure [] (.bool r)) Tryd.f19) :=
  HT.walk Γ_ok mo_ok (⟨[(39, .val (.bool true)), (47, .val (.agg (fltL (f.sub.getD i flt0)))), (50, .call [] (.bool c))], [], hd19 [] [] [] [], [], .pure [] (.bool r)⟩ : Wk) 4000 (T := .ob (decide ((↑i : Int) < (↑f.sub.length : Int)) = true) (.ob ((8 : Nat) ≤ (8 : Nat)) (.ob ((0 : Int) ≤ (↑i : Int) ∧ (↑i : Int) < (↑f.sub.length : Int) ∧ (↑i : Int).toNat * (6 : Nat) < (fltsC f.sub).length) (.ob (List.take (6 : Nat) (List.drop ((↑i : Int).toNat * (6 : Nat)) (fltsC f.sub)) = (fltL (f.sub.getD i flt0))) (.ob ((5 : Nat) ≤ (5 : Nat)) (.ob (Ctr Tryd.prog 19 [AV.agg [AV.sl none s.ps.length (pthsC s.ps) .no, AV.sl none s.pg.length (pgsC s.pg) .no, AV.sl none s.bs.length (intsC s.bs) .no, AV.int .i64 s.m.st, AV.int .i64 s.m.s, AV.int .i64 s.m.e, AV.sl none s.m.edges.length (edgC s.m.edges) .no, AV.sl none s.m.tests.length (fltsC s.m.tests) .no], AV.agg (fltL (f.sub.getD i flt0)), AV.agg (evC e), AV.sl none n (zbC n) .no] (AV.bool c)) (.head (pt Tryd.f19 0) ({ tmps := [(3, AV.sl none n (zbC n) .no), (4, AV.ptr 4 0), (5, AV.ptr 5 0), (6, AV.ptr 6 0), (9, AV.bool c), (10, AV.bool c), (11, AV.int .i64 (IntKind.i64.wrap ((↑i : Int) + (1 : Int))))], heap := [(4, .var true [AV.sl none s.ps.length (pthsC s.ps) .no, AV.sl none s.pg.length (pgsC s.pg) .no, AV.sl none s.bs.length (intsC s.bs) .no, AV.int .i64 s.m.st, AV.int .i64 s.m.s, AV.int .i64 s.m.e, AV.sl none s.m.edges.length (edgC s.m.edges) .no, AV.sl none s.m.tests.length (fltsC s.m.tests) .no]), (5, .var true (fltL f)), (6, .var true (evC e))], tags := [] })))))))) (by kernel_rfl) (by
    have w2 : IntKind.i64.wrap ((i : Int) + 1) = ((i + 1 : Nat) : Int) := by rw [i64_wrap (by omega) (by omega)]; rfl
    simp only [PT.holds, w2, true_implies, Bool.false_eq_true, Bool.true_eq_false, false_implies, true_and, and_true, repL0, List.nil_append, Nat.zero_add, Int.toNat_natCast, Int.toNat_zero, Nat.zero_mul]
    repeat' (with_reducible apply And.intro)
    all_goals first | assumption | omega | exact decide_eq_true (by omega) | ((try simp only [Nat.add_assoc, Nat.reduceAdd, Nat.add_zero]) <;> first | (rw [ats_take _ _ _ _ hi (by decide)]; rfl) | (rw [ats_nth _ _ _ hi (by decide)]; rfl) | (rw [evs_take _ _ _ _ hi (by decide)]; rfl) | (rw [evs_nth _ _ _ hi (by decide)]; rfl) | (rw [pths_take _ _ _ _ hi (by decide)]; rfl) | (rw [pths_nth _ _ _ hi (by decide)]; rfl) | (rw [flts_take _ _ _ _ hi (by decide)]; rfl) | (rw [flts_nth _ _ _ hi (by decide)]; rfl) | (rw [ats_take0 _ _ _ hi (by decide)]; rfl) | (rw [ats_nth0 _ _ hi]; rfl) | (rw [evs_take0 _ _ _ hi (by decide)]; rfl) | (rw [evs_nth0 _ _ hi]; rfl) | (rw [pths_take0 _ _ _ hi (by decide)]; rfl) | (rw [pths_nth0 _ _ hi]; rfl) | (rw [flts_take0 _ _ _ hi (by decide)]; rfl) | (rw [flts_nth0 _ _ hi]; rfl)) | (simp only [pthsC_len, pgsC_len, ints_len, fltsC_len, zbC_len, atsC_len]; omega))
theorem hl_ft (s : St) (f : Flt) (e : Ev) (n : Nat) (c r : Bool) (i : Nat) (hi : i < f.sub.length) (hs : f.sub.length ≤ 1048600) (hc : Ctr Tryd.prog 19 [.agg (stC s), .agg (fltL (f.sub.getD i flt0)), .agg (evC e), .sl none n (zbC n) .no] (.bool c)) (k : HT Tryd.prog Tryd.f19.ntmps (pt Tryd.f19 0) (stHl s f e n false true (i + 1)) (EndsA Γ (.pure [] (.bool r)) Tryd.f19)) : HT Tryd.prog Tryd.f19.ntmps (pt Tryd.f19 0) (stHl s f e n false true i) (EndsA Γ (.pure [] (.bool r)) Tryd.f19) :=
  HT.walk Γ_ok mo_ok (⟨[(39, .val (.bool true)), (47, .val (.agg (fltL (f.sub.getD i flt0)))), (50, .call [] (.bool c))], [], hd19 [] [] [] [], [], .pure [] (.bool r)⟩ : Wk) 4000 (T := .ob (decide ((↑i : Int) < (↑f.sub.length : Int)) = true) (.ob ((8 : Nat) ≤ (8 : Nat)) (.ob ((0 : Int) ≤ (↑i : Int) ∧ (↑i : Int) < (↑f.sub.length : Int) ∧ (↑i : Int).toNat * (6 : Nat) < (fltsC f.sub).length) (.ob (List.take (6 : Nat) (List.drop ((↑i : Int).toNat * (6 : Nat)) (fltsC f.sub)) = (fltL (f.sub.getD i flt0))) (.ob ((5 : Nat) ≤ (5 : Nat)) (.ob (Ctr Tryd.prog 19 [AV.agg [AV.sl none s.ps.length (pthsC s.ps) .no, AV.sl none s.pg.length (pgsC s.pg) .no, AV.sl none s.bs.length (intsC s.bs) .no, AV.int .i64 s.m.st, AV.int .i64 s.m.s, AV.int .i64 s.m.e, AV.sl none s.m.edges.length (edgC s.m.edges) .no, AV.sl none s.m.tests.length (fltsC s.m.tests) .no], AV.agg (fltL (f.sub.getD i flt0)), AV.agg (evC e), AV.sl none n (zbC n) .no] (AV.bool c)) (.head (pt Tryd.f19 0) ({ tmps := [(3, AV.sl none n (zbC n) .no), (4, AV.ptr 4 0), (5, AV.ptr 5 0), (6, AV.ptr 6 0), (9, AV.bool false), (10, AV.bool true), (11, AV.int .i64 (IntKind.i64.wrap ((↑i : Int) + (1 : Int))))], heap := [(4, .var true [AV.sl none s.ps.length (pthsC s.ps) .no, AV.sl none s.pg.length (pgsC s.pg) .no, AV.sl none s.bs.length (intsC s.bs) .no, AV.int .i64 s.m.st, AV.int .i64 s.m.s, AV.int .i64 s.m.e, AV.sl none s.m.edges.length (edgC s.m.edges) .no, AV.sl none s.m.tests.length (fltsC s.m.tests) .no]), (5, .var true (fltL f)), (6, .var true (evC e))], tags := [] })))))))) (by kernel_rfl) (by
    have w2 : IntKind.i64.wrap ((i : Int) + 1) = ((i + 1 : Nat) : Int) := by rw [i64_wrap (by omega) (by omega)]; rfl
    simp only [PT.holds, w2, true_implies, Bool.false_eq_true, Bool.true_eq_false, false_implies, true_and, and_true, repL0, List.nil_append, Nat.zero_add, Int.toNat_natCast, Int.toNat_zero, Nat.zero_mul]
    repeat' (with_reducible apply And.intro)
    all_goals first | assumption | omega | exact decide_eq_true (by omega) | ((try simp only [Nat.add_assoc, Nat.reduceAdd, Nat.add_zero]) <;> first | (rw [ats_take _ _ _ _ hi (by decide)]; rfl) | (rw [ats_nth _ _ _ hi (by decide)]; rfl) | (rw [evs_take _ _ _ _ hi (by decide)]; rfl) | (rw [evs_nth _ _ _ hi (by decide)]; rfl) | (rw [pths_take _ _ _ _ hi (by decide)]; rfl) | (rw [pths_nth _ _ _ hi (by decide)]; rfl) | (rw [flts_take _ _ _ _ hi (by decide)]; rfl) | (rw [flts_nth _ _ _ hi (by decide)]; rfl) | (rw [ats_take0 _ _ _ hi (by decide)]; rfl) | (rw [ats_nth0 _ _ hi]; rfl) | (rw [evs_take0 _ _ _ hi (by decide)]; rfl) | (rw [evs_nth0 _ _ hi]; rfl) | (rw [pths_take0 _ _ _ hi (by decide)]; rfl) | (rw [pths_nth0 _ _ hi]; rfl) | (rw [flts_take0 _ _ _ hi (by decide)]; rfl) | (rw [flts_nth0 _ _ hi]; rfl)) | (simp only [pthsC_len, pgsC_len, ints_len, fltsC_len, zbC_len, atsC_len]; omega))
theorem hl_ff (s : St) (f : Flt) (e : Ev) (n : Nat) (c r : Bool) (i : Nat) (hi : i < f.sub.length) (hs : f.sub.length ≤ 1048600) (hc : Ctr Tryd.prog 19 [.agg (stC s), .agg (fltL (f.sub.getD i flt0)), .agg (evC e), .sl none n (zbC n) .no] (.bool c)) (k : HT Tryd.prog Tryd.f19.ntmps (pt Tryd.f19 0) (stHl s f e n false c (i + 1)) (EndsA Γ (.pure [] (.bool r)) Tryd.f19)) : HT Tryd.prog Tryd.f19.ntmps (pt Tryd.f19 0) (stHl s f e n false false i) (EndsA Γ (.pure [] (.bool r)) Tryd.f19) :=
  HT.walk Γ_ok mo_ok (⟨[(39, .val (.bool true)), (47, .val (.agg (fltL (f.sub.getD i flt0)))), (50, .call [] (.bool c))], [], hd19 [] [] [] [], [], .pure [] (.bool r)⟩ : Wk) 4000 (T := .ob (decide ((↑i : Int) < (↑f.sub.length : Int)) = true) (.ob ((8 : Nat) ≤ (8 : Nat)) (.ob ((0 : Int) ≤ (↑i : Int) ∧ (↑i : Int) < (↑f.sub.length : Int) ∧ (↑i : Int).toNat * (6 : Nat) < (fltsC f.sub).length) (.ob (List.take (6 : Nat) (List.drop ((↑i : Int).toNat * (6 : Nat)) (fltsC f.sub)) = (fltL (f.sub.getD i flt0))) (.ob ((5 : Nat) ≤ (5 : Nat)) (.ob (Ctr Tryd.prog 19 [AV.agg [AV.sl none s.ps.length (pthsC s.ps) .no, AV.sl none s.pg.length (pgsC s.pg) .no, AV.sl none s.bs.length (intsC s.bs) .no, AV.int .i64 s.m.st, AV.int .i64 s.m.s, AV.int .i64 s.m.e, AV.sl none s.m.edges.length (edgC s.m.edges) .no, AV.sl none s.m.tests.length (fltsC s.m.tests) .no], AV.agg (fltL (f.sub.getD i flt0)), AV.agg (evC e), AV.sl none n (zbC n) .no] (AV.bool c)) (.head (pt Tryd.f19 0) ({ tmps := [(3, AV.sl none n (zbC n) .no), (4, AV.ptr 4 0), (5, AV.ptr 5 0), (6, AV.ptr 6 0), (9, AV.bool false), (10, AV.bool c), (11, AV.int .i64 (IntKind.i64.wrap ((↑i : Int) + (1 : Int))))], heap := [(4, .var true [AV.sl none s.ps.length (pthsC s.ps) .no, AV.sl none s.pg.length (pgsC s.pg) .no, AV.sl none s.bs.length (intsC s.bs) .no, AV.int .i64 s.m.st, AV.int .i64 s.m.s, AV.int .i64 s.m.e, AV.sl none s.m.edges.length (edgC s.m.edges) .no, AV.sl none s.m.tests.length (fltsC s.m.tests) .no]), (5, .var true (fltL f)), (6, .var true (evC e))], tags := [] })))))))) (by kernel_rfl) (by
    have w2 : IntKind.i64.wrap ((i : Int) + 1) = ((i + 1 : Nat) : Int) := by rw [i64_wrap (by omega) (by omega)]; rfl
    simp only [PT.holds, w2, true_implies, Bool.false_eq_true, Bool.true_eq_false, false_implies, true_and, and_true, repL0, List.nil_append, Nat.zero_add, Int.toNat_natCast, Int.toNat_zero, Nat.zero_mul]
    repeat' (with_reducible apply And.intro)
    all_goals first | assumption | omega | exact decide_eq_true (by omega) | ((try simp only [Nat.add_assoc, Nat.reduceAdd, Nat.add_zero]) <;> first | (rw [ats_take _ _ _ _ hi (by decide)]; rfl) | (rw [ats_nth _ _ _ hi (by decide)]; rfl) | (rw [evs_take _ _ _ _ hi (by decide)]; rfl) | (rw [evs_nth _ _ _ hi (by decide)]; rfl) | (rw [pths_take _ _ _ _ hi (by decide)]; rfl) | (rw [pths_nth _ _ _ hi (by decide)]; rfl) | (rw [flts_take _ _ _ _ hi (by decide)]; rfl) | (rw [flts_nth _ _ _ hi (by decide)]; rfl) | (rw [ats_take0 _ _ _ hi (by decide)]; rfl) | (rw [ats_nth0 _ _ hi]; rfl) | (rw [evs_take0 _ _ _ hi (by decide)]; rfl) | (rw [evs_nth0 _ _ hi]; rfl) | (rw [pths_take0 _ _ _ hi (by decide)]; rfl) | (rw [pths_nth0 _ _ hi]; rfl) | (rw [flts_take0 _ _ _ hi (by decide)]; rfl) | (rw [flts_nth0 _ _ hi]; rfl)) | (simp only [pthsC_len, pgsC_len, ints_len, fltsC_len, zbC_len, atsC_len]; omega))
theorem hl_e9t (s : St) (f : Flt) (e : Ev) (n : Nat) (b : Bool) (i : Nat) (hi : i = f.sub.length) (ho : f.op = 9) : HT Tryd.prog Tryd.f19.ntmps (pt Tryd.f19 0) (stHl s f e n true b i) (EndsA Γ (.pure [] (.bool true)) Tryd.f19) :=
  HT.walk Γ_ok mo_ok (⟨[(39, .val (.bool false)), (47, .val (.agg (fltL flt0))), (50, .call [] (.bool false)), (61, .val (.bool true))], [], hd19 [] [] [] [], [], .pure [] (.bool true)⟩ : Wk) 4000 (T := .ob (decide ((↑i : Int) < (↑f.sub.length : Int)) = false) (.ob (decide (f.op = (9 : Int)) = true) (.ob (true = true) (.tt)))) (by kernel_rfl) (by
    simp only [PT.holds, true_implies, Bool.false_eq_true, Bool.true_eq_false, false_implies, true_and, and_true, repL0, List.nil_append, Nat.zero_add, Int.toNat_natCast, Int.toNat_zero, Nat.zero_mul]
    repeat' (with_reducible apply And.intro)
    all_goals first | exact decide_eq_true (by omega) | exact decide_eq_false (by omega))
theorem hl_e9f (s : St) (f : Flt) (e : Ev) (n : Nat) (b : Bool) (i : Nat) (hi : i = f.sub.length) (ho : f.op = 9) : HT Tryd.prog Tryd.f19.ntmps (pt Tryd.f19 0) (stHl s f e n false b i) (EndsA Γ (.pure [] (.bool false)) Tryd.f19) :=
  HT.walk Γ_ok mo_ok (⟨[(39, .val (.bool false)), (47, .val (.agg (fltL flt0))), (50, .call [] (.bool false)), (61, .val (.bool true)), (68, .val (.bool false))], [], hd19 [] [] [] [], [], .pure [] (.bool false)⟩ : Wk) 4000 (T := .ob (decide ((↑i : Int) < (↑f.sub.length : Int)) = false) (.ob (decide (f.op = (9 : Int)) = true) (.ob (decide (f.op = (10 : Int)) = false) (.ob (false = false) (.tt))))) (by kernel_rfl) (by
    simp only [PT.holds, true_implies, Bool.false_eq_true, Bool.true_eq_false, false_implies, true_and, and_true, repL0, List.nil_append, Nat.zero_add, Int.toNat_natCast, Int.toNat_zero, Nat.zero_mul]
    repeat' (with_reducible apply And.intro)
    all_goals first | exact decide_eq_true (by omega) | exact decide_eq_false (by omega))
theorem hl_e10 (s : St) (f : Flt) (e : Ev) (n : Nat) (a b : Bool) (i : Nat) (hi : i = f.sub.length) (ho : f.op = 10) : HT Tryd.prog Tryd.f19.ntmps (pt Tryd.f19 0) (stHl s f e n a b i) (EndsA Γ (.pure [] (.bool b)) Tryd.f19) :=
  HT.walk Γ_ok mo_ok (⟨[(39, .val (.bool false)), (47, .val (.agg (fltL flt0))), (50, .call [] (.bool false)), (61, .val (.bool false)), (68, .val (.bool true))], [], hd19 [] [] [] [], [], .pure [] (.bool b)⟩ : Wk) 4000 (T := .ob (decide ((↑i : Int) < (↑f.sub.length : Int)) = false) (.ob (decide (f.op = (9 : Int)) = false) (.ob (decide (f.op = (10 : Int)) = true) (.ob (b = b) (.tt))))) (by kernel_rfl) (by
    simp only [PT.holds, true_implies, Bool.false_eq_true, Bool.true_eq_false, false_implies, true_and, and_true, repL0, List.nil_append, Nat.zero_add, Int.toNat_natCast, Int.toNat_zero, Nat.zero_mul]
    repeat' (with_reducible apply And.intro)
    all_goals first | exact decide_eq_true (by omega) | exact decide_eq_false (by omega))
theorem ho11n (s : St) (f : Flt) (e : Ev) (n : Nat) (y : Int) (hy : y < 0) (ho : f.op = 11) (hw : 0 < f.way.length) (hc : Ctr Tryd.prog 43 [.agg (stC s), .agg (pthL (f.way.getD 0 pth0))] (.int .i64 y)) : Ctr Tryd.prog 19 [.agg (stC s), .agg (fltL f), .agg (evC e), .sl none n (zbC n) .no] (.bool false) :=
  Ctr.mk Γ_ok Tryd.func19 (by kernel_rfl) Tryd.call19 [] (by kernel_rfl) (HT.walk Γ_ok mo_ok (⟨[(17, .val (.bool false)), (29, .val (.bool false)), (33, .val (.bool false)), (75, .val (.bool true)), (80, .val (.agg (pthL (f.way.getD 0 pth0)))), (81, .call [] (.int .i64 y)), (83, .val (.bool false))], [], hd19 [] [] [] [], [], .pure [] (.bool false)⟩ : Wk) 4000 (T := .ob (decide (f.op = (8 : Int)) = false) (.ob (decide (f.op = (9 : Int)) = false) (.ob (decide (f.op = (10 : Int)) = false) (.ob (decide (f.op = (11 : Int)) = true) (.ob ((8 : Nat) ≤ (8 : Nat)) (.ob ((0 : Int) ≤ (0 : Int) ∧ (0 : Int) < (↑f.way.length : Int) ∧ Int.toNat (0 : Int) * (3 : Nat) < (pthsC f.way).length) (.ob (List.take (3 : Nat) (List.drop (Int.toNat (0 : Int) * (3 : Nat)) (pthsC f.way)) = (pthL (f.way.getD (0 : Nat) pth0))) (.ob (Ctr Tryd.prog 43 [AV.agg [AV.sl none s.ps.length (pthsC s.ps) .no, AV.sl none s.pg.length (pgsC s.pg) .no, AV.sl none s.bs.length (intsC s.bs) .no, AV.int .i64 s.m.st, AV.int .i64 s.m.s, AV.int .i64 s.m.e, AV.sl none s.m.edges.length (edgC s.m.edges) .no, AV.sl none s.m.tests.length (fltsC s.m.tests) .no], AV.agg (pthL (f.way.getD (0 : Nat) pth0))] (AV.int .i64 y)) (.ob (decide ((0 : Int) ≤ y) = false) (.ob (false = false) (.tt))))))))))) (by kernel_rfl) (by
    simp only [PT.holds, true_implies, Bool.false_eq_true, Bool.true_eq_false, false_implies, true_and, and_true, repL0, List.nil_append, Nat.zero_add, Int.toNat_natCast, Int.toNat_zero, Nat.zero_mul]
    repeat' (with_reducible apply And.intro)
    all_goals first | assumption | omega | exact decide_eq_true (by omega) | exact decide_eq_false (by omega) | ((try simp only [Nat.add_assoc, Nat.reduceAdd, Nat.add_zero]) <;> first | (rw [ats_take _ _ _ _ hw (by decide)]; rfl) | (rw [ats_nth _ _ _ hw (by decide)]; rfl) | (rw [evs_take _ _ _ _ hw (by decide)]; rfl) | (rw [evs_nth _ _ _ hw (by decide)]; rfl) | (rw [pths_take _ _ _ _ hw (by decide)]; rfl) | (rw [pths_nth _ _ _ hw (by decide)]; rfl) | (rw [flts_take _ _ _ _ hw (by decide)]; rfl) | (rw [flts_nth _ _ _ hw (by decide)]; rfl) | (rw [ats_take0 _ _ _ hw (by decide)]; rfl) | (rw [ats_nth0 _ _ hw]; rfl) | (rw [evs_take0 _ _ _ hw (by decide)]; rfl) | (rw [evs_nth0 _ _ hw]; rfl) | (rw [pths_take0 _ _ _ hw (by decide)]; rfl) | (rw [pths_nth0 _ _ hw]; rfl) | (rw [flts_take0 _ _ _ hw (by decide)]; rfl) | (rw [flts_nth0 _ _ hw]; rfl)) | (simp only [pthsC_len, pgsC_len, ints_len, fltsC_len, zbC_len, atsC_len]; omega)))
theorem ho11y (s : St) (f : Flt) (e : Ev) (n : Nat) (y : Nat) (hy : y < s.ps.length) (hps : s.ps.length ≤ 64) (hpg : s.pg.length = s.ps.length) (hbs : s.bs.length = s.ps.length) (hat : 0 ≤ s.bs.getD y 0 ∧ 0 ≤ s.bs.getD y 0 + (s.pg.getD y pg0).s ∧ s.bs.getD y 0 + (s.pg.getD y pg0).s < n) (hn : n ≤ 100000) (hss : 0 ≤ (s.pg.getD y pg0).s) (ho : f.op = 11) (hw : 0 < f.way.length) (hc : Ctr Tryd.prog 43 [.agg (stC s), .agg (pthL (f.way.getD 0 pth0))] (.int .i64 y)) : Ctr Tryd.prog 19 [.agg (stC s), .agg (fltL f), .agg (evC e), .sl none n (zbC n) .no] (.bool false) :=
  Ctr.mk Γ_ok Tryd.func19 (by kernel_rfl) Tryd.call19 [] (by kernel_rfl) (HT.walk Γ_ok mo_ok (⟨[(17, .val (.bool false)), (29, .val (.bool false)), (33, .val (.bool false)), (75, .val (.bool true)), (80, .val (.agg (pthL (f.way.getD 0 pth0)))), (81, .call [] (.int .i64 y)), (83, .val (.bool true)), (90, .val (.int .i64 (s.bs.getD y 0))), (96, .val (.int .i64 (s.pg.getD y pg0).s)), (99, .val (.int .u8 0)), (100, .val (.bool false))], [], hd19 [] [] [] [], [], .pure [] (.bool false)⟩ : Wk) 4000 (T := .ob (decide (f.op = (8 : Int)) = false) (.ob (decide (f.op = (9 : Int)) = false) (.ob (decide (f.op = (10 : Int)) = false) (.ob (decide (f.op = (11 : Int)) = true) (.ob ((8 : Nat) ≤ (8 : Nat)) (.ob ((0 : Int) ≤ (0 : Int) ∧ (0 : Int) < (↑f.way.length : Int) ∧ Int.toNat (0 : Int) * (3 : Nat) < (pthsC f.way).length) (.ob (List.take (3 : Nat) (List.drop (Int.toNat (0 : Int) * (3 : Nat)) (pthsC f.way)) = (pthL (f.way.getD (0 : Nat) pth0))) (.ob (Ctr Tryd.prog 43 [AV.agg [AV.sl none s.ps.length (pthsC s.ps) .no, AV.sl none s.pg.length (pgsC s.pg) .no, AV.sl none s.bs.length (intsC s.bs) .no, AV.int .i64 s.m.st, AV.int .i64 s.m.s, AV.int .i64 s.m.e, AV.sl none s.m.edges.length (edgC s.m.edges) .no, AV.sl none s.m.tests.length (fltsC s.m.tests) .no], AV.agg (pthL (f.way.getD (0 : Nat) pth0))] (AV.int .i64 (↑y : Int))) (.ob (true = true) (.ob ((0 : Int) ≤ (↑y : Int) ∧ (↑y : Int) < (↑s.bs.length : Int) ∧ (↑y : Int).toNat * (1 : Nat) < (intsC s.bs).length) (.ob ((intsC s.bs)[(↑y : Int).toNat * (1 : Nat)]? = some (AV.int .i64 (s.bs.getD y (0 : Int)))) (.ob ((0 : Int) ≤ (↑y : Int) ∧ (↑y : Int) < (↑s.pg.length : Int) ∧ (↑y : Int).toNat * (5 : Nat) < (pgsC s.pg).length) (.ob ((pgsC s.pg)[(↑y : Int).toNat * (5 : Nat) + (1 : Nat)]? = some (AV.int .i64 (s.pg.getD y pg0).s)) (.ob ((0 : Int) ≤ IntKind.i64.wrap (s.bs.getD y (0 : Int) + (s.pg.getD y pg0).s) ∧ IntKind.i64.wrap (s.bs.getD y (0 : Int) + (s.pg.getD y pg0).s) < (↑n : Int) ∧ (IntKind.i64.wrap (s.bs.getD y (0 : Int) + (s.pg.getD y pg0).s)).toNat * (1 : Nat) < (zbC n).length) (.ob ((zbC n)[(IntKind.i64.wrap (s.bs.getD y (0 : Int) + (s.pg.getD y pg0).s)).toNat * (1 : Nat)]? = some (AV.int .u8 (0 : Int))) (.ob (false = false) (.ob (false = false) (.tt)))))))))))))))))) (by kernel_rfl) (by
    have w3 : IntKind.i64.wrap (s.bs.getD y 0 + (s.pg.getD y pg0).s) = s.bs.getD y 0 + (s.pg.getD y pg0).s := i64_wrap (by omega) (by omega)
    simp only [PT.holds, w3, true_implies, Bool.false_eq_true, Bool.true_eq_false, false_implies, true_and, and_true, repL0, List.nil_append, Nat.zero_add, Int.toNat_natCast, Int.toNat_zero, Nat.zero_mul]
    repeat' (with_reducible apply And.intro)
    all_goals first | assumption | omega | exact decide_eq_true (by omega) | exact decide_eq_false (by omega) | ((try simp only [Nat.add_assoc, Nat.reduceAdd, Nat.add_zero]) <;> first | (rw [ats_take _ _ _ _ hw (by decide)]; rfl) | (rw [ats_nth _ _ _ hw (by decide)]; rfl) | (rw [evs_take _ _ _ _ hw (by decide)]; rfl) | (rw [evs_nth _ _ _ hw (by decide)]; rfl) | (rw [pths_take _ _ _ _ hw (by decide)]; rfl) | (rw [pths_nth _ _ _ hw (by decide)]; rfl) | (rw [flts_take _ _ _ _ hw (by decide)]; rfl) | (rw [flts_nth _ _ _ hw (by decide)]; rfl) | (rw [ats_take0 _ _ _ hw (by decide)]; rfl) | (rw [ats_nth0 _ _ hw]; rfl) | (rw [evs_take0 _ _ _ hw (by decide)]; rfl) | (rw [evs_nth0 _ _ hw]; rfl) | (rw [pths_take0 _ _ _ hw (by decide)]; rfl) | (rw [pths_nth0 _ _ hw]; rfl) | (rw [flts_take0 _ _ _ hw (by decide)]; rfl) | (rw [flts_nth0 _ _ hw]; rfl)) | (simp only [pthsC_len, pgsC_len, ints_len, fltsC_len, zbC_len, atsC_len]; omega) | exact zb_nth _ _ (by omega) | exact ints_nthN _ _ (by omega) | exact pgs_sN _ _ (by omega)))
theorem ho1 (s : St) (f : Flt) (e : Ev) (n : Nat) (o8 : f.op ≠ 8) (o9 : f.op ≠ 9) (o10 : f.op ≠ 10) (o11 : f.op ≠ 11) (ho : f.op = 1) : Ctr Tryd.prog 19 [.agg (stC s), .agg (fltL f), .agg (evC e), .sl none n (zbC n) .no] (.bool true) :=
  Ctr.mk Γ_ok Tryd.func19 (by kernel_rfl) Tryd.call19 [] (by kernel_rfl) (HT.walk Γ_ok mo_ok (⟨[(17, .val (.bool false)), (29, .val (.bool false)), (33, .val (.bool false)), (75, .val (.bool false)), (104, .val (.bool true))], [], hd19 [] [] [] [], [], .pure [] (.bool true)⟩ : Wk) 4000 (T := .ob (decide (f.op = (8 : Int)) = false) (.ob (decide (f.op = (9 : Int)) = false) (.ob (decide (f.op = (10 : Int)) = false) (.ob (decide (f.op = (11 : Int)) = false) (.ob (decide (f.op = (1 : Int)) = true) (.ob (true = true) (.tt))))))) (by kernel_rfl) (by
    simp only [PT.holds, true_implies, Bool.false_eq_true, Bool.true_eq_false, false_implies, true_and, and_true, repL0, List.nil_append, Nat.zero_add, Int.toNat_natCast, Int.toNat_zero, Nat.zero_mul]
    repeat' (with_reducible apply And.intro)
    all_goals first | exact decide_eq_true (by omega) | exact decide_eq_false (by omega)))
theorem ho3y (s : St) (f : Flt) (e : Ev) (n : Nat) (o8 : f.op ≠ 8) (o9 : f.op ≠ 9) (o10 : f.op ≠ 10) (o11 : f.op ≠ 11) (ho : f.op = 3) (hk : e.kind ≠ 1) : Ctr Tryd.prog 19 [.agg (stC s), .agg (fltL f), .agg (evC e), .sl none n (zbC n) .no] (.bool true) :=
  Ctr.mk Γ_ok Tryd.func19 (by kernel_rfl) Tryd.call19 [] (by kernel_rfl) (HT.walk Γ_ok mo_ok (⟨[(17, .val (.bool false)), (29, .val (.bool false)), (33, .val (.bool false)), (75, .val (.bool false)), (104, .val (.bool false)), (107, .val (.bool true)), (115, .val (.bool true)), (119, .val (.bool true))], [], hd19 [] [] [] [], [], .pure [] (.bool true)⟩ : Wk) 4000 (T := .ob (decide (f.op = (8 : Int)) = false) (.ob (decide (f.op = (9 : Int)) = false) (.ob (decide (f.op = (10 : Int)) = false) (.ob (decide (f.op = (11 : Int)) = false) (.ob (decide (f.op = (1 : Int)) = false) (.ob (decide (f.op = (3 : Int)) = true) (.ob ((!decide (e.kind = (1 : Int))) = true) (.ob (decide (f.op = (3 : Int)) = true) (.ob (true = true) (.tt)))))))))) (by kernel_rfl) (by
    simp only [PT.holds, true_implies, Bool.false_eq_true, Bool.true_eq_false, false_implies, true_and, and_true, repL0, List.nil_append, Nat.zero_add, Int.toNat_natCast, Int.toNat_zero, Nat.zero_mul]
    repeat' (with_reducible apply And.intro)
    all_goals first | exact decide_eq_true (by omega) | exact decide_eq_false (by omega) | (simp [*]; done)))
theorem ho3n (s : St) (f : Flt) (e : Ev) (n : Nat) (o8 : f.op ≠ 8) (o9 : f.op ≠ 9) (o10 : f.op ≠ 10) (o11 : f.op ≠ 11) (ho : f.op = 3) (hk : e.kind = 1) : Ctr Tryd.prog 19 [.agg (stC s), .agg (fltL f), .agg (evC e), .sl none n (zbC n) .no] (.bool false) :=
  Ctr.mk Γ_ok Tryd.func19 (by kernel_rfl) Tryd.call19 [] (by kernel_rfl) (HT.walk Γ_ok mo_ok (⟨[(17, .val (.bool false)), (29, .val (.bool false)), (33, .val (.bool false)), (75, .val (.bool false)), (104, .val (.bool false)), (107, .val (.bool true)), (115, .val (.bool false))], [], hd19 [] [] [] [], [], .pure [] (.bool false)⟩ : Wk) 4000 (T := .ob (decide (f.op = (8 : Int)) = false) (.ob (decide (f.op = (9 : Int)) = false) (.ob (decide (f.op = (10 : Int)) = false) (.ob (decide (f.op = (11 : Int)) = false) (.ob (decide (f.op = (1 : Int)) = false) (.ob (decide (f.op = (3 : Int)) = true) (.ob ((!decide (e.kind = (1 : Int))) = false) (.ob (false = false) (.tt))))))))) (by kernel_rfl) (by
    simp only [PT.holds, true_implies, Bool.false_eq_true, Bool.true_eq_false, false_implies, true_and, and_true, repL0, List.nil_append, Nat.zero_add, Int.toNat_natCast, Int.toNat_zero, Nat.zero_mul]
    repeat' (with_reducible apply And.intro)
    all_goals first | exact decide_eq_true (by omega) | exact decide_eq_false (by omega) | (simp [*]; done)))
theorem ho7y (s : St) (f : Flt) (e : Ev) (n : Nat) (o8 : f.op ≠ 8) (o9 : f.op ≠ 9) (o10 : f.op ≠ 10) (o11 : f.op ≠ 11) (ho : f.op = 7) (hk : e.kind ≠ 1) : Ctr Tryd.prog 19 [.agg (stC s), .agg (fltL f), .agg (evC e), .sl none n (zbC n) .no] (.bool (decide (e.text = f.val))) :=
  Ctr.mk Γ_ok Tryd.func19 (by kernel_rfl) Tryd.call19 [] (by kernel_rfl) (HT.walk Γ_ok mo_ok (⟨[(17, .val (.bool false)), (29, .val (.bool false)), (33, .val (.bool false)), (75, .val (.bool false)), (104, .val (.bool false)), (107, .val (.bool false)), (111, .val (.bool true)), (115, .val (.bool true)), (119, .val (.bool false))], [], hd19 [] [] [] [], [], .pure [] (.bool (decide (e.text = f.val)))⟩ : Wk) 4000 (T := .ob (decide (f.op = (8 : Int)) = false) (.ob (decide (f.op = (9 : Int)) = false) (.ob (decide (f.op = (10 : Int)) = false) (.ob (decide (f.op = (11 : Int)) = false) (.ob (decide (f.op = (1 : Int)) = false) (.ob (decide (f.op = (3 : Int)) = false) (.ob (decide (f.op = (7 : Int)) = true) (.ob ((!decide (e.kind = (1 : Int))) = true) (.ob (decide (f.op = (3 : Int)) = false) (.ob (decide (e.text = f.val) = decide (e.text = f.val)) (.tt))))))))))) (by kernel_rfl) (by
    simp only [PT.holds, true_implies, Bool.false_eq_true, Bool.true_eq_false, false_implies, true_and, and_true, repL0, List.nil_append, Nat.zero_add, Int.toNat_natCast, Int.toNat_zero, Nat.zero_mul]
    repeat' (with_reducible apply And.intro)
    all_goals first | exact decide_eq_true (by omega) | exact decide_eq_false (by omega) | (simp [*]; done)))
theorem ho7n (s : St) (f : Flt) (e : Ev) (n : Nat) (o8 : f.op ≠ 8) (o9 : f.op ≠ 9) (o10 : f.op ≠ 10) (o11 : f.op ≠ 11) (ho : f.op = 7) (hk : e.kind = 1) : Ctr Tryd.prog 19 [.agg (stC s), .agg (fltL f), .agg (evC e), .sl none n (zbC n) .no] (.bool false) :=
  Ctr.mk Γ_ok Tryd.func19 (by kernel_rfl) Tryd.call19 [] (by kernel_rfl) (HT.walk Γ_ok mo_ok (⟨[(17, .val (.bool false)), (29, .val (.bool false)), (33, .val (.bool false)), (75, .val (.bool false)), (104, .val (.bool false)), (107, .val (.bool false)), (111, .val (.bool true)), (115, .val (.bool false))], [], hd19 [] [] [] [], [], .pure [] (.bool false)⟩ : Wk) 4000 (T := .ob (decide (f.op = (8 : Int)) = false) (.ob (decide (f.op = (9 : Int)) = false) (.ob (decide (f.op = (10 : Int)) = false) (.ob (decide (f.op = (11 : Int)) = false) (.ob (decide (f.op = (1 : Int)) = false) (.ob (decide (f.op = (3 : Int)) = false) (.ob (decide (f.op = (7 : Int)) = true) (.ob ((!decide (e.kind = (1 : Int))) = false) (.ob (false = false) (.tt)))))))))) (by kernel_rfl) (by
    simp only [PT.holds, true_implies, Bool.false_eq_true, Bool.true_eq_false, false_implies, true_and, and_true, repL0, List.nil_append, Nat.zero_add, Int.toNat_natCast, Int.toNat_zero, Nat.zero_mul]
    repeat' (with_reducible apply And.intro)
    all_goals first | exact decide_eq_true (by omega) | exact decide_eq_false (by omega) | (simp [*]; done)))
theorem hoKn (s : St) (f : Flt) (e : Ev) (n : Nat) (o8 : f.op ≠ 8) (o9 : f.op ≠ 9) (o10 : f.op ≠ 10) (o11 : f.op ≠ 11) (h1 : f.op ≠ 1) (h3 : f.op ≠ 3) (h7 : f.op ≠ 7) (hk : e.kind ≠ 1) : Ctr Tryd.prog 19 [.agg (stC s), .agg (fltL f), .agg (evC e), .sl none n (zbC n) .no] (.bool false) :=
  Ctr.mk Γ_ok Tryd.func19 (by kernel_rfl) Tryd.call19 [] (by kernel_rfl) (HT.walk Γ_ok mo_ok (⟨[(17, .val (.bool false)), (29, .val (.bool false)), (33, .val (.bool false)), (75, .val (.bool false)), (104, .val (.bool false)), (107, .val (.bool false)), (111, .val (.bool false)), (130, .val (.bool true))], [], hd19 [] [] [] [], [], .pure [] (.bool false)⟩ : Wk) 4000 (T := .ob (decide (f.op = (8 : Int)) = false) (.ob (decide (f.op = (9 : Int)) = false) (.ob (decide (f.op = (10 : Int)) = false) (.ob (decide (f.op = (11 : Int)) = false) (.ob (decide (f.op = (1 : Int)) = false) (.ob (decide (f.op = (3 : Int)) = false) (.ob (decide (f.op = (7 : Int)) = false) (.ob ((!decide (e.kind = (1 : Int))) = true) (.ob (false = false) (.tt)))))))))) (by kernel_rfl) (by
    simp only [PT.holds, true_implies, Bool.false_eq_true, Bool.true_eq_false, false_implies, true_and, and_true, repL0, List.nil_append, Nat.zero_add, Int.toNat_natCast, Int.toNat_zero, Nat.zero_mul]
    repeat' (with_reducible apply And.intro)
    all_goals first | exact decide_eq_false (by omega) | (simp [*]; done)))
theorem ho4 (s : St) (f : Flt) (e : Ev) (n : Nat) (o8 : f.op ≠ 8) (o9 : f.op ≠ 9) (o10 : f.op ≠ 10) (o11 : f.op ≠ 11) (ho : f.op = 4) (hk : e.kind = 1) : Ctr Tryd.prog 19 [.agg (stC s), .agg (fltL f), .agg (evC e), .sl none n (zbC n) .no] (.bool (decide (e.nm.sp = f.nm.sp) && (decide (e.nm.lo = f.nm.lo) && true))) :=
  Ctr.mk Γ_ok Tryd.func19 (by kernel_rfl) Tryd.call19 [] (by kernel_rfl) (HT.walk Γ_ok mo_ok (⟨[(17, .val (.bool false)), (29, .val (.bool false)), (33, .val (.bool false)), (75, .val (.bool false)), (104, .val (.bool false)), (107, .val (.bool false)), (111, .val (.bool false)), (130, .val (.bool false)), (133, .val (.bool true))], [], hd19 [] [] [] [], [], .pure [] (.bool (decide (e.nm.sp = f.nm.sp) && (decide (e.nm.lo = f.nm.lo) && true)))⟩ : Wk) 4000 (T := .ob (decide (f.op = (8 : Int)) = false) (.ob (decide (f.op = (9 : Int)) = false) (.ob (decide (f.op = (10 : Int)) = false) (.ob (decide (f.op = (11 : Int)) = false) (.ob (decide (f.op = (1 : Int)) = false) (.ob (decide (f.op = (3 : Int)) = false) (.ob (decide (f.op = (7 : Int)) = false) (.ob ((!decide (e.kind = (1 : Int))) = false) (.ob (decide (f.op = (4 : Int)) = true) (.ob ((3 : Nat) ≤ (5 : Nat)) (.ob ((3 : Nat) ≤ (6 : Nat)) (.ob ((decide (e.nm.sp = f.nm.sp) && (decide (e.nm.lo = f.nm.lo) && true)) = (decide (e.nm.sp = f.nm.sp) && (decide (e.nm.lo = f.nm.lo) && true))) (.tt))))))))))))) (by kernel_rfl) (by
    simp only [PT.holds, true_implies, Bool.false_eq_true, Bool.true_eq_false, false_implies, true_and, and_true, repL0, List.nil_append, Nat.zero_add, Int.toNat_natCast, Int.toNat_zero, Nat.zero_mul]
    repeat' (with_reducible apply And.intro)
    all_goals first | omega | exact decide_eq_true (by omega) | exact decide_eq_false (by omega) | (simp [*]; done)))
theorem hoA (s : St) (f : Flt) (e : Ev) (n : Nat) (o8 : f.op ≠ 8) (o9 : f.op ≠ 9) (o10 : f.op ≠ 10) (o11 : f.op ≠ 11) (r : Bool) (h1 : f.op ≠ 1) (h3 : f.op ≠ 3) (h7 : f.op ≠ 7) (h4 : f.op ≠ 4) (hk : e.kind = 1) (k : HT Tryd.prog Tryd.f19.ntmps (pt Tryd.f19 1) (stHa s f e n 0) (EndsA Γ (.pure [] (.bool r)) Tryd.f19)) : Ctr Tryd.prog 19 [.agg (stC s), .agg (fltL f), .agg (evC e), .sl none n (zbC n) .no] (.bool r) :=
  Ctr.mk Γ_ok Tryd.func19 (by kernel_rfl) Tryd.call19 [] (by kernel_rfl) (HT.walk Γ_ok mo_ok (⟨[(17, .val (.bool false)), (29, .val (.bool false)), (33, .val (.bool false)), (75, .val (.bool false)), (104, .val (.bool false)), (107, .val (.bool false)), (111, .val (.bool false)), (130, .val (.bool false)), (133, .val (.bool false))], [], hd19 [] [] [] [], [], .pure [] (.bool r)⟩ : Wk) 4000 (T := .ob (decide (f.op = (8 : Int)) = false) (.ob (decide (f.op = (9 : Int)) = false) (.ob (decide (f.op = (10 : Int)) = false) (.ob (decide (f.op = (11 : Int)) = false) (.ob (decide (f.op = (1 : Int)) = false) (.ob (decide (f.op = (3 : Int)) = false) (.ob (decide (f.op = (7 : Int)) = false) (.ob ((!decide (e.kind = (1 : Int))) = false) (.ob (decide (f.op = (4 : Int)) = false) (.head (pt Tryd.f19 1) ({ tmps := [(5, AV.ptr 5 0), (6, AV.ptr 6 0), (14, AV.int .i64 (0 : Int))], heap := [(4, .var true [AV.sl none s.ps.length (pthsC s.ps) .no, AV.sl none s.pg.length (pgsC s.pg) .no, AV.sl none s.bs.length (intsC s.bs) .no, AV.int .i64 s.m.st, AV.int .i64 s.m.s, AV.int .i64 s.m.e, AV.sl none s.m.edges.length (edgC s.m.edges) .no, AV.sl none s.m.tests.length (fltsC s.m.tests) .no]), (5, .var true (fltL f)), (6, .var true (evC e))], tags := [] }))))))))))) (by kernel_rfl) (by
    simp only [PT.holds, true_implies, Bool.false_eq_true, Bool.true_eq_false, false_implies, true_and, and_true, repL0, List.nil_append, Nat.zero_add, Int.toNat_natCast, Int.toNat_zero, Nat.zero_mul]
    repeat' (with_reducible apply And.intro)
    all_goals first | assumption | exact decide_eq_false (by omega) | (simp [*]; done)))
theorem ha_e2 (s : St) (f : Flt) (e : Ev) (n : Nat) (i : Nat) (hl : e.attrs.length ≤ 1048600) (hi : i = e.attrs.length) (ho : f.op = 2) : HT Tryd.prog Tryd.f19.ntmps (pt Tryd.f19 1) (stHa s f e n i) (EndsA Γ (.pure [] (.bool true)) Tryd.f19) :=
  HT.walk Γ_ok mo_ok (⟨[(143, .val (.bool false)), (156, .val (.agg (nmC nm0))), (159, .val (.bool false)), (176, .val (.bool true))], [], hd19 [] [] [] [], [], .pure [] (.bool true)⟩ : Wk) 4000 (T := .ob (decide ((↑i : Int) < (↑e.attrs.length : Int)) = false) (.ob (decide (f.op = (2 : Int)) = true) (.ob (true = true) (.tt)))) (by kernel_rfl) (by
    simp only [PT.holds, true_implies, Bool.false_eq_true, Bool.true_eq_false, false_implies, true_and, and_true, repL0, List.nil_append, Nat.zero_add, Int.toNat_natCast, Int.toNat_zero, Nat.zero_mul]
    repeat' (with_reducible apply And.intro)
    all_goals first | exact decide_eq_true (by omega) | exact decide_eq_false (by omega))
theorem ha_2 (s : St) (f : Flt) (e : Ev) (n : Nat) (i : Nat) (hl : e.attrs.length ≤ 1048600) (hi : i < e.attrs.length) (ho : f.op = 2) : HT Tryd.prog Tryd.f19.ntmps (pt Tryd.f19 1) (stHa s f e n i) (EndsA Γ (.pure [] (.bool true)) Tryd.f19) :=
  HT.walk Γ_ok mo_ok (⟨[(143, .val (.bool true)), (147, .val (.bool false)), (156, .val (.agg (nmC (e.attrs.getD i atr0).nm))), (159, .val (.bool false)), (176, .val (.bool true))], [], hd19 [] [] [] [], [], .pure [] (.bool true)⟩ : Wk) 4000 (T := .ob (decide ((↑i : Int) < (↑e.attrs.length : Int)) = true) (.ob (decide ((5 : Int) ≤ f.op) = false) (.ob (decide (f.op = (2 : Int)) = true) (.ob (true = true) (.tt))))) (by kernel_rfl) (by
    simp only [PT.holds, true_implies, Bool.false_eq_true, Bool.true_eq_false, false_implies, true_and, and_true, repL0, List.nil_append, Nat.zero_add, Int.toNat_natCast, Int.toNat_zero, Nat.zero_mul]
    repeat' (with_reducible apply And.intro)
    all_goals first | exact decide_eq_true (by omega) | exact decide_eq_false (by omega))
theorem ha_e (s : St) (f : Flt) (e : Ev) (n : Nat) (i : Nat) (hl : e.attrs.length ≤ 1048600) (hi : i = e.attrs.length) (ho : f.op ≠ 2) : HT Tryd.prog Tryd.f19.ntmps (pt Tryd.f19 1) (stHa s f e n i) (EndsA Γ (.pure [] (.bool false)) Tryd.f19) :=
  HT.walk Γ_ok mo_ok (⟨[(143, .val (.bool false)), (156, .val (.agg (nmC nm0))), (159, .val (.bool false)), (176, .val (.bool false))], [], hd19 [] [] [] [], [], .pure [] (.bool false)⟩ : Wk) 4000 (T := .ob (decide ((↑i : Int) < (↑e.attrs.length : Int)) = false) (.ob (decide (f.op = (2 : Int)) = false) (.ob (false = false) (.tt)))) (by kernel_rfl) (by
    simp only [PT.holds, true_implies, Bool.false_eq_true, Bool.true_eq_false, false_implies, true_and, and_true, repL0, List.nil_append, Nat.zero_add, Int.toNat_natCast, Int.toNat_zero, Nat.zero_mul]
    repeat' (with_reducible apply And.intro)
    all_goals first | exact decide_eq_false (by omega))
theorem ha_n (s : St) (f : Flt) (e : Ev) (n : Nat) (i : Nat) (hl : e.attrs.length ≤ 1048600) (hi : i < e.attrs.length) (ho : 5 ≤ f.op) (hne : (e.attrs.getD i atr0).nm ≠ f.nm) (r : Bool) (k : HT Tryd.prog Tryd.f19.ntmps (pt Tryd.f19 1) (stHa s f e n (i + 1)) (EndsA Γ (.pure [] (.bool r)) Tryd.f19)) : HT Tryd.prog Tryd.f19.ntmps (pt Tryd.f19 1) (stHa s f e n i) (EndsA Γ (.pure [] (.bool r)) Tryd.f19) :=
  HT.walk Γ_ok mo_ok (⟨[(143, .val (.bool true)), (147, .val (.bool true)), (156, .val (.agg (nmC (e.attrs.getD i atr0).nm))), (159, .val (.bool false))], [], hd19 [] [] [] [], [], .pure [] (.bool r)⟩ : Wk) 4000 (T := .ob (decide ((↑i : Int) < (↑e.attrs.length : Int)) = true) (.ob (decide ((5 : Int) ≤ f.op) = true) (.ob ((0 : Int) ≤ (↑i : Int) ∧ (↑i : Int) < (↑e.attrs.length : Int) ∧ (↑i : Int).toNat * (3 : Nat) < (atsC e.attrs).length) (.ob (List.take (2 : Nat) (List.drop ((↑i : Int).toNat * (3 : Nat) + (0 : Nat)) (atsC e.attrs)) = [AV.str (e.attrs.getD i atr0).nm.sp, AV.str (e.attrs.getD i atr0).nm.lo]) (.ob ((3 : Nat) ≤ (6 : Nat)) (.ob ((decide ((e.attrs.getD i atr0).nm.sp = f.nm.sp) && (decide ((e.attrs.getD i atr0).nm.lo = f.nm.lo) && true)) = false) (.head (pt Tryd.f19 1) ({ tmps := [(5, AV.ptr 5 0), (6, AV.ptr 6 0), (14, AV.int .i64 (IntKind.i64.wrap ((↑i : Int) + (1 : Int))))], heap := [(4, .var true [AV.sl none s.ps.length (pthsC s.ps) .no, AV.sl none s.pg.length (pgsC s.pg) .no, AV.sl none s.bs.length (intsC s.bs) .no, AV.int .i64 s.m.st, AV.int .i64 s.m.s, AV.int .i64 s.m.e, AV.sl none s.m.edges.length (edgC s.m.edges) .no, AV.sl none s.m.tests.length (fltsC s.m.tests) .no]), (5, .var true (fltL f)), (6, .var true (evC e))], tags := [] })))))))) (by kernel_rfl) (by
    have w2 : IntKind.i64.wrap ((i : Int) + 1) = ((i + 1 : Nat) : Int) := by rw [i64_wrap (by omega) (by omega)]; rfl
    simp only [PT.holds, w2, true_implies, Bool.false_eq_true, Bool.true_eq_false, false_implies, true_and, and_true, repL0, List.nil_append, Nat.zero_add, Int.toNat_natCast, Int.toNat_zero, Nat.zero_mul]
    repeat' (with_reducible apply And.intro)
    all_goals first | assumption | omega | exact decide_eq_true (by omega) | exact nmNeF hne | ((try simp only [Nat.add_assoc, Nat.reduceAdd, Nat.add_zero]) <;> first | (rw [ats_take _ _ _ _ hi (by decide)]; rfl) | (rw [ats_nth _ _ _ hi (by decide)]; rfl) | (rw [evs_take _ _ _ _ hi (by decide)]; rfl) | (rw [evs_nth _ _ _ hi (by decide)]; rfl) | (rw [pths_take _ _ _ _ hi (by decide)]; rfl) | (rw [pths_nth _ _ _ hi (by decide)]; rfl) | (rw [flts_take _ _ _ _ hi (by decide)]; rfl) | (rw [flts_nth _ _ _ hi (by decide)]; rfl) | (rw [ats_take0 _ _ _ hi (by decide)]; rfl) | (rw [ats_nth0 _ _ hi]; rfl) | (rw [evs_take0 _ _ _ hi (by decide)]; rfl) | (rw [evs_nth0 _ _ hi]; rfl) | (rw [pths_take0 _ _ _ hi (by decide)]; rfl) | (rw [pths_nth0 _ _ hi]; rfl) | (rw [flts_take0 _ _ _ hi (by decide)]; rfl) | (rw [flts_nth0 _ _ hi]; rfl)) | (simp only [pthsC_len, pgsC_len, ints_len, fltsC_len, zbC_len, atsC_len]; omega))
theorem ha_5 (s : St) (f : Flt) (e : Ev) (n : Nat) (i : Nat) (hl : e.attrs.length ≤ 1048600) (hi : i < e.attrs.length) (ho : f.op = 5) (hne : (e.attrs.getD i atr0).nm = f.nm) : HT Tryd.prog Tryd.f19.ntmps (pt Tryd.f19 1) (stHa s f e n i) (EndsA Γ (.pure [] (.bool true)) Tryd.f19) :=
  HT.walk Γ_ok mo_ok (⟨[(143, .val (.bool true)), (147, .val (.bool true)), (156, .val (.agg (nmC (e.attrs.getD i atr0).nm))), (159, .val (.bool true)), (162, .val (.bool true))], [], hd19 [] [] [] [], [], .pure [] (.bool true)⟩ : Wk) 4000 (T := .ob (decide ((↑i : Int) < (↑e.attrs.length : Int)) = true) (.ob (decide ((5 : Int) ≤ f.op) = true) (.ob ((0 : Int) ≤ (↑i : Int) ∧ (↑i : Int) < (↑e.attrs.length : Int) ∧ (↑i : Int).toNat * (3 : Nat) < (atsC e.attrs).length) (.ob (List.take (2 : Nat) (List.drop ((↑i : Int).toNat * (3 : Nat) + (0 : Nat)) (atsC e.attrs)) = [AV.str (e.attrs.getD i atr0).nm.sp, AV.str (e.attrs.getD i atr0).nm.lo]) (.ob ((3 : Nat) ≤ (6 : Nat)) (.ob ((decide ((e.attrs.getD i atr0).nm.sp = f.nm.sp) && (decide ((e.attrs.getD i atr0).nm.lo = f.nm.lo) && true)) = true) (.ob (decide (f.op = (5 : Int)) = true) (.ob (true = true) (.tt))))))))) (by kernel_rfl) (by
    simp only [PT.holds, true_implies, Bool.false_eq_true, Bool.true_eq_false, false_implies, true_and, and_true, repL0, List.nil_append, Nat.zero_add, Int.toNat_natCast, Int.toNat_zero, Nat.zero_mul]
    repeat' (with_reducible apply And.intro)
    all_goals first | omega | exact decide_eq_true (by omega) | exact nmEqT hne | ((try simp only [Nat.add_assoc, Nat.reduceAdd, Nat.add_zero]) <;> first | (rw [ats_take _ _ _ _ hi (by decide)]; rfl) | (rw [ats_nth _ _ _ hi (by decide)]; rfl) | (rw [evs_take _ _ _ _ hi (by decide)]; rfl) | (rw [evs_nth _ _ _ hi (by decide)]; rfl) | (rw [pths_take _ _ _ _ hi (by decide)]; rfl) | (rw [pths_nth _ _ _ hi (by decide)]; rfl) | (rw [flts_take _ _ _ _ hi (by decide)]; rfl) | (rw [flts_nth _ _ _ hi (by decide)]; rfl) | (rw [ats_take0 _ _ _ hi (by decide)]; rfl) | (rw [ats_nth0 _ _ hi]; rfl) | (rw [evs_take0 _ _ _ hi (by decide)]; rfl) | (rw [evs_nth0 _ _ hi]; rfl) | (rw [pths_take0 _ _ _ hi (by decide)]; rfl) | (rw [pths_nth0 _ _ hi]; rfl) | (rw [flts_take0 _ _ _ hi (by decide)]; rfl) | (rw [flts_nth0 _ _ hi]; rfl)) | (simp only [pthsC_len, pgsC_len, ints_len, fltsC_len, zbC_len, atsC_len]; omega))
theorem ha_6 (s : St) (f : Flt) (e : Ev) (n : Nat) (i : Nat) (hl : e.attrs.length ≤ 1048600) (hi : i < e.attrs.length) (ho : f.op = 6) (hne : (e.attrs.getD i atr0).nm = f.nm) : HT Tryd.prog Tryd.f19.ntmps (pt Tryd.f19 1) (stHa s f e n i) (EndsA Γ (.pure [] (.bool (decide ((e.attrs.getD i atr0).v = f.val)))) Tryd.f19) :=
  HT.walk Γ_ok mo_ok (⟨[(143, .val (.bool true)), (147, .val (.bool true)), (156, .val (.agg (nmC (e.attrs.getD i atr0).nm))), (159, .val (.bool true)), (162, .val (.bool false)), (169, .val (.str (e.attrs.getD i atr0).v))], [], hd19 [] [] [] [], [], .pure [] (.bool (decide ((e.attrs.getD i atr0).v = f.val)))⟩ : Wk) 4000 (T := .ob (decide ((↑i : Int) < (↑e.attrs.length : Int)) = true) (.ob (decide ((5 : Int) ≤ f.op) = true) (.ob ((0 : Int) ≤ (↑i : Int) ∧ (↑i : Int) < (↑e.attrs.length : Int) ∧ (↑i : Int).toNat * (3 : Nat) < (atsC e.attrs).length) (.ob (List.take (2 : Nat) (List.drop ((↑i : Int).toNat * (3 : Nat) + (0 : Nat)) (atsC e.attrs)) = [AV.str (e.attrs.getD i atr0).nm.sp, AV.str (e.attrs.getD i atr0).nm.lo]) (.ob ((3 : Nat) ≤ (6 : Nat)) (.ob ((decide ((e.attrs.getD i atr0).nm.sp = f.nm.sp) && (decide ((e.attrs.getD i atr0).nm.lo = f.nm.lo) && true)) = true) (.ob (decide (f.op = (5 : Int)) = false) (.ob ((0 : Int) ≤ (↑i : Int) ∧ (↑i : Int) < (↑e.attrs.length : Int) ∧ (↑i : Int).toNat * (3 : Nat) < (atsC e.attrs).length) (.ob ((atsC e.attrs)[(↑i : Int).toNat * (3 : Nat) + (2 : Nat)]? = some (AV.str (e.attrs.getD i atr0).v)) (.ob (decide ((e.attrs.getD i atr0).v = f.val) = decide ((e.attrs.getD i atr0).v = f.val)) (.tt))))))))))) (by kernel_rfl) (by
    simp only [PT.holds, true_implies, Bool.false_eq_true, Bool.true_eq_false, false_implies, true_and, and_true, repL0, List.nil_append, Nat.zero_add, Int.toNat_natCast, Int.toNat_zero, Nat.zero_mul]
    repeat' (with_reducible apply And.intro)
    all_goals first | omega | exact decide_eq_true (by omega) | exact decide_eq_false (by omega) | exact nmEqT hne | ((try simp only [Nat.add_assoc, Nat.reduceAdd, Nat.add_zero]) <;> first | (rw [ats_take _ _ _ _ hi (by decide)]; rfl) | (rw [ats_nth _ _ _ hi (by decide)]; rfl) | (rw [evs_take _ _ _ _ hi (by decide)]; rfl) | (rw [evs_nth _ _ _ hi (by decide)]; rfl) | (rw [pths_take _ _ _ _ hi (by decide)]; rfl) | (rw [pths_nth _ _ _ hi (by decide)]; rfl) | (rw [flts_take _ _ _ _ hi (by decide)]; rfl) | (rw [flts_nth _ _ _ hi (by decide)]; rfl) | (rw [ats_take0 _ _ _ hi (by decide)]; rfl) | (rw [ats_nth0 _ _ hi]; rfl) | (rw [evs_take0 _ _ _ hi (by decide)]; rfl) | (rw [evs_nth0 _ _ hi]; rfl) | (rw [pths_take0 _ _ _ hi (by decide)]; rfl) | (rw [pths_nth0 _ _ hi]; rfl) | (rw [flts_take0 _ _ _ hi (by decide)]; rfl) | (rw [flts_nth0 _ _ hi]; rfl)) | (simp only [pthsC_len, pgsC_len, ints_len, fltsC_len, zbC_len, atsC_len]; omega))
end Go.Proofs.YteimloiaipiadaaDoor
end

section
set_option linter.unusedVariables false
set_option linter.unusedSimpArgs false
set_option maxRecDepth 100000
namespace Go.Proofs.YteimloiaipiadaaDoor
open Go Go.AX

/-! ### What a filter answers of an event -/
def atF (n : Nm) (o : Int) (v : ByteArray) : List Atr → Bool
  | [] => false
  | a :: r => if a.nm = n then (if o = 5 then true else decide (a.v = v)) else atF n o v r
def holB (e : Ev) (o : Int) (n : Nm) (v : ByteArray) : Bool :=
  if o = 1 then true else if o = 3 then decide (e.kind ≠ 1) else if o = 7 then decide (e.kind ≠ 1) && decide (e.text = v) else if e.kind ≠ 1 then false else if o = 4 then decide (e.nm = n) else if o = 2 then true else atF n o v e.attrs
mutual
def hol (e : Ev) : Flt → Bool
  | .mk o n v sub way => if o = 8 then !(holAll e sub) else if o = 9 then holAll e sub else if o = 10 then holAny e sub else if o = 11 then false else holB e o n v
def holAll (e : Ev) : List Flt → Bool
  | [] => true
  | f :: r => hol e f && holAll e r
def holAny (e : Ev) : List Flt → Bool
  | [] => false
  | f :: r => hol e f || holAny e r
end
theorem hol_eq (e : Ev) (f : Flt) : hol e f = if f.op = 8 then !(holAll e f.sub) else if f.op = 9 then holAll e f.sub else if f.op = 10 then holAny e f.sub else if f.op = 11 then false else holB e f.op f.nm f.val := by cases f; simp only [hol]; rfl
section
variable (s : St) (f : Flt) (e : Ev) (n : Nat)
theorem hl9_l (ho : f.op = 9) (hs : f.sub.length ≤ 1048600) (hc : ∀ g ∈ f.sub, Ctr Tryd.prog 19 [.agg (stC s), .agg (fltL g), .agg (evC e), .sl none n (zbC n) .no] (.bool (hol e g))) : ∀ d i (a b : Bool), i + d = f.sub.length → HT Tryd.prog Tryd.f19.ntmps (pt Tryd.f19 0) (stHl s f e n a b i) (EndsA Γ (.pure [] (.bool (a && holAll e (f.sub.drop i)))) Tryd.f19) := by
  intro d
  induction d with
  | zero =>
    intro i a b h
    rw [List.drop_of_length_le (by omega)]
    cases a
    · exact hl_e9f s f e n b i (by omega) ho
    · exact hl_e9t s f e n b i (by omega) ho
  | succ d ih =>
    intro i a b h
    have hi : i < f.sub.length := by omega
    have h1 := hc _ (getD_mem f.sub i flt0 hi)
    rw [drop_cons f.sub i flt0 hi]
    simp only [holAll]
    cases a
    · cases b
      · exact hl_ff s f e n _ _ i hi hs h1 (ih (i + 1) false _ (by omega))
      · exact hl_ft s f e n _ _ i hi hs h1 (ih (i + 1) false true (by omega))
    · cases b
      · exact hl_tf s f e n _ _ i hi hs h1 (ih (i + 1) _ _ (by omega))
      · exact hl_tt s f e n _ _ i hi hs h1 (ih (i + 1) _ true (by omega))
theorem hl10_l (ho : f.op = 10) (hs : f.sub.length ≤ 1048600) (hc : ∀ g ∈ f.sub, Ctr Tryd.prog 19 [.agg (stC s), .agg (fltL g), .agg (evC e), .sl none n (zbC n) .no] (.bool (hol e g))) : ∀ d i (a b : Bool), i + d = f.sub.length → HT Tryd.prog Tryd.f19.ntmps (pt Tryd.f19 0) (stHl s f e n a b i) (EndsA Γ (.pure [] (.bool (b || holAny e (f.sub.drop i)))) Tryd.f19) := by
  intro d
  induction d with
  | zero =>
    intro i a b h
    rw [List.drop_of_length_le (by omega)]
    simp only [holAny, Bool.or_false]
    exact hl_e10 s f e n a b i (by omega) ho
  | succ d ih =>
    intro i a b h
    have hi : i < f.sub.length := by omega
    have h1 := hc _ (getD_mem f.sub i flt0 hi)
    rw [drop_cons f.sub i flt0 hi]
    simp only [holAny]
    cases a
    · cases b
      · exact hl_ff s f e n _ _ i hi hs h1 (ih (i + 1) false _ (by omega))
      · exact hl_ft s f e n _ _ i hi hs h1 (ih (i + 1) false true (by omega))
    · cases b
      · exact hl_tf s f e n _ _ i hi hs h1 (ih (i + 1) _ _ (by omega))
      · exact hl_tt s f e n _ _ i hi hs h1 (ih (i + 1) _ true (by omega))
theorem ha_l (ho : f.op = 5 ∨ f.op = 6) (hl : e.attrs.length ≤ 1048600) : ∀ d i, i + d = e.attrs.length → HT Tryd.prog Tryd.f19.ntmps (pt Tryd.f19 1) (stHa s f e n i) (EndsA Γ (.pure [] (.bool (atF f.nm f.op f.val (e.attrs.drop i)))) Tryd.f19) := by
  intro d
  induction d with
  | zero =>
    intro i h
    rw [List.drop_of_length_le (by omega)]
    exact ha_e s f e n i hl (by omega) (by omega)
  | succ d ih =>
    intro i h
    have hi : i < e.attrs.length := by omega
    rw [drop_cons e.attrs i atr0 hi]
    simp only [atF]
    by_cases hm : (e.attrs.getD i atr0).nm = f.nm
    · rw [if_pos hm]
      by_cases h5 : f.op = 5
      · rw [if_pos h5]
        exact ha_5 s f e n i hl hi h5 hm
      · rw [if_neg h5]
        exact ha_6 s f e n i hl hi (by omega) hm
    · rw [if_neg hm]
      exact ha_n s f e n i hl hi (by omega) hm _ (ih (i + 1) (by omega))
end
theorem hold_ctr (s : St) (hs : StR s) (e : Ev) (he : e.attrs.length ≤ 1048600) (n : Nat) (hn : (n : Int) = sumS s.pg) (f : Flt) (hok : f.ok) (hr : f.r) : Ctr Tryd.prog 19 [.agg (stC s), .agg (fltL f), .agg (evC e), .sl none n (zbC n) .no] (.bool (hol e f)) := by
  have o := (Flt.ok_i hok).2.2
  have r := Flt.r_j hr
  have hc : ∀ g ∈ f.sub, Ctr Tryd.prog 19 [.agg (stC s), .agg (fltL g), .agg (evC e), .sl none n (zbC n) .no] (.bool (hol e g)) := fun g hg => have := fsub_lt f g hg; hold_ctr s hs e he n hn g (o.2.2.1 g hg) (r.2.1 g hg)
  have hop := r.1.op
  rw [hol_eq]
  by_cases h8 : f.op = 8
  · rw [if_pos h8]
    have h1 := r.1.one h8
    have h2 := drop_cons f.sub 0 flt0 (by omega)
    rw [List.drop_zero, List.drop_of_length_le (by omega)] at h2
    rw [h2]
    simp only [holAll, Bool.and_true]
    exact ho8 s f e n _ h8 (by omega) (hc _ (getD_mem f.sub 0 flt0 (by omega)))
  rw [if_neg h8]
  by_cases h9 : f.op = 9
  · rw [if_pos h9]
    have := hl9_l s f e n h9 o.1 hc f.sub.length 0 true false (Nat.zero_add _)
    rw [List.drop_zero, Bool.true_and] at this
    exact ho9 s f e n _ h9 this
  rw [if_neg h9]
  by_cases h10 : f.op = 10
  · rw [if_pos h10]
    have := hl10_l s f e n h10 o.1 hc f.sub.length 0 true false (Nat.zero_add _)
    rw [List.drop_zero, Bool.false_or] at this
    exact ho10 s f e n _ h10 this
  rw [if_neg h10]
  by_cases h11 : f.op = 11
  · rw [if_pos h11]
    have hw := r.1.way.1 h11
    have hle := hs.le
    obtain ⟨y, hy, c43⟩ := findS_ex s (f.way.getD 0 pth0) (by omega) (o.2.2.2 _ (getD_mem f.way 0 pth0 (by omega))) hs.ok
    rcases hy with hy | hy
    · exact ho11n s f e n y (by omega) h11 (by omega) c43
    · obtain ⟨m, rfl⟩ := Int.eq_ofNat_of_zero_le hy.1
      have hm : m < s.ps.length := by omega
      have hp := hs.pg
      have ha := hs.at_ m hm
      have hsum := sumS_le s.pg hs.r
      have hms := (hs.r _ (getD_mem s.pg m pg0 (by omega))).s
      exact ho11y s f e n m hm hle hp hs.bs ⟨ha.1, ha.2.1, by omega⟩ (by omega) hms.1 h11 (by omega) c43
  rw [if_neg h11]
  unfold holB
  by_cases h1 : f.op = 1
  · rw [if_pos h1]; exact ho1 s f e n h8 h9 h10 h11 h1
  rw [if_neg h1]
  by_cases h3 : f.op = 3
  · rw [if_pos h3]
    by_cases hk : e.kind = 1
    · rw [decide_eq_false (by simp [hk])]; exact ho3n s f e n h8 h9 h10 h11 h3 hk
    · rw [decide_eq_true hk]; exact ho3y s f e n h8 h9 h10 h11 h3 hk
  rw [if_neg h3]
  by_cases h7 : f.op = 7
  · rw [if_pos h7]
    by_cases hk : e.kind = 1
    · rw [decide_eq_false (by simp [hk]), Bool.false_and]; exact ho7n s f e n h8 h9 h10 h11 h7 hk
    · rw [decide_eq_true hk, Bool.true_and]; exact ho7y s f e n h8 h9 h10 h11 h7 hk
  rw [if_neg h7]
  by_cases hk : e.kind = 1
  · rw [if_neg (by simp [hk])]
    by_cases h4 : f.op = 4
    · rw [if_pos h4]
      have e1 : decide (e.nm = f.nm) = (decide (e.nm.sp = f.nm.sp) && (decide (e.nm.lo = f.nm.lo) && true)) := by
        by_cases hn : e.nm = f.nm
        · rw [nmEqT hn, decide_eq_true hn]
        · rw [nmNeF hn, decide_eq_false hn]
      rw [e1]
      exact ho4 s f e n h8 h9 h10 h11 h4 hk
    rw [if_neg h4]
    by_cases h2 : f.op = 2
    · rw [if_pos h2]
      refine hoA s f e n h8 h9 h10 h11 _ h1 h3 h7 h4 hk ?_
      by_cases hz : 0 < e.attrs.length
      · exact ha_2 s f e n 0 he hz h2
      · exact ha_e2 s f e n 0 he (by omega) h2
    rw [if_neg h2]
    refine hoA s f e n h8 h9 h10 h11 _ h1 h3 h7 h4 hk ?_
    have := ha_l s f e n (by omega) he e.attrs.length 0 (Nat.zero_add _)
    rwa [List.drop_zero] at this
  · rw [if_pos hk]; exact hoKn s f e n h8 h9 h10 h11 h1 h3 h7 hk
termination_by SizeOf.sizeOf f

end Go.Proofs.YteimloiaipiadaaDoor
end

section
set_option linter.unusedVariables false
set_option linter.unusedSimpArgs false
set_option maxRecDepth 100000
namespace Go.Proofs.YteimloiaipiadaaDoor
open Go Go.AX

/-! ### Like events answer the filters alike -/
theorem atV_cons (a : Atr) (r : List Atr) (n : Nm) : atV (a :: r) n = if a.nm = n then (a.v, true) else atV r n := by
  unfold atV
  by_cases h : a.nm = n
  · rw [if_pos h, List.find?_cons_of_pos (by simp [h])]
  · rw [if_neg h, List.find?_cons_of_neg (by simp [h])]
theorem atF_5 (n : Nm) (v : ByteArray) : ∀ l : List Atr, atF n 5 v l = (atV l n).2
  | [] => rfl
  | a :: r => by
    rw [atV_cons]
    simp only [atF]
    by_cases h : a.nm = n
    · rw [if_pos h, if_pos h]; rfl
    · rw [if_neg h, if_neg h]; exact atF_5 n v r
theorem atF_6 (n : Nm) (o : Int) (ho : o ≠ 5) (v : ByteArray) : ∀ l : List Atr, atF n o v l = ((atV l n).2 && decide ((atV l n).1 = v))
  | [] => rfl
  | a :: r => by
    rw [atV_cons]
    simp only [atF]
    by_cases h : a.nm = n
    · rw [if_pos h, if_pos h, if_neg ho]; simp
    · rw [if_neg h, if_neg h]; exact atF_6 n o ho v r
theorem lkA_at (a b : Ev) (F : List Flt) : ∀ (A : List Nm), lkA a b A (valsF F A) = true → ∀ n ∈ A, lkA1 a b n (valuesF 6 n F) = true
  | [], _, n, hn => by simp at hn
  | m :: A, h, n, hn => by
    simp only [valsF, List.map_cons, lkA, Bool.and_eq_true] at h
    rcases List.mem_cons.1 hn with hn | hn
    · rw [hn]; exact h.1
    · exact lkA_at a b F A h.2 n hn
theorem alG_in {α : Type} [DecidableEq α] (d : α) {l : List α} {a b x : α} (h : alG l a b = true) (hx : x ∈ l) : decide (a = x) = decide (b = x) := by
  rcases (alG_iff d l a b).1 h with h | ⟨h1, h2⟩
  · rw [h]
  · rw [decide_eq_false (fun e => h1 (by rw [e]; exact hx)), decide_eq_false (fun e => h2 (by rw [e]; exact hx))]
theorem holB_like (F : List Flt) (f : Flt) (hf : f ∈ F) (hr : f.r1) (h7 : f.op ≤ 7) (a b : Ev) (h : likW (refW F) a b = true) : holB a f.op f.nm f.val = holB b f.op f.nm f.val := by
  simp only [likW, refW, Bool.and_eq_true, decide_eq_true_eq] at h
  obtain ⟨h1, h2, h3, h4⟩ := h
  unfold holB
  rw [h1]
  by_cases o1 : f.op = 1
  · rw [if_pos o1, if_pos o1]
  rw [if_neg o1, if_neg o1]
  by_cases o3 : f.op = 3
  · rw [if_pos o3, if_pos o3]
  rw [if_neg o3, if_neg o3]
  by_cases o7 : f.op = 7
  · rw [if_pos o7, if_pos o7]
    have hn : f.nm = nm0 := Classical.byContradiction fun hn => by have := hr.named.2 hn; omega
    rw [alG_in ⟨#[]⟩ h3 ((valuesF_mem 7 nm0 f.val F).2 ⟨f, hf, o7, hn, rfl⟩)]
  rw [if_neg o7, if_neg o7]
  by_cases hk : b.kind = 1
  · have hk' : ¬ (b.kind ≠ 1) := by simp [hk]
    rw [if_neg hk', if_neg hk']
    by_cases o4 : f.op = 4
    · rw [if_pos o4, if_pos o4]
      exact alG_in nm0 h2 ((namesF_mem 4 4 f.nm F).2 ⟨f, hf, by omega, by omega, rfl⟩)
    rw [if_neg o4, if_neg o4]
    by_cases o2 : f.op = 2
    · rw [if_pos o2, if_pos o2]
    rw [if_neg o2, if_neg o2]
    by_cases o56 : f.op = 5 ∨ f.op = 6
    · have hl := lkA_at a b F _ h4 f.nm ((namesF_mem 5 6 f.nm F).2 ⟨f, hf, by omega, by omega, rfl⟩)
      simp only [lkA1, Bool.and_eq_true, decide_eq_true_eq] at hl
      by_cases o5 : f.op = 5
      · rw [o5, atF_5, atF_5]; exact hl.1
      · rw [atF_6 _ _ o5, atF_6 _ _ o5, hl.1, alG_in ⟨#[]⟩ hl.2 ((valuesF_mem 6 f.nm f.val F).2 ⟨f, hf, by omega, rfl, rfl⟩)]
    · have hop := hr.op
      omega
  · rw [if_pos hk, if_pos hk]
mutual
theorem filtersP_sub : ∀ p : Pth, ∀ f ∈ filtersP p, ∀ g ∈ f.sub, g ∈ filtersP p
  | .mk o sub test, f, hf, g, hg => by
    simp only [filtersP, List.mem_append] at hf ⊢
    rcases hf with hf | hf
    · exact .inl (filtersPs_sub sub f hf g hg)
    · exact .inr (withinFs_sub test f hf g hg)
theorem filtersPs_sub : ∀ l : List Pth, ∀ f ∈ filtersPs l, ∀ g ∈ f.sub, g ∈ filtersPs l
  | [], f, hf, g, hg => by simp [filtersPs] at hf
  | p :: r, f, hf, g, hg => by
    simp only [filtersPs, List.mem_append] at hf ⊢
    rcases hf with hf | hf
    · exact .inl (filtersP_sub p f hf g hg)
    · exact .inr (filtersPs_sub r f hf g hg)
theorem withinF_sub : ∀ h : Flt, ∀ f ∈ withinF h, ∀ g ∈ f.sub, g ∈ withinF h
  | .mk o n v sub way, f, hf, g, hg => by
    simp only [withinF, List.mem_append, List.mem_cons] at hf ⊢
    rcases hf with hf | hf | hf
    · rw [hf] at hg
      exact .inr (.inl (withinFs_self sub g hg))
    · exact .inr (.inl (withinFs_sub sub f hf g hg))
    · exact .inr (.inr (filtersPs_sub way f hf g hg))
theorem withinFs_sub : ∀ l : List Flt, ∀ f ∈ withinFs l, ∀ g ∈ f.sub, g ∈ withinFs l
  | [], f, hf, g, hg => by simp [withinFs] at hf
  | h :: r, f, hf, g, hg => by
    simp only [withinFs, List.mem_append] at hf ⊢
    rcases hf with hf | hf
    · exact .inl (withinF_sub h f hf g hg)
    · exact .inr (withinFs_sub r f hf g hg)
theorem withinFs_self : ∀ l : List Flt, ∀ g ∈ l, g ∈ withinFs l
  | [], g, hg => by simp at hg
  | h :: r, g, hg => by
    simp only [withinFs, List.mem_append]
    rcases List.mem_cons.1 hg with hg | hg
    · exact .inl (by rw [hg]; cases h; simp [withinF])
    · exact .inr (withinFs_self r g hg)
end
theorem all_like (a b : Ev) : ∀ l : List Flt, (∀ g ∈ l, hol a g = hol b g) → holAll a l = holAll b l
  | [], _ => rfl
  | f :: r, h => by simp only [holAll]; rw [h f (by simp), all_like a b r (fun g hg => h g (by simp [hg]))]
theorem any_like (a b : Ev) : ∀ l : List Flt, (∀ g ∈ l, hol a g = hol b g) → holAny a l = holAny b l
  | [], _ => rfl
  | f :: r, h => by simp only [holAny]; rw [h f (by simp), any_like a b r (fun g hg => h g (by simp [hg]))]
/-- Like events answer a filter that the path speaks of alike. -/
theorem hol_like (p : Pth) (hr : p.r) (a b : Ev) (h : likW (spkW p) a b = true) (f : Flt) (hf : f ∈ filtersP p) : hol a f = hol b f := by
  have hh := h
  rw [spk_of_r p hr] at hh
  have hfr := Flt.r_1 (filtersP_r p hr f hf)
  have hs : ∀ g ∈ f.sub, hol a g = hol b g := fun g hg => have := fsub_lt f g hg; hol_like p hr a b h g (filtersP_sub p f hf g hg)
  have hop := hfr.op
  rw [hol_eq, hol_eq, all_like a b f.sub hs, any_like a b f.sub hs]
  by_cases h8 : f.op = 8
  · rw [if_pos h8, if_pos h8]
  rw [if_neg h8, if_neg h8]
  by_cases h9 : f.op = 9
  · rw [if_pos h9, if_pos h9]
  rw [if_neg h9, if_neg h9]
  by_cases h10 : f.op = 10
  · rw [if_pos h10, if_pos h10]
  rw [if_neg h10, if_neg h10]
  by_cases h11 : f.op = 11
  · rw [if_pos h11, if_pos h11]
  rw [if_neg h11, if_neg h11]
  exact holB_like _ f hf hfr (by omega) a b hh
termination_by SizeOf.sizeOf f

def stHo (p : Pth) (e : Ev) (s : St) (n : Nat) (L : List Ev) (T : List Flt) (k : Nat) (i : Nat) : AS := ⟨[(3, .ptr 3 0), (5, .sl none L.length (evsC L) .no), (7, .int .i64 k), (8, .ptr 8 0), (9, .row 42 0 n), (10, .sl none T.length (fltsC T) .no), (11, .int .i64 i)], [(2, .var true (pthL p)), (3, .var true (evC e)), (8, .var true (stC s)), (42, .rows true (zbC n))], []⟩

theorem ah_0 (p : Pth) (e : Ev) (h9 : Ctr Tryd.prog 9 [] (.bool true)) (h10 : Ctr Tryd.prog 10 [.agg (pthL p)] (.bool false))  : Ctr Tryd.prog 4 [.agg (pthL p), .agg (evC e)] (.bool true) :=
  Ctr.mk Γ_ok Tryd.func4 (by kernel_rfl) Tryd.call4 [] (by kernel_rfl) (HT.walk Γ_ok mo_ok (⟨[(12, .call [] (.bool true)), (24, .call [] (.bool true)), (16, .call [] (.bool false))], [], hd4 [] [] [] [], [], .pure [] (.bool true)⟩ : Wk) 4000 (T := .ob (Ctr Tryd.prog 9 [] (AV.bool true)) (.ob ((3 : Nat) ≤ (3 : Nat)) (.ob (Ctr Tryd.prog 10 [AV.agg (pthL p)] (AV.bool false)) (.ob (Ctr Tryd.prog 9 [] (AV.bool true)) (.ob (true = true) (.tt)))))) (by kernel_rfl) (by
    simp only [PT.holds, true_implies, Bool.false_eq_true, Bool.true_eq_false, false_implies, true_and, and_true, repL0, List.nil_append, Nat.zero_add, Int.toNat_natCast, Int.toNat_zero, Nat.zero_mul]
    repeat' (with_reducible apply And.intro)
    all_goals first | assumption | omega))
theorem ah_1 (p : Pth) (e : Ev) (h9 : Ctr Tryd.prog 9 [] (.bool true)) (h10 : Ctr Tryd.prog 10 [.agg (pthL p)] (.bool true)) (h14 : Ctr Tryd.prog 14 [.agg (evC e)] (.bool false))  : Ctr Tryd.prog 4 [.agg (pthL p), .agg (evC e)] (.bool true) :=
  Ctr.mk Γ_ok Tryd.func4 (by kernel_rfl) Tryd.call4 [] (by kernel_rfl) (HT.walk Γ_ok mo_ok (⟨[(12, .call [] (.bool true)), (24, .call [] (.bool true)), (16, .call [] (.bool true)), (21, .call [] (.bool false))], [], hd4 [] [] [] [], [], .pure [] (.bool true)⟩ : Wk) 4000 (T := .ob (Ctr Tryd.prog 9 [] (AV.bool true)) (.ob ((3 : Nat) ≤ (3 : Nat)) (.ob (Ctr Tryd.prog 10 [AV.agg (pthL p)] (AV.bool true)) (.ob ((5 : Nat) ≤ (5 : Nat)) (.ob (Ctr Tryd.prog 14 [AV.agg (evC e)] (AV.bool false)) (.ob (Ctr Tryd.prog 9 [] (AV.bool true)) (.ob (true = true) (.tt)))))))) (by kernel_rfl) (by
    simp only [PT.holds, true_implies, Bool.false_eq_true, Bool.true_eq_false, false_implies, true_and, and_true, repL0, List.nil_append, Nat.zero_add, Int.toNat_natCast, Int.toNat_zero, Nat.zero_mul]
    repeat' (with_reducible apply And.intro)
    all_goals first | assumption | omega))
theorem ah_2 (p : Pth) (e : Ev) (L : List Ev) (h9 : Ctr Tryd.prog 9 [] (.bool true)) (h10 : Ctr Tryd.prog 10 [.agg (pthL p)] (.bool true)) (h14 : Ctr Tryd.prog 14 [.agg (evC e)] (.bool true)) (h11 : Ctr Tryd.prog 11 [.agg (pthL p)] (.tup [.sl none L.length (evsC L) .no, .int .i64 13]))  : Ctr Tryd.prog 4 [.agg (pthL p), .agg (evC e)] (.bool true) :=
  Ctr.mk Γ_ok Tryd.func4 (by kernel_rfl) Tryd.call4 [] (by kernel_rfl) (HT.walk Γ_ok mo_ok (⟨[(12, .call [] (.bool true)), (24, .call [] (.bool true)), (16, .call [] (.bool true)), (21, .call [] (.bool true)), (27, .call [] (.tup [.sl none L.length (evsC L) .no, .int .i64 13])), (31, .val (.bool true))], [], hd4 [] [] [] [], [], .pure [] (.bool true)⟩ : Wk) 4000 (T := .ob (Ctr Tryd.prog 9 [] (AV.bool true)) (.ob ((3 : Nat) ≤ (3 : Nat)) (.ob (Ctr Tryd.prog 10 [AV.agg (pthL p)] (AV.bool true)) (.ob ((5 : Nat) ≤ (5 : Nat)) (.ob (Ctr Tryd.prog 14 [AV.agg (evC e)] (AV.bool true)) (.ob ((3 : Nat) ≤ (3 : Nat)) (.ob (Ctr Tryd.prog 11 [AV.agg (pthL p)] (AV.tup [AV.sl none L.length (evsC L) .no, AV.int .i64 (13 : Int)])) (.ob (true = true) (.ob (true = true) (.tt)))))))))) (by kernel_rfl) (by
    simp only [PT.holds, true_implies, Bool.false_eq_true, Bool.true_eq_false, false_implies, true_and, and_true, repL0, List.nil_append, Nat.zero_add, Int.toNat_natCast, Int.toNat_zero, Nat.zero_mul]
    repeat' (with_reducible apply And.intro)
    all_goals first | assumption | omega))
theorem ah_3 (p : Pth) (e : Ev) (s : St) (n : Nat) (L : List Ev) (T : List Flt) (k : Nat) (h9 : Ctr Tryd.prog 9 [] (.bool true)) (h10 : Ctr Tryd.prog 10 [.agg (pthL p)] (.bool true)) (h14 : Ctr Tryd.prog 14 [.agg (evC e)] (.bool true)) (h11 : Ctr Tryd.prog 11 [.agg (pthL p)] (.tup [.sl none L.length (evsC L) .no, .int .i64 0])) (h15 : Ctr Tryd.prog 15 [.agg (pthL p), .sl none L.length (evsC L) .no, .agg (evC e)] (.int .i64 k)) (h16 : Ctr Tryd.prog 16 [.agg (pthL p)] (.agg (stC s))) (h17 : Ctr Tryd.prog 17 [.agg (stC s)] (.int .i64 n)) (h18 : Ctr Tryd.prog 18 [.agg (pthL p)] (.sl none T.length (fltsC T) .no)) (hn : n ≤ 100000) (kk : HT Tryd.prog Tryd.f4.ntmps (pt Tryd.f4 0) (stHo p e s n L T k 0) (EndsA Γ (.pure [] (.bool true)) Tryd.f4)) : Ctr Tryd.prog 4 [.agg (pthL p), .agg (evC e)] (.bool true) :=
  Ctr.mk Γ_ok Tryd.func4 (by kernel_rfl) Tryd.call4 [] (by kernel_rfl) (HT.walk Γ_ok mo_ok (⟨[(12, .call [] (.bool true)), (24, .call [] (.bool true)), (16, .call [] (.bool true)), (21, .call [] (.bool true)), (27, .call [] (.tup [.sl none L.length (evsC L) .no, .int .i64 0])), (31, .val (.bool false)), (35, .call [] (.int .i64 k)), (37, .val (.bool false)), (39, .call [] (.agg (stC s))), (41, .call [] (.int .i64 n)), (44, .call [] (.sl none T.length (fltsC T) .no))], [], hd4 [] [] [] [], [], .pure [] (.bool true)⟩ : Wk) 4000 (T := .ob (Ctr Tryd.prog 9 [] (AV.bool true)) (.ob ((3 : Nat) ≤ (3 : Nat)) (.ob (Ctr Tryd.prog 10 [AV.agg (pthL p)] (AV.bool true)) (.ob ((5 : Nat) ≤ (5 : Nat)) (.ob (Ctr Tryd.prog 14 [AV.agg (evC e)] (AV.bool true)) (.ob ((3 : Nat) ≤ (3 : Nat)) (.ob (Ctr Tryd.prog 11 [AV.agg (pthL p)] (AV.tup [AV.sl none L.length (evsC L) .no, AV.int .i64 (0 : Int)])) (.ob (false = false) (.ob ((3 : Nat) ≤ (3 : Nat)) (.ob ((5 : Nat) ≤ (5 : Nat)) (.ob (Ctr Tryd.prog 15 [AV.agg (pthL p), AV.sl none L.length (evsC L) .no, AV.agg (evC e)] (AV.int .i64 (↑k : Int))) (.ob (false = false) (.ob ((3 : Nat) ≤ (3 : Nat)) (.ob (Ctr Tryd.prog 16 [AV.agg (pthL p)] (AV.agg [AV.sl none s.ps.length (pthsC s.ps) .no, AV.sl none s.pg.length (pgsC s.pg) .no, AV.sl none s.bs.length (intsC s.bs) .no, AV.int .i64 s.m.st, AV.int .i64 s.m.s, AV.int .i64 s.m.e, AV.sl none s.m.edges.length (edgC s.m.edges) .no, AV.sl none s.m.tests.length (fltsC s.m.tests) .no])) (.ob ((8 : Nat) ≤ (8 : Nat)) (.ob (Ctr Tryd.prog 17 [AV.agg [AV.sl none s.ps.length (pthsC s.ps) .no, AV.sl none s.pg.length (pgsC s.pg) .no, AV.sl none s.bs.length (intsC s.bs) .no, AV.int .i64 s.m.st, AV.int .i64 s.m.s, AV.int .i64 s.m.e, AV.sl none s.m.edges.length (edgC s.m.edges) .no, AV.sl none s.m.tests.length (fltsC s.m.tests) .no]] (AV.int .i64 (↑n : Int))) (.ob ((↑n : Int) = (↑n : Int) ∧ (0 : Int) ≤ (↑n : Int) ∧ (↑n : Int) * (↑(1 : Nat) : Int) ≤ (281474976710656 : Int) ∧ (↑n : Int) ≤ (9223372036854775807 : Int)) (.ob ((3 : Nat) ≤ (3 : Nat)) (.ob (Ctr Tryd.prog 18 [AV.agg (pthL p)] (AV.sl none T.length (fltsC T) .no)) (.head (pt Tryd.f4 0) ({ tmps := [(3, AV.ptr 3 0), (5, AV.sl none L.length (evsC L) .no), (7, AV.int .i64 (↑k : Int)), (8, AV.ptr 8 0), (9, AV.row (42 : Nat) (0 : Nat) (↑n : Int).toNat), (10, AV.sl none T.length (fltsC T) .no), (11, AV.int .i64 (0 : Int))], heap := [(2, .var true (pthL p)), (3, .var true (evC e)), (8, .var true [AV.sl none s.ps.length (pthsC s.ps) .no, AV.sl none s.pg.length (pgsC s.pg) .no, AV.sl none s.bs.length (intsC s.bs) .no, AV.int .i64 s.m.st, AV.int .i64 s.m.s, AV.int .i64 s.m.e, AV.sl none s.m.edges.length (edgC s.m.edges) .no, AV.sl none s.m.tests.length (fltsC s.m.tests) .no]), (42, Blk.rows true (List.replicate (↑n : Int).toNat (zn (AV.int .u8 (0 : Int)))))], tags := [] }))))))))))))))))))))) (by kernel_rfl) (by
    simp only [PT.holds, true_implies, Bool.false_eq_true, Bool.true_eq_false, false_implies, true_and, and_true, repL0, List.nil_append, Nat.zero_add, Int.toNat_natCast, Int.toNat_zero, Nat.zero_mul]
    repeat' (with_reducible apply And.intro)
    all_goals first | assumption | omega))
theorem ah_h (p : Pth) (e : Ev) (s : St) (n : Nat) (L : List Ev) (T : List Flt) (k : Nat) (i : Nat) (b : Bool) (hi : i < T.length) (hT : T.length ≤ 1000) (hk : k < L.length) (ha : Ctr Tryd.prog 19 [.agg (stC s), .agg (fltL (T.getD i flt0)), .agg (evC e), .sl (some false) n (zbC n) .no] (.bool b)) (hb : Ctr Tryd.prog 19 [.agg (stC s), .agg (fltL (T.getD i flt0)), .agg (evC (L.getD k ev0)), .sl (some false) n (zbC n) .no] (.bool b)) (kk : HT Tryd.prog Tryd.f4.ntmps (pt Tryd.f4 0) (stHo p e s n L T k (i + 1)) (EndsA Γ (.pure [] (.bool true)) Tryd.f4)) : HT Tryd.prog Tryd.f4.ntmps (pt Tryd.f4 0) (stHo p e s n L T k i) (EndsA Γ (.pure [] (.bool true)) Tryd.f4) :=
  HT.walk Γ_ok mo_ok (⟨[(48, .val (.bool true)), (55, .val (.agg (fltL (T.getD i flt0)))), (58, .call [42] (.bool b)), (63, .val (.agg (fltL (T.getD i flt0)))), (67, .val (.agg (evC (L.getD k ev0)))), (69, .call [42] (.bool b)), (70, .val (.bool false))], [], hd4 [] [] [] [], [], .pure [] (.bool true)⟩ : Wk) 4000 (T := .ob (decide ((↑i : Int) < (↑T.length : Int)) = true) (.ob ((8 : Nat) ≤ (8 : Nat)) (.ob ((0 : Int) ≤ (↑i : Int) ∧ (↑i : Int) < (↑T.length : Int) ∧ (↑i : Int).toNat * (6 : Nat) < (fltsC T).length) (.ob (List.take (6 : Nat) (List.drop ((↑i : Int).toNat * (6 : Nat)) (fltsC T)) = (fltL (T.getD i flt0))) (.ob ((5 : Nat) ≤ (5 : Nat)) (.ob (Ctr Tryd.prog 19 [AV.agg [AV.sl none s.ps.length (pthsC s.ps) .no, AV.sl none s.pg.length (pgsC s.pg) .no, AV.sl none s.bs.length (intsC s.bs) .no, AV.int .i64 s.m.st, AV.int .i64 s.m.s, AV.int .i64 s.m.e, AV.sl none s.m.edges.length (edgC s.m.edges) .no, AV.sl none s.m.tests.length (fltsC s.m.tests) .no], AV.agg (fltL (T.getD i flt0)), AV.agg (evC e), AV.sl (some false) n (List.drop (0 : Nat) (zbC n)) .no] (AV.bool b)) (.ob ((8 : Nat) ≤ (8 : Nat)) (.ob ((0 : Int) ≤ (↑i : Int) ∧ (↑i : Int) < (↑T.length : Int) ∧ (↑i : Int).toNat * (6 : Nat) < (fltsC T).length) (.ob (List.take (6 : Nat) (List.drop ((↑i : Int).toNat * (6 : Nat)) (fltsC T)) = (fltL (T.getD i flt0))) (.ob ((0 : Int) ≤ (↑k : Int) ∧ (↑k : Int) < (↑L.length : Int) ∧ (↑k : Int).toNat * (5 : Nat) < (evsC L).length) (.ob (List.take (5 : Nat) (List.drop ((↑k : Int).toNat * (5 : Nat)) (evsC L)) = (evC (L.getD k ev0))) (.ob (Ctr Tryd.prog 19 [AV.agg [AV.sl none s.ps.length (pthsC s.ps) .no, AV.sl none s.pg.length (pgsC s.pg) .no, AV.sl none s.bs.length (intsC s.bs) .no, AV.int .i64 s.m.st, AV.int .i64 s.m.s, AV.int .i64 s.m.e, AV.sl none s.m.edges.length (edgC s.m.edges) .no, AV.sl none s.m.tests.length (fltsC s.m.tests) .no], AV.agg (fltL (T.getD i flt0)), AV.agg (evC (L.getD k ev0)), AV.sl (some false) n (List.drop (0 : Nat) (zbC n)) .no] (AV.bool b)) (.ob ((!b == b) = false) (.head (pt Tryd.f4 0) ({ tmps := [(3, AV.ptr 3 0), (5, AV.sl none L.length (evsC L) .no), (7, AV.int .i64 (↑k : Int)), (8, AV.ptr 8 0), (9, AV.row (42 : Nat) (0 : Nat) n), (10, AV.sl none T.length (fltsC T) .no), (11, AV.int .i64 (IntKind.i64.wrap ((↑i : Int) + (1 : Int))))], heap := [(2, .var true (pthL p)), (3, .var true (evC e)), (8, .var true [AV.sl none s.ps.length (pthsC s.ps) .no, AV.sl none s.pg.length (pgsC s.pg) .no, AV.sl none s.bs.length (intsC s.bs) .no, AV.int .i64 s.m.st, AV.int .i64 s.m.s, AV.int .i64 s.m.e, AV.sl none s.m.edges.length (edgC s.m.edges) .no, AV.sl none s.m.tests.length (fltsC s.m.tests) .no]), (42, Blk.rows true (zbC n))], tags := [] }))))))))))))))) (by kernel_rfl) (by
    have w2 : IntKind.i64.wrap ((i : Int) + 1) = ((i + 1 : Nat) : Int) := by rw [i64_wrap (by omega) (by omega)]; rfl
    simp only [PT.holds, w2, true_implies, Bool.false_eq_true, Bool.true_eq_false, false_implies, true_and, and_true, repL0, List.nil_append, Nat.zero_add, Int.toNat_natCast, Int.toNat_zero, Nat.zero_mul]
    repeat' (with_reducible apply And.intro)
    all_goals first | assumption | omega | exact decide_eq_true (by omega) | (simp [*]; done) | ((try simp only [Nat.add_assoc, Nat.reduceAdd, Nat.add_zero]) <;> first | (rw [ats_take _ _ _ _ hi (by decide)]; rfl) | (rw [evs_take _ _ _ _ hi (by decide)]; rfl) | (rw [pths_take _ _ _ _ hi (by decide)]; rfl) | (rw [flts_take _ _ _ _ hi (by decide)]; rfl) | (rw [ats_take0 _ _ _ hi (by decide)]; rfl) | (rw [evs_take0 _ _ _ hi (by decide)]; rfl) | (rw [pths_take0 _ _ _ hi (by decide)]; rfl) | (rw [flts_take0 _ _ _ hi (by decide)]; rfl)) | ((try simp only [Nat.add_assoc, Nat.reduceAdd, Nat.add_zero]) <;> first | (rw [ats_take _ _ _ _ hk (by decide)]; rfl) | (rw [evs_take _ _ _ _ hk (by decide)]; rfl) | (rw [pths_take _ _ _ _ hk (by decide)]; rfl) | (rw [flts_take _ _ _ _ hk (by decide)]; rfl) | (rw [ats_take0 _ _ _ hk (by decide)]; rfl) | (rw [evs_take0 _ _ _ hk (by decide)]; rfl) | (rw [pths_take0 _ _ _ hk (by decide)]; rfl) | (rw [flts_take0 _ _ _ hk (by decide)]; rfl)) | (simp only [pthsC_len, pgsC_len, ints_len, fltsC_len, zbC_len, evsC_len]; omega))
theorem ah_e (p : Pth) (e : Ev) (s : St) (n : Nat) (L : List Ev) (T : List Flt) (k : Nat) (i : Nat) (hi : i = T.length) : HT Tryd.prog Tryd.f4.ntmps (pt Tryd.f4 0) (stHo p e s n L T k i) (EndsA Γ (.pure [] (.bool true)) Tryd.f4) :=
  HT.walk Γ_ok mo_ok (⟨[(48, .val (.bool false)), (55, .val (.agg (fltL flt0))), (58, .call [42] (.bool true)), (63, .val (.agg (fltL flt0))), (67, .val (.agg (evC ev0))), (69, .call [42] (.bool true))], [], hd4 [] [] [] [], [], .pure [] (.bool true)⟩ : Wk) 4000 (T := .ob (decide ((↑i : Int) < (↑T.length : Int)) = false) (.ob (true = true) (.tt))) (by kernel_rfl) (by
    simp only [PT.holds, true_implies, Bool.false_eq_true, Bool.true_eq_false, false_implies, true_and, and_true, repL0, List.nil_append, Nat.zero_add, Int.toNat_natCast, Int.toNat_zero, Nat.zero_mul]
    repeat' (with_reducible apply And.intro)
    all_goals first | exact decide_eq_false (by omega))
end Go.Proofs.YteimloiaipiadaaDoor
end

section
set_option linter.unusedVariables false
set_option linter.unusedSimpArgs false
set_option maxRecDepth 100000
namespace Go.Proofs.YteimloiaipiadaaDoor
open Go Go.AX

mutual
theorem hfiltersP_ok : ∀ p : Pth, p.ok → ∀ f ∈ filtersP p, f.ok
  | .mk o sub test, h, f, hf => by
    have ho := Pth.ok_i h
    simp only [filtersP, List.mem_append] at hf
    rcases hf with hf | hf
    · exact hfiltersPs_ok sub ho.2.2.1 f hf
    · exact hwithinFs_ok test ho.2.2.2 f hf
theorem hfiltersPs_ok : ∀ l : List Pth, (∀ q ∈ l, q.ok) → ∀ f ∈ filtersPs l, f.ok
  | [], h, f, hf => by simp [filtersPs] at hf
  | p :: r, h, f, hf => by
    simp only [filtersPs, List.mem_append] at hf
    rcases hf with hf | hf
    · exact hfiltersP_ok p (h p (by simp)) f hf
    · exact hfiltersPs_ok r (fun q hq => h q (by simp [hq])) f hf
theorem hwithinF_ok : ∀ g : Flt, g.ok → ∀ f ∈ withinF g, f.ok
  | .mk o n v sub way, h, f, hf => by
    have ho := Flt.ok_i h
    simp only [withinF, List.mem_append, List.mem_cons] at hf
    rcases hf with hf | hf | hf
    · rw [hf]; exact h
    · exact hwithinFs_ok sub ho.2.2.2.2.1 f hf
    · exact hfiltersPs_ok way ho.2.2.2.2.2 f hf
theorem hwithinFs_ok : ∀ l : List Flt, (∀ q ∈ l, q.ok) → ∀ f ∈ withinFs l, f.ok
  | [], h, f, hf => by simp [withinFs] at hf
  | g :: r, h, f, hf => by
    simp only [withinFs, List.mem_append] at hf
    rcases hf with hf | hf
    · exact hwithinF_ok g (h g (by simp)) f hf
    · exact hwithinFs_ok r (fun q hq => h q (by simp [hq])) f hf
end
theorem hold_row (s : St) (hs : StR s) (e : Ev) (he : e.attrs.length ≤ 1048600) (n : Nat) (hn : (n : Int) = sumS s.pg) (f : Flt) (hok : f.ok) (hr : f.r) : Ctr Tryd.prog 19 [.agg (stC s), .agg (fltL f), .agg (evC e), .sl (some false) n (zbC n) .no] (.bool (hol e f)) :=
  (hold_ctr s hs e he n hn f hok hr).args rfl (by simp [All])
theorem holdsLaw_ctr (p : Pth) (hok : p.ok) (e : Ev) (he : e.ok) : Ctr Tryd.prog 4 [.agg (pthL p), .agg (evC e)] (.bool true) := by
  obtain ⟨x, hx, h10⟩ := rightp2_ex p hok
  cases x
  · exact ah_0 p e awake_ctr h10
  obtain ⟨xe, hxe, h14⟩ := node_ex e he
  cases xe
  · exact ah_1 p e awake_ctr h10 h14
  have hr := (hx rfl).1
  have hp := (hx rfl).2
  have hl := filters_64 p hp
  have h11 := Labels_all p hok hl
  unfold ansL ansC at h11
  by_cases h24 : (labsW (spkW p)).length ≤ 24
  · rw [if_pos h24, if_pos h24] at h11
    obtain ⟨hev, hnd, hk3⟩ := hxe rfl
    have hk : e.kind = 1 ∨ e.kind = 2 := by have := hev.1; omega
    have hW := spk_nd p hr
    have s3 := (speaks_small p hl).2.2.1
    obtain ⟨q, hq, hq1, hq2⟩ := just_one (spkW p) hW e hk hnd
    have hla : ∀ x ∈ labsW (spkW p), x.attrs.length ≤ 1048600 := fun x hx => by have := labsW_attrs _ _ hx; omega
    have h15 := Class_ctr p hok (by omega) (labsW (spkW p)) e (by omega) hla he.2.2.1
    have e1 : clsR (spkW p) e (labsW (spkW p)) 0 = ((0 + q : Nat) : Int) := clsR_at _ _ _ _ _ hq hq1 (fun j hj => by
      cases hh : likW (spkW p) ((labsW (spkW p)).getD j ev0) e with
      | false => rfl
      | true => exact absurd (hq2 j (by omega) hh) (by omega))
    rw [e1, Nat.zero_add] at h15
    obtain ⟨s, hs, h16⟩ := make_ex p ⟨hok, hr, hp⟩
    have hsum := sumS_le s.pg hs.r
    have hpg := hs.pg
    have hle := hs.le
    have h17 := items_ctr s hs
    obtain ⟨n, hn⟩ := Int.eq_ofNat_of_zero_le hsum.1
    rw [hn] at h17
    have h18 := filters_ctr p hok (by omega)
    have hF : ∀ f ∈ filtersP p, f.ok := hfiltersP_ok p hok
    have step : ∀ d i, i + d = (filtersP p).length → HT Tryd.prog Tryd.f4.ntmps (pt Tryd.f4 0) (stHo p e s n (labsW (spkW p)) (filtersP p) q i) (EndsA Γ (.pure [] (.bool true)) Tryd.f4) := by
      intro d
      induction d with
      | zero => exact fun i h => ah_e p e s n _ _ q i (by omega)
      | succ d ih =>
        intro i h
        have hi : i < (filtersP p).length := by omega
        have hm := getD_mem (filtersP p) i flt0 hi
        have ha := hold_row s hs e he.2.2.1 n hn.symm _ (hF _ hm) (filtersP_r p hr _ hm)
        have hb := hold_row s hs ((labsW (spkW p)).getD q ev0) (hla _ (getD_mem _ q ev0 hq)) n hn.symm _ (hF _ hm) (filtersP_r p hr _ hm)
        rw [hol_like p hr _ _ hq1 _ hm] at hb
        exact ah_h p e s n _ _ q i _ hi (by omega) hq ha hb (ih (i + 1) (by omega))
    exact ah_3 p e s n _ _ q awake_ctr h10 h14 h11 h15 h16 h17 h18 (by omega) (step _ 0 (Nat.zero_add _))
  · rw [if_neg h24, if_neg h24] at h11
    exact ah_2 p e [] awake_ctr h10 h14 h11

end Go.Proofs.YteimloiaipiadaaDoor
end
