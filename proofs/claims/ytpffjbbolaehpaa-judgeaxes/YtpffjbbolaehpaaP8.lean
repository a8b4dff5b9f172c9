import Derived.Test.YtpffjbbolaehpaaP7
import Derived.Test.YtpffjbbolaehpaaP6
section
set_option linter.unusedVariables false
set_option linter.unusedSimpArgs false
set_option maxRecDepth 100000
namespace Go.Proofs.Ytpffjbbolaehpaa
open Go Go.AX

def stV0 (t : Tr) (n : Nat) (last : Int) (i : Nat) (S : Pln) : AS := ⟨[(2, .ptr 1000003 0), (3, .ptr 1000004 0), (4, .ptr 4 0), (7, .int .i64 n), (8, .int .i64 last), (43, .sl none t.kids.length (trsC t.kids) .no), (44, .int .i64 t.kids.length), (45, .int .i64 i)], [(4, .var true (trL t)), (1000003, .var true (planC S)), (1000004, .var true visH)], planT S⟩
def annV (t : Tr) (n : Nat) (i : Nat) (S' : Pln) (at_ : Int) : List (Nat × Ann) := [(49, .val (.agg (trL (t.kids.getD i tr0)))), (55, .callM [] [] [1000003, 1000004] [1000010, 1000011, 1000012, 1000013, 1000014] (planM S').heap (planM S').tags (.int .i64 at_)), (73, .val (.int .i64 (S'.siz.getD n 0))), (78, .val (.int .i64 (S'.siz.getD at_.toNat 0)))]
theorem intsC_app (l : List Int) (a : Int) : intsC l ++ [.int .i64 a] = intsC (l ++ [a]) := by simp [intsC]
theorem intsC_len (l : List Int) : (intsC l).length = l.length := by simp [intsC]
theorem intsC_set (l : List Int) (n : Nat) (a : Int) : setAt (intsC l) n (cellsOf (.int .i64 a)) = intsC (l.set n a) := by simp [setAt, cellsOf, intsC, List.map_set]
theorem trsC_app (l : List Tr) (t : Tr) : trsC l ++ trL t = trsC (l ++ [t]) := by simp [trsC_eq, trC_L]
structure Pln.Good (S : Pln) (N : Nat) : Prop where
  par : S.par.length = N
  fst : S.fst.length = N
  nxt : S.nxt.length = N
  siz : S.siz.length = N
  tr : S.tr.length = N

theorem visit_h (t : Tr) (n : Nat) (last : Int) (i : Nat) (S S1 S' : Pln) (at_ N : Nat) (hi : i < t.kids.length) (hl : t.kids.length ≤ 1048600) (hb : t.isText = false) (hg : S1.Good N) (hN : n < N ∧ at_ < N ∧ N ≤ 1000000) (hlast : 0 < i → 0 ≤ last ∧ last < N) (hc : CtrM Try.prog 40 (planM S) [.agg (trL (t.kids.getD i tr0)), .int .i64 n, .ptr 1000003 0, .ptr 1000004 0] (planM S1) (.int .i64 at_)) (k : HT Try.prog Try.f40.ntmps (pt Try.f40 0) (stV0 t n at_ (i + 1) (S1.link n at_ last i)) (EndsA Γ (.mem [] (planM S') (.int .i64 n)) Try.f40)) : HT Try.prog Try.f40.ntmps (pt Try.f40 0) (stV0 t n last i S) (EndsA Γ (.mem [] (planM S') (.int .i64 n)) Try.f40) :=
  HT.walk Γ_ok mo_ok (⟨((annV t n i S1 at_) ++ annM), sp40, hd40 [] [] [1000003, 1000004] [1000010, 1000011, 1000012, 1000013, 1000014], [], .mem [] (planM S') (.int .i64 n)⟩ : Wk) 4000 (T := .split (decide ((↑i : Int) < (↑t.kids.length : Int))) (.ob ((0 : Int) ≤ (↑i : Int) ∧ (↑i : Int) < (↑t.kids.length : Int) ∧ (↑i : Int).toNat * (6 : Nat) < (trsC t.kids).length) (.ob (List.take (6 : Nat) (List.drop ((↑i : Int).toNat * (6 : Nat)) (trsC t.kids)) = (trL (t.kids.getD i tr0))) (.split (t.isText) (.ob ((↑n : Int) = (↑n : Int)) (.ob (S.par.length = S'.par.length) (.ob (intsC S.par = intsC S'.par) (.ob (S.fst.length = S'.fst.length) (.ob (S.nxt.length = S'.nxt.length) (.ob (S.siz.length = S'.siz.length) (.ob (S.tr.length = S'.tr.length) (.ob (trsC S.tr = trsC S'.tr) (.ob ((0 : Nat) = (0 : Nat)) (.ob ((0 : Nat) = (0 : Nat)) (.ob (S.par.length = S'.par.length) (.ob (S.fst.length = S'.fst.length) (.ob (intsC S.fst = intsC S'.fst) (.ob (S.nxt.length = S'.nxt.length) (.ob (intsC S.nxt = intsC S'.nxt) (.ob (S.siz.length = S'.siz.length) (.ob (intsC S.siz = intsC S'.siz) (.ob (S.tr.length = S'.tr.length) (.tt))))))))))))))))))) (.ob ((6 : Nat) ≤ (6 : Nat)) (.ob (CtrM Try.prog (40 : Nat) { heap := [(1000003, .var true [AV.sl none S.par.length (intsC S.par) (.own (1000010 : Nat)), AV.vec (1000011 : Nat) S.fst.length, AV.vec (1000012 : Nat) S.nxt.length, AV.vec (1000013 : Nat) S.siz.length, AV.sl none S.tr.length (trsC S.tr) (.own (1000014 : Nat))]), (1000004, .var true [AV.fn (40 : Nat) [AV.ptr 1000003 0, AV.ptr 1000004 0]])], tags := [(1000010, { n := S.par.length, e := (3 : Nat), sz := (1 : Nat) }), (1000011, { n := S.fst.length, e := (3 : Nat), sz := (1 : Nat), cs := some (true, intsC S.fst) }), (1000012, { n := S.nxt.length, e := (3 : Nat), sz := (1 : Nat), cs := some (true, intsC S.nxt) }), (1000013, { n := S.siz.length, e := (3 : Nat), sz := (1 : Nat), cs := some (true, intsC S.siz) }), (1000014, { n := S.tr.length, e := (39 : Nat), sz := (6 : Nat) })] } [AV.agg (trL (t.kids.getD i tr0)), AV.int .i64 (↑n : Int), AV.ptr 1000003 0, AV.ptr 1000004 0] { heap := [(1000003, .var true [AV.sl none S1.par.length (intsC S1.par) (.own (1000010 : Nat)), AV.vec (1000011 : Nat) S1.fst.length, AV.vec (1000012 : Nat) S1.nxt.length, AV.vec (1000013 : Nat) S1.siz.length, AV.sl none S1.tr.length (trsC S1.tr) (.own (1000014 : Nat))]), (1000004, .var true [AV.fn (40 : Nat) [AV.ptr 1000003 0, AV.ptr 1000004 0]])], tags := [(1000010, { n := S1.par.length, e := (3 : Nat), sz := (1 : Nat) }), (1000011, { n := S1.fst.length, e := (3 : Nat), sz := (1 : Nat), cs := some (true, intsC S1.fst) }), (1000012, { n := S1.nxt.length, e := (3 : Nat), sz := (1 : Nat), cs := some (true, intsC S1.nxt) }), (1000013, { n := S1.siz.length, e := (3 : Nat), sz := (1 : Nat), cs := some (true, intsC S1.siz) }), (1000014, { n := S1.tr.length, e := (39 : Nat), sz := (6 : Nat) })] } (AV.int .i64 (↑at_ : Int))) (.split (decide ((↑i : Int) = (0 : Int))) (.ob ((0 : Int) ≤ (↑n : Int) ∧ (↑n : Int) < (↑S1.fst.length : Int) ∧ S1.fst.length = S1.fst.length) (.ob (S1.fst.length = S1.fst.length ∧ (↑n : Int).toNat * (1 : Nat) + (1 : Nat) ≤ (intsC S1.fst).length) (.ob ((0 : Int) ≤ (↑n : Int) ∧ (↑n : Int) < (↑S1.siz.length : Int) ∧ S1.siz.length = S1.siz.length) (.ob (S1.siz.length = S1.siz.length) (.ob ((intsC S1.siz)[(↑n : Int).toNat * (1 : Nat)]? = some (AV.int .i64 (S1.siz.getD n (0 : Int)))) (.ob ((0 : Int) ≤ (↑at_ : Int) ∧ (↑at_ : Int) < (↑S1.siz.length : Int) ∧ S1.siz.length = S1.siz.length) (.ob (S1.siz.length = S1.siz.length) (.ob ((intsC S1.siz)[(↑at_ : Int).toNat * (1 : Nat)]? = some (AV.int .i64 (S1.siz.getD (↑at_ : Int).toNat (0 : Int)))) (.ob ((0 : Int) ≤ (↑n : Int) ∧ (↑n : Int) < (↑S1.siz.length : Int) ∧ S1.siz.length = S1.siz.length) (.ob (S1.siz.length = S1.siz.length ∧ (↑n : Int).toNat * (1 : Nat) + (1 : Nat) ≤ (intsC S1.siz).length) (.head (pt Try.f40 0) ({ tmps := [(2, AV.ptr 1000003 0), (3, AV.ptr 1000004 0), (4, AV.ptr 4 0), (7, AV.int .i64 (↑n : Int)), (8, AV.int .i64 (↑at_ : Int)), (43, AV.sl none t.kids.length (trsC t.kids) .no), (44, AV.int .i64 (↑t.kids.length : Int)), (45, AV.int .i64 (IntKind.i64.wrap ((↑i : Int) + (1 : Int))))], heap := [(4, .var true (trL t)), (1000003, .var true [AV.sl none S1.par.length (intsC S1.par) (.own (1000010 : Nat)), AV.vec (1000011 : Nat) S1.fst.length, AV.vec (1000012 : Nat) S1.nxt.length, AV.vec (1000013 : Nat) S1.siz.length, AV.sl none S1.tr.length (trsC S1.tr) (.own (1000014 : Nat))]), (1000004, .var true [AV.fn (40 : Nat) [AV.ptr 1000003 0, AV.ptr 1000004 0]])], tags := [(1000010, { n := S1.par.length, e := (3 : Nat), sz := (1 : Nat) }), (1000011, { n := S1.fst.length, e := (3 : Nat), sz := (1 : Nat), cs := some (true, setAt (intsC S1.fst) ((↑n : Int).toNat * (1 : Nat)) (cellsOf (AV.int .i64 (↑at_ : Int)))) }), (1000012, { n := S1.nxt.length, e := (3 : Nat), sz := (1 : Nat), cs := some (true, intsC S1.nxt) }), (1000013, { n := S1.siz.length, e := (3 : Nat), sz := (1 : Nat), cs := some (true, setAt (intsC S1.siz) ((↑n : Int).toNat * (1 : Nat)) (cellsOf (AV.int .i64 (IntKind.i64.wrap (S1.siz.getD n (0 : Int) + S1.siz.getD (↑at_ : Int).toNat (0 : Int)))))) }), (1000014, { n := S1.tr.length, e := (39 : Nat), sz := (6 : Nat) })] })))))))))))) (.ob ((0 : Int) ≤ last ∧ last < (↑S1.nxt.length : Int) ∧ S1.nxt.length = S1.nxt.length) (.ob (S1.nxt.length = S1.nxt.length ∧ last.toNat * (1 : Nat) + (1 : Nat) ≤ (intsC S1.nxt).length) (.ob ((0 : Int) ≤ (↑n : Int) ∧ (↑n : Int) < (↑S1.siz.length : Int) ∧ S1.siz.length = S1.siz.length) (.ob (S1.siz.length = S1.siz.length) (.ob ((intsC S1.siz)[(↑n : Int).toNat * (1 : Nat)]? = some (AV.int .i64 (S1.siz.getD n (0 : Int)))) (.ob ((0 : Int) ≤ (↑at_ : Int) ∧ (↑at_ : Int) < (↑S1.siz.length : Int) ∧ S1.siz.length = S1.siz.length) (.ob (S1.siz.length = S1.siz.length) (.ob ((intsC S1.siz)[(↑at_ : Int).toNat * (1 : Nat)]? = some (AV.int .i64 (S1.siz.getD (↑at_ : Int).toNat (0 : Int)))) (.ob ((0 : Int) ≤ (↑n : Int) ∧ (↑n : Int) < (↑S1.siz.length : Int) ∧ S1.siz.length = S1.siz.length) (.ob (S1.siz.length = S1.siz.length ∧ (↑n : Int).toNat * (1 : Nat) + (1 : Nat) ≤ (intsC S1.siz).length) (.head (pt Try.f40 0) ({ tmps := [(2, AV.ptr 1000003 0), (3, AV.ptr 1000004 0), (4, AV.ptr 4 0), (7, AV.int .i64 (↑n : Int)), (8, AV.int .i64 (↑at_ : Int)), (43, AV.sl none t.kids.length (trsC t.kids) .no), (44, AV.int .i64 (↑t.kids.length : Int)), (45, AV.int .i64 (IntKind.i64.wrap ((↑i : Int) + (1 : Int))))], heap := [(4, .var true (trL t)), (1000003, .var true [AV.sl none S1.par.length (intsC S1.par) (.own (1000010 : Nat)), AV.vec (1000011 : Nat) S1.fst.length, AV.vec (1000012 : Nat) S1.nxt.length, AV.vec (1000013 : Nat) S1.siz.length, AV.sl none S1.tr.length (trsC S1.tr) (.own (1000014 : Nat))]), (1000004, .var true [AV.fn (40 : Nat) [AV.ptr 1000003 0, AV.ptr 1000004 0]])], tags := [(1000010, { n := S1.par.length, e := (3 : Nat), sz := (1 : Nat) }), (1000011, { n := S1.fst.length, e := (3 : Nat), sz := (1 : Nat), cs := some (true, intsC S1.fst) }), (1000012, { n := S1.nxt.length, e := (3 : Nat), sz := (1 : Nat), cs := some (true, setAt (intsC S1.nxt) (last.toNat * (1 : Nat)) (cellsOf (AV.int .i64 (↑at_ : Int)))) }), (1000013, { n := S1.siz.length, e := (3 : Nat), sz := (1 : Nat), cs := some (true, setAt (intsC S1.siz) ((↑n : Int).toNat * (1 : Nat)) (cellsOf (AV.int .i64 (IntKind.i64.wrap (S1.siz.getD n (0 : Int) + S1.siz.getD (↑at_ : Int).toNat (0 : Int)))))) }), (1000014, { n := S1.tr.length, e := (39 : Nat), sz := (6 : Nat) })] })))))))))))))))))) (.ob ((↑n : Int) = (↑n : Int)) (.ob (S.par.length = S'.par.length) (.ob (intsC S.par = intsC S'.par) (.ob (S.fst.length = S'.fst.length) (.ob (S.nxt.length = S'.nxt.length) (.ob (S.siz.length = S'.siz.length) (.ob (S.tr.length = S'.tr.length) (.ob (trsC S.tr = trsC S'.tr) (.ob ((0 : Nat) = (0 : Nat)) (.ob ((0 : Nat) = (0 : Nat)) (.ob (S.par.length = S'.par.length) (.ob (S.fst.length = S'.fst.length) (.ob (intsC S.fst = intsC S'.fst) (.ob (S.nxt.length = S'.nxt.length) (.ob (intsC S.nxt = intsC S'.nxt) (.ob (S.siz.length = S'.siz.length) (.ob (intsC S.siz = intsC S'.siz) (.ob (S.tr.length = S'.tr.length) (.tt)))))))))))))))))))) (by kernel_rfl) (by
    have w2 : IntKind.i64.wrap ((i : Int) + 1) = ((i + 1 : Nat) : Int) := by rw [i64_wrap (by omega) (by omega)]; rfl
    have h0 : decide ((i : Int) < t.kids.length) = true := by simp; omega
    have hp := hg.par
    have hf := hg.fst
    have hx := hg.nxt
    have hs := hg.siz
    have ht := hg.tr
    have g1 : (intsC S1.siz)[n]? = some (.int .i64 (S1.siz.getD n 0)) := by simp [intsC, hs, hN.1, List.getD_eq_getElem?_getD]
    have g2 : (intsC S1.siz)[at_]? = some (.int .i64 (S1.siz.getD at_ 0)) := by simp [intsC, hs, hN.2.1, List.getD_eq_getElem?_getD]
    simp only [PT.holds, w2, h0, hb, Int.toNat_natCast, trsC_len, intsC_len, Nat.mul_one, g1, g2, true_implies, Bool.false_eq_true, Bool.true_eq_false, false_implies, true_and, and_true]
    refine ⟨by omega, by ((try simp only [Nat.add_assoc, Nat.reduceAdd, Nat.add_zero]) <;> first | (rw [ats_take _ _ _ _ hi (by decide)]; rfl) | (rw [ats_nth _ _ _ hi (by decide)]; rfl) | (rw [trs_take _ _ _ _ hi (by decide)]; rfl) | (rw [trs_nth _ _ _ hi (by decide)]; rfl) | (rw [ats_take0 _ _ _ hi (by decide)]; rfl) | (rw [ats_nth0 _ _ hi]; rfl) | (rw [trs_take0 _ _ _ hi (by decide)]; rfl) | (rw [trs_nth0 _ _ hi]; rfl)), by omega, hc, fun h1 => ?_, fun h1 => ?_⟩
    · have hi0 : i = 0 := by simp only [decide_eq_true_eq] at h1; omega
      refine ⟨by omega, by omega, by omega, by omega, by omega, by omega, ?_⟩
      refine head_eq k ?_
      simp only [stV0, planC, planT, Pln.link, if_pos hi0, intsC_set, List.length_set, visH, trL, hb]
    · have hi0 : 0 < i := by simp only [decide_eq_false_iff_not] at h1; omega
      have hla := hlast hi0
      refine ⟨by omega, by omega, by omega, by omega, by omega, by omega, ?_⟩
      refine head_eq k ?_
      simp only [stV0, planC, planT, Pln.link, if_neg (Nat.ne_of_gt hi0), intsC_set, List.length_set, visH, trL, hb])
theorem visit_e (t : Tr) (n : Nat) (last : Int) (i : Nat) (S : Pln) (hi : i < t.kids.length → t.isText = true) : HT Try.prog Try.f40.ntmps (pt Try.f40 0) (stV0 t n last i S) (EndsA Γ (.mem [] (planM S) (.int .i64 n)) Try.f40) :=
  HT.walk Γ_ok mo_ok (⟨((annV t n i S 0) ++ annM), sp40, hd40 [] [] [1000003, 1000004] [1000010, 1000011, 1000012, 1000013, 1000014], [], .mem [] (planM S) (.int .i64 n)⟩ : Wk) 4000 (T := .split (decide ((↑i : Int) < (↑t.kids.length : Int))) (.ob ((0 : Int) ≤ (↑i : Int) ∧ (↑i : Int) < (↑t.kids.length : Int) ∧ (↑i : Int).toNat * (6 : Nat) < (trsC t.kids).length) (.ob (List.take (6 : Nat) (List.drop ((↑i : Int).toNat * (6 : Nat)) (trsC t.kids)) = (trL (t.kids.getD i tr0))) (.split (t.isText) (.ob ((↑n : Int) = (↑n : Int)) (.ob (S.par.length = S.par.length) (.ob (intsC S.par = intsC S.par) (.ob (S.fst.length = S.fst.length) (.ob (S.nxt.length = S.nxt.length) (.ob (S.siz.length = S.siz.length) (.ob (S.tr.length = S.tr.length) (.ob (trsC S.tr = trsC S.tr) (.ob ((0 : Nat) = (0 : Nat)) (.ob ((0 : Nat) = (0 : Nat)) (.ob (S.par.length = S.par.length) (.ob (S.fst.length = S.fst.length) (.ob (intsC S.fst = intsC S.fst) (.ob (S.nxt.length = S.nxt.length) (.ob (intsC S.nxt = intsC S.nxt) (.ob (S.siz.length = S.siz.length) (.ob (intsC S.siz = intsC S.siz) (.ob (S.tr.length = S.tr.length) (.tt))))))))))))))))))) (.ob ((6 : Nat) ≤ (6 : Nat)) (.ob (CtrM Try.prog (40 : Nat) { heap := [(1000003, .var true [AV.sl none S.par.length (intsC S.par) (.own (1000010 : Nat)), AV.vec (1000011 : Nat) S.fst.length, AV.vec (1000012 : Nat) S.nxt.length, AV.vec (1000013 : Nat) S.siz.length, AV.sl none S.tr.length (trsC S.tr) (.own (1000014 : Nat))]), (1000004, .var true [AV.fn (40 : Nat) [AV.ptr 1000003 0, AV.ptr 1000004 0]])], tags := [(1000010, { n := S.par.length, e := (3 : Nat), sz := (1 : Nat) }), (1000011, { n := S.fst.length, e := (3 : Nat), sz := (1 : Nat), cs := some (true, intsC S.fst) }), (1000012, { n := S.nxt.length, e := (3 : Nat), sz := (1 : Nat), cs := some (true, intsC S.nxt) }), (1000013, { n := S.siz.length, e := (3 : Nat), sz := (1 : Nat), cs := some (true, intsC S.siz) }), (1000014, { n := S.tr.length, e := (39 : Nat), sz := (6 : Nat) })] } [AV.agg (trL (t.kids.getD i tr0)), AV.int .i64 (↑n : Int), AV.ptr 1000003 0, AV.ptr 1000004 0] { heap := [(1000003, .var true [AV.sl none S.par.length (intsC S.par) (.own (1000010 : Nat)), AV.vec (1000011 : Nat) S.fst.length, AV.vec (1000012 : Nat) S.nxt.length, AV.vec (1000013 : Nat) S.siz.length, AV.sl none S.tr.length (trsC S.tr) (.own (1000014 : Nat))]), (1000004, .var true [AV.fn (40 : Nat) [AV.ptr 1000003 0, AV.ptr 1000004 0]])], tags := [(1000010, { n := S.par.length, e := (3 : Nat), sz := (1 : Nat) }), (1000011, { n := S.fst.length, e := (3 : Nat), sz := (1 : Nat), cs := some (true, intsC S.fst) }), (1000012, { n := S.nxt.length, e := (3 : Nat), sz := (1 : Nat), cs := some (true, intsC S.nxt) }), (1000013, { n := S.siz.length, e := (3 : Nat), sz := (1 : Nat), cs := some (true, intsC S.siz) }), (1000014, { n := S.tr.length, e := (39 : Nat), sz := (6 : Nat) })] } (AV.int .i64 (0 : Int))) (.split (decide ((↑i : Int) = (0 : Int))) (.ob ((0 : Int) ≤ (↑n : Int) ∧ (↑n : Int) < (↑S.fst.length : Int) ∧ S.fst.length = S.fst.length) (.ob (S.fst.length = S.fst.length ∧ (↑n : Int).toNat * (1 : Nat) + (1 : Nat) ≤ (intsC S.fst).length) (.ob ((0 : Int) ≤ (↑n : Int) ∧ (↑n : Int) < (↑S.siz.length : Int) ∧ S.siz.length = S.siz.length) (.ob (S.siz.length = S.siz.length) (.ob ((intsC S.siz)[(↑n : Int).toNat * (1 : Nat)]? = some (AV.int .i64 (S.siz.getD n (0 : Int)))) (.ob ((0 : Int) ≤ (0 : Int) ∧ (0 : Int) < (↑S.siz.length : Int) ∧ S.siz.length = S.siz.length) (.ob (S.siz.length = S.siz.length) (.ob ((intsC S.siz)[Int.toNat (0 : Int) * (1 : Nat)]? = some (AV.int .i64 (S.siz.getD (Int.toNat (0 : Int)) (0 : Int)))) (.ob ((0 : Int) ≤ (↑n : Int) ∧ (↑n : Int) < (↑S.siz.length : Int) ∧ S.siz.length = S.siz.length) (.ob (S.siz.length = S.siz.length ∧ (↑n : Int).toNat * (1 : Nat) + (1 : Nat) ≤ (intsC S.siz).length) (.head (pt Try.f40 0) ({ tmps := [(2, AV.ptr 1000003 0), (3, AV.ptr 1000004 0), (4, AV.ptr 4 0), (7, AV.int .i64 (↑n : Int)), (8, AV.int .i64 (0 : Int)), (43, AV.sl none t.kids.length (trsC t.kids) .no), (44, AV.int .i64 (↑t.kids.length : Int)), (45, AV.int .i64 (IntKind.i64.wrap ((↑i : Int) + (1 : Int))))], heap := [(4, .var true (trL t)), (1000003, .var true [AV.sl none S.par.length (intsC S.par) (.own (1000010 : Nat)), AV.vec (1000011 : Nat) S.fst.length, AV.vec (1000012 : Nat) S.nxt.length, AV.vec (1000013 : Nat) S.siz.length, AV.sl none S.tr.length (trsC S.tr) (.own (1000014 : Nat))]), (1000004, .var true [AV.fn (40 : Nat) [AV.ptr 1000003 0, AV.ptr 1000004 0]])], tags := [(1000010, { n := S.par.length, e := (3 : Nat), sz := (1 : Nat) }), (1000011, { n := S.fst.length, e := (3 : Nat), sz := (1 : Nat), cs := some (true, setAt (intsC S.fst) ((↑n : Int).toNat * (1 : Nat)) (cellsOf (AV.int .i64 (0 : Int)))) }), (1000012, { n := S.nxt.length, e := (3 : Nat), sz := (1 : Nat), cs := some (true, intsC S.nxt) }), (1000013, { n := S.siz.length, e := (3 : Nat), sz := (1 : Nat), cs := some (true, setAt (intsC S.siz) ((↑n : Int).toNat * (1 : Nat)) (cellsOf (AV.int .i64 (IntKind.i64.wrap (S.siz.getD n (0 : Int) + S.siz.getD (Int.toNat (0 : Int)) (0 : Int)))))) }), (1000014, { n := S.tr.length, e := (39 : Nat), sz := (6 : Nat) })] })))))))))))) (.ob ((0 : Int) ≤ last ∧ last < (↑S.nxt.length : Int) ∧ S.nxt.length = S.nxt.length) (.ob (S.nxt.length = S.nxt.length ∧ last.toNat * (1 : Nat) + (1 : Nat) ≤ (intsC S.nxt).length) (.ob ((0 : Int) ≤ (↑n : Int) ∧ (↑n : Int) < (↑S.siz.length : Int) ∧ S.siz.length = S.siz.length) (.ob (S.siz.length = S.siz.length) (.ob ((intsC S.siz)[(↑n : Int).toNat * (1 : Nat)]? = some (AV.int .i64 (S.siz.getD n (0 : Int)))) (.ob ((0 : Int) ≤ (0 : Int) ∧ (0 : Int) < (↑S.siz.length : Int) ∧ S.siz.length = S.siz.length) (.ob (S.siz.length = S.siz.length) (.ob ((intsC S.siz)[Int.toNat (0 : Int) * (1 : Nat)]? = some (AV.int .i64 (S.siz.getD (Int.toNat (0 : Int)) (0 : Int)))) (.ob ((0 : Int) ≤ (↑n : Int) ∧ (↑n : Int) < (↑S.siz.length : Int) ∧ S.siz.length = S.siz.length) (.ob (S.siz.length = S.siz.length ∧ (↑n : Int).toNat * (1 : Nat) + (1 : Nat) ≤ (intsC S.siz).length) (.head (pt Try.f40 0) ({ tmps := [(2, AV.ptr 1000003 0), (3, AV.ptr 1000004 0), (4, AV.ptr 4 0), (7, AV.int .i64 (↑n : Int)), (8, AV.int .i64 (0 : Int)), (43, AV.sl none t.kids.length (trsC t.kids) .no), (44, AV.int .i64 (↑t.kids.length : Int)), (45, AV.int .i64 (IntKind.i64.wrap ((↑i : Int) + (1 : Int))))], heap := [(4, .var true (trL t)), (1000003, .var true [AV.sl none S.par.length (intsC S.par) (.own (1000010 : Nat)), AV.vec (1000011 : Nat) S.fst.length, AV.vec (1000012 : Nat) S.nxt.length, AV.vec (1000013 : Nat) S.siz.length, AV.sl none S.tr.length (trsC S.tr) (.own (1000014 : Nat))]), (1000004, .var true [AV.fn (40 : Nat) [AV.ptr 1000003 0, AV.ptr 1000004 0]])], tags := [(1000010, { n := S.par.length, e := (3 : Nat), sz := (1 : Nat) }), (1000011, { n := S.fst.length, e := (3 : Nat), sz := (1 : Nat), cs := some (true, intsC S.fst) }), (1000012, { n := S.nxt.length, e := (3 : Nat), sz := (1 : Nat), cs := some (true, setAt (intsC S.nxt) (last.toNat * (1 : Nat)) (cellsOf (AV.int .i64 (0 : Int)))) }), (1000013, { n := S.siz.length, e := (3 : Nat), sz := (1 : Nat), cs := some (true, setAt (intsC S.siz) ((↑n : Int).toNat * (1 : Nat)) (cellsOf (AV.int .i64 (IntKind.i64.wrap (S.siz.getD n (0 : Int) + S.siz.getD (Int.toNat (0 : Int)) (0 : Int)))))) }), (1000014, { n := S.tr.length, e := (39 : Nat), sz := (6 : Nat) })] })))))))))))))))))) (.ob ((↑n : Int) = (↑n : Int)) (.ob (S.par.length = S.par.length) (.ob (intsC S.par = intsC S.par) (.ob (S.fst.length = S.fst.length) (.ob (S.nxt.length = S.nxt.length) (.ob (S.siz.length = S.siz.length) (.ob (S.tr.length = S.tr.length) (.ob (trsC S.tr = trsC S.tr) (.ob ((0 : Nat) = (0 : Nat)) (.ob ((0 : Nat) = (0 : Nat)) (.ob (S.par.length = S.par.length) (.ob (S.fst.length = S.fst.length) (.ob (intsC S.fst = intsC S.fst) (.ob (S.nxt.length = S.nxt.length) (.ob (intsC S.nxt = intsC S.nxt) (.ob (S.siz.length = S.siz.length) (.ob (intsC S.siz = intsC S.siz) (.ob (S.tr.length = S.tr.length) (.tt)))))))))))))))))))) (by kernel_rfl) (by
    by_cases h : i < t.kids.length
    · have h0 : decide ((i : Int) < t.kids.length) = true := by simp; omega
      have hb := hi h
      simp only [PT.holds, h0, hb, Int.toNat_natCast, trsC_len, true_implies, Bool.false_eq_true, Bool.true_eq_false, false_implies, true_and, and_true]
      exact ⟨by omega, by ((try simp only [Nat.add_assoc, Nat.reduceAdd, Nat.add_zero]) <;> first | (rw [ats_take _ _ _ _ h (by decide)]; rfl) | (rw [ats_nth _ _ _ h (by decide)]; rfl) | (rw [trs_take _ _ _ _ h (by decide)]; rfl) | (rw [trs_nth _ _ _ h (by decide)]; rfl) | (rw [ats_take0 _ _ _ h (by decide)]; rfl) | (rw [ats_nth0 _ _ h]; rfl) | (rw [trs_take0 _ _ _ h (by decide)]; rfl) | (rw [trs_nth0 _ _ h]; rfl))⟩
    · have h0 : decide ((i : Int) < t.kids.length) = false := by simp; omega
      simp only [PT.holds, h0, true_implies, Bool.false_eq_true, Bool.true_eq_false, false_implies, true_and, and_true])
theorem visit_p (t : Tr) (p : Int) (S S' : Pln) (N : Nat) (hg : S.Good N) (hN : N ≤ 1000000) (k : HT Try.prog Try.f40.ntmps (pt Try.f40 0) (stV0 t S.tr.length (-1) 0 (S.push t p)) (EndsA Γ (.mem [] (planM S') (.int .i64 S.tr.length)) Try.f40)) : CtrM Try.prog 40 (planM S) [.agg (trL t), .int .i64 p, .ptr 1000003 0, .ptr 1000004 0] (planM S') (.int .i64 S.tr.length) :=
  CtrM.mk Γ_ok Try.func40 (by kernel_rfl) Try.call40 [] (by kernel_rfl) (by kernel_rfl) (by kernel_rfl) (HT.walk Γ_ok mo_ok (⟨annM, sp40, hd40 [] [] [1000003, 1000004] [1000010, 1000011, 1000012, 1000013, 1000014], [], .mem [] (planM S') (.int .i64 S.tr.length)⟩ : Wk) 4000 (T := .ob (S.par.length = S.par.length) (.ob ((intsC S.par).length = S.par.length * ((0 : Nat) + (1 : Nat)) ∧ (splice (repL (List.map zn [AV.int .i64 (0 : Int)]) (1 : Nat)) ((0 : Nat) * (1 : Nat)) (cellsOf (AV.int .i64 p))).length = (1 : Nat) * ((0 : Nat) + (1 : Nat)) ∧ (S.par.length + (1 : Nat)) * ((7 : Nat) + (1 : Nat)) ≤ (140737488355328 : Nat)) (.ob (S.fst.length = S.fst.length ∧ (splice (repL (List.map zn [AV.int .i64 (0 : Int)]) (1 : Nat)) ((0 : Nat) * (1 : Nat)) (cellsOf (AV.int .i64 (-1 : Int)))).length = (1 : Nat) * ((0 : Nat) + (1 : Nat)) ∧ (S.fst.length + (1 : Nat)) * ((7 : Nat) + (1 : Nat)) ≤ (140737488355328 : Nat)) (.ob (S.nxt.length = S.nxt.length ∧ (splice (repL (List.map zn [AV.int .i64 (0 : Int)]) (1 : Nat)) ((0 : Nat) * (1 : Nat)) (cellsOf (AV.int .i64 (-1 : Int)))).length = (1 : Nat) * ((0 : Nat) + (1 : Nat)) ∧ (S.nxt.length + (1 : Nat)) * ((7 : Nat) + (1 : Nat)) ≤ (140737488355328 : Nat)) (.ob (S.siz.length = S.siz.length ∧ (splice (repL (List.map zn [AV.int .i64 (0 : Int)]) (1 : Nat)) ((0 : Nat) * (1 : Nat)) (cellsOf (AV.int .i64 (1 : Int)))).length = (1 : Nat) * ((0 : Nat) + (1 : Nat)) ∧ (S.siz.length + (1 : Nat)) * ((7 : Nat) + (1 : Nat)) ≤ (140737488355328 : Nat)) (.ob ((6 : Nat) ≤ (6 : Nat)) (.ob (S.tr.length = S.tr.length) (.ob ((trsC S.tr).length = S.tr.length * ((5 : Nat) + (1 : Nat)) ∧ (splice (repL (List.map zn [AV.bool false, AV.str (ByteArray.mk #[]), AV.str (ByteArray.mk #[]), AV.str (ByteArray.mk #[]), AV.sl (some true) (0 : Nat) [] .clip, AV.sl (some true) (0 : Nat) [] .clip]) (1 : Nat)) ((0 : Nat) * (6 : Nat)) (cellsOf (AV.agg (trL t)))).length = (1 : Nat) * ((5 : Nat) + (1 : Nat)) ∧ (S.tr.length + (1 : Nat)) * ((103 : Nat) + (1 : Nat)) ≤ (140737488355328 : Nat)) (.head (pt Try.f40 0) ({ tmps := [(2, AV.ptr 1000003 0), (3, AV.ptr 1000004 0), (4, AV.ptr 4 0), (7, AV.int .i64 (↑S.tr.length : Int)), (8, AV.int .i64 (-1 : Int)), (43, AV.sl none t.kids.length (trsC t.kids) .no), (44, AV.int .i64 (↑t.kids.length : Int)), (45, AV.int .i64 (0 : Int))], heap := [(4, .var true (trL t)), (1000003, .var true [AV.sl none (S.par.length + (1 : Nat)) (intsC S.par ++ splice (repL (List.map zn [AV.int .i64 (0 : Int)]) (1 : Nat)) ((0 : Nat) * (1 : Nat)) (cellsOf (AV.int .i64 p))) (.own (1000010 : Nat)), AV.vec (1000011 : Nat) (S.fst.length + (1 : Nat)), AV.vec (1000012 : Nat) (S.nxt.length + (1 : Nat)), AV.vec (1000013 : Nat) (S.siz.length + (1 : Nat)), AV.sl none (S.tr.length + (1 : Nat)) (trsC S.tr ++ splice (repL (List.map zn [AV.bool false, AV.str (ByteArray.mk #[]), AV.str (ByteArray.mk #[]), AV.str (ByteArray.mk #[]), AV.sl (some true) (0 : Nat) [] .clip, AV.sl (some true) (0 : Nat) [] .clip]) (1 : Nat)) ((0 : Nat) * (6 : Nat)) (cellsOf (AV.agg (trL t)))) (.own (1000014 : Nat))]), (1000004, .var true [AV.fn (40 : Nat) [AV.ptr 1000003 0, AV.ptr 1000004 0]])], tags := [(1000010, { n := S.par.length + (1 : Nat), e := (3 : Nat), sz := (1 : Nat) }), (1000011, { n := S.fst.length + (1 : Nat), e := (3 : Nat), sz := (1 : Nat), cs := some (true, intsC S.fst ++ splice (repL (List.map zn [AV.int .i64 (0 : Int)]) (1 : Nat)) ((0 : Nat) * (1 : Nat)) (cellsOf (AV.int .i64 (-1 : Int)))) }), (1000012, { n := S.nxt.length + (1 : Nat), e := (3 : Nat), sz := (1 : Nat), cs := some (true, intsC S.nxt ++ splice (repL (List.map zn [AV.int .i64 (0 : Int)]) (1 : Nat)) ((0 : Nat) * (1 : Nat)) (cellsOf (AV.int .i64 (-1 : Int)))) }), (1000013, { n := S.siz.length + (1 : Nat), e := (3 : Nat), sz := (1 : Nat), cs := some (true, intsC S.siz ++ splice (repL (List.map zn [AV.int .i64 (0 : Int)]) (1 : Nat)) ((0 : Nat) * (1 : Nat)) (cellsOf (AV.int .i64 (1 : Int)))) }), (1000014, { n := S.tr.length + (1 : Nat), e := (39 : Nat), sz := (6 : Nat) })] })))))))))) (by kernel_rfl) (by
    have hp := hg.par
    have hf := hg.fst
    have hx := hg.nxt
    have hs := hg.siz
    have ht := hg.tr
    simp only [PT.holds, intsC_len, trsC_len, true_and]
    refine ⟨⟨by omega, rfl, by omega⟩, ⟨rfl, by omega⟩, ⟨rfl, by omega⟩, ⟨rfl, by omega⟩, by omega, ⟨rfl, by omega⟩, ?_⟩
    refine head_eq k ?_
    simp [stV0, planC, planT, Pln.push, ← intsC_app, ← trsC_app, visH, trL, splice, repL, cellsOf]))
end Go.Proofs.Ytpffjbbolaehpaa
end

section
set_option linter.unusedVariables false
set_option linter.unusedSimpArgs false
set_option maxRecDepth 100000
namespace Go.Proofs.Ytpffjbbolaehpaa
open Go Go.AX

theorem Pln.Good.push {S : Pln} {N : Nat} (h : S.Good N) (t : Tr) (p : Int) : (S.push t p).Good (N + 1) := by
  constructor <;> simp [Pln.push, h.par, h.fst, h.nxt, h.siz, h.tr]
theorem Pln.Good.link {S : Pln} {N : Nat} (h : S.Good N) (n a : Nat) (l : Int) (i : Nat) : (S.link n a l i).Good N := by
  refine ⟨h.par, ?_, ?_, ?_, h.tr⟩
  · show (if i = 0 then S.fst.set n a else S.fst).length = N
    split <;> simp [h.fst]
  · show (if i = 0 then S.nxt else S.nxt.set l.toNat a).length = N
    split <;> simp [h.nxt]
  · simp [Pln.link, h.siz]
mutual
theorem visit_good (t : Tr) (p : Int) (S : Pln) (N : Nat) (h : S.Good N) : ∃ N', (visitS t p S).Good N' ∧ N < N' ∧ N' ≤ N + cntT t := by
  match t with
  | .mk b tx nm a kids =>
    cases b with
    | true => exact ⟨N + 1, by simpa [visitS] using h.push _ _, by omega, by simp [cntT]⟩
    | false =>
      obtain ⟨N', h1, h2, h3⟩ := kids_good kids S.tr.length 0 (-1) _ (N + 1) (h.push (.mk false tx nm a kids) p)
      exact ⟨N', by simpa [visitS] using h1, by omega, by simp [cntT]; omega⟩
theorem kids_good (r : List Tr) (n i : Nat) (l : Int) (S : Pln) (N : Nat) (h : S.Good N) : ∃ N', (kidsS r n i l S).Good N' ∧ N ≤ N' ∧ N' ≤ N + cntL r := by
  match r with
  | [] => exact ⟨N, by simpa [kidsS] using h, by omega, by omega⟩
  | k :: r =>
    obtain ⟨N1, h1, h2, h3⟩ := visit_good k n S N h
    obtain ⟨N2, h4, h5, h6⟩ := kids_good r n (i + 1) S.tr.length _ N1 (h1.link n S.tr.length l i)
    exact ⟨N2, by simpa [kidsS] using h4, by omega, by simp [cntL]; omega⟩
end
theorem cntL_len : ∀ l : List Tr, l.length ≤ cntL l
  | [] => by simp
  | k :: r => by
    have := cntL_len r
    have h : 1 ≤ cntT k := by cases k; simp [cntT]
    simp [cntL]
    omega
mutual
theorem visit_ctr (t : Tr) (p : Int) (S : Pln) (N : Nat) (hg : S.Good N) (hN : N + cntT t ≤ 1000000) : CtrM Try.prog 40 (planM S) [.agg (trL t), .int .i64 p, .ptr 1000003 0, .ptr 1000004 0] (planM (visitS t p S)) (.int .i64 S.tr.length) := by
  match t with
  | .mk b tx nm a kids =>
    have hc : 1 + cntL kids = cntT (.mk b tx nm a kids) := by simp [cntT]
    cases b with
    | true =>
      have := visit_p (.mk true tx nm a kids) p S (S.push (.mk true tx nm a kids) p) N hg (by omega) (visit_e _ _ _ _ _ (fun _ => rfl))
      simpa [visitS] using this
    | false =>
      have hk := kids_ctr kids (.mk false tx nm a kids) S.tr.length 0 (-1) (S.push (.mk false tx nm a kids) p) (N + 1) (by simp [Tr.kids]) rfl (hg.push _ _) (by rw [hg.tr]; omega) (by omega) (fun h => by omega)
      have := visit_p (.mk false tx nm a kids) p S _ N hg (by omega) hk
      simpa [visitS] using this
termination_by SizeOf.sizeOf t
theorem kids_ctr (r : List Tr) (t : Tr) (n i : Nat) (last : Int) (S : Pln) (N : Nat) (hr : t.kids.drop i = r) (hb : t.isText = false) (hg : S.Good N) (hn : n < N) (hN : N + cntL r ≤ 1000000) (hl : 0 < i → 0 ≤ last ∧ last < N) (hi : t.kids.length ≤ 1048600 := by first | assumption | (simp [Tr.kids]; have := cntL_len kids; omega)) :
    HT Try.prog Try.f40.ntmps (pt Try.f40 0) (stV0 t n last i S) (EndsA Γ (.mem [] (planM (kidsS r n i last S)) (.int .i64 n)) Try.f40) := by
  match r with
  | [] =>
    have hlen : t.kids.length ≤ i := by
      have := congrArg List.length hr
      simp at this
      omega
    have := visit_e t n last i S (fun h => by omega)
    simpa [kidsS] using this
  | k :: r =>
    have hlt : i < t.kids.length := by
      have := congrArg List.length hr
      simp at this
      omega
    have hd := List.drop_eq_getElem_cons hlt
    rw [hr] at hd
    have e1 : k = t.kids.getD i tr0 := by
      rw [List.getD_eq_getElem?_getD, List.getElem?_eq_getElem hlt]
      exact (List.cons.inj hd).1
    have e2 : t.kids.drop (i + 1) = r := (List.cons.inj hd).2.symm
    obtain ⟨N1, h1, h2, h3⟩ := visit_good k n S N hg
    have hcl : cntL (k :: r) = cntT k + cntL r := by simp [cntL]
    have hv := visit_ctr k n S N hg (by omega)
    have hk := kids_ctr r t n (i + 1) S.tr.length ((visitS k n S).link n S.tr.length last i) N1 e2 hb (h1.link _ _ _ _) (by omega) (by omega) (fun _ => ⟨by omega, by have := hg.tr; omega⟩) hi
    have := visit_h t n last i S (visitS k n S) _ S.tr.length N1 hlt hi hb h1 ⟨by omega, by have := hg.tr; omega, by omega⟩ (fun h => by have := hl h; omega) (by rw [← e1]; exact hv) hk
    simpa [kidsS] using this
termination_by SizeOf.sizeOf r
end

theorem make_ex (t : Tr) (hN : cntT t ≤ 1000000) (S' : Pln) (hS : S' = visitS t (-1) pln0) : Ctr Try.prog 30 [.agg (trL t)] (.agg (planL S')) :=
  Ctr.mk Γ_ok Try.func30 (by kernel_rfl) Try.call30 [6000011, 6000012, 6000013] (by kernel_rfl) (HT.walk Γ_ok mo_ok (⟨([(3, .id 1000003), (4, .id 1000004), (8, .callM [(false, 1000003, 0, 1000010, 3, 1), (true, 1000003, 1, 1000011, 3, 1), (true, 1000003, 2, 1000012, 3, 1), (true, 1000003, 3, 1000013, 3, 1), (false, 1000003, 4, 1000014, 39, 6)] [] [1000003, 1000004] [1000010, 1000011, 1000012, 1000013, 1000014] (planM S').heap (planM S').tags (.int .i64 0))] ++ annM), sp30, [], [], .pure [6000011, 6000012, 6000013] (.agg (planL S'))⟩ : Wk) 4000 (T := .ob ((6 : Nat) ≤ (6 : Nat)) (.ob (CtrM Try.prog (40 : Nat) { heap := [(1000003, .var true [AV.sl none (0 : Nat) [] (.own (1000010 : Nat)), AV.vec (1000011 : Nat) (0 : Nat), AV.vec (1000012 : Nat) (0 : Nat), AV.vec (1000013 : Nat) (0 : Nat), AV.sl none (0 : Nat) [] (.own (1000014 : Nat))]), (1000004, .var true [AV.fn (40 : Nat) [AV.ptr 1000003 0, AV.ptr 1000004 0]])], tags := [(1000010, { n := (0 : Nat), e := (3 : Nat), sz := (1 : Nat) }), (1000011, { n := (0 : Nat), e := (3 : Nat), sz := (1 : Nat), cs := some (true, []) }), (1000012, { n := (0 : Nat), e := (3 : Nat), sz := (1 : Nat), cs := some (true, []) }), (1000013, { n := (0 : Nat), e := (3 : Nat), sz := (1 : Nat), cs := some (true, []) }), (1000014, { n := (0 : Nat), e := (39 : Nat), sz := (6 : Nat) })] } [AV.agg (trL t), AV.int .i64 (-1 : Int), AV.ptr 1000003 0, AV.ptr 1000004 0] { heap := [(1000003, .var true [AV.sl none S'.par.length (intsC S'.par) (.own (1000010 : Nat)), AV.vec (1000011 : Nat) S'.fst.length, AV.vec (1000012 : Nat) S'.nxt.length, AV.vec (1000013 : Nat) S'.siz.length, AV.sl none S'.tr.length (trsC S'.tr) (.own (1000014 : Nat))]), (1000004, .var true [AV.fn (40 : Nat) [AV.ptr 1000003 0, AV.ptr 1000004 0]])], tags := [(1000010, { n := S'.par.length, e := (3 : Nat), sz := (1 : Nat) }), (1000011, { n := S'.fst.length, e := (3 : Nat), sz := (1 : Nat), cs := some (true, intsC S'.fst) }), (1000012, { n := S'.nxt.length, e := (3 : Nat), sz := (1 : Nat), cs := some (true, intsC S'.nxt) }), (1000013, { n := S'.siz.length, e := (3 : Nat), sz := (1 : Nat), cs := some (true, intsC S'.siz) }), (1000014, { n := S'.tr.length, e := (39 : Nat), sz := (6 : Nat) })] } (AV.int .i64 (0 : Int))) (.ob ((5 : Nat) ≤ (5 : Nat)) (.ob (S'.par.length = S'.par.length) (.ob (intsC S'.par = intsC S'.par) (.ob (S'.fst.length = S'.fst.length) (.ob (S'.fst.length = S'.fst.length) (.ob (intsC S'.fst = intsC S'.fst) (.ob (S'.nxt.length = S'.nxt.length) (.ob (S'.nxt.length = S'.nxt.length) (.ob (intsC S'.nxt = intsC S'.nxt) (.ob (S'.siz.length = S'.siz.length) (.ob (S'.siz.length = S'.siz.length) (.ob (intsC S'.siz = intsC S'.siz) (.ob (S'.tr.length = S'.tr.length) (.ob (trsC S'.tr = trsC S'.tr) (.tt))))))))))))))))) (by kernel_rfl) (by
    subst hS
    simp only [PT.holds, and_true, true_and]
    exact ⟨by omega, visit_ctr t (-1) pln0 0 ⟨rfl, rfl, rfl, rfl, rfl⟩ (by omega), by omega⟩))
end Go.Proofs.Ytpffjbbolaehpaa
end

section
set_option linter.unusedVariables false
set_option linter.unusedSimpArgs false
set_option maxRecDepth 100000
namespace Go.Proofs.Ytpffjbbolaehpaa
open Go Go.AX

def cntF (s : List Bool) : Nat := s.countP (fun b => !b)
theorem cntF_le : ∀ s : List Bool, cntF s ≤ s.length := fun s => List.countP_le_length
theorem cntF_or : ∀ (s t : List Bool), s.length = t.length → cntF (orZ s t) ≤ cntF s ∧ (orZ s t ≠ s → cntF (orZ s t) < cntF s)
  | [], t, h => by simp [orZ, cntF]
  | a :: s, [], h => by simp at h
  | a :: s, b :: t, h => by
    have ih := cntF_or s t (by simpa using h)
    have e : orZ (a :: s) (b :: t) = (a || b) :: orZ s t := rfl
    rw [e]
    unfold cntF at ih ⊢
    cases a <;> cases b <;> simp [List.countP_cons] <;> first | exact ⟨ih.1, fun h => by have := ih.2 h; omega⟩ | omega | (refine ⟨by omega, fun h => ?_⟩; have := ih.2 h; omega) | exact ih
theorem star_l (P : Pln) (p : Pth) (N : Nat) (hN : 0 < N ∧ N ≤ 1000000) (hc : ∀ s : List Bool, s.length = N → Ctr Try.prog 31 [.agg (planL P), .agg (pthL p), (.sl none (s).length (boolsC (s)) .no)] (.sl none (leadsJ P p s).length (boolsC (leadsJ P p s)) .no)) : ∀ d s, s.length = N → cntF s < d → HT Try.prog Try.f43.ntmps (pt Try.f43 0) (stSt43 P p s) (EndsA Γ (.pure [] ((.sl none (starF (leadsJ P p) d s).length (boolsC (starF (leadsJ P p) d s)) .no))) Try.f43) := by
  intro d
  induction d with
  | zero => exact fun s hs h => absurd h (Nat.not_lt_zero _)
  | succ d ih =>
    intro s hs h
    have hl := leads_len P N p s hs
    refine star_h P p s (leadsJ P p s) _ (by rw [hl, hs]) (by omega) (hc s hs) (fun hne => ?_) (fun he => ?_)
    · have h2 := (cntF_or s (leadsJ P p s) (by omega)).2 hne
      have := ih (orZ s (leadsJ P p s)) (by rw [orZ_len _ _ (by omega), hl]) (by omega)
      simpa only [starF, if_neg hne] using this
    · simp only [starF, if_pos he]
theorem seq_l (P : Pln) (p : Pth) (N M : Nat) (hl : p.sub.length ≤ 1048600) (hc : ∀ q ∈ p.sub, ∀ s : List Bool, s.length = N → Ctr Try.prog 31 [.agg (planL P), .agg (pthL q), (.sl none (s).length (boolsC (s)) .no)] (.sl none (leadsJ P q s).length (boolsC (leadsJ P q s)) .no)) : ∀ d i s, i + d = p.sub.length → s.length = N → HT Try.prog Try.f31.ntmps (pt Try.f31 0) (stS0 P p M s i) (EndsA Γ (.pure [1000017] ((.sl none (seqJ P (p.sub.drop i) s).length (boolsC (seqJ P (p.sub.drop i) s)) .no))) Try.f31) := by
  intro d
  induction d with
  | zero =>
    intro i s h hs
    rw [List.drop_of_length_le (by omega)]
    exact seq_e P p M s i (by omega)
  | succ d ih =>
    intro i s h hs
    have hlt : i < p.sub.length := by omega
    have hd : p.sub.drop i = p.sub.getD i pth0 :: p.sub.drop (i + 1) := by
      rw [List.drop_eq_getElem_cons hlt, List.getD_eq_getElem?_getD, List.getElem?_eq_getElem hlt]
      rfl
    rw [hd]
    simp only [seqJ]
    exact seq_h P p M s _ _ i hlt hl (hc _ (getD_mem _ _ _ hlt) s hs) (ih (i + 1) _ (by omega) (leads_len P N _ s hs))
theorem alt_l (P : Pln) (p : Pth) (N M : Nat) (hN : 0 < N ∧ N ≤ 1000000) (hl : p.sub.length ≤ 1048600) (s : List Bool) (hs : s.length = N) (hc : ∀ q ∈ p.sub, Ctr Try.prog 31 [.agg (planL P), .agg (pthL q), (.sl none (s).length (boolsC (s)) .no)] (.sl none (leadsJ P q s).length (boolsC (leadsJ P q s)) .no)) : ∀ d i out, i + d = p.sub.length → out.length = N → HT Try.prog Try.f31.ntmps (pt Try.f31 1) (stS2 P p M s out i) (EndsA Γ (.pure [1000017] ((.sl none (altJ P (p.sub.drop i) s out).length (boolsC (altJ P (p.sub.drop i) s out)) .no))) Try.f31) := by
  intro d
  induction d with
  | zero =>
    intro i out h ho
    rw [List.drop_of_length_le (by omega)]
    exact alt_e P p M s out i (by omega)
  | succ d ih =>
    intro i out h ho
    have hlt : i < p.sub.length := by omega
    have hd : p.sub.drop i = p.sub.getD i pth0 :: p.sub.drop (i + 1) := by
      rw [List.drop_eq_getElem_cons hlt, List.getD_eq_getElem?_getD, List.getElem?_eq_getElem hlt]
      rfl
    have h1 := leads_len P N (p.sub.getD i pth0) s hs
    rw [hd]
    simp only [altJ]
    exact alt_h2 P p M s out _ _ _ i hlt hl (hc _ (getD_mem _ _ _ hlt)) (either_ctr out _ (by omega) (by omega)) (ih (i + 1) _ (by omega) (by rw [orZ_len _ _ (by omega), h1]))
theorem alt_0 (P : Pln) (p : Pth) (N : Nat) (hN : 0 < N ∧ N ≤ 1000000) (hl : p.sub.length ≤ 1048600) (h0 : 0 < p.sub.length) (s : List Bool) (hs : s.length = N) (hc : ∀ q ∈ p.sub, Ctr Try.prog 31 [.agg (planL P), .agg (pthL q), (.sl none (s).length (boolsC (s)) .no)] (.sl none (leadsJ P q s).length (boolsC (leadsJ P q s)) .no)) : HT Try.prog Try.f31.ntmps (pt Try.f31 1) (stS1 P p s.length s 0) (EndsA Γ (.pure [1000017] ((.sl none (altJ P p.sub s (noneL s.length)).length (boolsC (altJ P p.sub s (noneL s.length))) .no))) Try.f31) := by
  have hd : p.sub = p.sub.getD 0 pth0 :: p.sub.drop 1 := by
    cases h : p.sub with
    | nil => rw [h] at h0; simp at h0
    | cons a r => simp
  have h1 := leads_len P N (p.sub.getD 0 pth0) s hs
  have hn := noneL_len s.length
  have := alt_h1 P p s.length s (leadsJ P (p.sub.getD 0 pth0) s) (orZ (noneL s.length) (leadsJ P (p.sub.getD 0 pth0) s)) _ 0 h0 hl (hc _ (getD_mem _ _ _ h0)) (either_ctr (noneL s.length) _ (by omega) (by omega)) (alt_l P p N s.length hN hl s hs hc (p.sub.length - 1) 1 _ (by omega) (by rw [orZ_len _ _ (by omega), h1]))
  have e : altJ P p.sub s (noneL s.length) = altJ P (p.sub.drop 1) s (orZ (noneL s.length) (leadsJ P (p.sub.getD 0 pth0) s)) := by
    conv => lhs; rw [hd]
    simp only [altJ]
  rw [e]
  exact this
theorem whereF_len (g : Nat → Bool) (s : List Bool) : (whereF g s).length = s.length := by simp [whereF]
theorem whereF_get (g : Nat → Bool) (s : List Bool) (j : Nat) (hj : j < s.length) : (whereF g s).getD j false = (s.getD j false && g j) := by simp [whereF, List.getD_eq_getElem?_getD, hj]
theorem where_l (P : Pln) (p : Pth) (N : Nat) (hN : 0 < N ∧ N ≤ 1000000) (s : List Bool) (hs : s.length = N) (ht : 0 < p.test.length) (g : Nat → Bool) (hc : ∀ k, k < N → Ctr Try.prog 33 [.agg (planL P), .agg (fltL (p.test.getD 0 flt0)), .int .i64 k] (.bool (g k))) : ∀ d i out, i + d = s.length → out.length = s.length → (∀ j, j < s.length → out.getD j false = if j < i then (s.getD j false && g j) else false) → HT Try.prog Try.f31.ntmps (pt Try.f31 2) (stS3 P p s out i) (EndsA Γ (.pure [1000017] ((.sl none (whereF g s).length (boolsC (whereF g s)) .no))) Try.f31) := by
  intro d
  induction d with
  | zero =>
    intro i out h ho hg
    have e : out = whereF g s := ext_getD false (by rw [ho, whereF_len]) fun j hj => by
      rw [whereF_len] at hj
      rw [hg j hj, if_pos (by omega), whereF_get g s j hj]
    rw [← e]
    exact where_e P p s out i (by omega)
  | succ d ih =>
    intro i out h ho hg
    have hi : i < s.length := by omega
    refine where_h P p s out _ i (g i) hi ho (by omega) ht (hc i (by omega)) (ih (i + 1) _ (by omega) (by simp [ho]) fun j hj => ?_)
    rw [getD_set _ _ _ _ _ (by omega)]
    split
    · rename_i e; subst e; rw [if_pos (Nat.lt_succ_self _)]
    · rename_i e; rw [hg j hj]; congr 1; simp; omega

theorem star_p (P : Pln) (p : Pth) (s R : List Bool) (k : HT Try.prog Try.f43.ntmps (pt Try.f43 0) (stSt43 P p s) (EndsA Γ (.pure [] (.sl none R.length (boolsC R) .no)) Try.f43)) : Ctr Try.prog 43 [.agg (planL P), .agg (pthL p), .sl none s.length (boolsC s) .no] (.sl none R.length (boolsC R) .no) :=
  Ctr.mk Γ_ok Try.func43 (by kernel_rfl) Try.call43 [] (by kernel_rfl) (HT.walk Γ_ok mo_ok (⟨[], sp43, hd43 [] [] [] [], [], .pure [] (.sl none R.length (boolsC R) .no)⟩ : Wk) 4000 (T := .head (pt Try.f43 0) ({ tmps := [(2, AV.sl none s.length (boolsC s) .no), (3, AV.ptr 3 0), (4, AV.ptr 4 0)], heap := [(3, .var true (planL P)), (4, .var true (pthL p))], tags := [] })) (by kernel_rfl) (by
    simp only [PT.holds]
    exact k))
theorem Pth.r_i {p : Pth} (h : p.r) : p.r1 ∧ (∀ q ∈ p.sub, q.r) ∧ ∀ f ∈ p.test, f.r := by cases h with | mk _ h1 h2 h3 => exact ⟨h1, h2, h3⟩
theorem Flt.r_i {p : Flt} (h : p.r) : p.r1 ∧ (∀ q ∈ p.sub, q.r) ∧ ∀ f ∈ p.way, f.r := by cases h with | mk _ h1 h2 h3 => exact ⟨h1, h2, h3⟩
theorem starJ_eq (P : Pln) (l : List Pth) (s : List Bool) (h : 0 < l.length) : starJ P l s = starF (leadsJ P (l.getD 0 pth0)) (s.length + 1) s := by
  cases l with
  | nil => simp at h
  | cons f r => simp [starJ]
theorem whereJ_eq (P : Pln) (l : List Flt) (s : List Bool) (h : 0 < l.length) : whereJ P l s = whereF (holdsJ P (l.getD 0 flt0)) s := by
  cases l with
  | nil => simp at h
  | cons f r => simp [whereJ]
mutual
theorem leads_ctr (P : Pln) (N : Nat) (hP : PW P N) (p : Pth) (hr : p.r) (hok : p.ok) (s : List Bool) (hs : s.length = N) : Ctr Try.prog 31 [.agg (planL P), .agg (pthL p), (.sl none (s).length (boolsC (s)) .no)] (.sl none (leadsJ P p s).length (boolsC (leadsJ P p s)) .no) := by
  have hr1 := (Pth.r_i hr).1
  have ho := Pth.ok_i hok
  refine leads_p P p s _ N hP hs hr1 rfl (fun h4 => ?_) (fun h5 => ?_) (fun h6 => ?_) (fun h7 => ?_)
  · have := seq_l P p N s.length ho.1 (fun q hq s hs => have := sub_lt p q hq; leads_ctr P N hP q ((Pth.r_i hr).2.1 q hq) (ho.2.2.1 q hq) s hs) p.sub.length 0 s (Nat.zero_add _) hs
    have e : leadsJ P p s = seqJ P p.sub s := by rw [leadsJ_eq]; simp [h4]
    rw [e]
    exact this
  · have h2 := hr1.two (.inr h5)
    have := alt_0 P p N hP.n ho.1 (by omega) s hs (fun q hq => have := sub_lt p q hq; leads_ctr P N hP q ((Pth.r_i hr).2.1 q hq) (ho.2.2.1 q hq) s hs)
    have e : leadsJ P p s = altJ P p.sub s (noneL s.length) := by rw [leadsJ_eq]; simp [h5]
    rw [e]
    exact this
  · have h0 : 0 < p.sub.length := by have := hr1.one h6; omega
    have hq := getD_mem p.sub 0 pth0 h0
    rw [starJ_eq P _ s h0]
    exact star_p P _ s _ (star_l P _ N hP.n (fun s hs => have := sub_lt p _ hq; leads_ctr P N hP _ ((Pth.r_i hr).2.1 _ hq) (ho.2.2.1 _ hq) s hs) _ s hs (Nat.lt_succ_of_le (cntF_le s)))
  · have h0 : 0 < p.test.length := by have := hr1.test.1 h7; omega
    have hq := getD_mem p.test 0 flt0 h0
    have e : leadsJ P p s = whereF (holdsJ P (p.test.getD 0 flt0)) s := by rw [leadsJ_eq]; simp [h7, whereJ_eq P _ s h0]
    rw [e]
    exact where_l P p N hP.n s hs h0 _ (fun k hk => have := test_lt p _ hq; holds_ctr P N hP _ ((Pth.r_i hr).2.2 _ hq) (ho.2.2.2 _ hq) k hk) s.length 0 _ (Nat.zero_add _) (noneL_len _) (fun j hj => by simp [noneL, List.getD_eq_getElem?_getD, hj])
termination_by SizeOf.sizeOf p
theorem holds_ctr (P : Pln) (N : Nat) (hP : PW P N) (f : Flt) (hr : f.r) (hok : f.ok) (k : Nat) (hk : k < N) : Ctr Try.prog 33 [.agg (planL P), .agg (fltL f), .int .i64 k] (.bool (holdsJ P f k)) := by
  have hr1 := (Flt.r_i hr).1
  have ho := Flt.ok_i hok
  have hsub : ∀ q ∈ f.sub, Ctr Try.prog 44 [.agg (fltL q), .rop (planL P) 0, .rop [.int .i64 k] 0] (.bool (holdsJ P q k)) := fun q hq => in_ctr P k q _ (have := fsub_lt f q hq; holds_ctr P N hP q ((Flt.r_i hr).2.1 q hq) (ho.2.2.2.2.1 q hq) k hk)
  refine holds_p P f k N _ hP hk hr1 rfl (fun h8 => ?_) (fun h9 => ?_) (fun h10 => ?_) (fun h11 s hs => ?_)
  · have h0 : 0 < f.sub.length := by have := hr1.one h8; omega
    exact hsub _ (getD_mem _ _ _ h0)
  · exact cfb_ctr P k f.sub _ ho.2.2.1 (fun q hq => notin_ctr P k q _ (hsub q hq))
  · exact cfa_ctr P k f.sub _ ho.2.2.1 hsub
  · have h0 : 0 < f.way.length := by have := hr1.way.1 h11; omega
    have hq := getD_mem f.way 0 pth0 h0
    exact have := way_lt f _ hq; leads_ctr P N hP _ ((Flt.r_i hr).2.2 _ hq) (ho.2.2.2.2.2 _ hq) s hs
termination_by SizeOf.sizeOf f
end

end Go.Proofs.Ytpffjbbolaehpaa
end

section
set_option linter.unusedVariables false
set_option linter.unusedSimpArgs false
namespace Go.Proofs.Ytpffjbbolaehpaa
open Go Go.AX

/-! ### What Make tells points forward -/
def FwdL (l : List Int) (N : Nat) : Prop := ∀ j, j < N → l.getD j 0 = -1 ∨ ((j : Int) < l.getD j 0 ∧ l.getD j 0 < N)
structure Inv (S : Pln) (N : Nat) : Prop where
  good : S.Good N
  fst : FwdL S.fst N
  nxt : FwdL S.nxt N
theorem FwdL.push {l : List Int} {N : Nat} (hl : l.length = N) (h : FwdL l N) : FwdL (l ++ [-1]) (N + 1) := by
  intro j hj
  rcases Nat.lt_or_eq_of_le (Nat.lt_succ_iff.1 hj) with h1 | h1
  · have e : (l ++ [-1]).getD j 0 = l.getD j 0 := by
      rw [List.getD_eq_getElem?_getD, List.getElem?_append_left (by omega), ← List.getD_eq_getElem?_getD]
    rw [e]
    have := h j h1
    omega
  · left
    rw [List.getD_eq_getElem?_getD, h1, ← hl, List.getElem?_append_right (Nat.le_refl _)]
    simp
theorem FwdL.set {l : List Int} {N : Nat} (hl : l.length = N) (h : FwdL l N) (i a : Nat) (hi : i < a) (ha : a < N) : FwdL (l.set i a) N := by
  intro j hj
  rw [getD_set _ _ _ _ _ (by omega)]
  split
  · rename_i e
    right
    omega
  · exact h j hj
theorem Inv.push {S : Pln} {N : Nat} (h : Inv S N) (t : Tr) (p : Int) : Inv (S.push t p) (N + 1) :=
  ⟨h.good.push t p, h.fst.push h.good.fst, h.nxt.push h.good.nxt⟩
theorem Inv.link {S : Pln} {N : Nat} (h : Inv S N) (n a : Nat) (l : Int) (i : Nat) (hn : n < a) (ha : a < N) (hl : 0 < i → 0 ≤ l ∧ l < a) : Inv (S.link n a l i) N := by
  refine ⟨h.good.link n a l i, ?_, ?_⟩
  · show FwdL (if i = 0 then S.fst.set n a else S.fst) N
    split
    · exact h.fst.set h.good.fst n a hn ha
    · exact h.fst
  · show FwdL (if i = 0 then S.nxt else S.nxt.set l.toNat a) N
    split
    · exact h.nxt
    · rename_i hi
      have := hl (by omega)
      exact h.nxt.set h.good.nxt l.toNat a (by omega) ha
mutual
theorem visit_inv (t : Tr) (p : Int) (S : Pln) (N : Nat) (h : Inv S N) : ∃ N', Inv (visitS t p S) N' ∧ N < N' := by
  match t with
  | .mk b tx nm a kids =>
    cases b with
    | true => exact ⟨N + 1, by simpa [visitS] using h.push _ _, by omega⟩
    | false =>
      obtain ⟨N', h1, h2⟩ := kids_inv kids S.tr.length 0 (-1) _ (N + 1) (h.push (.mk false tx nm a kids) p) (by have := h.good.tr; omega) (fun h => by omega)
      exact ⟨N', by simpa [visitS] using h1, by omega⟩
theorem kids_inv (r : List Tr) (n i : Nat) (l : Int) (S : Pln) (N : Nat) (h : Inv S N) (hn : n < N) (hl : 0 < i → 0 ≤ l ∧ l < N) : ∃ N', Inv (kidsS r n i l S) N' ∧ N ≤ N' := by
  match r with
  | [] => exact ⟨N, by simpa [kidsS] using h, by omega⟩
  | k :: r =>
    have htr := h.good.tr
    obtain ⟨N1, h1, h2⟩ := visit_inv k n S N h
    obtain ⟨N2, h4, h5⟩ := kids_inv r n (i + 1) S.tr.length _ N1 (h1.link n S.tr.length l i (by omega) (by omega) (fun hi => by have := hl hi; omega)) (by omega) (fun _ => by omega)
    exact ⟨N2, by simpa [kidsS] using h4, by omega⟩
end
/-! The trees' attributes -/
mutual
def Tr.okA : Tr → Prop
  | .mk b tx nm a kids => a.length ≤ 1048600 ∧ okAs kids
def okAs : List Tr → Prop
  | [] => True
  | k :: r => k.okA ∧ okAs r
end
mutual
theorem visit_ats (t : Tr) (p : Int) (S : Pln) (ht : t.okA) (h : ∀ u ∈ S.tr, u.attrs.length ≤ 1048600) : ∀ u ∈ (visitS t p S).tr, u.attrs.length ≤ 1048600 := by
  match t with
  | .mk b tx nm a kids =>
    simp only [Tr.okA] at ht
    have hp : ∀ u ∈ (S.push (.mk b tx nm a kids) p).tr, u.attrs.length ≤ 1048600 := by
      intro u hm
      rcases List.mem_append.1 hm with h1 | h1
      · exact h u h1
      · rw [List.mem_singleton.1 h1]; exact ht.1
    cases b with
    | true => simpa [visitS] using hp
    | false =>
      have := kids_ats kids S.tr.length 0 (-1) _ ht.2 hp
      simpa [visitS] using this
theorem kids_ats (r : List Tr) (n i : Nat) (l : Int) (S : Pln) (hr : okAs r) (h : ∀ u ∈ S.tr, u.attrs.length ≤ 1048600) : ∀ u ∈ (kidsS r n i l S).tr, u.attrs.length ≤ 1048600 := by
  match r with
  | [] => simpa [kidsS] using h
  | k :: r =>
    simp only [okAs] at hr
    have h1 := visit_ats k n S hr.1 h
    have := kids_ats r n (i + 1) S.tr.length ((visitS k n S).link n S.tr.length l i) hr.2 h1
    simpa [kidsS] using this
end
theorem make_pw (t : Tr) (ht : t.okA) (hN : cntT t ≤ 1000000) : ∃ N, PW (visitS t (-1) pln0) N ∧ FwdL (visitS t (-1) pln0).fst N ∧ FwdL (visitS t (-1) pln0).nxt N := by
  obtain ⟨N, h1, h2⟩ := visit_inv t (-1) pln0 0 ⟨⟨rfl, rfl, rfl, rfl, rfl⟩, fun j hj => by omega, fun j hj => by omega⟩
  obtain ⟨N', g1, g2, g3⟩ := visit_good t (-1) pln0 0 ⟨rfl, rfl, rfl, rfl, rfl⟩
  have hNN : N = N' := by rw [← h1.good.tr, g1.tr]
  refine ⟨N, ⟨⟨by omega, by omega⟩, h1.good.par, h1.good.fst, h1.good.nxt, h1.good.siz, h1.good.tr, fun j hj => ?_, fun j hj => ?_, visit_ats t (-1) pln0 ht (fun u hm => by cases hm)⟩, h1.fst, h1.nxt⟩
  · have := h1.fst j hj; omega
  · have := h1.nxt j hj; omega
end Go.Proofs.Ytpffjbbolaehpaa
end

section
set_option linter.unusedVariables false
set_option linter.unusedSimpArgs false
set_option maxRecDepth 100000
namespace Go.Proofs.Ytpffjbbolaehpaa
open Go Go.AX

def stFr (P : Pln) (p : Pth) (t : Tr) (s : List Bool) (out : List Int) (i : Nat) : AS := ⟨[(8, .sl none out.length (intsC out) (.own 1)), (29, .sl none s.length (boolsC s) .no), (30, .int .i64 s.length), (31, .int .i64 i)], [(3, .var true (pthL p)), (4, .var true (trL t)), (7, .var true (planL P))], [(1, ⟨out.length, 3, 1, none⟩)]⟩
/-- The places of a set, from a place on. -/
def placesJ (s : List Bool) : Nat → Nat → List Int
  | 0, _ => []
  | d + 1, i => if s.getD i false then (i : Int) :: placesJ s d (i + 1) else placesJ s d (i + 1)
theorem from_h (P : Pln) (p : Pth) (t : Tr) (s : List Bool) (out R : List Int) (i : Nat) (hi : i < s.length) (ho : out.length ≤ i) (hN : s.length ≤ 1000000) (k : HT Try.prog Try.f16.ntmps (pt Try.f16 0) (stFr P p t s (if s.getD i false then out ++ [(i : Int)] else out) (i + 1)) (EndsA Γ (.pure [] (.sl none R.length (intsC R) .no)) Try.f16)) : HT Try.prog Try.f16.ntmps (pt Try.f16 0) (stFr P p t s out i) (EndsA Γ (.pure [] (.sl none R.length (intsC R) .no)) Try.f16) :=
  HT.walk Γ_ok mo_ok (⟨([(35, .val (.bool (s.getD i false)))] ++ []), sp16, hd16 [(8, 1, 3, 1)] [] [] [], [], .pure [] (.sl none R.length (intsC R) .no)⟩ : Wk) 4000 (T := .split (decide ((↑i : Int) < (↑s.length : Int))) (.ob ((0 : Int) ≤ (↑i : Int) ∧ (↑i : Int) < (↑s.length : Int) ∧ (↑i : Int).toNat * (1 : Nat) < (boolsC s).length) (.ob ((boolsC s)[(↑i : Int).toNat * (1 : Nat)]? = some (AV.bool (s.getD i false))) (.split (s.getD i false) (.ob (out.length = out.length) (.ob ((intsC out).length = out.length * ((0 : Nat) + (1 : Nat)) ∧ (splice (repL (List.map zn [AV.int .i64 (0 : Int)]) (1 : Nat)) ((0 : Nat) * (1 : Nat)) (cellsOf (AV.int .i64 (↑i : Int)))).length = (1 : Nat) * ((0 : Nat) + (1 : Nat)) ∧ (out.length + (1 : Nat)) * ((7 : Nat) + (1 : Nat)) ≤ (140737488355328 : Nat)) (.head (pt Try.f16 0) ({ tmps := [(8, AV.sl none (out.length + (1 : Nat)) (intsC out ++ splice (repL (List.map zn [AV.int .i64 (0 : Int)]) (1 : Nat)) ((0 : Nat) * (1 : Nat)) (cellsOf (AV.int .i64 (↑i : Int)))) (.own (1 : Nat))), (29, AV.sl none s.length (boolsC s) .no), (30, AV.int .i64 (↑s.length : Int)), (31, AV.int .i64 (IntKind.i64.wrap ((↑i : Int) + (1 : Int))))], heap := [(3, .var true (pthL p)), (4, .var true (trL t)), (7, .var true (planL P))], tags := [(1, { n := out.length + (1 : Nat), e := (3 : Nat), sz := (1 : Nat) })] })))) (.head (pt Try.f16 0) ({ tmps := [(8, AV.sl none out.length (intsC out) (.own (1 : Nat))), (29, AV.sl none s.length (boolsC s) .no), (30, AV.int .i64 (↑s.length : Int)), (31, AV.int .i64 (IntKind.i64.wrap ((↑i : Int) + (1 : Int))))], heap := [(3, .var true (pthL p)), (4, .var true (trL t)), (7, .var true (planL P))], tags := [(1, { n := out.length, e := (3 : Nat), sz := (1 : Nat) })] }))))) (.ob (out.length = R.length) (.ob (intsC out = intsC R) (.tt)))) (by kernel_rfl) (by
    have w2 : IntKind.i64.wrap ((i : Int) + 1) = ((i + 1 : Nat) : Int) := by rw [i64_wrap (by omega) (by omega)]; rfl
    have h0 : decide ((i : Int) < s.length) = true := by simp; omega
    simp only [PT.holds, w2, h0, Int.toNat_natCast, Nat.mul_one, boolsC_len, boolsC_nth s i hi, intsC_len', true_implies, Bool.false_eq_true, Bool.true_eq_false, false_implies, true_and, and_true]
    refine ⟨by omega, fun h1 => ⟨⟨by omega, rfl, by omega⟩, ?_⟩, fun h1 => ?_⟩
    · rw [if_pos h1] at k
      refine head_eq k ?_
      simp [stFr, ← intsC_app, splice, repL, cellsOf, planL, pthL, trL]
    · rw [if_neg (by rw [h1]; decide)] at k
      exact k)
theorem from_e (P : Pln) (p : Pth) (t : Tr) (s : List Bool) (out : List Int) (i : Nat) (hi : i = s.length) : HT Try.prog Try.f16.ntmps (pt Try.f16 0) (stFr P p t s out i) (EndsA Γ (.pure [] (.sl none out.length (intsC out) .no)) Try.f16) :=
  HT.walk Γ_ok mo_ok (⟨([(35, .val (.bool (s.getD i false)))] ++ []), sp16, hd16 [(8, 1, 3, 1)] [] [] [], [], .pure [] (.sl none out.length (intsC out) .no)⟩ : Wk) 4000 (T := .split (decide ((↑i : Int) < (↑s.length : Int))) (.ob ((0 : Int) ≤ (↑i : Int) ∧ (↑i : Int) < (↑s.length : Int) ∧ (↑i : Int).toNat * (1 : Nat) < (boolsC s).length) (.ob ((boolsC s)[(↑i : Int).toNat * (1 : Nat)]? = some (AV.bool (s.getD i false))) (.split (s.getD i false) (.ob (out.length = out.length) (.ob ((intsC out).length = out.length * ((0 : Nat) + (1 : Nat)) ∧ (splice (repL (List.map zn [AV.int .i64 (0 : Int)]) (1 : Nat)) ((0 : Nat) * (1 : Nat)) (cellsOf (AV.int .i64 (↑i : Int)))).length = (1 : Nat) * ((0 : Nat) + (1 : Nat)) ∧ (out.length + (1 : Nat)) * ((7 : Nat) + (1 : Nat)) ≤ (140737488355328 : Nat)) (.head (pt Try.f16 0) ({ tmps := [(8, AV.sl none (out.length + (1 : Nat)) (intsC out ++ splice (repL (List.map zn [AV.int .i64 (0 : Int)]) (1 : Nat)) ((0 : Nat) * (1 : Nat)) (cellsOf (AV.int .i64 (↑i : Int)))) (.own (1 : Nat))), (29, AV.sl none s.length (boolsC s) .no), (30, AV.int .i64 (↑s.length : Int)), (31, AV.int .i64 (IntKind.i64.wrap ((↑i : Int) + (1 : Int))))], heap := [(3, .var true (pthL p)), (4, .var true (trL t)), (7, .var true (planL P))], tags := [(1, { n := out.length + (1 : Nat), e := (3 : Nat), sz := (1 : Nat) })] })))) (.head (pt Try.f16 0) ({ tmps := [(8, AV.sl none out.length (intsC out) (.own (1 : Nat))), (29, AV.sl none s.length (boolsC s) .no), (30, AV.int .i64 (↑s.length : Int)), (31, AV.int .i64 (IntKind.i64.wrap ((↑i : Int) + (1 : Int))))], heap := [(3, .var true (pthL p)), (4, .var true (trL t)), (7, .var true (planL P))], tags := [(1, { n := out.length, e := (3 : Nat), sz := (1 : Nat) })] }))))) (.ob (out.length = out.length) (.ob (intsC out = intsC out) (.tt)))) (by kernel_rfl) (by
    have h0 : decide ((i : Int) < s.length) = false := by simp; omega
    simp only [PT.holds, h0, true_implies, Bool.false_eq_true, Bool.true_eq_false, false_implies, true_and, and_true])
theorem from_l (P : Pln) (p : Pth) (t : Tr) (s : List Bool) (hN : s.length ≤ 1000000) : ∀ d i out, i + d = s.length → out.length ≤ i → HT Try.prog Try.f16.ntmps (pt Try.f16 0) (stFr P p t s out i) (EndsA Γ (.pure [] (.sl none (out ++ placesJ s d i).length (intsC (out ++ placesJ s d i)) .no)) Try.f16) := by
  intro d
  induction d with
  | zero =>
    intro i out h ho
    simp only [placesJ, List.append_nil]
    exact from_e P p t s out i (by omega)
  | succ d ih =>
    intro i out h ho
    refine from_h P p t s out _ i (by omega) ho hN ?_
    have := ih (i + 1) (if s.getD i false then out ++ [(i : Int)] else out) (by omega) (by split <;> (try simp) <;> omega)
    have e : (if s.getD i false then out ++ [(i : Int)] else out) ++ placesJ s d (i + 1) = out ++ placesJ s (d + 1) i := by
      simp only [placesJ]
      split <;> simp
    rw [e] at this
    exact this

def fromJ (P : Pln) (p : Pth) (n : Int) : List Int := if 0 ≤ n ∧ n < P.tr.length then placesJ (leadsJ P p ((noneL P.tr.length).set n.toNat true)) P.tr.length 0 else []
theorem from_p (P : Pln) (p : Pth) (t : Tr) (n : Int) (N : Nat) (hP : PW P N) (R : List Int) (hR : R = fromJ P p n) (s : List Bool) (hs : s = leadsJ P p ((noneL P.tr.length).set n.toNat true)) (hm : Ctr Try.prog 30 [.agg (trL t)] (.agg (planL P))) (hc : ∀ s : List Bool, s.length = N → Ctr Try.prog 31 [.agg (planL P), .agg (pthL p), (.sl none (s).length (boolsC (s)) .no)] (.sl none (leadsJ P p s).length (boolsC (leadsJ P p s)) .no)) : Ctr Try.prog 16 [.agg (pthL p), .agg (trL t), .int .i64 n] (.sl none R.length (intsC R) .no) :=
  Ctr.mk Γ_ok Try.func16 (by kernel_rfl) Try.call16 [] (by kernel_rfl) (HT.walk Γ_ok mo_ok (⟨([(12, .call [] (.agg (planL P))), (28, .call [] (.sl (some false) P.tr.length (boolsC ((List.replicate P.tr.length false).set n.toNat true)) .no)), (29, .call [] (.sl none (s).length (boolsC (s)) .no))] ++ []), sp16, hd16 [(8, 1, 3, 1)] [] [] [], [], .pure [] (.sl none R.length (intsC R) .no)⟩ : Wk) 4000 (T := .ob ((6 : Nat) ≤ (6 : Nat)) (.ob (Ctr Try.prog 30 [AV.agg (trL t)] (AV.agg (planL P))) (.split (decide (n < (0 : Int))) (.ob ((0 : Nat) = R.length) (.ob ([] = intsC R) (.tt))) (.split (decide ((↑P.tr.length : Int) ≤ n)) (.ob ((0 : Nat) = R.length) (.ob ([] = intsC R) (.tt))) (.ob ((5 : Nat) ≤ (5 : Nat)) (.ob ((3 : Nat) ≤ (3 : Nat)) (.ob ((5 : Nat) ≤ (5 : Nat)) (.ob (Ctr Try.prog 32 [AV.agg (planL P), AV.int .i64 n] (AV.sl (some false) P.tr.length (boolsC ((List.replicate P.tr.length false).set n.toNat true)) .no)) (.ob (Ctr Try.prog 31 [AV.agg (planL P), AV.agg (pthL p), AV.sl (some false) P.tr.length (boolsC ((List.replicate P.tr.length false).set n.toNat true)) .no] (AV.sl none s.length (boolsC s) .no)) (.head (pt Try.f16 0) ({ tmps := [(8, AV.sl none (0 : Nat) [] (.own (1 : Nat))), (29, AV.sl none s.length (boolsC s) .no), (30, AV.int .i64 (↑s.length : Int)), (31, AV.int .i64 (0 : Int))], heap := [(3, .var true (pthL p)), (4, .var true (trL t)), (7, .var true (planL P))], tags := [(1, { n := (0 : Nat), e := (3 : Nat), sz := (1 : Nat) })] }))))))))))) (by kernel_rfl) (by
    have hN := hP.n
    have ht := hP.tr
    have hsl : ((noneL P.tr.length).set n.toNat true).length = P.tr.length := by simp [noneL_len]
    simp only [PT.holds, and_true, true_and, decide_eq_true_eq, decide_eq_false_iff_not]
    refine ⟨by omega, hm, fun h1 => ?_, fun h1 => ⟨fun h2 => ?_, fun h2 => ?_⟩⟩
    · rw [hR, fromJ, if_neg (by omega)]
      exact ⟨rfl, rfl⟩
    · rw [hR, fromJ, if_neg (by omega)]
      exact ⟨rfl, rfl⟩
    · have h3 := hc _ (hsl.trans ht)
      rw [← hs] at h3
      have hl : s.length = N := by rw [hs]; exact leads_len P N p _ (hsl.trans ht)
      have ho := one_ctr P n.toNat (by omega) (by omega)
      have e1 : ((n.toNat : Nat) : Int) = n := by omega
      rw [e1] at ho
      have hf := from_l P p t s (by omega) s.length 0 [] (Nat.zero_add _) (Nat.le_refl _)
      have e2 : ([] : List Int) ++ placesJ s s.length 0 = R := by
        rw [hR, fromJ, if_pos (by omega), ← hs, hl, ht]
        rfl
      rw [e2] at hf
      exact ⟨by omega, by omega, by omega, ho, h3.args rfl ⟨rfl, rfl, rfl, rfl, rfl, rfl, rfl, rfl, rfl, rfl, rfl, rfl, rfl, rfl, rfl, hsl.symm, rfl⟩, hf⟩))
theorem holdsf_ctr (P : Pln) (f : Flt) (t : Tr) (n : Int) (b : Bool) (hm : Ctr Try.prog 30 [.agg (trL t)] (.agg (planL P))) (hc : 0 ≤ n → n < P.tr.length → Ctr Try.prog 33 [.agg (planL P), .agg (fltL f), .int .i64 n] (.bool b)) : Ctr Try.prog 17 [.agg (fltL f), .agg (trL t), .int .i64 n] (.bool (decide (0 ≤ n) && (decide (n < P.tr.length) && b))) :=
  Ctr.mk Γ_ok Try.func17 (by kernel_rfl) Try.call17 [] (by kernel_rfl) (HT.walk Γ_ok mo_ok (⟨([(9, .call [] (.agg (planL P))), (25, .call [] (.bool b))] ++ []), sp17, [], [], .pure [] (.bool (decide (0 ≤ n) && (decide (n < P.tr.length) && b)))⟩ : Wk) 4000 (T := .ob ((6 : Nat) ≤ (6 : Nat)) (.ob (Ctr Try.prog 30 [AV.agg (trL t)] (AV.agg (planL P))) (.split (decide ((0 : Int) ≤ n)) (.split (decide (n < (↑P.tr.length : Int))) (.ob ((5 : Nat) ≤ (5 : Nat)) (.ob ((6 : Nat) ≤ (6 : Nat)) (.ob (Ctr Try.prog 33 [AV.agg (planL P), AV.agg (fltL f), AV.int .i64 n] (AV.bool b)) (.ob (b = (decide ((0 : Int) ≤ n) && (decide (n < (↑P.tr.length : Int)) && b))) (.tt))))) (.ob (false = (decide ((0 : Int) ≤ n) && (decide (n < (↑P.tr.length : Int)) && b))) (.tt))) (.ob (false = (decide ((0 : Int) ≤ n) && (decide (n < (↑P.tr.length : Int)) && b))) (.tt))))) (by kernel_rfl) (by
    simp only [PT.holds, and_true, true_and]
    refine ⟨by omega, hm, fun h1 => ⟨fun h2 => ⟨by omega, by omega, hc (of_decide_eq_true h1) (of_decide_eq_true h2), ?_⟩, fun h2 => ?_⟩, fun h1 => ?_⟩
    · rw [h1, h2]; rfl
    · rw [h1, h2]; rfl
    · rw [h1]; rfl))
theorem select_ctr (p : Pth) (t : Tr) (R : List Int) (hc : Ctr Try.prog 16 [.agg (pthL p), .agg (trL t), .int .i64 0] (.sl none R.length (intsC R) .no)) : Ctr Try.prog 15 [.agg (pthL p), .agg (trL t)] (.sl none R.length (intsC R) .no) :=
  Ctr.mk Γ_ok Try.func15 (by kernel_rfl) Try.call15 [] (by kernel_rfl) (HT.walk Γ_ok mo_ok (⟨([(7, .call [] (.sl none R.length (intsC R) .no))] ++ []), sp15, [], [], .pure [] (.sl none R.length (intsC R) .no)⟩ : Wk) 4000 (T := .ob ((3 : Nat) ≤ (3 : Nat)) (.ob ((6 : Nat) ≤ (6 : Nat)) (.ob (Ctr Try.prog 16 [AV.agg (pthL p), AV.agg (trL t), AV.int .i64 (0 : Int)] (AV.sl none R.length (intsC R) .no)) (.ob (R.length = R.length) (.ob (intsC R = intsC R) (.tt)))))) (by kernel_rfl) (by
    simp only [PT.holds, and_true, true_and]
    first | exact ⟨by omega, by omega, hc⟩ | exact hc))
end Go.Proofs.Ytpffjbbolaehpaa
end

section
set_option linter.unusedVariables false
set_option linter.unusedSimpArgs false
namespace Go.Proofs.Ytpffjbbolaehpaa
open Go Go.AX

/-! ### A path leads to no node ahead of where it begins -/
def NoB (s : List Bool) (k : Nat) : Prop := ∀ j, j < k → s.getD j false = false
theorem NoB.none (n k : Nat) : NoB (noneL n) k := by
  intro j hj
  rw [List.getD_eq_getElem?_getD]
  unfold noneL
  rw [List.getElem?_replicate]
  split <;> rfl
theorem NoB.orZ {a b : List Bool} {k : Nat} (ha : NoB a k) (hb : NoB b k) : NoB (orZ a b) k := by
  intro j hj
  have h1 := ha j hj
  have h2 := hb j hj
  unfold Ytpffjbbolaehpaa.orZ
  rw [List.getD_eq_getElem?_getD, List.getElem?_zipWith] at *
  cases e1 : a[j]? <;> cases e2 : b[j]? <;> simp_all
theorem NoB.stepF {to : List Int} {s : List Bool} {N k : Nat} (hto : FwdL to N) (hlen : to.length = N) (hs : s.length = N) (h : NoB s k) : ∀ d i out, i + d = s.length → NoB out k → NoB (stepF to s d i out) k
  | 0, i, out, hi, ho => ho
  | d + 1, i, out, hi, ho => by
    simp only [Ytpffjbbolaehpaa.stepF]
    refine NoB.stepF hto hlen hs h d (i + 1) _ (by omega) ?_
    split
    · rename_i hc
      simp only [Bool.and_eq_true, decide_eq_true_eq] at hc
      intro j hj
      have hik : k ≤ i := by
        rcases Nat.lt_or_ge i k with h1 | h1
        · rw [h i h1] at hc; exact absurd hc.1 (by decide)
        · exact h1
      have hf := hto i (by omega)
      have hne : (to.getD i 0).toNat ≠ j := by omega
      rw [List.getD_eq_getElem?_getD, List.getElem?_set, if_neg hne, ← List.getD_eq_getElem?_getD]
      exact ho j hj
    · exact ho
theorem NoB.starF {f : List Bool → List Bool} {N k : Nat} (hl : ∀ s, s.length = N → (f s).length = N) (hf : ∀ s, s.length = N → NoB s k → NoB (f s) k) : ∀ d s, s.length = N → NoB s k → NoB (starF f d s) k
  | 0, s, hs, h => h
  | d + 1, s, hs, h => by
    simp only [Ytpffjbbolaehpaa.starF]
    split
    · exact h
    · exact NoB.starF hl hf d _ (by rw [orZ_len _ _ (by rw [hs, hl s hs]), hl s hs]) (h.orZ (hf s hs h))
end Go.Proofs.Ytpffjbbolaehpaa
end

section
set_option linter.unusedVariables false
set_option linter.unusedSimpArgs false
namespace Go.Proofs.Ytpffjbbolaehpaa
open Go Go.AX

/-! ### A document's events are a tree's -/
mutual
inductive Nod (l : List Ev) : Nat → Tr → Nat → Prop
  | text (i : Nat) (h : i < l.length) (hk : (l.getD i ev0).kind = 2) : Nod l i (.mk true (l.getD i ev0).text nm0 [] []) (i + 1)
  | elem (i : Nat) (ks : List Tr) (e : Nat) (h : i < l.length) (hk : (l.getD i ev0).kind = 1) (hks : Nods l (i + 1) ks e) (he : e < l.length) (hke : (l.getD e ev0).kind = 3) : Nod l i (.mk false ⟨#[]⟩ (l.getD i ev0).nm (l.getD i ev0).attrs ks) (e + 1)
inductive Nods (l : List Ev) : Nat → List Tr → Nat → Prop
  | nil (i : Nat) : Nods l i [] i
  | cons (i : Nat) (t : Tr) (j : Nat) (r : List Tr) (e : Nat) (h : Nod l i t j) (hr : Nods l j r e) : Nods l i (t :: r) e
end
theorem doc_forest {l : List Ev} (h : Doc l) : ∀ (m i : Nat), l.length ≤ i + m → 0 < i → i < l.length → ∃ ks e, Nods l i ks e ∧ i ≤ e ∧ e < l.length ∧ (l.getD e ev0).kind = 3 ∧ dep l e = dep l i := by
  intro m
  induction m using Nat.strongRecOn with
  | ind m ih =>
    intro i hm h0 hi
    have hp := h.p.pos i h0 hi
    have hs : dep l (i + 1) = dep l i + stepE (l.getD i ev0) := rfl
    have next : ∀ j, dep l j ≠ 0 → j ≤ l.length → j < l.length := fun j hj hle => by
      rcases Nat.lt_or_eq_of_le hle with h1 | h1
      · exact h1
      · rw [h1, h.ends] at hj; exact absurd rfl hj
    rcases h.p.kind i hi with hk | hk | hk
    · rw [stepE_1 hk] at hs
      have hi1 := next (i + 1) (by omega) (by omega)
      obtain ⟨ks1, e1, n1, a1, a2, a3, a4⟩ := ih (m - 1) (by omega) (i + 1) (by omega) (by omega) hi1
      have hs2 : dep l (e1 + 1) = dep l e1 + stepE (l.getD e1 ev0) := rfl
      rw [stepE_3 a3] at hs2
      have he1 := next (e1 + 1) (by omega) (by omega)
      obtain ⟨ks2, e2, n2, b1, b2, b3, b4⟩ := ih (m - (e1 + 1 - i)) (by omega) (e1 + 1) (by omega) (by omega) he1
      exact ⟨_ :: ks2, e2, .cons _ _ _ _ _ (.elem i ks1 e1 hi hk n1 a2 a3) n2, by omega, b2, b3, by omega⟩
    · rw [stepE_2 hk] at hs
      have hi1 := next (i + 1) (by omega) (by omega)
      obtain ⟨ks1, e1, n1, a1, a2, a3, a4⟩ := ih (m - 1) (by omega) (i + 1) (by omega) (by omega) hi1
      exact ⟨_ :: ks1, e1, .cons _ _ _ _ _ (.text i hi hk) n1, by omega, a2, a3, by omega⟩
    · exact ⟨[], i, .nil i, Nat.le_refl _, hi, hk, rfl⟩
theorem doc_tree {l : List Ev} (h : Doc l) : ∃ T, Nod l 0 T l.length ∧ T.isText = false := by
  have h1 := h.p.first h.len.1
  have hs : dep l 1 = dep l 0 + stepE (l.getD 0 ev0) := rfl
  rw [stepE_1 h1] at hs
  have h0 : dep l 0 = 0 := rfl
  have hlen : 1 < l.length := by
    rcases Nat.lt_or_eq_of_le h.len.1 with h2 | h2
    · exact h2
    · have := h.ends
      rw [← h2] at this
      have e : dep l (Nat.succ 0) = dep l 1 := rfl
      omega
  obtain ⟨ks, e, n1, a1, a2, a3, a4⟩ := doc_forest h l.length 1 (by omega) (by omega) hlen
  have hs2 : dep l (e + 1) = dep l e + stepE (l.getD e ev0) := rfl
  rw [stepE_3 a3] at hs2
  have he : e + 1 = l.length := by
    rcases Nat.lt_or_eq_of_le (Nat.succ_le_of_lt a2) with h2 | h2
    · have := h.p.pos (e + 1) (by omega) h2
      omega
    · exact h2
  refine ⟨.mk false ⟨#[]⟩ (l.getD 0 ev0).nm (l.getD 0 ev0).attrs ks, ?_, rfl⟩
  rw [← he]
  exact .elem 0 ks e h.len.1 h1 n1 a2 a3
mutual
theorem nod_le {l : List Ev} {i : Nat} {t : Tr} {j : Nat} (h : Nod l i t j) : i < j ∧ j ≤ l.length := by
  match h with
  | .text i h hk => omega
  | .elem i ks e h hk hks he hke => have := nods_le hks; omega
theorem nods_le {l : List Ev} {i : Nat} {t : List Tr} {j : Nat} (h : Nods l i t j) : i ≤ j := by
  match h with
  | .nil i => omega
  | .cons i t j r e h hr => have := nod_le h; have := nods_le hr; omega
end
end Go.Proofs.Ytpffjbbolaehpaa
end

section
set_option linter.unusedVariables false
set_option linter.unusedSimpArgs false
set_option maxRecDepth 100000
namespace Go.Proofs.Ytpffjbbolaehpaa
open Go Go.AX

def stEn (l : List Ev) (n : Int) (i : Nat) : AS := ⟨[(0, .sl none l.length (evsC l) .no), (5, .int .i64 n), (6, .int .i64 i)], [], []⟩
def stKi (l : List Ev) (at_ : Nat) (out : List Int) (i : Nat) : AS := ⟨[(0, .sl none l.length (evsC l) .no), (1, .int .i64 at_), (5, .sl none out.length (intsC out) (.own 1)), (6, .int .i64 i)], [], [(1, ⟨out.length, 3, 1, none⟩)]⟩

theorem end_h (l : List Ev) (n : Int) (i : Nat) (R : Int) (hi : i < l.length) (hl : l.length ≤ 1000000) (hn : -10 ≤ n ∧ n ≤ 1000000) (hk : (l.getD i ev0).kind = 1 ∨ (l.getD i ev0).kind = 2 ∨ (l.getD i ev0).kind = 3) (hz : n + stepE (l.getD i ev0) = 0 → R = i + 1) (k : n + stepE (l.getD i ev0) ≠ 0 → HT Try.prog Try.f20.ntmps (pt Try.f20 0) (stEn l (n + stepE (l.getD i ev0)) (i + 1)) (EndsA Γ (.pure [] (.int .i64 R)) Try.f20)) : HT Try.prog Try.f20.ntmps (pt Try.f20 0) (stEn l n i) (EndsA Γ (.pure [] (.int .i64 R)) Try.f20) :=
  HT.walk Γ_ok mo_ok (⟨([(18, .val (.int .i64 (l.getD i ev0).kind)), (26, .val (.int .i64 (l.getD i ev0).kind))] ++ []), sp20, hd20 [] [] [] [], [], .pure [] (.int .i64 R)⟩ : Wk) 4000 (T := .split (decide ((↑i : Int) < (↑l.length : Int))) (.ob ((0 : Int) ≤ (↑i : Int) ∧ (↑i : Int) < (↑l.length : Int) ∧ (↑i : Int).toNat * (5 : Nat) < (evsC l).length) (.ob ((evsC l)[(↑i : Int).toNat * (5 : Nat) + (0 : Nat)]? = some (AV.int .i64 (l.getD i ev0).kind)) (.split (decide ((l.getD i ev0).kind = (1 : Int))) (.ob ((0 : Int) ≤ (↑i : Int) ∧ (↑i : Int) < (↑l.length : Int) ∧ (↑i : Int).toNat * (5 : Nat) < (evsC l).length) (.ob ((evsC l)[(↑i : Int).toNat * (5 : Nat) + (0 : Nat)]? = some (AV.int .i64 (l.getD i ev0).kind)) (.split (decide ((l.getD i ev0).kind = (3 : Int))) (.split (decide (IntKind.i64.wrap (IntKind.i64.wrap (n + (1 : Int)) - (1 : Int)) = (0 : Int))) (.ob (IntKind.i64.wrap ((↑i : Int) + (1 : Int)) = R) (.tt)) (.head (pt Try.f20 0) ({ tmps := [(0, AV.sl none l.length (evsC l) .no), (5, AV.int .i64 (IntKind.i64.wrap (IntKind.i64.wrap (n + (1 : Int)) - (1 : Int)))), (6, AV.int .i64 (IntKind.i64.wrap ((↑i : Int) + (1 : Int))))], heap := [], tags := [] }))) (.split (decide (IntKind.i64.wrap (n + (1 : Int)) = (0 : Int))) (.ob (IntKind.i64.wrap ((↑i : Int) + (1 : Int)) = R) (.tt)) (.head (pt Try.f20 0) ({ tmps := [(0, AV.sl none l.length (evsC l) .no), (5, AV.int .i64 (IntKind.i64.wrap (n + (1 : Int)))), (6, AV.int .i64 (IntKind.i64.wrap ((↑i : Int) + (1 : Int))))], heap := [], tags := [] })))))) (.ob ((0 : Int) ≤ (↑i : Int) ∧ (↑i : Int) < (↑l.length : Int) ∧ (↑i : Int).toNat * (5 : Nat) < (evsC l).length) (.ob ((evsC l)[(↑i : Int).toNat * (5 : Nat) + (0 : Nat)]? = some (AV.int .i64 (l.getD i ev0).kind)) (.split (decide ((l.getD i ev0).kind = (3 : Int))) (.split (decide (IntKind.i64.wrap (n - (1 : Int)) = (0 : Int))) (.ob (IntKind.i64.wrap ((↑i : Int) + (1 : Int)) = R) (.tt)) (.head (pt Try.f20 0) ({ tmps := [(0, AV.sl none l.length (evsC l) .no), (5, AV.int .i64 (IntKind.i64.wrap (n - (1 : Int)))), (6, AV.int .i64 (IntKind.i64.wrap ((↑i : Int) + (1 : Int))))], heap := [], tags := [] }))) (.split (decide (n = (0 : Int))) (.ob (IntKind.i64.wrap ((↑i : Int) + (1 : Int)) = R) (.tt)) (.head (pt Try.f20 0) ({ tmps := [(0, AV.sl none l.length (evsC l) .no), (5, AV.int .i64 n), (6, AV.int .i64 (IntKind.i64.wrap ((↑i : Int) + (1 : Int))))], heap := [], tags := [] }))))))))) (.ob ((↑l.length : Int) = R) (.tt))) (by kernel_rfl) (by
    have w2 : IntKind.i64.wrap ((i : Int) + 1) = ((i + 1 : Nat) : Int) := by rw [i64_wrap (by omega) (by omega)]; rfl
    have w4 : IntKind.i64.wrap (n + 1) = n + 1 := i64_wrap (by omega) (by omega)
    have w5 : IntKind.i64.wrap (n - 1) = n - 1 := i64_wrap (by omega) (by omega)
    have w6 : IntKind.i64.wrap (n + 1 - 1) = n + 1 - 1 := i64_wrap (by omega) (by omega)
    have h0 : decide ((i : Int) < l.length) = true := by simp; omega
    rcases hk with hk | hk | hk
    · rw [stepE_1 hk] at hz k
      simp only [PT.holds, w2, w4, w5, w6, h0, hk, Int.toNat_natCast, evsC_len, decide_eq_true_eq, decide_eq_false_iff_not, Int.reduceEq, not_true_eq_false, not_false_eq_true, true_implies, Bool.false_eq_true, Bool.true_eq_false, false_implies, true_and, and_true]
      refine ⟨by omega, by rw [← hk]; ((try simp only [Nat.add_assoc, Nat.reduceAdd, Nat.add_zero]) <;> first | (rw [ats_nth _ _ _ hi (by decide)]; rfl) | (rw [evs_nth _ _ _ hi (by decide)]; rfl) | (rw [ats_nth0 _ _ hi]; rfl) | (rw [evs_nth0 _ _ hi]; rfl)), by omega, by rw [← hk]; ((try simp only [Nat.add_assoc, Nat.reduceAdd, Nat.add_zero]) <;> first | (rw [ats_nth _ _ _ hi (by decide)]; rfl) | (rw [evs_nth _ _ _ hi (by decide)]; rfl) | (rw [ats_nth0 _ _ hi]; rfl) | (rw [evs_nth0 _ _ hi]; rfl)), fun h => (by rw [hz h]; rfl), fun h => k h⟩
    · rw [stepE_2 hk, Int.add_zero] at hz k
      simp only [PT.holds, w2, w4, w5, w6, h0, hk, Int.toNat_natCast, evsC_len, decide_eq_true_eq, decide_eq_false_iff_not, Int.reduceEq, not_true_eq_false, not_false_eq_true, true_implies, Bool.false_eq_true, Bool.true_eq_false, false_implies, true_and, and_true]
      refine ⟨by omega, by rw [← hk]; ((try simp only [Nat.add_assoc, Nat.reduceAdd, Nat.add_zero]) <;> first | (rw [ats_nth _ _ _ hi (by decide)]; rfl) | (rw [evs_nth _ _ _ hi (by decide)]; rfl) | (rw [ats_nth0 _ _ hi]; rfl) | (rw [evs_nth0 _ _ hi]; rfl)), by omega, by rw [← hk]; ((try simp only [Nat.add_assoc, Nat.reduceAdd, Nat.add_zero]) <;> first | (rw [ats_nth _ _ _ hi (by decide)]; rfl) | (rw [evs_nth _ _ _ hi (by decide)]; rfl) | (rw [ats_nth0 _ _ hi]; rfl) | (rw [evs_nth0 _ _ hi]; rfl)), fun h => (by rw [hz h]; rfl), fun h => k h⟩
    · rw [stepE_3 hk] at hz k
      simp only [PT.holds, w2, w4, w5, w6, h0, hk, Int.toNat_natCast, evsC_len, decide_eq_true_eq, decide_eq_false_iff_not, Int.reduceEq, not_true_eq_false, not_false_eq_true, true_implies, Bool.false_eq_true, Bool.true_eq_false, false_implies, true_and, and_true]
      refine ⟨by omega, by rw [← hk]; ((try simp only [Nat.add_assoc, Nat.reduceAdd, Nat.add_zero]) <;> first | (rw [ats_nth _ _ _ hi (by decide)]; rfl) | (rw [evs_nth _ _ _ hi (by decide)]; rfl) | (rw [ats_nth0 _ _ hi]; rfl) | (rw [evs_nth0 _ _ hi]; rfl)), by omega, by rw [← hk]; ((try simp only [Nat.add_assoc, Nat.reduceAdd, Nat.add_zero]) <;> first | (rw [ats_nth _ _ _ hi (by decide)]; rfl) | (rw [evs_nth _ _ _ hi (by decide)]; rfl) | (rw [ats_nth0 _ _ hi]; rfl) | (rw [evs_nth0 _ _ hi]; rfl)), fun h => (by rw [hz (by omega)]; rfl), fun h => head_eq (k (by omega)) (by rfl)⟩)
end Go.Proofs.Ytpffjbbolaehpaa
end

section
set_option linter.unusedVariables false
set_option linter.unusedSimpArgs false
set_option maxRecDepth 100000
namespace Go.Proofs.Ytpffjbbolaehpaa
open Go Go.AX

mutual
theorem end_nod {l : List Ev} (hl : l.length ≤ 60) {i : Nat} {t : Tr} {j : Nat} (h : Nod l i t j) (n : Int) (hn : 1 ≤ n ∧ n + l.length ≤ 1000 + i) (R : Int) (k : HT Try.prog Try.f20.ntmps (pt Try.f20 0) (stEn l n j) (EndsA Γ (.pure [] (.int .i64 R)) Try.f20)) : HT Try.prog Try.f20.ntmps (pt Try.f20 0) (stEn l n i) (EndsA Γ (.pure [] (.int .i64 R)) Try.f20) := by
  match h with
  | .text i h hk =>
    refine end_h l n i R h (by omega) (by omega) (.inr (.inl hk)) (fun hz => ?_) (fun _ => ?_)
    · rw [stepE_2 hk] at hz; omega
    · rw [stepE_2 hk, Int.add_zero]; exact k
  | .elem i ks e h hk hks he hke =>
    refine end_h l n i R h (by omega) (by omega) (.inl hk) (fun hz => ?_) (fun _ => ?_)
    · rw [stepE_1 hk] at hz; omega
    · rw [stepE_1 hk]
      refine end_nods hl hks (n + 1) (by omega) R ?_
      refine end_h l (n + 1) e R he (by omega) (by omega) (.inr (.inr hke)) (fun hz => ?_) (fun _ => ?_)
      · rw [stepE_3 hke] at hz; omega
      · rw [stepE_3 hke]
        have e1 : n + 1 + -1 = n := by omega
        rw [e1]
        exact k
theorem end_nods {l : List Ev} (hl : l.length ≤ 60) {i : Nat} {r : List Tr} {j : Nat} (h : Nods l i r j) (n : Int) (hn : 1 ≤ n ∧ n + l.length ≤ 1000 + i) (R : Int) (k : HT Try.prog Try.f20.ntmps (pt Try.f20 0) (stEn l n j) (EndsA Γ (.pure [] (.int .i64 R)) Try.f20)) : HT Try.prog Try.f20.ntmps (pt Try.f20 0) (stEn l n i) (EndsA Γ (.pure [] (.int .i64 R)) Try.f20) := by
  match h with
  | .nil i => exact k
  | .cons i t j r e h hr =>
    have hle := nod_le h
    exact end_nod hl h n hn R (end_nods hl hr n (by omega) R k)
end
theorem end_top {l : List Ev} (hl : l.length ≤ 60) {i : Nat} {t : Tr} {j : Nat} (h : Nod l i t j) : HT Try.prog Try.f20.ntmps (pt Try.f20 0) (stEn l 0 i) (EndsA Γ (.pure [] (.int .i64 (j : Int))) Try.f20) := by
  match h with
  | .text i h hk =>
    refine end_h l 0 i _ h (by omega) (by omega) (.inr (.inl hk)) (fun hz => rfl) (fun hz => ?_)
    rw [stepE_2 hk] at hz; omega
  | .elem i ks e h hk hks he hke =>
    refine end_h l 0 i _ h (by omega) (by omega) (.inl hk) (fun hz => ?_) (fun _ => ?_)
    · rw [stepE_1 hk] at hz; omega
    · rw [stepE_1 hk]
      refine end_nods hl hks (0 + 1) (by omega) _ ?_
      refine end_h l (0 + 1) e _ he (by omega) (by omega) (.inr (.inr hke)) (fun hz => rfl) (fun hz => ?_)
      rw [stepE_3 hke] at hz; omega

theorem end_ctr (l : List Ev) (hl : l.length ≤ 60) (i : Nat) (t : Tr) (j : Nat) (h : Nod l i t j) : Ctr Try.prog 20 [.sl none l.length (evsC l) .no, .int .i64 i] (.int .i64 j) :=
  Ctr.mk Γ_ok Try.func20 (by kernel_rfl) Try.call20 [] (by kernel_rfl) (HT.walk Γ_ok mo_ok (⟨[], sp20, hd20 [] [] [] [], [], .pure [] (.int .i64 j)⟩ : Wk) 4000 (T := .head (pt Try.f20 0) ({ tmps := [(0, AV.sl none l.length (evsC l) .no), (5, AV.int .i64 (0 : Int)), (6, AV.int .i64 (↑i : Int))], heap := [], tags := [] })) (by kernel_rfl) (by
    simp only [PT.holds]
    exact end_top hl h))
theorem kids_h (l : List Ev) (at_ : Nat) (out R : List Int) (i E j : Nat) (hE : Ctr Try.prog 20 [.sl none l.length (evsC l) .no, .int .i64 at_] (.int .i64 E)) (hj : Ctr Try.prog 20 [.sl none l.length (evsC l) .no, .int .i64 i] (.int .i64 j)) (hi : i + 1 < E) (hEl : E ≤ 1000) (ho : out.length ≤ 1000) (k : HT Try.prog Try.f22.ntmps (pt Try.f22 0) (stKi l at_ (out ++ [(i : Int)]) j) (EndsA Γ (.pure [] (.sl none R.length (intsC R) .no)) Try.f22)) : HT Try.prog Try.f22.ntmps (pt Try.f22 0) (stKi l at_ out i) (EndsA Γ (.pure [] (.sl none R.length (intsC R) .no)) Try.f22) :=
  HT.walk Γ_ok mo_ok (⟨([(18, .call [] (.int .i64 E)), (27, .call [] (.int .i64 j))] ++ []), sp22, hd22 [(5, 1, 3, 1)] [] [] [], [], .pure [] (.sl none R.length (intsC R) .no)⟩ : Wk) 4000 (T := .ob (Ctr Try.prog 20 [AV.sl none l.length (evsC l) .no, AV.int .i64 (↑at_ : Int)] (AV.int .i64 (↑E : Int))) (.split (decide ((↑i : Int) < IntKind.i64.wrap ((↑E : Int) - (1 : Int)))) (.ob (out.length = out.length) (.ob ((intsC out).length = out.length * ((0 : Nat) + (1 : Nat)) ∧ (splice (repL (List.map zn [AV.int .i64 (0 : Int)]) (1 : Nat)) ((0 : Nat) * (1 : Nat)) (cellsOf (AV.int .i64 (↑i : Int)))).length = (1 : Nat) * ((0 : Nat) + (1 : Nat)) ∧ (out.length + (1 : Nat)) * ((7 : Nat) + (1 : Nat)) ≤ (140737488355328 : Nat)) (.ob (Ctr Try.prog 20 [AV.sl none l.length (evsC l) .no, AV.int .i64 (↑i : Int)] (AV.int .i64 (↑j : Int))) (.head (pt Try.f22 0) ({ tmps := [(0, AV.sl none l.length (evsC l) .no), (1, AV.int .i64 (↑at_ : Int)), (5, AV.sl none (out.length + (1 : Nat)) (intsC out ++ splice (repL (List.map zn [AV.int .i64 (0 : Int)]) (1 : Nat)) ((0 : Nat) * (1 : Nat)) (cellsOf (AV.int .i64 (↑i : Int)))) (.own (1 : Nat))), (6, AV.int .i64 (↑j : Int))], heap := [], tags := [(1, { n := out.length + (1 : Nat), e := (3 : Nat), sz := (1 : Nat) })] }))))) (.ob (out.length = R.length) (.ob (intsC out = intsC R) (.tt))))) (by kernel_rfl) (by
    have w1 : IntKind.i64.wrap ((E : Int) - 1) = E - 1 := i64_wrap (by omega) (by omega)
    have h0 : decide ((i : Int) < E - 1) = true := by simp; omega
    simp only [PT.holds, w1, h0, intsC_len', true_implies, Bool.false_eq_true, Bool.true_eq_false, false_implies, true_and, and_true]
    refine ⟨hE, ⟨by omega, rfl, by omega⟩, hj, head_eq k ?_⟩
    simp [stKi, ← intsC_app, splice, repL, cellsOf])
theorem kids_e (l : List Ev) (at_ : Nat) (out : List Int) (i E : Nat) (hE : Ctr Try.prog 20 [.sl none l.length (evsC l) .no, .int .i64 at_] (.int .i64 E)) (hi : ¬ i + 1 < E) (hEl : E ≤ 1000) : HT Try.prog Try.f22.ntmps (pt Try.f22 0) (stKi l at_ out i) (EndsA Γ (.pure [] (.sl none out.length (intsC out) .no)) Try.f22) :=
  HT.walk Γ_ok mo_ok (⟨([(18, .call [] (.int .i64 E)), (27, .call [] (.int .i64 0))] ++ []), sp22, hd22 [(5, 1, 3, 1)] [] [] [], [], .pure [] (.sl none out.length (intsC out) .no)⟩ : Wk) 4000 (T := .ob (Ctr Try.prog 20 [AV.sl none l.length (evsC l) .no, AV.int .i64 (↑at_ : Int)] (AV.int .i64 (↑E : Int))) (.split (decide ((↑i : Int) < IntKind.i64.wrap ((↑E : Int) - (1 : Int)))) (.ob (out.length = out.length) (.ob ((intsC out).length = out.length * ((0 : Nat) + (1 : Nat)) ∧ (splice (repL (List.map zn [AV.int .i64 (0 : Int)]) (1 : Nat)) ((0 : Nat) * (1 : Nat)) (cellsOf (AV.int .i64 (↑i : Int)))).length = (1 : Nat) * ((0 : Nat) + (1 : Nat)) ∧ (out.length + (1 : Nat)) * ((7 : Nat) + (1 : Nat)) ≤ (140737488355328 : Nat)) (.ob (Ctr Try.prog 20 [AV.sl none l.length (evsC l) .no, AV.int .i64 (↑i : Int)] (AV.int .i64 (0 : Int))) (.head (pt Try.f22 0) ({ tmps := [(0, AV.sl none l.length (evsC l) .no), (1, AV.int .i64 (↑at_ : Int)), (5, AV.sl none (out.length + (1 : Nat)) (intsC out ++ splice (repL (List.map zn [AV.int .i64 (0 : Int)]) (1 : Nat)) ((0 : Nat) * (1 : Nat)) (cellsOf (AV.int .i64 (↑i : Int)))) (.own (1 : Nat))), (6, AV.int .i64 (0 : Int))], heap := [], tags := [(1, { n := out.length + (1 : Nat), e := (3 : Nat), sz := (1 : Nat) })] }))))) (.ob (out.length = out.length) (.ob (intsC out = intsC out) (.tt))))) (by kernel_rfl) (by
    have w1 : IntKind.i64.wrap ((E : Int) - 1) = E - 1 := i64_wrap (by omega) (by omega)
    have h0 : decide ((i : Int) < E - 1) = false := by simp; omega
    simp only [PT.holds, w1, h0, true_implies, Bool.false_eq_true, Bool.true_eq_false, false_implies, true_and, and_true]
    exact hE)
theorem kids_p (l : List Ev) (at_ : Nat) (R : List Int) (h : at_ < l.length) (hl : l.length ≤ 60) (h2 : (l.getD at_ ev0).kind ≠ 1 → R = []) (k : (l.getD at_ ev0).kind = 1 → HT Try.prog Try.f22.ntmps (pt Try.f22 0) (stKi l at_ [] (at_ + 1)) (EndsA Γ (.pure [] (.sl none R.length (intsC R) .no)) Try.f22)) : Ctr Try.prog 22 [.sl none l.length (evsC l) .no, .int .i64 at_] (.sl none R.length (intsC R) .no) :=
  Ctr.mk Γ_ok Try.func22 (by kernel_rfl) Try.call22 [] (by kernel_rfl) (HT.walk Γ_ok mo_ok (⟨([(11, .val (.int .i64 (l.getD at_ ev0).kind))] ++ []), sp22, hd22 [(5, 1, 3, 1)] [] [] [], [], .pure [] (.sl none R.length (intsC R) .no)⟩ : Wk) 4000 (T := .ob ((0 : Int) ≤ (↑at_ : Int) ∧ (↑at_ : Int) < (↑l.length : Int) ∧ (↑at_ : Int).toNat * (5 : Nat) < (evsC l).length) (.ob ((evsC l)[(↑at_ : Int).toNat * (5 : Nat) + (0 : Nat)]? = some (AV.int .i64 (l.getD at_ ev0).kind)) (.split (!decide ((l.getD at_ ev0).kind = (1 : Int))) (.ob ((0 : Nat) = R.length) (.ob ([] = intsC R) (.tt))) (.head (pt Try.f22 0) ({ tmps := [(0, AV.sl none l.length (evsC l) .no), (1, AV.int .i64 (↑at_ : Int)), (5, AV.sl none (0 : Nat) [] (.own (1 : Nat))), (6, AV.int .i64 (IntKind.i64.wrap ((↑at_ : Int) + (1 : Int))))], heap := [], tags := [(1, { n := (0 : Nat), e := (3 : Nat), sz := (1 : Nat) })] }))))) (by kernel_rfl) (by
    have w1 : IntKind.i64.wrap ((at_ : Int) + 1) = ((at_ + 1 : Nat) : Int) := by rw [i64_wrap (by omega) (by omega)]; rfl
    simp only [PT.holds, w1, Int.toNat_natCast, evsC_len, true_implies, Bool.false_eq_true, Bool.true_eq_false, false_implies, true_and, and_true]
    refine ⟨by omega, by ((try simp only [Nat.add_assoc, Nat.reduceAdd, Nat.add_zero]) <;> first | (rw [ats_nth _ _ _ h (by decide)]; rfl) | (rw [evs_nth _ _ _ h (by decide)]; rfl) | (rw [ats_nth0 _ _ h]; rfl) | (rw [evs_nth0 _ _ h]; rfl)), fun h1 => ?_, fun h1 => ?_⟩
    · rw [h2 (by simpa using h1)]; exact ⟨rfl, rfl⟩
    · exact k (by simpa using h1)))
theorem kids_l {l : List Ev} (hl : l.length ≤ 60) (at_ E : Nat) (hE : Ctr Try.prog 20 [.sl none l.length (evsC l) .no, .int .i64 at_] (.int .i64 (E + 1 : Nat))) (hEl : E ≤ 100) : ∀ {i : Nat} {r : List Tr}, Nods l i r E → ∀ out : List Int, out.length ≤ i → ∃ ps : List Nat, ps.length = r.length ∧ (∀ m, m < r.length → ∃ j, Nod l (ps.getD m 0) (r.getD m tr0) j) ∧ HT Try.prog Try.f22.ntmps (pt Try.f22 0) (stKi l at_ out i) (EndsA Γ (.pure [] (.sl none (out ++ ps.map Int.ofNat).length (intsC (out ++ ps.map Int.ofNat)) .no)) Try.f22) := by
  intro i r h
  induction r generalizing i with
  | nil =>
    intro out ho
    cases h with
    | nil =>
      refine ⟨[], rfl, fun m hm => by simp at hm, ?_⟩
      simp only [List.map_nil, List.append_nil]
      exact kids_e l at_ out E (E + 1) hE (by omega) (by omega)
  | cons t r ih =>
    intro out ho
    cases h with
    | cons _ _ j _ _ h1 h2 =>
      have hle := nod_le h1
      have hle2 := nods_le h2
      obtain ⟨ps, p1, p2, p3⟩ := ih h2 (out ++ [(i : Int)]) (by simp; omega)
      refine ⟨i :: ps, by simp [p1], fun m hm => ?_, ?_⟩
      · cases m with
        | zero => exact ⟨j, h1⟩
        | succ m => exact p2 m (by simpa using hm)
      · have e : out ++ (i :: ps).map Int.ofNat = out ++ [(i : Int)] ++ ps.map Int.ofNat := by simp
        rw [e]
        exact kids_h l at_ out _ i (E + 1) j hE (end_ctr l hl i t j h1) (by omega) (by omega) (by omega) p3
theorem kids_ex {l : List Ev} (hl : l.length ≤ 60) {i : Nat} {ks : List Tr} {e : Nat} (h : i < l.length) (hk : (l.getD i ev0).kind = 1) (hks : Nods l (i + 1) ks e) (he : e < l.length) (hke : (l.getD e ev0).kind = 3) : ∃ ps : List Nat, ps.length = ks.length ∧ (∀ m, m < ks.length → ∃ j, Nod l (ps.getD m 0) (ks.getD m tr0) j) ∧ Ctr Try.prog 22 [.sl none l.length (evsC l) .no, .int .i64 i] (.sl none (ps.map Int.ofNat).length (intsC (ps.map Int.ofNat)) .no) := by
  obtain ⟨ps, p1, p2, p3⟩ := kids_l hl i e (end_ctr l hl i _ _ (.elem i ks e h hk hks he hke)) (by omega) hks [] (Nat.zero_le _)
  exact ⟨ps, p1, p2, kids_p l i _ h hl (fun h => absurd hk h) (fun _ => by simpa using p3)⟩

end Go.Proofs.Ytpffjbbolaehpaa
end

section
set_option linter.unusedVariables false
set_option linter.unusedSimpArgs false
set_option maxRecDepth 100000
namespace Go.Proofs.Ytpffjbbolaehpaa
open Go Go.AX

def zTr : List AV := [.bool false, .str ⟨#[]⟩, .str ⟨#[]⟩, .str ⟨#[]⟩, .sl (some true) 0 [] .clip, .sl (some true) 0 [] .clip]
def stTr (l : List Ev) (e : Ev) (ps : List Int) (k : List Tr) (i : Nat) : AS := ⟨[(0, .sl none l.length (evsC l) .no), (4, .ptr 4 0), (5, .ptr 5 0), (6, .sl none ps.length (intsC ps) .no), (7, .int .i64 i)], [(4, .var true zTr), (5, .var true [.bool false, .str ⟨#[]⟩, .str e.nm.sp, .str e.nm.lo, .sl none e.attrs.length (atsC e.attrs) .no, .sl none k.length (trsC k) (.own 2)])], [(2, ⟨k.length, 39, 6, none⟩)]⟩

theorem tree_h (l : List Ev) (e : Ev) (ps : List Int) (k : List Tr) (i : Nat) (t T : Tr) (hi : i < ps.length) (hl : ps.length ≤ 1000) (hk : k.length ≤ 1000) (hc : Ctr Try.prog 12 [.sl none l.length (evsC l) .no, .int .i64 (ps.getD i 0)] (.agg (trL t))) (kk : HT Try.prog Try.f12.ntmps (pt Try.f12 0) (stTr l e ps (k ++ [t]) (i + 1)) (EndsA Γ (.pure [] (.agg (trL T))) Try.f12)) : HT Try.prog Try.f12.ntmps (pt Try.f12 0) (stTr l e ps k i) (EndsA Γ (.pure [] (.agg (trL T))) Try.f12) :=
  HT.walk Γ_ok mo_ok (⟨([(46, .val (.int .i64 (ps.getD i 0))), (47, .call [] (.agg (trL t)))] ++ []), sp12, hd12 [] [(false, 5, 5, 2, 39, 6)] [] [2], [], .pure [] (.agg (trL T))⟩ : Wk) 4000 (T := .split (decide ((↑i : Int) < (↑ps.length : Int))) (.ob ((0 : Int) ≤ (↑i : Int) ∧ (↑i : Int) < (↑ps.length : Int) ∧ (↑i : Int).toNat * (1 : Nat) < (intsC ps).length) (.ob ((intsC ps)[(↑i : Int).toNat * (1 : Nat)]? = some (AV.int .i64 (ps.getD i (0 : Int)))) (.ob (Ctr Try.prog 12 [AV.sl none l.length (evsC l) .no, AV.int .i64 (ps.getD i (0 : Int))] (AV.agg (trL t))) (.ob (k.length = k.length) (.ob ((trsC k).length = k.length * ((5 : Nat) + (1 : Nat)) ∧ (splice (repL (List.map zn [AV.bool false, AV.str (ByteArray.mk #[]), AV.str (ByteArray.mk #[]), AV.str (ByteArray.mk #[]), AV.sl (some true) (0 : Nat) [] .clip, AV.sl (some true) (0 : Nat) [] .clip]) (1 : Nat)) ((0 : Nat) * (6 : Nat)) (cellsOf (AV.agg (trL t)))).length = (1 : Nat) * ((5 : Nat) + (1 : Nat)) ∧ (k.length + (1 : Nat)) * ((103 : Nat) + (1 : Nat)) ≤ (140737488355328 : Nat)) (.head (pt Try.f12 0) ({ tmps := [(0, AV.sl none l.length (evsC l) .no), (4, AV.ptr 4 0), (5, AV.ptr 5 0), (6, AV.sl none ps.length (intsC ps) .no), (7, AV.int .i64 (IntKind.i64.wrap ((↑i : Int) + (1 : Int))))], heap := [(4, .var true [AV.bool false, AV.str (ByteArray.mk #[]), AV.str (ByteArray.mk #[]), AV.str (ByteArray.mk #[]), AV.sl (some true) (0 : Nat) [] .clip, AV.sl (some true) (0 : Nat) [] .clip]), (5, .var true [AV.bool false, AV.str (ByteArray.mk #[]), AV.str e.nm.sp, AV.str e.nm.lo, AV.sl none e.attrs.length (atsC e.attrs) .no, AV.sl none (k.length + (1 : Nat)) (trsC k ++ splice (repL (List.map zn [AV.bool false, AV.str (ByteArray.mk #[]), AV.str (ByteArray.mk #[]), AV.str (ByteArray.mk #[]), AV.sl (some true) (0 : Nat) [] .clip, AV.sl (some true) (0 : Nat) [] .clip]) (1 : Nat)) ((0 : Nat) * (6 : Nat)) (cellsOf (AV.agg (trL t)))) (.own (2 : Nat))])], tags := [(2, { n := k.length + (1 : Nat), e := (39 : Nat), sz := (6 : Nat) })] }))))))) (.ob ((6 : Nat) ≤ (6 : Nat)) (.ob (false = T.isText) (.ob ((ByteArray.mk #[]) = T.text) (.ob (e.nm.sp = T.nm.sp) (.ob (e.nm.lo = T.nm.lo) (.ob (e.attrs.length = T.attrs.length) (.ob (atsC e.attrs = atsC T.attrs) (.ob (k.length = T.kids.length) (.ob (trsC k = trsC T.kids) (.tt))))))))))) (by kernel_rfl) (by
    have w2 : IntKind.i64.wrap ((i : Int) + 1) = ((i + 1 : Nat) : Int) := by rw [i64_wrap (by omega) (by omega)]; rfl
    have h0 : decide ((i : Int) < ps.length) = true := by simp; omega
    simp only [PT.holds, w2, h0, Int.toNat_natCast, Nat.mul_one, intsC_len', intsC_nth ps i hi, trsC_len, true_implies, Bool.false_eq_true, Bool.true_eq_false, false_implies, true_and, and_true]
    refine ⟨by omega, hc, ⟨rfl, by omega⟩, head_eq kk ?_⟩
    simp [stTr, ← trsC_app, trL, zTr, splice, repL, cellsOf])
theorem tree_e (l : List Ev) (e : Ev) (ps : List Int) (k : List Tr) (i : Nat) (hi : i = ps.length) : HT Try.prog Try.f12.ntmps (pt Try.f12 0) (stTr l e ps k i) (EndsA Γ (.pure [] (.agg (trL (.mk false ⟨#[]⟩ e.nm e.attrs k)))) Try.f12) :=
  HT.walk Γ_ok mo_ok (⟨([(46, .val (.int .i64 (ps.getD i 0))), (47, .call [] (.agg (trL tr0)))] ++ []), sp12, hd12 [] [(false, 5, 5, 2, 39, 6)] [] [2], [], .pure [] (.agg (trL (.mk false ⟨#[]⟩ e.nm e.attrs k)))⟩ : Wk) 4000 (T := .split (decide ((↑i : Int) < (↑ps.length : Int))) (.ob ((0 : Int) ≤ (↑i : Int) ∧ (↑i : Int) < (↑ps.length : Int) ∧ (↑i : Int).toNat * (1 : Nat) < (intsC ps).length) (.ob ((intsC ps)[(↑i : Int).toNat * (1 : Nat)]? = some (AV.int .i64 (ps.getD i (0 : Int)))) (.ob (Ctr Try.prog 12 [AV.sl none l.length (evsC l) .no, AV.int .i64 (ps.getD i (0 : Int))] (AV.agg [AV.bool false, AV.str tr0.text, AV.str tr0.nm.sp, AV.str tr0.nm.lo, AV.sl none (0 : Nat) [] .no, AV.sl none (0 : Nat) [] .no])) (.ob (k.length = k.length) (.ob ((trsC k).length = k.length * ((5 : Nat) + (1 : Nat)) ∧ (splice (repL (List.map zn [AV.bool false, AV.str (ByteArray.mk #[]), AV.str (ByteArray.mk #[]), AV.str (ByteArray.mk #[]), AV.sl (some true) (0 : Nat) [] .clip, AV.sl (some true) (0 : Nat) [] .clip]) (1 : Nat)) ((0 : Nat) * (6 : Nat)) (cellsOf (AV.agg (trL tr0)))).length = (1 : Nat) * ((5 : Nat) + (1 : Nat)) ∧ (k.length + (1 : Nat)) * ((103 : Nat) + (1 : Nat)) ≤ (140737488355328 : Nat)) (.head (pt Try.f12 0) ({ tmps := [(0, AV.sl none l.length (evsC l) .no), (4, AV.ptr 4 0), (5, AV.ptr 5 0), (6, AV.sl none ps.length (intsC ps) .no), (7, AV.int .i64 (IntKind.i64.wrap ((↑i : Int) + (1 : Int))))], heap := [(4, .var true [AV.bool false, AV.str (ByteArray.mk #[]), AV.str (ByteArray.mk #[]), AV.str (ByteArray.mk #[]), AV.sl (some true) (0 : Nat) [] .clip, AV.sl (some true) (0 : Nat) [] .clip]), (5, .var true [AV.bool false, AV.str (ByteArray.mk #[]), AV.str e.nm.sp, AV.str e.nm.lo, AV.sl none e.attrs.length (atsC e.attrs) .no, AV.sl none (k.length + (1 : Nat)) (trsC k ++ splice (repL (List.map zn [AV.bool false, AV.str (ByteArray.mk #[]), AV.str (ByteArray.mk #[]), AV.str (ByteArray.mk #[]), AV.sl (some true) (0 : Nat) [] .clip, AV.sl (some true) (0 : Nat) [] .clip]) (1 : Nat)) ((0 : Nat) * (6 : Nat)) (cellsOf (AV.agg (trL tr0)))) (.own (2 : Nat))])], tags := [(2, { n := k.length + (1 : Nat), e := (39 : Nat), sz := (6 : Nat) })] }))))))) (.ob ((6 : Nat) ≤ (6 : Nat)) (.ob (false = false) (.ob ((ByteArray.mk #[]) = (Tr.mk false (ByteArray.mk #[]) e.nm e.attrs k).text) (.ob (e.nm.sp = (Tr.mk false (ByteArray.mk #[]) e.nm e.attrs k).nm.sp) (.ob (e.nm.lo = (Tr.mk false (ByteArray.mk #[]) e.nm e.attrs k).nm.lo) (.ob (e.attrs.length = (Tr.mk false (ByteArray.mk #[]) e.nm e.attrs k).attrs.length) (.ob (atsC e.attrs = atsC (Tr.mk false (ByteArray.mk #[]) e.nm e.attrs k).attrs) (.ob (k.length = (Tr.mk false (ByteArray.mk #[]) e.nm e.attrs k).kids.length) (.ob (trsC k = trsC (Tr.mk false (ByteArray.mk #[]) e.nm e.attrs k).kids) (.tt))))))))))) (by kernel_rfl) (by
    have h0 : decide ((i : Int) < ps.length) = false := by simp; omega
    simp only [PT.holds, h0, true_implies, Bool.false_eq_true, Bool.true_eq_false, false_implies, true_and, and_true]
    repeat' (first | rfl | omega | apply And.intro))
theorem tree_pt (l : List Ev) (at_ : Nat) (ps : List Int) (T : Tr) (hT : T = .mk true (l.getD at_ ev0).text nm0 [] []) (h : at_ < l.length) (hk : (l.getD at_ ev0).kind = 2) : Ctr Try.prog 12 [.sl none l.length (evsC l) .no, .int .i64 at_] (.agg (trL T)) :=
  Ctr.mk Γ_ok Try.func12 (by kernel_rfl) Try.call12 [] (by kernel_rfl) (HT.walk Γ_ok mo_ok (⟨([(12, .val (.int .i64 (l.getD at_ ev0).kind)), (18, .val (.str (l.getD at_ ev0).text)), (24, .val (.agg (nmC (l.getD at_ ev0).nm))), (29, .val (.sl none (l.getD at_ ev0).attrs.length (atsC (l.getD at_ ev0).attrs) .no)), (33, .call [] (.sl none ps.length (intsC ps) .no))] ++ []), sp12, hd12 [] [(false, 5, 5, 2, 39, 6)] [] [2], [], .pure [] (.agg (trL T))⟩ : Wk) 4000 (T := .ob ((0 : Int) ≤ (↑at_ : Int) ∧ (↑at_ : Int) < (↑l.length : Int) ∧ (↑at_ : Int).toNat * (5 : Nat) < (evsC l).length) (.ob ((evsC l)[(↑at_ : Int).toNat * (5 : Nat) + (0 : Nat)]? = some (AV.int .i64 (l.getD at_ ev0).kind)) (.split (decide ((l.getD at_ ev0).kind = (2 : Int))) (.ob ((0 : Int) ≤ (↑at_ : Int) ∧ (↑at_ : Int) < (↑l.length : Int) ∧ (↑at_ : Int).toNat * (5 : Nat) < (evsC l).length) (.ob ((evsC l)[(↑at_ : Int).toNat * (5 : Nat) + (4 : Nat)]? = some (AV.str (l.getD at_ ev0).text)) (.ob (true = T.isText) (.ob ((l.getD at_ ev0).text = T.text) (.ob ((ByteArray.mk #[]) = T.nm.sp) (.ob ((ByteArray.mk #[]) = T.nm.lo) (.ob ((0 : Nat) = T.attrs.length) (.ob ([] = atsC T.attrs) (.ob ((0 : Nat) = T.kids.length) (.ob ([] = trsC T.kids) (.tt))))))))))) (.ob ((0 : Int) ≤ (↑at_ : Int) ∧ (↑at_ : Int) < (↑l.length : Int) ∧ (↑at_ : Int).toNat * (5 : Nat) < (evsC l).length) (.ob (List.take (2 : Nat) (List.drop ((↑at_ : Int).toNat * (5 : Nat) + (1 : Nat)) (evsC l)) = [AV.str (l.getD at_ ev0).nm.sp, AV.str (l.getD at_ ev0).nm.lo]) (.ob ((0 : Int) ≤ (↑at_ : Int) ∧ (↑at_ : Int) < (↑l.length : Int) ∧ (↑at_ : Int).toNat * (5 : Nat) < (evsC l).length) (.ob ((evsC l)[(↑at_ : Int).toNat * (5 : Nat) + (3 : Nat)]? = some (AV.sl none (l.getD at_ ev0).attrs.length (atsC (l.getD at_ ev0).attrs) .no)) (.ob (Ctr Try.prog 22 [AV.sl none l.length (evsC l) .no, AV.int .i64 (↑at_ : Int)] (AV.sl none ps.length (intsC ps) .no)) (.head (pt Try.f12 0) ({ tmps := [(0, AV.sl none l.length (evsC l) .no), (4, AV.ptr 4 0), (5, AV.ptr 5 0), (6, AV.sl none ps.length (intsC ps) .no), (7, AV.int .i64 (0 : Int))], heap := [(4, .var true [AV.bool false, AV.str (ByteArray.mk #[]), AV.str (ByteArray.mk #[]), AV.str (ByteArray.mk #[]), AV.sl (some true) (0 : Nat) [] .clip, AV.sl (some true) (0 : Nat) [] .clip]), (5, .var true [AV.bool false, AV.str (ByteArray.mk #[]), AV.str (l.getD at_ ev0).nm.sp, AV.str (l.getD at_ ev0).nm.lo, AV.sl none (l.getD at_ ev0).attrs.length (atsC (l.getD at_ ev0).attrs) .no, AV.sl none (0 : Nat) [] (.own (2 : Nat))])], tags := [(2, { n := (0 : Nat), e := (39 : Nat), sz := (6 : Nat) })] })))))))))) (by kernel_rfl) (by
    subst hT
    have h0 : decide ((l.getD at_ ev0).kind = 2) = true := decide_eq_true hk
    simp only [PT.holds, h0, Int.toNat_natCast, evsC_len, true_implies, Bool.false_eq_true, Bool.true_eq_false, false_implies, true_and, and_true]
    repeat' (first | rfl | omega | ((try simp only [Nat.add_assoc, Nat.reduceAdd, Nat.add_zero]) <;> first | (rw [ats_take _ _ _ _ h (by decide)]; rfl) | (rw [ats_nth _ _ _ h (by decide)]; rfl) | (rw [evs_take _ _ _ _ h (by decide)]; rfl) | (rw [evs_nth _ _ _ h (by decide)]; rfl) | (rw [trs_take _ _ _ _ h (by decide)]; rfl) | (rw [trs_nth _ _ _ h (by decide)]; rfl) | (rw [ats_take0 _ _ _ h (by decide)]; rfl) | (rw [ats_nth0 _ _ h]; rfl) | (rw [evs_take0 _ _ _ h (by decide)]; rfl) | (rw [evs_nth0 _ _ h]; rfl) | (rw [trs_take0 _ _ _ h (by decide)]; rfl) | (rw [trs_nth0 _ _ h]; rfl)) | apply And.intro)))
theorem tree_pe (l : List Ev) (at_ : Nat) (ps : List Int) (T : Tr) (h : at_ < l.length) (hk : (l.getD at_ ev0).kind = 1) (hc : Ctr Try.prog 22 [.sl none l.length (evsC l) .no, .int .i64 at_] (.sl none ps.length (intsC ps) .no)) (kk : HT Try.prog Try.f12.ntmps (pt Try.f12 0) (stTr l (l.getD at_ ev0) ps [] 0) (EndsA Γ (.pure [] (.agg (trL T))) Try.f12)) : Ctr Try.prog 12 [.sl none l.length (evsC l) .no, .int .i64 at_] (.agg (trL T)) :=
  Ctr.mk Γ_ok Try.func12 (by kernel_rfl) Try.call12 [] (by kernel_rfl) (HT.walk Γ_ok mo_ok (⟨([(12, .val (.int .i64 (l.getD at_ ev0).kind)), (18, .val (.str (l.getD at_ ev0).text)), (24, .val (.agg (nmC (l.getD at_ ev0).nm))), (29, .val (.sl none (l.getD at_ ev0).attrs.length (atsC (l.getD at_ ev0).attrs) .no)), (33, .call [] (.sl none ps.length (intsC ps) .no))] ++ []), sp12, hd12 [] [(false, 5, 5, 2, 39, 6)] [] [2], [], .pure [] (.agg (trL T))⟩ : Wk) 4000 (T := .ob ((0 : Int) ≤ (↑at_ : Int) ∧ (↑at_ : Int) < (↑l.length : Int) ∧ (↑at_ : Int).toNat * (5 : Nat) < (evsC l).length) (.ob ((evsC l)[(↑at_ : Int).toNat * (5 : Nat) + (0 : Nat)]? = some (AV.int .i64 (l.getD at_ ev0).kind)) (.split (decide ((l.getD at_ ev0).kind = (2 : Int))) (.ob ((0 : Int) ≤ (↑at_ : Int) ∧ (↑at_ : Int) < (↑l.length : Int) ∧ (↑at_ : Int).toNat * (5 : Nat) < (evsC l).length) (.ob ((evsC l)[(↑at_ : Int).toNat * (5 : Nat) + (4 : Nat)]? = some (AV.str (l.getD at_ ev0).text)) (.ob (true = T.isText) (.ob ((l.getD at_ ev0).text = T.text) (.ob ((ByteArray.mk #[]) = T.nm.sp) (.ob ((ByteArray.mk #[]) = T.nm.lo) (.ob ((0 : Nat) = T.attrs.length) (.ob ([] = atsC T.attrs) (.ob ((0 : Nat) = T.kids.length) (.ob ([] = trsC T.kids) (.tt))))))))))) (.ob ((0 : Int) ≤ (↑at_ : Int) ∧ (↑at_ : Int) < (↑l.length : Int) ∧ (↑at_ : Int).toNat * (5 : Nat) < (evsC l).length) (.ob (List.take (2 : Nat) (List.drop ((↑at_ : Int).toNat * (5 : Nat) + (1 : Nat)) (evsC l)) = [AV.str (l.getD at_ ev0).nm.sp, AV.str (l.getD at_ ev0).nm.lo]) (.ob ((0 : Int) ≤ (↑at_ : Int) ∧ (↑at_ : Int) < (↑l.length : Int) ∧ (↑at_ : Int).toNat * (5 : Nat) < (evsC l).length) (.ob ((evsC l)[(↑at_ : Int).toNat * (5 : Nat) + (3 : Nat)]? = some (AV.sl none (l.getD at_ ev0).attrs.length (atsC (l.getD at_ ev0).attrs) .no)) (.ob (Ctr Try.prog 22 [AV.sl none l.length (evsC l) .no, AV.int .i64 (↑at_ : Int)] (AV.sl none ps.length (intsC ps) .no)) (.head (pt Try.f12 0) ({ tmps := [(0, AV.sl none l.length (evsC l) .no), (4, AV.ptr 4 0), (5, AV.ptr 5 0), (6, AV.sl none ps.length (intsC ps) .no), (7, AV.int .i64 (0 : Int))], heap := [(4, .var true [AV.bool false, AV.str (ByteArray.mk #[]), AV.str (ByteArray.mk #[]), AV.str (ByteArray.mk #[]), AV.sl (some true) (0 : Nat) [] .clip, AV.sl (some true) (0 : Nat) [] .clip]), (5, .var true [AV.bool false, AV.str (ByteArray.mk #[]), AV.str (l.getD at_ ev0).nm.sp, AV.str (l.getD at_ ev0).nm.lo, AV.sl none (l.getD at_ ev0).attrs.length (atsC (l.getD at_ ev0).attrs) .no, AV.sl none (0 : Nat) [] (.own (2 : Nat))])], tags := [(2, { n := (0 : Nat), e := (39 : Nat), sz := (6 : Nat) })] })))))))))) (by kernel_rfl) (by
    have h0 : decide ((l.getD at_ ev0).kind = 2) = false := decide_eq_false (by rw [hk]; decide)
    simp only [PT.holds, h0, Int.toNat_natCast, evsC_len, true_implies, Bool.false_eq_true, Bool.true_eq_false, false_implies, true_and, and_true]
    exact ⟨by omega, by ((try simp only [Nat.add_assoc, Nat.reduceAdd, Nat.add_zero]) <;> first | (rw [ats_take _ _ _ _ h (by decide)]; rfl) | (rw [ats_nth _ _ _ h (by decide)]; rfl) | (rw [evs_take _ _ _ _ h (by decide)]; rfl) | (rw [evs_nth _ _ _ h (by decide)]; rfl) | (rw [trs_take _ _ _ _ h (by decide)]; rfl) | (rw [trs_nth _ _ _ h (by decide)]; rfl) | (rw [ats_take0 _ _ _ h (by decide)]; rfl) | (rw [ats_nth0 _ _ h]; rfl) | (rw [evs_take0 _ _ _ h (by decide)]; rfl) | (rw [evs_nth0 _ _ h]; rfl) | (rw [trs_take0 _ _ _ h (by decide)]; rfl) | (rw [trs_nth0 _ _ h]; rfl)), by omega, by ((try simp only [Nat.add_assoc, Nat.reduceAdd, Nat.add_zero]) <;> first | (rw [ats_take _ _ _ _ h (by decide)]; rfl) | (rw [ats_nth _ _ _ h (by decide)]; rfl) | (rw [evs_take _ _ _ _ h (by decide)]; rfl) | (rw [evs_nth _ _ _ h (by decide)]; rfl) | (rw [trs_take _ _ _ _ h (by decide)]; rfl) | (rw [trs_nth _ _ _ h (by decide)]; rfl) | (rw [ats_take0 _ _ _ h (by decide)]; rfl) | (rw [ats_nth0 _ _ h]; rfl) | (rw [evs_take0 _ _ _ h (by decide)]; rfl) | (rw [evs_nth0 _ _ h]; rfl) | (rw [trs_take0 _ _ _ h (by decide)]; rfl) | (rw [trs_nth0 _ _ h]; rfl)), by omega, by ((try simp only [Nat.add_assoc, Nat.reduceAdd, Nat.add_zero]) <;> first | (rw [ats_take _ _ _ _ h (by decide)]; rfl) | (rw [ats_nth _ _ _ h (by decide)]; rfl) | (rw [evs_take _ _ _ _ h (by decide)]; rfl) | (rw [evs_nth _ _ _ h (by decide)]; rfl) | (rw [trs_take _ _ _ _ h (by decide)]; rfl) | (rw [trs_nth _ _ _ h (by decide)]; rfl) | (rw [ats_take0 _ _ _ h (by decide)]; rfl) | (rw [ats_nth0 _ _ h]; rfl) | (rw [evs_take0 _ _ _ h (by decide)]; rfl) | (rw [evs_nth0 _ _ h]; rfl) | (rw [trs_take0 _ _ _ h (by decide)]; rfl) | (rw [trs_nth0 _ _ h]; rfl)), hc, kk⟩))
theorem tree_ctr {l : List Ev} (hl : l.length ≤ 60) (T : Tr) (i j : Nat) (h : Nod l i T j) : Ctr Try.prog 12 [.sl none l.length (evsC l) .no, .int .i64 i] (.agg (trL T)) := by
  match h with
  | .text i h hk => exact tree_pt l i [] _ rfl h hk
  | .elem i ks e h hk hks he hke =>
    obtain ⟨ps, p1, p2, p3⟩ := kids_ex hl h hk hks he hke
    have hlen : (ps.map Int.ofNat).length = ks.length := by simp [p1]
    have hks60 : ks.length ≤ 60 := by
      have : ∀ {i r e}, Nods l i r e → r.length + i ≤ e := by
        intro i r e h
        induction r generalizing i with
        | nil => cases h; simp
        | cons t r ih => cases h with
          | cons _ _ j _ _ h1 h2 => have := ih h2; have := nod_le h1; simp; omega
      have := this hks
      omega
    refine tree_pe l i _ _ h hk p3 ?_
    have main : ∀ d m, m + d = ks.length → HT Try.prog Try.f12.ntmps (pt Try.f12 0) (stTr l (l.getD i ev0) (ps.map Int.ofNat) (ks.take m) m) (EndsA Γ (.pure [] (.agg (trL (.mk false ⟨#[]⟩ (l.getD i ev0).nm (l.getD i ev0).attrs ks)))) Try.f12) := by
      intro d
      induction d with
      | zero =>
        intro m hm
        have hm : m = ks.length := by omega
        subst hm
        rw [List.take_length]
        exact tree_e l (l.getD i ev0) _ ks _ hlen.symm
      | succ d ih =>
        intro m hm
        have hlt : m < ks.length := by omega
        obtain ⟨j, hj⟩ := p2 m hlt
        have hmem : ks.getD m tr0 ∈ ks := getD_mem _ _ _ hlt
        have hc := tree_ctr hl (ks.getD m tr0) (ps.getD m 0) j hj
        have e1 : (ps.map Int.ofNat).getD m 0 = ((ps.getD m 0 : Nat) : Int) := by
          simp [List.getD_eq_getElem?_getD, show m < ps.length by omega]
        refine tree_h l _ _ _ m (ks.getD m tr0) _ (by omega) (by omega) (by simp; omega) (by rw [e1]; exact hc) ?_
        have e2 : ks.take m ++ [ks.getD m tr0] = ks.take (m + 1) := by
          rw [List.take_succ_eq_append_getElem hlt, List.getD_eq_getElem?_getD, List.getElem?_eq_getElem hlt]
          rfl
        rw [e2]
        exact ih (m + 1) (by omega)
    simpa using main ks.length 0 (by omega)
termination_by SizeOf.sizeOf T
decreasing_by
  have := List.sizeOf_lt_of_mem hmem
  simp only [Tr.mk.sizeOf_spec]
  omega

end Go.Proofs.Ytpffjbbolaehpaa
end

section
set_option linter.unusedVariables false
set_option linter.unusedSimpArgs false
set_option maxRecDepth 100000
namespace Go.Proofs.Ytpffjbbolaehpaa
open Go Go.AX

def wldL (l : List Ev) (ns : List Int) : List AV := [.sl none l.length (evsC l) .no, .sl none ns.length (intsC ns) .no]
def stMk (l : List Ev) (ns : List Int) (i : Nat) : AS := ⟨[(0, .sl none l.length (evsC l) .no), (2, .ptr 2 0), (3, .ptr 3 0), (4, .int .i64 i)], [(2, .var true [.sl (some true) 0 [] .clip, .sl (some true) 0 [] .clip]), (3, .var true [.sl none l.length (evsC l) .no, .sl none ns.length (intsC ns) (.own 1)])], [(1, ⟨ns.length, 3, 1, none⟩)]⟩

/-- The places of a document's nodes. -/
def nodF (l : List Ev) : Nat → Nat → List Int
  | 0, _ => []
  | d + 1, i => if (l.getD i ev0).kind = 3 then nodF l d (i + 1) else (i : Int) :: nodF l d (i + 1)
def nodJ (l : List Ev) : List Int := nodF l l.length 0
theorem mk_h (l : List Ev) (ns R : List Int) (i : Nat) (hi : i < l.length) (hl : l.length ≤ 60) (hn : ns.length ≤ i) (k1 : (l.getD i ev0).kind = 3 → HT Try.prog Try.f11.ntmps (pt Try.f11 0) (stMk l ns (i + 1)) (EndsA Γ (.pure [] (.agg (wldL l R))) Try.f11)) (k2 : (l.getD i ev0).kind ≠ 3 → HT Try.prog Try.f11.ntmps (pt Try.f11 0) (stMk l (ns ++ [(i : Int)]) (i + 1)) (EndsA Γ (.pure [] (.agg (wldL l R))) Try.f11)) : HT Try.prog Try.f11.ntmps (pt Try.f11 0) (stMk l ns i) (EndsA Γ (.pure [] (.agg (wldL l R))) Try.f11) :=
  HT.walk Γ_ok mo_ok (⟨([(17, .val (.int .i64 (l.getD i ev0).kind))] ++ []), sp11, hd11 [] [(false, 3, 1, 1, 3, 1)] [] [1], [], .pure [] (.agg (wldL l R))⟩ : Wk) 4000 (T := .split (decide ((↑i : Int) < (↑l.length : Int))) (.ob ((0 : Int) ≤ (↑i : Int) ∧ (↑i : Int) < (↑l.length : Int) ∧ (↑i : Int).toNat * (5 : Nat) < (evsC l).length) (.ob ((evsC l)[(↑i : Int).toNat * (5 : Nat) + (0 : Nat)]? = some (AV.int .i64 (l.getD i ev0).kind)) (.split (!decide ((l.getD i ev0).kind = (3 : Int))) (.ob (ns.length = ns.length) (.ob ((intsC ns).length = ns.length * ((0 : Nat) + (1 : Nat)) ∧ (splice (repL (List.map zn [AV.int .i64 (0 : Int)]) (1 : Nat)) ((0 : Nat) * (1 : Nat)) (cellsOf (AV.int .i64 (↑i : Int)))).length = (1 : Nat) * ((0 : Nat) + (1 : Nat)) ∧ (ns.length + (1 : Nat)) * ((7 : Nat) + (1 : Nat)) ≤ (140737488355328 : Nat)) (.head (pt Try.f11 0) ({ tmps := [(0, AV.sl none l.length (evsC l) .no), (2, AV.ptr 2 0), (3, AV.ptr 3 0), (4, AV.int .i64 (IntKind.i64.wrap ((↑i : Int) + (1 : Int))))], heap := [(2, .var true [AV.sl (some true) (0 : Nat) [] .clip, AV.sl (some true) (0 : Nat) [] .clip]), (3, .var true [AV.sl none l.length (evsC l) .no, AV.sl none (ns.length + (1 : Nat)) (intsC ns ++ splice (repL (List.map zn [AV.int .i64 (0 : Int)]) (1 : Nat)) ((0 : Nat) * (1 : Nat)) (cellsOf (AV.int .i64 (↑i : Int)))) (.own (1 : Nat))])], tags := [(1, { n := ns.length + (1 : Nat), e := (3 : Nat), sz := (1 : Nat) })] })))) (.head (pt Try.f11 0) ({ tmps := [(0, AV.sl none l.length (evsC l) .no), (2, AV.ptr 2 0), (3, AV.ptr 3 0), (4, AV.int .i64 (IntKind.i64.wrap ((↑i : Int) + (1 : Int))))], heap := [(2, .var true [AV.sl (some true) (0 : Nat) [] .clip, AV.sl (some true) (0 : Nat) [] .clip]), (3, .var true [AV.sl none l.length (evsC l) .no, AV.sl none ns.length (intsC ns) (.own (1 : Nat))])], tags := [(1, { n := ns.length, e := (3 : Nat), sz := (1 : Nat) })] }))))) (.ob ((2 : Nat) ≤ (2 : Nat)) (.ob (l.length = l.length) (.ob (evsC l = evsC l) (.ob (ns.length = R.length) (.ob (intsC ns = intsC R) (.tt))))))) (by kernel_rfl) (by
    have w2 : IntKind.i64.wrap ((i : Int) + 1) = ((i + 1 : Nat) : Int) := by rw [i64_wrap (by omega) (by omega)]; rfl
    have h0 : decide ((i : Int) < l.length) = true := by simp; omega
    simp only [PT.holds, w2, h0, Int.toNat_natCast, evsC_len, intsC_len', true_implies, Bool.false_eq_true, Bool.true_eq_false, false_implies, true_and, and_true]
    refine ⟨by omega, by ((try simp only [Nat.add_assoc, Nat.reduceAdd, Nat.add_zero]) <;> first | (rw [ats_nth _ _ _ hi (by decide)]; rfl) | (rw [evs_nth _ _ _ hi (by decide)]; rfl) | (rw [ats_nth0 _ _ hi]; rfl) | (rw [evs_nth0 _ _ hi]; rfl)), fun h => ⟨⟨by omega, rfl, by omega⟩, head_eq (k2 (by simpa using h)) ?_⟩, fun h => k1 (by simpa using h)⟩
    simp [stMk, ← intsC_app, splice, repL, cellsOf])
theorem mk_e (l : List Ev) (ns R : List Int) (hR : R = ns) (i : Nat) (hi : i = l.length) : HT Try.prog Try.f11.ntmps (pt Try.f11 0) (stMk l ns i) (EndsA Γ (.pure [] (.agg (wldL l R))) Try.f11) :=
  HT.walk Γ_ok mo_ok (⟨([(17, .val (.int .i64 (l.getD i ev0).kind))] ++ []), sp11, hd11 [] [(false, 3, 1, 1, 3, 1)] [] [1], [], .pure [] (.agg (wldL l R))⟩ : Wk) 4000 (T := .split (decide ((↑i : Int) < (↑l.length : Int))) (.ob ((0 : Int) ≤ (↑i : Int) ∧ (↑i : Int) < (↑l.length : Int) ∧ (↑i : Int).toNat * (5 : Nat) < (evsC l).length) (.ob ((evsC l)[(↑i : Int).toNat * (5 : Nat) + (0 : Nat)]? = some (AV.int .i64 (l.getD i ev0).kind)) (.split (!decide ((l.getD i ev0).kind = (3 : Int))) (.ob (ns.length = ns.length) (.ob ((intsC ns).length = ns.length * ((0 : Nat) + (1 : Nat)) ∧ (splice (repL (List.map zn [AV.int .i64 (0 : Int)]) (1 : Nat)) ((0 : Nat) * (1 : Nat)) (cellsOf (AV.int .i64 (↑i : Int)))).length = (1 : Nat) * ((0 : Nat) + (1 : Nat)) ∧ (ns.length + (1 : Nat)) * ((7 : Nat) + (1 : Nat)) ≤ (140737488355328 : Nat)) (.head (pt Try.f11 0) ({ tmps := [(0, AV.sl none l.length (evsC l) .no), (2, AV.ptr 2 0), (3, AV.ptr 3 0), (4, AV.int .i64 (IntKind.i64.wrap ((↑i : Int) + (1 : Int))))], heap := [(2, .var true [AV.sl (some true) (0 : Nat) [] .clip, AV.sl (some true) (0 : Nat) [] .clip]), (3, .var true [AV.sl none l.length (evsC l) .no, AV.sl none (ns.length + (1 : Nat)) (intsC ns ++ splice (repL (List.map zn [AV.int .i64 (0 : Int)]) (1 : Nat)) ((0 : Nat) * (1 : Nat)) (cellsOf (AV.int .i64 (↑i : Int)))) (.own (1 : Nat))])], tags := [(1, { n := ns.length + (1 : Nat), e := (3 : Nat), sz := (1 : Nat) })] })))) (.head (pt Try.f11 0) ({ tmps := [(0, AV.sl none l.length (evsC l) .no), (2, AV.ptr 2 0), (3, AV.ptr 3 0), (4, AV.int .i64 (IntKind.i64.wrap ((↑i : Int) + (1 : Int))))], heap := [(2, .var true [AV.sl (some true) (0 : Nat) [] .clip, AV.sl (some true) (0 : Nat) [] .clip]), (3, .var true [AV.sl none l.length (evsC l) .no, AV.sl none ns.length (intsC ns) (.own (1 : Nat))])], tags := [(1, { n := ns.length, e := (3 : Nat), sz := (1 : Nat) })] }))))) (.ob ((2 : Nat) ≤ (2 : Nat)) (.ob (l.length = l.length) (.ob (evsC l = evsC l) (.ob (ns.length = R.length) (.ob (intsC ns = intsC R) (.tt))))))) (by kernel_rfl) (by
    have h0 : decide ((i : Int) < l.length) = false := by simp; omega
    subst hR
    simp only [PT.holds, h0, true_implies, Bool.false_eq_true, Bool.true_eq_false, false_implies, true_and, and_true]
    repeat' (first | rfl | omega | apply And.intro))
theorem mk_l (l : List Ev) (hl : l.length ≤ 60) : ∀ d i ns, i + d = l.length → ns.length ≤ i → HT Try.prog Try.f11.ntmps (pt Try.f11 0) (stMk l ns i) (EndsA Γ (.pure [] (.agg (wldL l (ns ++ nodF l d i)))) Try.f11) := by
  intro d
  induction d with
  | zero => exact fun i ns h hn => mk_e l ns _ (by simp [nodF]) i (by omega)
  | succ d ih =>
    intro i ns h hn
    refine mk_h l ns _ i (by omega) hl hn (fun hk => ?_) (fun hk => ?_)
    · simp only [nodF, if_pos hk]
      exact ih (i + 1) ns (by omega) (by omega)
    · simp only [nodF, if_neg hk]
      have := ih (i + 1) (ns ++ [(i : Int)]) (by omega) (by simp; omega)
      simpa using this

theorem mk_ctr (l : List Ev) (hl : l.length ≤ 60) : Ctr Try.prog 11 [.sl none l.length (evsC l) .no] (.agg (wldL l (nodJ l))) :=
  Ctr.mk Γ_ok Try.func11 (by kernel_rfl) Try.call11 [] (by kernel_rfl) (HT.walk Γ_ok mo_ok (⟨[], sp11, hd11 [] [(false, 3, 1, 1, 3, 1)] [] [1], [], .pure [] (.agg (wldL l (nodJ l)))⟩ : Wk) 4000 (T := .head (pt Try.f11 0) ({ tmps := [(0, AV.sl none l.length (evsC l) .no), (2, AV.ptr 2 0), (3, AV.ptr 3 0), (4, AV.int .i64 (0 : Int))], heap := [(2, .var true [AV.sl (some true) (0 : Nat) [] .clip, AV.sl (some true) (0 : Nat) [] .clip]), (3, .var true [AV.sl none l.length (evsC l) .no, AV.sl none (0 : Nat) [] (.own (1 : Nat))])], tags := [(1, { n := (0 : Nat), e := (3 : Nat), sz := (1 : Nat) })] })) (by kernel_rfl) (by
    simp only [PT.holds]
    exact mk_l l hl l.length 0 [] (Nat.zero_add _) (Nat.le_refl _)))
end Go.Proofs.Ytpffjbbolaehpaa
end

section
set_option linter.unusedVariables false
set_option linter.unusedSimpArgs false
set_option maxRecDepth 100000
namespace Go.Proofs.Ytpffjbbolaehpaa
open Go Go.AX

def stHs (l : List Int) (n : Int) (i : Nat) : AS := ⟨[(0, .sl none l.length (intsC l) .no), (1, .int .i64 n), (5, .int .i64 i)], [], []⟩
def stSm (a b : List Int) (i : Nat) : AS := ⟨[(0, .sl none a.length (intsC a) .no), (1, .sl none b.length (intsC b) .no), (5, .int .i64 i)], [], []⟩
theorem has21_h (l : List Int) (n : Int) (i : Nat) (R : Bool) (hi : i < l.length) (hl : l.length ≤ 1000000) (k : l.getD i 0 ≠ n → HT Try.prog Try.f21.ntmps (pt Try.f21 0) (stHs l n (i + 1)) (EndsA Γ (.pure [] (.bool R)) Try.f21)) (hr : l.getD i 0 = n → R = true) : HT Try.prog Try.f21.ntmps (pt Try.f21 0) (stHs l n i) (EndsA Γ (.pure [] (.bool R)) Try.f21) :=
  HT.walk Γ_ok mo_ok (⟨([(15, .val (.int .i64 (l.getD i 0)))] ++ []), sp21, hd21 [] [] [] [], [], .pure [] (.bool R)⟩ : Wk) 4000 (T := .split (decide ((↑i : Int) < (↑l.length : Int))) (.ob ((0 : Int) ≤ (↑i : Int) ∧ (↑i : Int) < (↑l.length : Int) ∧ (↑i : Int).toNat * (1 : Nat) < (intsC l).length) (.ob ((intsC l)[(↑i : Int).toNat * (1 : Nat)]? = some (AV.int .i64 (l.getD i (0 : Int)))) (.split (decide (l.getD i (0 : Int) = n)) (.ob (true = R) (.tt)) (.head (pt Try.f21 0) ({ tmps := [(0, AV.sl none l.length (intsC l) .no), (1, AV.int .i64 n), (5, AV.int .i64 (IntKind.i64.wrap ((↑i : Int) + (1 : Int))))], heap := [], tags := [] }))))) (.ob (false = R) (.tt))) (by kernel_rfl) (by
    have w2 : IntKind.i64.wrap ((i : Int) + 1) = ((i + 1 : Nat) : Int) := by rw [i64_wrap (by omega) (by omega)]; rfl
    have h0 : decide ((i : Int) < l.length) = true := by simp; omega
    simp only [PT.holds, w2, h0, Int.toNat_natCast, Nat.mul_one, intsC_len', intsC_nth l i hi, decide_eq_true_eq, decide_eq_false_iff_not, true_implies, Bool.false_eq_true, Bool.true_eq_false, false_implies, true_and, and_true]
    exact ⟨by omega, fun h => (hr h).symm, fun h => k h⟩)
theorem has21_e (l : List Int) (n : Int) (i : Nat) (hi : i = l.length) : HT Try.prog Try.f21.ntmps (pt Try.f21 0) (stHs l n i) (EndsA Γ (.pure [] (.bool false)) Try.f21) :=
  HT.walk Γ_ok mo_ok (⟨([(15, .val (.int .i64 (l.getD i 0)))] ++ []), sp21, hd21 [] [] [] [], [], .pure [] (.bool false)⟩ : Wk) 4000 (T := .split (decide ((↑i : Int) < (↑l.length : Int))) (.ob ((0 : Int) ≤ (↑i : Int) ∧ (↑i : Int) < (↑l.length : Int) ∧ (↑i : Int).toNat * (1 : Nat) < (intsC l).length) (.ob ((intsC l)[(↑i : Int).toNat * (1 : Nat)]? = some (AV.int .i64 (l.getD i (0 : Int)))) (.split (decide (l.getD i (0 : Int) = n)) (.ob (true = false) (.tt)) (.head (pt Try.f21 0) ({ tmps := [(0, AV.sl none l.length (intsC l) .no), (1, AV.int .i64 n), (5, AV.int .i64 (IntKind.i64.wrap ((↑i : Int) + (1 : Int))))], heap := [], tags := [] }))))) (.ob (false = false) (.tt))) (by kernel_rfl) (by
    have h0 : decide ((i : Int) < l.length) = false := by simp; omega
    simp only [PT.holds, h0, true_implies, Bool.false_eq_true, Bool.true_eq_false, false_implies, true_and, and_true])
theorem has21_l (l : List Int) (n : Int) (hl : l.length ≤ 1000000) : ∀ d i, i + d = l.length → (∀ j, j < i → l.getD j 0 ≠ n) → HT Try.prog Try.f21.ntmps (pt Try.f21 0) (stHs l n i) (EndsA Γ (.pure [] (.bool (decide (n ∈ l)))) Try.f21) := by
  intro d
  induction d with
  | zero =>
    intro i h hj
    have e : decide (n ∈ l) = false := decide_eq_false fun hm => by
      obtain ⟨j, hj1, rfl⟩ := List.getElem_of_mem hm
      exact hj j (by omega) (by rw [List.getD_eq_getElem?_getD, List.getElem?_eq_getElem hj1]; rfl)
    rw [e]
    exact has21_e l n i (by omega)
  | succ d ih =>
    intro i h hj
    refine has21_h l n i _ (by omega) hl (fun hne => ih (i + 1) (by omega) fun j hj' => ?_) (fun he => ?_)
    · rcases Nat.lt_or_eq_of_le (Nat.lt_succ_iff.1 hj') with h1 | h1
      · exact hj j h1
      · rw [h1]; exact hne
    · exact decide_eq_true (he ▸ getD_mem l i 0 (by omega))

theorem has21_ctr (l : List Int) (n : Int) (hl : l.length ≤ 1000000) : Ctr Try.prog 21 [(.sl none l.length (intsC l) .no), .int .i64 n] (.bool (decide (n ∈ l))) :=
  Ctr.mk Γ_ok Try.func21 (by kernel_rfl) Try.call21 [] (by kernel_rfl) (HT.walk Γ_ok mo_ok (⟨[], sp21, hd21 [] [] [] [], [], .pure [] (.bool (decide (n ∈ l)))⟩ : Wk) 4000 (T := .head (pt Try.f21 0) ({ tmps := [(0, AV.sl none l.length (intsC l) .no), (1, AV.int .i64 n), (5, AV.int .i64 (0 : Int))], heap := [], tags := [] })) (by kernel_rfl) (by
    simp only [PT.holds]
    exact has21_l l n hl l.length 0 (Nat.zero_add _) (fun j hj => absurd hj (Nat.not_lt_zero j))))
theorem same_h (a b : List Int) (i : Nat) (R : Bool) (hab : a.length = b.length) (hN : a.length ≤ 1000000) (hi : i < a.length) (k : a.getD i 0 = b.getD i 0 → HT Try.prog Try.f14.ntmps (pt Try.f14 0) (stSm a b (i + 1)) (EndsA Γ (.pure [] (.bool R)) Try.f14)) (hr : a.getD i 0 ≠ b.getD i 0 → R = false) : HT Try.prog Try.f14.ntmps (pt Try.f14 0) (stSm a b i) (EndsA Γ (.pure [] (.bool R)) Try.f14) :=
  HT.walk Γ_ok mo_ok (⟨([(20, .val (.int .i64 (a.getD i 0))), (24, .val (.int .i64 (b.getD i 0)))] ++ []), sp14, hd14 [] [] [] [], dsp14, .pure [] (.bool R)⟩ : Wk) 4000 (T := .split (decide ((↑i : Int) < (↑a.length : Int))) (.or (.ob ((0 : Int) ≤ (↑i : Int) ∧ (↑i : Int) < (↑a.length : Int) ∧ (↑i : Int).toNat * (1 : Nat) < (intsC a).length) (.ob ((intsC a)[(↑i : Int).toNat * (1 : Nat)]? = some (AV.int .i64 (a.getD i (0 : Int)))) (.ob ((0 : Int) ≤ (↑i : Int) ∧ (↑i : Int) < (↑b.length : Int) ∧ (↑i : Int).toNat * (1 : Nat) < (intsC b).length) (.ob ((intsC b)[(↑i : Int).toNat * (1 : Nat)]? = some (AV.int .i64 (b.getD i (0 : Int)))) (.ob ((!decide (a.getD i (0 : Int) = b.getD i (0 : Int))) = true) (.ob (false = R) (.tt))))))) (.ob ((0 : Int) ≤ (↑i : Int) ∧ (↑i : Int) < (↑a.length : Int) ∧ (↑i : Int).toNat * (1 : Nat) < (intsC a).length) (.ob ((intsC a)[(↑i : Int).toNat * (1 : Nat)]? = some (AV.int .i64 (a.getD i (0 : Int)))) (.ob ((0 : Int) ≤ (↑i : Int) ∧ (↑i : Int) < (↑b.length : Int) ∧ (↑i : Int).toNat * (1 : Nat) < (intsC b).length) (.ob ((intsC b)[(↑i : Int).toNat * (1 : Nat)]? = some (AV.int .i64 (b.getD i (0 : Int)))) (.ob ((!decide (a.getD i (0 : Int) = b.getD i (0 : Int))) = false) (.head (pt Try.f14 0) ({ tmps := [(0, AV.sl none a.length (intsC a) .no), (1, AV.sl none b.length (intsC b) .no), (5, AV.int .i64 (IntKind.i64.wrap ((↑i : Int) + (1 : Int))))], heap := [], tags := [] })))))))) (.ob (true = R) (.tt))) (by kernel_rfl) (by
    have w2 : IntKind.i64.wrap ((i : Int) + 1) = ((i + 1 : Nat) : Int) := by rw [i64_wrap (by omega) (by omega)]; rfl
    have h0 : decide ((i : Int) < a.length) = true := by simp; omega
    have hib : i < b.length := by omega
    simp only [PT.holds, w2, h0, Int.toNat_natCast, Nat.mul_one, intsC_len', intsC_nth a i hi, intsC_nth b i hib, true_implies, Bool.false_eq_true, Bool.true_eq_false, false_implies, true_and, and_true]
    by_cases h : a.getD i 0 = b.getD i 0
    · refine .inr ⟨by omega, by omega, ?_, k h⟩
      rw [h]; simp
    · refine .inl ⟨by omega, by omega, ?_, (hr h).symm⟩
      rw [decide_eq_false h]; rfl)
theorem same_e (a b : List Int) (i : Nat) (hi : i = a.length) : HT Try.prog Try.f14.ntmps (pt Try.f14 0) (stSm a b i) (EndsA Γ (.pure [] (.bool true)) Try.f14) :=
  HT.walk Γ_ok mo_ok (⟨([(20, .val (.int .i64 (a.getD i 0))), (24, .val (.int .i64 (b.getD i 0)))] ++ []), sp14, hd14 [] [] [] [], dsp14, .pure [] (.bool true)⟩ : Wk) 4000 (T := .split (decide ((↑i : Int) < (↑a.length : Int))) (.or (.ob ((0 : Int) ≤ (↑i : Int) ∧ (↑i : Int) < (↑a.length : Int) ∧ (↑i : Int).toNat * (1 : Nat) < (intsC a).length) (.ob ((intsC a)[(↑i : Int).toNat * (1 : Nat)]? = some (AV.int .i64 (a.getD i (0 : Int)))) (.ob ((0 : Int) ≤ (↑i : Int) ∧ (↑i : Int) < (↑b.length : Int) ∧ (↑i : Int).toNat * (1 : Nat) < (intsC b).length) (.ob ((intsC b)[(↑i : Int).toNat * (1 : Nat)]? = some (AV.int .i64 (b.getD i (0 : Int)))) (.ob ((!decide (a.getD i (0 : Int) = b.getD i (0 : Int))) = true) (.ob (false = true) (.tt))))))) (.ob ((0 : Int) ≤ (↑i : Int) ∧ (↑i : Int) < (↑a.length : Int) ∧ (↑i : Int).toNat * (1 : Nat) < (intsC a).length) (.ob ((intsC a)[(↑i : Int).toNat * (1 : Nat)]? = some (AV.int .i64 (a.getD i (0 : Int)))) (.ob ((0 : Int) ≤ (↑i : Int) ∧ (↑i : Int) < (↑b.length : Int) ∧ (↑i : Int).toNat * (1 : Nat) < (intsC b).length) (.ob ((intsC b)[(↑i : Int).toNat * (1 : Nat)]? = some (AV.int .i64 (b.getD i (0 : Int)))) (.ob ((!decide (a.getD i (0 : Int) = b.getD i (0 : Int))) = false) (.head (pt Try.f14 0) ({ tmps := [(0, AV.sl none a.length (intsC a) .no), (1, AV.sl none b.length (intsC b) .no), (5, AV.int .i64 (IntKind.i64.wrap ((↑i : Int) + (1 : Int))))], heap := [], tags := [] })))))))) (.ob (true = true) (.tt))) (by kernel_rfl) (by
    have h0 : decide ((i : Int) < a.length) = false := by simp; omega
    simp only [PT.holds, h0, true_implies, Bool.false_eq_true, Bool.true_eq_false, false_implies, true_and, and_true])
theorem same_l (a b : List Int) (hab : a.length = b.length) (hN : a.length ≤ 1000000) : ∀ d i, i + d = a.length → (∀ j, j < i → a.getD j 0 = b.getD j 0) → HT Try.prog Try.f14.ntmps (pt Try.f14 0) (stSm a b i) (EndsA Γ (.pure [] (.bool (decide (a = b)))) Try.f14) := by
  intro d
  induction d with
  | zero =>
    intro i h hj
    have e : a = b := ext_getD 0 hab fun j hj' => hj j (by omega)
    have e1 : decide (a = b) = true := by simp [e]
    rw [e1]
    exact same_e a b i (by omega)
  | succ d ih =>
    intro i h hj
    refine same_h a b i _ hab hN (by omega) (fun he => ih (i + 1) (by omega) fun j hj' => ?_) (fun hne => ?_)
    · rcases Nat.lt_or_eq_of_le (Nat.lt_succ_iff.1 hj') with h1 | h1
      · exact hj j h1
      · rw [h1]; exact he
    · exact decide_eq_false fun e => hne (by rw [e])

theorem same_ctr (a b : List Int) (hN : a.length ≤ 1000000) : Ctr Try.prog 14 [(.sl none a.length (intsC a) .no), (.sl none b.length (intsC b) .no)] (.bool (decide (a = b))) :=
  Ctr.mk Γ_ok Try.func14 (by kernel_rfl) Try.call14 [] (by kernel_rfl) (HT.walk Γ_ok mo_ok (⟨[], sp14, hd14 [] [] [] [], dsp14, .pure [] (.bool (decide (a = b)))⟩ : Wk) 4000 (T := .split (!decide ((↑a.length : Int) = (↑b.length : Int))) (.ob (false = decide (a = b)) (.tt)) (.head (pt Try.f14 0) ({ tmps := [(0, AV.sl none a.length (intsC a) .no), (1, AV.sl none b.length (intsC b) .no), (5, AV.int .i64 (0 : Int))], heap := [], tags := [] }))) (by kernel_rfl) (by
    by_cases hab : a.length = b.length
    · have h0 : (!decide ((a.length : Int) = b.length)) = false := by simp; omega
      simp only [PT.holds, h0, true_implies, Bool.false_eq_true, Bool.true_eq_false, false_implies, true_and, and_true]
      exact same_l a b hab hN a.length 0 (Nat.zero_add _) (fun j hj => absurd hj (Nat.not_lt_zero j))
    · have h0 : (!decide ((a.length : Int) = b.length)) = true := by simp; omega
      have h1 : decide (a = b) = false := decide_eq_false fun e => hab (by rw [e])
      simp only [PT.holds, h0, h1, true_implies, Bool.false_eq_true, Bool.true_eq_false, false_implies, true_and, and_true]))
end Go.Proofs.Ytpffjbbolaehpaa
end

section
set_option linter.unusedVariables false
set_option linter.unusedSimpArgs false
set_option maxRecDepth 100000
namespace Go.Proofs.Ytpffjbbolaehpaa
open Go Go.AX

/-! ### Select, From, Holds of whatever tree -/
theorem select_all (t : Tr) (ht : t.okA) (hN : cntT t ≤ 1000000) (p : Pth) (hr : p.r) (hok : p.ok) (n : Int) : Ctr Try.prog 16 [.agg (pthL p), .agg (trL t), .int .i64 n] (.sl none (fromJ (visitS t (-1) pln0) p n).length (intsC (fromJ (visitS t (-1) pln0) p n)) .no) := by
  obtain ⟨N, hP, _, _⟩ := make_pw t ht hN
  exact from_p _ p t n N hP _ rfl _ rfl (make_ex t hN _ rfl) (fun s hs => leads_ctr _ N hP p hr hok s hs)
theorem holds_all (t : Tr) (ht : t.okA) (hN : cntT t ≤ 1000000) (f : Flt) (hr : f.r) (hok : f.ok) (n : Int) : Ctr Try.prog 17 [.agg (fltL f), .agg (trL t), .int .i64 n] (.bool (decide (0 ≤ n) && (decide (n < (visitS t (-1) pln0).tr.length) && holdsJ (visitS t (-1) pln0) f n.toNat))) := by
  obtain ⟨N, hP, _, _⟩ := make_pw t ht hN
  refine holdsf_ctr _ f t n _ (make_ex t hN _ rfl) (fun h1 h2 => ?_)
  have h3 := holds_ctr _ N hP f hr hok n.toNat (by have := hP.tr; omega)
  have e : ((n.toNat : Nat) : Int) = n := by omega
  rw [e] at h3
  exact h3
def pA : Pth := .mk 4 [.mk 2 [] [], .mk 6 [.mk 3 [] []] []] []
def tA : Tr := .mk false ⟨#[]⟩ ⟨⟨#[]⟩, ⟨#[97]⟩⟩ [] [.mk false ⟨#[]⟩ ⟨⟨#[]⟩, ⟨#[98]⟩⟩ [] [], .mk true ⟨#[116]⟩ nm0 [] []]
def fA : Flt := .mk 4 ⟨⟨#[]⟩, ⟨#[98]⟩⟩ ⟨#[]⟩ [] []
def fB : Flt := .mk 1 nm0 ⟨#[]⟩ [] []
theorem tA_ok : tA.okA := by simp [tA, Tr.okA, okAs]
theorem pA_ok : pA.ok := by simp [pA, Pth.ok, oksP, oksF]
theorem fA_ok : fA.ok := by simp [fA, Flt.ok, oksP, oksF, Nm.ok, ByteArray.size]
theorem fB_ok : fB.ok := by simp [fB, Flt.ok, oksP, oksF, Nm.ok, nm0, ByteArray.size]
theorem fA_r : fA.r := .mk _ ⟨by decide, by decide, by decide, by decide, by decide, by decide⟩ (fun q hq => by simp [fA, Flt.sub] at hq) (fun q hq => by simp [fA, Flt.way] at hq)
theorem fB_r : fB.r := .mk _ ⟨by decide, by decide, by decide, by decide, by decide, by decide⟩ (fun q hq => by simp [fB, Flt.sub] at hq) (fun q hq => by simp [fB, Flt.way] at hq)
theorem leaf_r (op : Int) (h : op = 2 ∨ op = 3) : (Pth.mk op [] []).r := .mk _ ⟨by simp only [Pth.op]; omega, by simp only [Pth.op]; omega, by simp only [Pth.op]; omega, fun _ => rfl, by simp [Pth.op, Pth.test]; omega, by simp [Pth.test]⟩ (fun q hq => by simp [Pth.sub] at hq) (fun q hq => by simp [Pth.test] at hq)
theorem pA_r : pA.r := by
  refine .mk _ ⟨by decide, by decide, by decide, by decide, by decide, by decide⟩ (fun q hq => ?_) (fun q hq => by simp [pA, Pth.test] at hq)
  simp only [pA, Pth.sub, List.mem_cons, List.not_mem_nil, or_false] at hq
  rcases hq with rfl | rfl
  · exact leaf_r 2 (.inl rfl)
  · refine .mk _ ⟨by decide, by decide, by decide, by decide, by decide, by decide⟩ (fun q hq => ?_) (fun q hq => by simp [Pth.test] at hq)
    simp only [Pth.sub, List.mem_cons, List.not_mem_nil, or_false] at hq
    subst hq
    exact leaf_r 3 (.inr rfl)
theorem fromA : fromJ (visitS tA (-1) pln0) pA 0 = [1, 2] := by rfl

theorem awake_p (h15 : Ctr Try.prog 15 [.agg (pthL pA), .agg (trL tA)] (.sl none 2 [.int .i64 1, .int .i64 2] .no)) (h14 : Ctr Try.prog 14 [.sl none 2 [.int .i64 1, .int .i64 2] .no, .sl none 2 [.int .i64 1, .int .i64 2] .no] (.bool true)) (h1 : Ctr Try.prog 17 [.agg (fltL fA), .agg (trL tA), .int .i64 1] (.bool true)) (h2 : Ctr Try.prog 17 [.agg (fltL fB), .agg (trL tA), .int .i64 3] (.bool false)) : Ctr Try.prog 8 [] (.bool true) :=
  Ctr.mk Γ_ok Try.func8 (by kernel_rfl) Try.call8 [] (by kernel_rfl) (HT.walk Γ_ok mo_ok (⟨([(17, .call [] (.sl none 2 [.int .i64 1, .int .i64 2] .no)), (19, .call [] (.bool true)), (24, .call [] (.bool true)), (29, .call [] (.bool false))] ++ []), sp8, [], [], .pure [] (.bool true)⟩ : Wk) 4000 (T := .ob ((3 : Nat) ≤ (3 : Nat)) (.ob ((6 : Nat) ≤ (6 : Nat)) (.ob (Ctr Try.prog 15 [AV.agg [AV.int .i64 (4 : Int), AV.sl (some false) (2 : Nat) [AV.int .i64 (2 : Int), AV.sl none (0 : Nat) [] .no, AV.sl none (0 : Nat) [] .no, AV.int .i64 (6 : Int), AV.sl none (1 : Nat) [AV.int .i64 (3 : Int), AV.sl none (0 : Nat) [] .no, AV.sl none (0 : Nat) [] .no] .no, AV.sl none (0 : Nat) [] .no] .clip, AV.sl (some true) (0 : Nat) [] .clip], AV.agg [AV.bool false, AV.str (ByteArray.mk #[]), AV.str (ByteArray.mk #[]), AV.str (ByteArray.mk #[(97 : UInt8)]), AV.sl (some true) (0 : Nat) [] .clip, AV.sl (some false) (2 : Nat) [AV.bool false, AV.str (ByteArray.mk #[]), AV.str (ByteArray.mk #[]), AV.str (ByteArray.mk #[(98 : UInt8)]), AV.sl none (0 : Nat) [] .no, AV.sl none (0 : Nat) [] .no, AV.bool true, AV.str (ByteArray.mk #[(116 : UInt8)]), AV.str (ByteArray.mk #[]), AV.str (ByteArray.mk #[]), AV.sl none (0 : Nat) [] .no, AV.sl none (0 : Nat) [] .no] .clip]] (AV.sl none (2 : Nat) [AV.int .i64 (1 : Int), AV.int .i64 (2 : Int)] .no)) (.ob (Ctr Try.prog 14 [AV.sl none (2 : Nat) [AV.int .i64 (1 : Int), AV.int .i64 (2 : Int)] .no, AV.sl (some false) (2 : Nat) [AV.int .i64 (1 : Int), AV.int .i64 (2 : Int)] .clip] (AV.bool true)) (.split (true) (.ob ((6 : Nat) ≤ (6 : Nat)) (.ob (Ctr Try.prog 17 [AV.agg [AV.int .i64 (4 : Int), AV.str (ByteArray.mk #[]), AV.str (ByteArray.mk #[(98 : UInt8)]), AV.str (ByteArray.mk #[]), AV.sl (some true) (0 : Nat) [] .clip, AV.sl (some true) (0 : Nat) [] .clip], AV.agg [AV.bool false, AV.str (ByteArray.mk #[]), AV.str (ByteArray.mk #[]), AV.str (ByteArray.mk #[(97 : UInt8)]), AV.sl (some true) (0 : Nat) [] .clip, AV.sl (some false) (2 : Nat) [AV.bool false, AV.str (ByteArray.mk #[]), AV.str (ByteArray.mk #[]), AV.str (ByteArray.mk #[(98 : UInt8)]), AV.sl none (0 : Nat) [] .no, AV.sl none (0 : Nat) [] .no, AV.bool true, AV.str (ByteArray.mk #[(116 : UInt8)]), AV.str (ByteArray.mk #[]), AV.str (ByteArray.mk #[]), AV.sl none (0 : Nat) [] .no, AV.sl none (0 : Nat) [] .no] .clip], AV.int .i64 (1 : Int)] (AV.bool true)) (.split (true) (.ob ((6 : Nat) ≤ (6 : Nat)) (.ob (Ctr Try.prog 17 [AV.agg [AV.int .i64 (1 : Int), AV.str (ByteArray.mk #[]), AV.str (ByteArray.mk #[]), AV.str (ByteArray.mk #[]), AV.sl (some true) (0 : Nat) [] .clip, AV.sl (some true) (0 : Nat) [] .clip], AV.agg [AV.bool false, AV.str (ByteArray.mk #[]), AV.str (ByteArray.mk #[]), AV.str (ByteArray.mk #[(97 : UInt8)]), AV.sl (some true) (0 : Nat) [] .clip, AV.sl (some false) (2 : Nat) [AV.bool false, AV.str (ByteArray.mk #[]), AV.str (ByteArray.mk #[]), AV.str (ByteArray.mk #[(98 : UInt8)]), AV.sl none (0 : Nat) [] .no, AV.sl none (0 : Nat) [] .no, AV.bool true, AV.str (ByteArray.mk #[(116 : UInt8)]), AV.str (ByteArray.mk #[]), AV.str (ByteArray.mk #[]), AV.sl none (0 : Nat) [] .no, AV.sl none (0 : Nat) [] .no] .clip], AV.int .i64 (3 : Int)] (AV.bool false)) (.ob (true = true) (.tt)))) (.ob (false = true) (.tt))))) (.ob (false = true) (.tt))))))) (by kernel_rfl) (by
    simp only [PT.holds, true_implies, Bool.false_eq_true, Bool.true_eq_false, false_implies, true_and, and_true]
    have ar : True := trivial
    refine ⟨by omega, by omega, h15.args rfl ?_, h14.args rfl ?_, by omega, h1.args rfl ?_, by omega, h2.args rfl ?_⟩
    all_goals (repeat' first | exact rfl | refine And.intro ?_ ?_)))
theorem awake_ctr : Ctr Try.prog 8 [] (.bool true) := by
  have h15 := select_ctr pA tA _ (select_all tA tA_ok (by decide) pA pA_r pA_ok 0)
  rw [fromA] at h15
  have h14 := same_ctr [1, 2] [1, 2] (by decide)
  have h1 := holds_all tA tA_ok (by decide) fA fA_r fA_ok 1
  have h2 := holds_all tA tA_ok (by decide) fB fB_r fB_ok 3
  exact awake_p h15 h14 h1 h2

end Go.Proofs.Ytpffjbbolaehpaa
end

section
set_option linter.unusedVariables false
set_option linter.unusedSimpArgs false
namespace Go.Proofs.Ytpffjbbolaehpaa
open Go Go.AX

theorem nodF_add (l : List Ev) : ∀ d1 d2 i, nodF l (d1 + d2) i = nodF l d1 i ++ nodF l d2 (i + d1)
  | 0, d2, i => by simp [nodF]
  | d1 + 1, d2, i => by
    have e : d1 + 1 + d2 = (d1 + d2) + 1 := by omega
    have e2 : i + (d1 + 1) = i + 1 + d1 := by omega
    rw [e, e2]
    simp only [nodF, nodF_add l d1 d2 (i + 1)]
    split <;> simp
mutual
theorem nod_cnt {l : List Ev} {i j : Nat} (t : Tr) (h : Nod l i t j) : (nodF l (j - i) i).length = cntT t := by
  match t, h with
  | _, .text i h hk =>
    have e : i + 1 - i = 1 := by omega
    rw [e]
    simp [nodF, cntT, cntL, -List.getD_eq_getElem?_getD, hk]
  | .mk _ _ _ _ ks, .elem i _ e h hk hks he hke =>
    have h1 := nods_cnt ks hks
    have hle := nods_le hks
    have e1 : e + 1 - i = 1 + ((e - (i + 1)) + 1) := by omega
    have e2 : i + 1 + (e - (i + 1)) = e := by omega
    rw [e1, nodF_add, nodF_add, e2, List.length_append, List.length_append, h1]
    simp [nodF, cntT, -List.getD_eq_getElem?_getD, hk, hke]
theorem nods_cnt {l : List Ev} {i j : Nat} (r : List Tr) (h : Nods l i r j) : (nodF l (j - i) i).length = cntL r := by
  match r, h with
  | [], .nil _ => simp [nodF, cntL]
  | t :: r, .cons _ _ k _ _ h1 h2 =>
    have g1 := nod_cnt t h1
    have g2 := nods_cnt r h2
    have l1 := nod_le h1
    have l2 := nods_le h2
    have e1 : j - i = (k - i) + (j - k) := by omega
    have e2 : i + (k - i) = k := by omega
    rw [e1, nodF_add, List.length_append, e2, g1, g2]
    simp [cntL]
end
mutual
theorem nod_okA {l : List Ev} (ho : ∀ e ∈ l, e.attrs.length ≤ 1048600) {i j : Nat} (t : Tr) (h : Nod l i t j) : t.okA := by
  match t, h with
  | _, .text i h hk => simp [Tr.okA, okAs]
  | .mk _ _ _ _ ks, .elem i _ e h hk hks he hke =>
    have := ho _ (getD_mem l i ev0 h)
    simp only [Tr.okA]
    exact ⟨this, nods_okA ho ks hks⟩
theorem nods_okA {l : List Ev} (ho : ∀ e ∈ l, e.attrs.length ≤ 1048600) {i j : Nat} (r : List Tr) (h : Nods l i r j) : okAs r := by
  match r, h with
  | [], .nil _ => simp [okAs]
  | t :: r, .cons _ _ k _ _ h1 h2 => simp only [okAs]; exact ⟨nod_okA ho t h1, nods_okA ho r h2⟩
end
theorem placesJ_le (s : List Bool) : ∀ d i, (placesJ s d i).length ≤ d
  | 0, i => Nat.le_refl _
  | d + 1, i => by
    have := placesJ_le s d (i + 1)
    simp only [placesJ]
    split
    · rw [List.length_cons]; omega
    · omega
end Go.Proofs.Ytpffjbbolaehpaa
end
