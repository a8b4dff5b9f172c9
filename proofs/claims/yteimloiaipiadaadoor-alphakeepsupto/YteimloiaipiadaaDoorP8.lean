import Derived.Test.YteimloiaipiadaaDoorP7
section
set_option linter.unusedVariables false
set_option linter.unusedSimpArgs false
set_option maxRecDepth 100000
namespace Go.Proofs.YteimloiaipiadaaDoor
open Go Go.AX

def stFu (p : Flt) (W : Wd) (i : Nat) : AS := ⟨[(0, .ptr 1000003 0), (3, .ptr 3 0), (70, .sl none p.sub.length (fltsC p.sub) .no), (71, .int .i64 p.sub.length), (72, .int .i64 i)], [(3, .var true (fltL p)), (1000003, .var true (gatC W))], gatT true W⟩
def stFw (p : Flt) (W : Wd) (i : Nat) : AS := ⟨[(0, .ptr 1000003 0), (81, .sl none p.way.length (pthsC p.way) .no), (82, .int .i64 p.way.length), (83, .int .i64 i)], [(3, .var true (fltL p)), (1000003, .var true (gatC W))], gatT true W⟩
def stFuK (p : Flt) (W : Wd) (j : Nat) (i : Nat) : AS := ⟨[(0, .ptr 1000003 0), (3, .ptr 3 0), (70, .sl none p.sub.length (fltsC p.sub) .no), (71, .int .i64 p.sub.length), (72, .int .i64 i)], [(3, .var true (fltL p)), (1000003, .var true (gatC W))], gatT true W ++ [(1000020, ⟨j, 9, 1, none⟩)]⟩
def stFwK (p : Flt) (W : Wd) (j : Nat) (i : Nat) : AS := ⟨[(0, .ptr 1000003 0), (81, .sl none p.way.length (pthsC p.way) .no), (82, .int .i64 p.way.length), (83, .int .i64 i)], [(3, .var true (fltL p)), (1000003, .var true (gatC W))], gatT true W ++ [(1000020, ⟨j, 9, 1, none⟩)]⟩
def stPu (p : Pth) (W : Wd) (i : Nat) : AS := ⟨[(0, .ptr 1000003 0), (3, .ptr 3 0), (9, .sl none p.sub.length (pthsC p.sub) .no), (10, .int .i64 p.sub.length), (11, .int .i64 i)], [(3, .var true (pthL p)), (1000003, .var true (gatC W))], gatT true W⟩
def stPw (p : Pth) (W : Wd) (i : Nat) : AS := ⟨[(0, .ptr 1000003 0), (20, .sl none p.test.length (fltsC p.test) .no), (21, .int .i64 p.test.length), (22, .int .i64 i)], [(3, .var true (pthL p)), (1000003, .var true (gatC W))], gatT true W⟩

theorem fr11 (p : Flt) (W R : Wd) (k : HT Tryd.prog Tryd.f67.ntmps (pt Tryd.f67 0) (stFu p W 0) (EndsA Γ (.mem [] (gatM R) (.tup [])) Tryd.f67)) : HT Tryd.prog Tryd.f67.ntmps (pr Tryd.f67 11) (stGf p W) (EndsA Γ (.mem [] (gatM R) (.tup [])) Tryd.f67) :=
  HT.walk Γ_ok mo_ok (⟨[], sp67, hd67 [] [] [1000003] [1000010, 1000011, 1000777, 1000014], [], .mem [] (gatM R) (.tup [])⟩ : Wk) 4000 (T := .head (pt Tryd.f67 0) ({ tmps := [(0, AV.ptr 1000003 0), (3, AV.ptr 3 0), (70, AV.sl none p.sub.length (fltsC p.sub) .no), (71, AV.int .i64 (↑p.sub.length : Int)), (72, AV.int .i64 (0 : Int))], heap := [(3, .var true (fltL p)), (1000003, .var true [AV.vec (1000010 : Nat) W.N.length, AV.vec (1000011 : Nat) W.A.length, AV.vec (1000777 : Nat) W.V.length, AV.vec (1000014 : Nat) W.T.length])], tags := [(1000010, { n := W.N.length, e := (36 : Nat), sz := (2 : Nat), cs := some (false, nmsC W.N) }), (1000011, { n := W.A.length, e := (36 : Nat), sz := (2 : Nat), cs := some (false, nmsC W.A) }), (1000777, { n := W.V.length, e := (64 : Nat), sz := (1 : Nat), cs := some (true, valsC W.V) }), (1000014, { n := W.T.length, e := (9 : Nat), sz := (1 : Nat), cs := some (false, strsC W.T) })] })) (by kernel_rfl) (by
    simp only [PT.holds]
    exact head_eq k (by simp [stFu, fltL, gatC, gatT]))
theorem fu_h (p : Flt) (W V R : Wd) (i : Nat) (hi : i < p.sub.length) (hs : p.sub.length ≤ 1048600) (hc : CtrM Tryd.prog 67 (gatM W) [.ptr 1000003 0, .agg (fltL (p.sub.getD i flt0))] (gatM V) (.tup [])) (k : HT Tryd.prog Tryd.f67.ntmps (pt Tryd.f67 0) (stFu p V (i + 1)) (EndsA Γ (.mem [] (gatM R) (.tup [])) Tryd.f67)) : HT Tryd.prog Tryd.f67.ntmps (pt Tryd.f67 0) (stFu p W i) (EndsA Γ (.mem [] (gatM R) (.tup [])) Tryd.f67) :=
  HT.walk Γ_ok mo_ok (⟨[(73, .val (.bool true)), (75, .val (.agg (fltL (p.sub.getD i flt0)))), (78, .callM [] [] [1000003] [1000010, 1000011, 1000777, 1000014] (gatM V).heap (gatM V).tags (.tup []))], (sp67).filter (fun x => !Nat.beq x 73), hd67 [] [] [1000003] [1000010, 1000011, 1000777, 1000014], [], .mem [] (gatM R) (.tup [])⟩ : Wk) 4000 (T := .ob (decide ((↑i : Int) < (↑p.sub.length : Int)) = true) (.ob ((0 : Int) ≤ (↑i : Int) ∧ (↑i : Int) < (↑p.sub.length : Int) ∧ (↑i : Int).toNat * (6 : Nat) < (fltsC p.sub).length) (.ob (List.take (6 : Nat) (List.drop ((↑i : Int).toNat * (6 : Nat)) (fltsC p.sub)) = (fltL (p.sub.getD i flt0))) (.ob ((6 : Nat) ≤ (6 : Nat)) (.ob (CtrM Tryd.prog (67 : Nat) { heap := [(1000003, .var true [AV.vec (1000010 : Nat) W.N.length, AV.vec (1000011 : Nat) W.A.length, AV.vec (1000777 : Nat) W.V.length, AV.vec (1000014 : Nat) W.T.length])], tags := [(1000010, { n := W.N.length, e := (36 : Nat), sz := (2 : Nat), cs := some (false, nmsC W.N) }), (1000011, { n := W.A.length, e := (36 : Nat), sz := (2 : Nat), cs := some (false, nmsC W.A) }), (1000777, { n := W.V.length, e := (64 : Nat), sz := (1 : Nat), cs := some (true, valsC W.V) }), (1000014, { n := W.T.length, e := (9 : Nat), sz := (1 : Nat), cs := some (false, strsC W.T) })] } [AV.ptr 1000003 0, AV.agg (fltL (p.sub.getD i flt0))] { heap := [(1000003, .var true [AV.vec (1000010 : Nat) V.N.length, AV.vec (1000011 : Nat) V.A.length, AV.vec (1000777 : Nat) V.V.length, AV.vec (1000014 : Nat) V.T.length])], tags := [(1000010, { n := V.N.length, e := (36 : Nat), sz := (2 : Nat), cs := some (false, nmsC V.N) }), (1000011, { n := V.A.length, e := (36 : Nat), sz := (2 : Nat), cs := some (false, nmsC V.A) }), (1000777, { n := V.V.length, e := (64 : Nat), sz := (1 : Nat), cs := some (true, valsC V.V) }), (1000014, { n := V.T.length, e := (9 : Nat), sz := (1 : Nat), cs := some (false, strsC V.T) })] } (AV.tup [])) (.head (pt Tryd.f67 0) ({ tmps := [(0, AV.ptr 1000003 0), (3, AV.ptr 3 0), (70, AV.sl none p.sub.length (fltsC p.sub) .no), (71, AV.int .i64 (↑p.sub.length : Int)), (72, AV.int .i64 (IntKind.i64.wrap ((↑i : Int) + (1 : Int))))], heap := [(3, .var true (fltL p)), (1000003, .var true [AV.vec (1000010 : Nat) V.N.length, AV.vec (1000011 : Nat) V.A.length, AV.vec (1000777 : Nat) V.V.length, AV.vec (1000014 : Nat) V.T.length])], tags := [(1000010, { n := V.N.length, e := (36 : Nat), sz := (2 : Nat), cs := some (false, nmsC V.N) }), (1000011, { n := V.A.length, e := (36 : Nat), sz := (2 : Nat), cs := some (false, nmsC V.A) }), (1000777, { n := V.V.length, e := (64 : Nat), sz := (1 : Nat), cs := some (true, valsC V.V) }), (1000014, { n := V.T.length, e := (9 : Nat), sz := (1 : Nat), cs := some (false, strsC V.T) })] }))))))) (by kernel_rfl) (by
    have w2 : IntKind.i64.wrap ((i : Int) + 1) = ((i + 1 : Nat) : Int) := by rw [i64_wrap (by omega) (by omega)]; rfl
    have h0 : decide ((i : Int) < p.sub.length) = true := by simp; omega
    simp only [PT.holds, w2, h0, Int.toNat_natCast, pthsC_len, fltsC_len, true_implies, Bool.false_eq_true, Bool.true_eq_false, false_implies, true_and, and_true]
    exact ⟨by omega, by ((try simp only [Nat.add_assoc, Nat.reduceAdd, Nat.add_zero]) <;> first | (rw [ats_take _ _ _ _ hi (by decide)]; rfl) | (rw [pths_take _ _ _ _ hi (by decide)]; rfl) | (rw [flts_take _ _ _ _ hi (by decide)]; rfl) | (rw [ats_take0 _ _ _ hi (by decide)]; rfl) | (rw [pths_take0 _ _ _ hi (by decide)]; rfl) | (rw [flts_take0 _ _ _ hi (by decide)]; rfl)), by omega, hc, head_eq k (by simp [stFu, fltL, gatC, gatT, gatM])⟩)
theorem fu_e (p : Flt) (W R : Wd) (i : Nat) (hi : i = p.sub.length) (k : HT Tryd.prog Tryd.f67.ntmps (pt Tryd.f67 1) (stFw p W 0) (EndsA Γ (.mem [] (gatM R) (.tup [])) Tryd.f67)) : HT Tryd.prog Tryd.f67.ntmps (pt Tryd.f67 0) (stFu p W i) (EndsA Γ (.mem [] (gatM R) (.tup [])) Tryd.f67) :=
  HT.walk Γ_ok mo_ok (⟨[(73, .val (.bool false)), (75, .val (.agg (fltL flt0))), (78, .callM [] [] [1000003] [1000010, 1000011, 1000777, 1000014] (gatM W).heap (gatM W).tags (.tup []))], (sp67).filter (fun x => !Nat.beq x 73), hd67 [] [] [1000003] [1000010, 1000011, 1000777, 1000014], [], .mem [] (gatM R) (.tup [])⟩ : Wk) 4000 (T := .ob (decide ((↑i : Int) < (↑p.sub.length : Int)) = false) (.head (pt Tryd.f67 1) ({ tmps := [(0, AV.ptr 1000003 0), (81, AV.sl none p.way.length (pthsC p.way) .no), (82, AV.int .i64 (↑p.way.length : Int)), (83, AV.int .i64 (0 : Int))], heap := [(3, .var true (fltL p)), (1000003, .var true [AV.vec (1000010 : Nat) W.N.length, AV.vec (1000011 : Nat) W.A.length, AV.vec (1000777 : Nat) W.V.length, AV.vec (1000014 : Nat) W.T.length])], tags := [(1000010, { n := W.N.length, e := (36 : Nat), sz := (2 : Nat), cs := some (false, nmsC W.N) }), (1000011, { n := W.A.length, e := (36 : Nat), sz := (2 : Nat), cs := some (false, nmsC W.A) }), (1000777, { n := W.V.length, e := (64 : Nat), sz := (1 : Nat), cs := some (true, valsC W.V) }), (1000014, { n := W.T.length, e := (9 : Nat), sz := (1 : Nat), cs := some (false, strsC W.T) })] }))) (by kernel_rfl) (by
    have h0 : decide ((i : Int) < p.sub.length) = false := by simp; omega
    simp only [PT.holds, h0, true_implies, Bool.false_eq_true, Bool.true_eq_false, false_implies, true_and, and_true]
    exact head_eq k (by simp [stFw, pthL, fltL, gatC, gatT]))
theorem fw_h (p : Flt) (W V R : Wd) (i : Nat) (hi : i < p.way.length) (hs : p.way.length ≤ 1048600) (hc : CtrM Tryd.prog 50 (gatM W) [.ptr 1000003 0, .agg (pthL (p.way.getD i pth0))] (gatM V) (.tup [])) (k : HT Tryd.prog Tryd.f67.ntmps (pt Tryd.f67 1) (stFw p V (i + 1)) (EndsA Γ (.mem [] (gatM R) (.tup [])) Tryd.f67)) : HT Tryd.prog Tryd.f67.ntmps (pt Tryd.f67 1) (stFw p W i) (EndsA Γ (.mem [] (gatM R) (.tup [])) Tryd.f67) :=
  HT.walk Γ_ok mo_ok (⟨[(84, .val (.bool true)), (86, .val (.agg (pthL (p.way.getD i pth0)))), (89, .callM [] [] [1000003] [1000010, 1000011, 1000777, 1000014] (gatM V).heap (gatM V).tags (.tup []))], (sp67).filter (fun x => !Nat.beq x 84), hd67 [] [] [1000003] [1000010, 1000011, 1000777, 1000014], [], .mem [] (gatM R) (.tup [])⟩ : Wk) 4000 (T := .ob (decide ((↑i : Int) < (↑p.way.length : Int)) = true) (.ob ((0 : Int) ≤ (↑i : Int) ∧ (↑i : Int) < (↑p.way.length : Int) ∧ (↑i : Int).toNat * (3 : Nat) < (pthsC p.way).length) (.ob (List.take (3 : Nat) (List.drop ((↑i : Int).toNat * (3 : Nat)) (pthsC p.way)) = (pthL (p.way.getD i pth0))) (.ob ((3 : Nat) ≤ (3 : Nat)) (.ob (CtrM Tryd.prog (50 : Nat) { heap := [(1000003, .var true [AV.vec (1000010 : Nat) W.N.length, AV.vec (1000011 : Nat) W.A.length, AV.vec (1000777 : Nat) W.V.length, AV.vec (1000014 : Nat) W.T.length])], tags := [(1000010, { n := W.N.length, e := (36 : Nat), sz := (2 : Nat), cs := some (false, nmsC W.N) }), (1000011, { n := W.A.length, e := (36 : Nat), sz := (2 : Nat), cs := some (false, nmsC W.A) }), (1000777, { n := W.V.length, e := (64 : Nat), sz := (1 : Nat), cs := some (true, valsC W.V) }), (1000014, { n := W.T.length, e := (9 : Nat), sz := (1 : Nat), cs := some (false, strsC W.T) })] } [AV.ptr 1000003 0, AV.agg (pthL (p.way.getD i pth0))] { heap := [(1000003, .var true [AV.vec (1000010 : Nat) V.N.length, AV.vec (1000011 : Nat) V.A.length, AV.vec (1000777 : Nat) V.V.length, AV.vec (1000014 : Nat) V.T.length])], tags := [(1000010, { n := V.N.length, e := (36 : Nat), sz := (2 : Nat), cs := some (false, nmsC V.N) }), (1000011, { n := V.A.length, e := (36 : Nat), sz := (2 : Nat), cs := some (false, nmsC V.A) }), (1000777, { n := V.V.length, e := (64 : Nat), sz := (1 : Nat), cs := some (true, valsC V.V) }), (1000014, { n := V.T.length, e := (9 : Nat), sz := (1 : Nat), cs := some (false, strsC V.T) })] } (AV.tup [])) (.head (pt Tryd.f67 1) ({ tmps := [(0, AV.ptr 1000003 0), (81, AV.sl none p.way.length (pthsC p.way) .no), (82, AV.int .i64 (↑p.way.length : Int)), (83, AV.int .i64 (IntKind.i64.wrap ((↑i : Int) + (1 : Int))))], heap := [(3, .var true (fltL p)), (1000003, .var true [AV.vec (1000010 : Nat) V.N.length, AV.vec (1000011 : Nat) V.A.length, AV.vec (1000777 : Nat) V.V.length, AV.vec (1000014 : Nat) V.T.length])], tags := [(1000010, { n := V.N.length, e := (36 : Nat), sz := (2 : Nat), cs := some (false, nmsC V.N) }), (1000011, { n := V.A.length, e := (36 : Nat), sz := (2 : Nat), cs := some (false, nmsC V.A) }), (1000777, { n := V.V.length, e := (64 : Nat), sz := (1 : Nat), cs := some (true, valsC V.V) }), (1000014, { n := V.T.length, e := (9 : Nat), sz := (1 : Nat), cs := some (false, strsC V.T) })] }))))))) (by kernel_rfl) (by
    have w2 : IntKind.i64.wrap ((i : Int) + 1) = ((i + 1 : Nat) : Int) := by rw [i64_wrap (by omega) (by omega)]; rfl
    have h0 : decide ((i : Int) < p.way.length) = true := by simp; omega
    simp only [PT.holds, w2, h0, Int.toNat_natCast, pthsC_len, fltsC_len, true_implies, Bool.false_eq_true, Bool.true_eq_false, false_implies, true_and, and_true]
    exact ⟨by omega, by ((try simp only [Nat.add_assoc, Nat.reduceAdd, Nat.add_zero]) <;> first | (rw [ats_take _ _ _ _ hi (by decide)]; rfl) | (rw [pths_take _ _ _ _ hi (by decide)]; rfl) | (rw [flts_take _ _ _ _ hi (by decide)]; rfl) | (rw [ats_take0 _ _ _ hi (by decide)]; rfl) | (rw [pths_take0 _ _ _ hi (by decide)]; rfl) | (rw [flts_take0 _ _ _ hi (by decide)]; rfl)), by omega, hc, head_eq k (by simp [stFw, fltL, gatC, gatT, gatM])⟩)
theorem fw_e (p : Flt) (W : Wd) (i : Nat) (hi : i = p.way.length) : HT Tryd.prog Tryd.f67.ntmps (pt Tryd.f67 1) (stFw p W i) (EndsA Γ (.mem [] (gatM W) (.tup [])) Tryd.f67) :=
  HT.walk Γ_ok mo_ok (⟨[(84, .val (.bool false)), (86, .val (.agg (pthL pth0))), (89, .callM [] [] [1000003] [1000010, 1000011, 1000777, 1000014] (gatM W).heap (gatM W).tags (.tup []))], (sp67).filter (fun x => !Nat.beq x 84), hd67 [] [] [1000003] [1000010, 1000011, 1000777, 1000014], [], .mem [] (gatM W) (.tup [])⟩ : Wk) 4000 (T := .ob (decide ((↑i : Int) < (↑p.way.length : Int)) = false) (.ob (W.N.length = W.N.length) (.ob (W.A.length = W.A.length) (.ob (W.V.length = W.V.length) (.ob (W.T.length = W.T.length) (.ob (W.N.length = W.N.length) (.ob (nmsC W.N = nmsC W.N) (.ob (W.A.length = W.A.length) (.ob (nmsC W.A = nmsC W.A) (.ob (W.V.length = W.V.length) (.ob (valsC W.V = valsC W.V) (.ob (W.T.length = W.T.length) (.ob (strsC W.T = strsC W.T) (.tt)))))))))))))) (by kernel_rfl) (by
    have h0 : decide ((i : Int) < p.way.length) = false := by simp; omega
    simp only [PT.holds, h0, true_implies, Bool.false_eq_true, Bool.true_eq_false, false_implies, true_and, and_true]
    try trivial)
theorem fr11K (p : Flt) (W R : Wd) (j : Nat) (k : HT Tryd.prog Tryd.f67.ntmps (pt Tryd.f67 0) (stFuK p W j 0) (EndsA Γ (.mem [] (gatM R) (.tup [])) Tryd.f67)) : HT Tryd.prog Tryd.f67.ntmps (pr Tryd.f67 11) (stGfK p W j) (EndsA Γ (.mem [] (gatM R) (.tup [])) Tryd.f67) :=
  HT.walk Γ_ok mo_ok (⟨[], sp67, hd67 [] [] [1000003] [1000010, 1000011, 1000777, 1000014, 1000020], [], .mem [] (gatM R) (.tup [])⟩ : Wk) 4000 (T := .head (pt Tryd.f67 0) ({ tmps := [(0, AV.ptr 1000003 0), (3, AV.ptr 3 0), (70, AV.sl none p.sub.length (fltsC p.sub) .no), (71, AV.int .i64 (↑p.sub.length : Int)), (72, AV.int .i64 (0 : Int))], heap := [(3, .var true (fltL p)), (1000003, .var true [AV.vec (1000010 : Nat) W.N.length, AV.vec (1000011 : Nat) W.A.length, AV.vec (1000777 : Nat) W.V.length, AV.vec (1000014 : Nat) W.T.length])], tags := [(1000010, { n := W.N.length, e := (36 : Nat), sz := (2 : Nat), cs := some (false, nmsC W.N) }), (1000011, { n := W.A.length, e := (36 : Nat), sz := (2 : Nat), cs := some (false, nmsC W.A) }), (1000777, { n := W.V.length, e := (64 : Nat), sz := (1 : Nat), cs := some (true, valsC W.V) }), (1000014, { n := W.T.length, e := (9 : Nat), sz := (1 : Nat), cs := some (false, strsC W.T) }), (1000020, { n := j, e := (9 : Nat), sz := (1 : Nat) })] })) (by kernel_rfl) (by
    simp only [PT.holds]
    exact head_eq k (by simp [stFuK, fltL, gatC, gatT]))
theorem fu_hK (p : Flt) (W V R : Wd) (j : Nat) (i : Nat) (hi : i < p.sub.length) (hs : p.sub.length ≤ 1048600) (hc : CtrM Tryd.prog 67 (gatM W) [.ptr 1000003 0, .agg (fltL (p.sub.getD i flt0))] (gatM V) (.tup [])) (k : HT Tryd.prog Tryd.f67.ntmps (pt Tryd.f67 0) (stFuK p V j (i + 1)) (EndsA Γ (.mem [] (gatM R) (.tup [])) Tryd.f67)) : HT Tryd.prog Tryd.f67.ntmps (pt Tryd.f67 0) (stFuK p W j i) (EndsA Γ (.mem [] (gatM R) (.tup [])) Tryd.f67) :=
  HT.walk Γ_ok mo_ok (⟨[(73, .val (.bool true)), (75, .val (.agg (fltL (p.sub.getD i flt0)))), (78, .callM [] [] [1000003] [1000010, 1000011, 1000777, 1000014] (gatM V).heap (gatM V).tags (.tup []))], (sp67).filter (fun x => !Nat.beq x 73), hd67 [] [] [1000003] [1000010, 1000011, 1000777, 1000014, 1000020], [], .mem [] (gatM R) (.tup [])⟩ : Wk) 4000 (T := .ob (decide ((↑i : Int) < (↑p.sub.length : Int)) = true) (.ob ((0 : Int) ≤ (↑i : Int) ∧ (↑i : Int) < (↑p.sub.length : Int) ∧ (↑i : Int).toNat * (6 : Nat) < (fltsC p.sub).length) (.ob (List.take (6 : Nat) (List.drop ((↑i : Int).toNat * (6 : Nat)) (fltsC p.sub)) = (fltL (p.sub.getD i flt0))) (.ob ((6 : Nat) ≤ (6 : Nat)) (.ob (CtrM Tryd.prog (67 : Nat) { heap := [(1000003, .var true [AV.vec (1000010 : Nat) W.N.length, AV.vec (1000011 : Nat) W.A.length, AV.vec (1000777 : Nat) W.V.length, AV.vec (1000014 : Nat) W.T.length])], tags := [(1000010, { n := W.N.length, e := (36 : Nat), sz := (2 : Nat), cs := some (false, nmsC W.N) }), (1000011, { n := W.A.length, e := (36 : Nat), sz := (2 : Nat), cs := some (false, nmsC W.A) }), (1000777, { n := W.V.length, e := (64 : Nat), sz := (1 : Nat), cs := some (true, valsC W.V) }), (1000014, { n := W.T.length, e := (9 : Nat), sz := (1 : Nat), cs := some (false, strsC W.T) })] } [AV.ptr 1000003 0, AV.agg (fltL (p.sub.getD i flt0))] { heap := [(1000003, .var true [AV.vec (1000010 : Nat) V.N.length, AV.vec (1000011 : Nat) V.A.length, AV.vec (1000777 : Nat) V.V.length, AV.vec (1000014 : Nat) V.T.length])], tags := [(1000010, { n := V.N.length, e := (36 : Nat), sz := (2 : Nat), cs := some (false, nmsC V.N) }), (1000011, { n := V.A.length, e := (36 : Nat), sz := (2 : Nat), cs := some (false, nmsC V.A) }), (1000777, { n := V.V.length, e := (64 : Nat), sz := (1 : Nat), cs := some (true, valsC V.V) }), (1000014, { n := V.T.length, e := (9 : Nat), sz := (1 : Nat), cs := some (false, strsC V.T) })] } (AV.tup [])) (.head (pt Tryd.f67 0) ({ tmps := [(0, AV.ptr 1000003 0), (3, AV.ptr 3 0), (70, AV.sl none p.sub.length (fltsC p.sub) .no), (71, AV.int .i64 (↑p.sub.length : Int)), (72, AV.int .i64 (IntKind.i64.wrap ((↑i : Int) + (1 : Int))))], heap := [(3, .var true (fltL p)), (1000003, .var true [AV.vec (1000010 : Nat) V.N.length, AV.vec (1000011 : Nat) V.A.length, AV.vec (1000777 : Nat) V.V.length, AV.vec (1000014 : Nat) V.T.length])], tags := [(1000010, { n := V.N.length, e := (36 : Nat), sz := (2 : Nat), cs := some (false, nmsC V.N) }), (1000011, { n := V.A.length, e := (36 : Nat), sz := (2 : Nat), cs := some (false, nmsC V.A) }), (1000777, { n := V.V.length, e := (64 : Nat), sz := (1 : Nat), cs := some (true, valsC V.V) }), (1000014, { n := V.T.length, e := (9 : Nat), sz := (1 : Nat), cs := some (false, strsC V.T) }), (1000020, { n := j, e := (9 : Nat), sz := (1 : Nat) })] }))))))) (by kernel_rfl) (by
    have w2 : IntKind.i64.wrap ((i : Int) + 1) = ((i + 1 : Nat) : Int) := by rw [i64_wrap (by omega) (by omega)]; rfl
    have h0 : decide ((i : Int) < p.sub.length) = true := by simp; omega
    simp only [PT.holds, w2, h0, Int.toNat_natCast, pthsC_len, fltsC_len, true_implies, Bool.false_eq_true, Bool.true_eq_false, false_implies, true_and, and_true]
    exact ⟨by omega, by ((try simp only [Nat.add_assoc, Nat.reduceAdd, Nat.add_zero]) <;> first | (rw [ats_take _ _ _ _ hi (by decide)]; rfl) | (rw [pths_take _ _ _ _ hi (by decide)]; rfl) | (rw [flts_take _ _ _ _ hi (by decide)]; rfl) | (rw [ats_take0 _ _ _ hi (by decide)]; rfl) | (rw [pths_take0 _ _ _ hi (by decide)]; rfl) | (rw [flts_take0 _ _ _ hi (by decide)]; rfl)), by omega, hc, head_eq k (by simp [stFuK, fltL, gatC, gatT, gatM])⟩)
theorem fu_eK (p : Flt) (W R : Wd) (j : Nat) (i : Nat) (hi : i = p.sub.length) (k : HT Tryd.prog Tryd.f67.ntmps (pt Tryd.f67 1) (stFwK p W j 0) (EndsA Γ (.mem [] (gatM R) (.tup [])) Tryd.f67)) : HT Tryd.prog Tryd.f67.ntmps (pt Tryd.f67 0) (stFuK p W j i) (EndsA Γ (.mem [] (gatM R) (.tup [])) Tryd.f67) :=
  HT.walk Γ_ok mo_ok (⟨[(73, .val (.bool false)), (75, .val (.agg (fltL flt0))), (78, .callM [] [] [1000003] [1000010, 1000011, 1000777, 1000014] (gatM W).heap (gatM W).tags (.tup []))], (sp67).filter (fun x => !Nat.beq x 73), hd67 [] [] [1000003] [1000010, 1000011, 1000777, 1000014, 1000020], [], .mem [] (gatM R) (.tup [])⟩ : Wk) 4000 (T := .ob (decide ((↑i : Int) < (↑p.sub.length : Int)) = false) (.head (pt Tryd.f67 1) ({ tmps := [(0, AV.ptr 1000003 0), (81, AV.sl none p.way.length (pthsC p.way) .no), (82, AV.int .i64 (↑p.way.length : Int)), (83, AV.int .i64 (0 : Int))], heap := [(3, .var true (fltL p)), (1000003, .var true [AV.vec (1000010 : Nat) W.N.length, AV.vec (1000011 : Nat) W.A.length, AV.vec (1000777 : Nat) W.V.length, AV.vec (1000014 : Nat) W.T.length])], tags := [(1000010, { n := W.N.length, e := (36 : Nat), sz := (2 : Nat), cs := some (false, nmsC W.N) }), (1000011, { n := W.A.length, e := (36 : Nat), sz := (2 : Nat), cs := some (false, nmsC W.A) }), (1000777, { n := W.V.length, e := (64 : Nat), sz := (1 : Nat), cs := some (true, valsC W.V) }), (1000014, { n := W.T.length, e := (9 : Nat), sz := (1 : Nat), cs := some (false, strsC W.T) }), (1000020, { n := j, e := (9 : Nat), sz := (1 : Nat) })] }))) (by kernel_rfl) (by
    have h0 : decide ((i : Int) < p.sub.length) = false := by simp; omega
    simp only [PT.holds, h0, true_implies, Bool.false_eq_true, Bool.true_eq_false, false_implies, true_and, and_true]
    exact head_eq k (by simp [stFwK, pthL, fltL, gatC, gatT]))
theorem fw_hK (p : Flt) (W V R : Wd) (j : Nat) (i : Nat) (hi : i < p.way.length) (hs : p.way.length ≤ 1048600) (hc : CtrM Tryd.prog 50 (gatM W) [.ptr 1000003 0, .agg (pthL (p.way.getD i pth0))] (gatM V) (.tup [])) (k : HT Tryd.prog Tryd.f67.ntmps (pt Tryd.f67 1) (stFwK p V j (i + 1)) (EndsA Γ (.mem [] (gatM R) (.tup [])) Tryd.f67)) : HT Tryd.prog Tryd.f67.ntmps (pt Tryd.f67 1) (stFwK p W j i) (EndsA Γ (.mem [] (gatM R) (.tup [])) Tryd.f67) :=
  HT.walk Γ_ok mo_ok (⟨[(84, .val (.bool true)), (86, .val (.agg (pthL (p.way.getD i pth0)))), (89, .callM [] [] [1000003] [1000010, 1000011, 1000777, 1000014] (gatM V).heap (gatM V).tags (.tup []))], (sp67).filter (fun x => !Nat.beq x 84), hd67 [] [] [1000003] [1000010, 1000011, 1000777, 1000014, 1000020], [], .mem [] (gatM R) (.tup [])⟩ : Wk) 4000 (T := .ob (decide ((↑i : Int) < (↑p.way.length : Int)) = true) (.ob ((0 : Int) ≤ (↑i : Int) ∧ (↑i : Int) < (↑p.way.length : Int) ∧ (↑i : Int).toNat * (3 : Nat) < (pthsC p.way).length) (.ob (List.take (3 : Nat) (List.drop ((↑i : Int).toNat * (3 : Nat)) (pthsC p.way)) = (pthL (p.way.getD i pth0))) (.ob ((3 : Nat) ≤ (3 : Nat)) (.ob (CtrM Tryd.prog (50 : Nat) { heap := [(1000003, .var true [AV.vec (1000010 : Nat) W.N.length, AV.vec (1000011 : Nat) W.A.length, AV.vec (1000777 : Nat) W.V.length, AV.vec (1000014 : Nat) W.T.length])], tags := [(1000010, { n := W.N.length, e := (36 : Nat), sz := (2 : Nat), cs := some (false, nmsC W.N) }), (1000011, { n := W.A.length, e := (36 : Nat), sz := (2 : Nat), cs := some (false, nmsC W.A) }), (1000777, { n := W.V.length, e := (64 : Nat), sz := (1 : Nat), cs := some (true, valsC W.V) }), (1000014, { n := W.T.length, e := (9 : Nat), sz := (1 : Nat), cs := some (false, strsC W.T) })] } [AV.ptr 1000003 0, AV.agg (pthL (p.way.getD i pth0))] { heap := [(1000003, .var true [AV.vec (1000010 : Nat) V.N.length, AV.vec (1000011 : Nat) V.A.length, AV.vec (1000777 : Nat) V.V.length, AV.vec (1000014 : Nat) V.T.length])], tags := [(1000010, { n := V.N.length, e := (36 : Nat), sz := (2 : Nat), cs := some (false, nmsC V.N) }), (1000011, { n := V.A.length, e := (36 : Nat), sz := (2 : Nat), cs := some (false, nmsC V.A) }), (1000777, { n := V.V.length, e := (64 : Nat), sz := (1 : Nat), cs := some (true, valsC V.V) }), (1000014, { n := V.T.length, e := (9 : Nat), sz := (1 : Nat), cs := some (false, strsC V.T) })] } (AV.tup [])) (.head (pt Tryd.f67 1) ({ tmps := [(0, AV.ptr 1000003 0), (81, AV.sl none p.way.length (pthsC p.way) .no), (82, AV.int .i64 (↑p.way.length : Int)), (83, AV.int .i64 (IntKind.i64.wrap ((↑i : Int) + (1 : Int))))], heap := [(3, .var true (fltL p)), (1000003, .var true [AV.vec (1000010 : Nat) V.N.length, AV.vec (1000011 : Nat) V.A.length, AV.vec (1000777 : Nat) V.V.length, AV.vec (1000014 : Nat) V.T.length])], tags := [(1000010, { n := V.N.length, e := (36 : Nat), sz := (2 : Nat), cs := some (false, nmsC V.N) }), (1000011, { n := V.A.length, e := (36 : Nat), sz := (2 : Nat), cs := some (false, nmsC V.A) }), (1000777, { n := V.V.length, e := (64 : Nat), sz := (1 : Nat), cs := some (true, valsC V.V) }), (1000014, { n := V.T.length, e := (9 : Nat), sz := (1 : Nat), cs := some (false, strsC V.T) }), (1000020, { n := j, e := (9 : Nat), sz := (1 : Nat) })] }))))))) (by kernel_rfl) (by
    have w2 : IntKind.i64.wrap ((i : Int) + 1) = ((i + 1 : Nat) : Int) := by rw [i64_wrap (by omega) (by omega)]; rfl
    have h0 : decide ((i : Int) < p.way.length) = true := by simp; omega
    simp only [PT.holds, w2, h0, Int.toNat_natCast, pthsC_len, fltsC_len, true_implies, Bool.false_eq_true, Bool.true_eq_false, false_implies, true_and, and_true]
    exact ⟨by omega, by ((try simp only [Nat.add_assoc, Nat.reduceAdd, Nat.add_zero]) <;> first | (rw [ats_take _ _ _ _ hi (by decide)]; rfl) | (rw [pths_take _ _ _ _ hi (by decide)]; rfl) | (rw [flts_take _ _ _ _ hi (by decide)]; rfl) | (rw [ats_take0 _ _ _ hi (by decide)]; rfl) | (rw [pths_take0 _ _ _ hi (by decide)]; rfl) | (rw [flts_take0 _ _ _ hi (by decide)]; rfl)), by omega, hc, head_eq k (by simp [stFwK, fltL, gatC, gatT, gatM])⟩)
theorem fw_eK (p : Flt) (W : Wd) (j : Nat) (i : Nat) (hi : i = p.way.length) : HT Tryd.prog Tryd.f67.ntmps (pt Tryd.f67 1) (stFwK p W j i) (EndsA Γ (.mem [] (gatM W) (.tup [])) Tryd.f67) :=
  HT.walk Γ_ok mo_ok (⟨[(84, .val (.bool false)), (86, .val (.agg (pthL pth0))), (89, .callM [] [] [1000003] [1000010, 1000011, 1000777, 1000014] (gatM W).heap (gatM W).tags (.tup []))], (sp67).filter (fun x => !Nat.beq x 84), hd67 [] [] [1000003] [1000010, 1000011, 1000777, 1000014, 1000020], [], .mem [] (gatM W) (.tup [])⟩ : Wk) 4000 (T := .ob (decide ((↑i : Int) < (↑p.way.length : Int)) = false) (.ob (W.N.length = W.N.length) (.ob (W.A.length = W.A.length) (.ob (W.V.length = W.V.length) (.ob (W.T.length = W.T.length) (.ob (W.N.length = W.N.length) (.ob (nmsC W.N = nmsC W.N) (.ob (W.A.length = W.A.length) (.ob (nmsC W.A = nmsC W.A) (.ob (W.V.length = W.V.length) (.ob (valsC W.V = valsC W.V) (.ob (W.T.length = W.T.length) (.ob (strsC W.T = strsC W.T) (.tt)))))))))))))) (by kernel_rfl) (by
    have h0 : decide ((i : Int) < p.way.length) = false := by simp; omega
    simp only [PT.holds, h0, true_implies, Bool.false_eq_true, Bool.true_eq_false, false_implies, true_and, and_true]
    try trivial)
theorem gp_p (p : Pth) (W R : Wd) (k : HT Tryd.prog Tryd.f50.ntmps (pt Tryd.f50 0) (stPu p W 0) (EndsA Γ (.mem [] (gatM R) (.tup [])) Tryd.f50)) : CtrM Tryd.prog 50 (gatM W) [.ptr 1000003 0, .agg (pthL p)] (gatM R) (.tup []) :=
  CtrM.mk Γ_ok Tryd.func50 (by kernel_rfl) Tryd.call50 [] (by kernel_rfl) (by kernel_rfl) (by kernel_rfl) (HT.walk Γ_ok mo_ok (⟨[], sp50, hd50 [] [] [1000003] [1000010, 1000011, 1000777, 1000014], [], .mem [] (gatM R) (.tup [])⟩ : Wk) 4000 (T := .head (pt Tryd.f50 0) ({ tmps := [(0, AV.ptr 1000003 0), (3, AV.ptr 3 0), (9, AV.sl none p.sub.length (pthsC p.sub) .no), (10, AV.int .i64 (↑p.sub.length : Int)), (11, AV.int .i64 (0 : Int))], heap := [(3, .var true (pthL p)), (1000003, .var true [AV.vec (1000010 : Nat) W.N.length, AV.vec (1000011 : Nat) W.A.length, AV.vec (1000777 : Nat) W.V.length, AV.vec (1000014 : Nat) W.T.length])], tags := [(1000010, { n := W.N.length, e := (36 : Nat), sz := (2 : Nat), cs := some (false, nmsC W.N) }), (1000011, { n := W.A.length, e := (36 : Nat), sz := (2 : Nat), cs := some (false, nmsC W.A) }), (1000777, { n := W.V.length, e := (64 : Nat), sz := (1 : Nat), cs := some (true, valsC W.V) }), (1000014, { n := W.T.length, e := (9 : Nat), sz := (1 : Nat), cs := some (false, strsC W.T) })] })) (by kernel_rfl) (by
    simp only [PT.holds]
    exact head_eq k (by simp [stPu, pthL, gatC, gatT])))
theorem pu_h (p : Pth) (W V R : Wd) (i : Nat) (hi : i < p.sub.length) (hs : p.sub.length ≤ 1048600) (hc : CtrM Tryd.prog 50 (gatM W) [.ptr 1000003 0, .agg (pthL (p.sub.getD i pth0))] (gatM V) (.tup [])) (k : HT Tryd.prog Tryd.f50.ntmps (pt Tryd.f50 0) (stPu p V (i + 1)) (EndsA Γ (.mem [] (gatM R) (.tup [])) Tryd.f50)) : HT Tryd.prog Tryd.f50.ntmps (pt Tryd.f50 0) (stPu p W i) (EndsA Γ (.mem [] (gatM R) (.tup [])) Tryd.f50) :=
  HT.walk Γ_ok mo_ok (⟨[(12, .val (.bool true)), (14, .val (.agg (pthL (p.sub.getD i pth0)))), (17, .callM [] [] [1000003] [1000010, 1000011, 1000777, 1000014] (gatM V).heap (gatM V).tags (.tup []))], (sp50).filter (fun x => !Nat.beq x 12), hd50 [] [] [1000003] [1000010, 1000011, 1000777, 1000014], [], .mem [] (gatM R) (.tup [])⟩ : Wk) 4000 (T := .ob (decide ((↑i : Int) < (↑p.sub.length : Int)) = true) (.ob ((0 : Int) ≤ (↑i : Int) ∧ (↑i : Int) < (↑p.sub.length : Int) ∧ (↑i : Int).toNat * (3 : Nat) < (pthsC p.sub).length) (.ob (List.take (3 : Nat) (List.drop ((↑i : Int).toNat * (3 : Nat)) (pthsC p.sub)) = (pthL (p.sub.getD i pth0))) (.ob ((3 : Nat) ≤ (3 : Nat)) (.ob (CtrM Tryd.prog (50 : Nat) { heap := [(1000003, .var true [AV.vec (1000010 : Nat) W.N.length, AV.vec (1000011 : Nat) W.A.length, AV.vec (1000777 : Nat) W.V.length, AV.vec (1000014 : Nat) W.T.length])], tags := [(1000010, { n := W.N.length, e := (36 : Nat), sz := (2 : Nat), cs := some (false, nmsC W.N) }), (1000011, { n := W.A.length, e := (36 : Nat), sz := (2 : Nat), cs := some (false, nmsC W.A) }), (1000777, { n := W.V.length, e := (64 : Nat), sz := (1 : Nat), cs := some (true, valsC W.V) }), (1000014, { n := W.T.length, e := (9 : Nat), sz := (1 : Nat), cs := some (false, strsC W.T) })] } [AV.ptr 1000003 0, AV.agg (pthL (p.sub.getD i pth0))] { heap := [(1000003, .var true [AV.vec (1000010 : Nat) V.N.length, AV.vec (1000011 : Nat) V.A.length, AV.vec (1000777 : Nat) V.V.length, AV.vec (1000014 : Nat) V.T.length])], tags := [(1000010, { n := V.N.length, e := (36 : Nat), sz := (2 : Nat), cs := some (false, nmsC V.N) }), (1000011, { n := V.A.length, e := (36 : Nat), sz := (2 : Nat), cs := some (false, nmsC V.A) }), (1000777, { n := V.V.length, e := (64 : Nat), sz := (1 : Nat), cs := some (true, valsC V.V) }), (1000014, { n := V.T.length, e := (9 : Nat), sz := (1 : Nat), cs := some (false, strsC V.T) })] } (AV.tup [])) (.head (pt Tryd.f50 0) ({ tmps := [(0, AV.ptr 1000003 0), (3, AV.ptr 3 0), (9, AV.sl none p.sub.length (pthsC p.sub) .no), (10, AV.int .i64 (↑p.sub.length : Int)), (11, AV.int .i64 (IntKind.i64.wrap ((↑i : Int) + (1 : Int))))], heap := [(3, .var true (pthL p)), (1000003, .var true [AV.vec (1000010 : Nat) V.N.length, AV.vec (1000011 : Nat) V.A.length, AV.vec (1000777 : Nat) V.V.length, AV.vec (1000014 : Nat) V.T.length])], tags := [(1000010, { n := V.N.length, e := (36 : Nat), sz := (2 : Nat), cs := some (false, nmsC V.N) }), (1000011, { n := V.A.length, e := (36 : Nat), sz := (2 : Nat), cs := some (false, nmsC V.A) }), (1000777, { n := V.V.length, e := (64 : Nat), sz := (1 : Nat), cs := some (true, valsC V.V) }), (1000014, { n := V.T.length, e := (9 : Nat), sz := (1 : Nat), cs := some (false, strsC V.T) })] }))))))) (by kernel_rfl) (by
    have w2 : IntKind.i64.wrap ((i : Int) + 1) = ((i + 1 : Nat) : Int) := by rw [i64_wrap (by omega) (by omega)]; rfl
    have h0 : decide ((i : Int) < p.sub.length) = true := by simp; omega
    simp only [PT.holds, w2, h0, Int.toNat_natCast, pthsC_len, fltsC_len, true_implies, Bool.false_eq_true, Bool.true_eq_false, false_implies, true_and, and_true]
    exact ⟨by omega, by ((try simp only [Nat.add_assoc, Nat.reduceAdd, Nat.add_zero]) <;> first | (rw [ats_take _ _ _ _ hi (by decide)]; rfl) | (rw [pths_take _ _ _ _ hi (by decide)]; rfl) | (rw [flts_take _ _ _ _ hi (by decide)]; rfl) | (rw [ats_take0 _ _ _ hi (by decide)]; rfl) | (rw [pths_take0 _ _ _ hi (by decide)]; rfl) | (rw [flts_take0 _ _ _ hi (by decide)]; rfl)), by omega, hc, head_eq k (by simp [stPu, pthL, gatC, gatT, gatM])⟩)
theorem pu_e (p : Pth) (W R : Wd) (i : Nat) (hi : i = p.sub.length) (k : HT Tryd.prog Tryd.f50.ntmps (pt Tryd.f50 1) (stPw p W 0) (EndsA Γ (.mem [] (gatM R) (.tup [])) Tryd.f50)) : HT Tryd.prog Tryd.f50.ntmps (pt Tryd.f50 0) (stPu p W i) (EndsA Γ (.mem [] (gatM R) (.tup [])) Tryd.f50) :=
  HT.walk Γ_ok mo_ok (⟨[(12, .val (.bool false)), (14, .val (.agg (pthL pth0))), (17, .callM [] [] [1000003] [1000010, 1000011, 1000777, 1000014] (gatM W).heap (gatM W).tags (.tup []))], (sp50).filter (fun x => !Nat.beq x 12), hd50 [] [] [1000003] [1000010, 1000011, 1000777, 1000014], [], .mem [] (gatM R) (.tup [])⟩ : Wk) 4000 (T := .ob (decide ((↑i : Int) < (↑p.sub.length : Int)) = false) (.head (pt Tryd.f50 1) ({ tmps := [(0, AV.ptr 1000003 0), (20, AV.sl none p.test.length (fltsC p.test) .no), (21, AV.int .i64 (↑p.test.length : Int)), (22, AV.int .i64 (0 : Int))], heap := [(3, .var true (pthL p)), (1000003, .var true [AV.vec (1000010 : Nat) W.N.length, AV.vec (1000011 : Nat) W.A.length, AV.vec (1000777 : Nat) W.V.length, AV.vec (1000014 : Nat) W.T.length])], tags := [(1000010, { n := W.N.length, e := (36 : Nat), sz := (2 : Nat), cs := some (false, nmsC W.N) }), (1000011, { n := W.A.length, e := (36 : Nat), sz := (2 : Nat), cs := some (false, nmsC W.A) }), (1000777, { n := W.V.length, e := (64 : Nat), sz := (1 : Nat), cs := some (true, valsC W.V) }), (1000014, { n := W.T.length, e := (9 : Nat), sz := (1 : Nat), cs := some (false, strsC W.T) })] }))) (by kernel_rfl) (by
    have h0 : decide ((i : Int) < p.sub.length) = false := by simp; omega
    simp only [PT.holds, h0, true_implies, Bool.false_eq_true, Bool.true_eq_false, false_implies, true_and, and_true]
    exact head_eq k (by simp [stPw, pthL, fltL, gatC, gatT]))
theorem pw_h (p : Pth) (W V R : Wd) (i : Nat) (hi : i < p.test.length) (hs : p.test.length ≤ 1048600) (hc : CtrM Tryd.prog 67 (gatM W) [.ptr 1000003 0, .agg (fltL (p.test.getD i flt0))] (gatM V) (.tup [])) (k : HT Tryd.prog Tryd.f50.ntmps (pt Tryd.f50 1) (stPw p V (i + 1)) (EndsA Γ (.mem [] (gatM R) (.tup [])) Tryd.f50)) : HT Tryd.prog Tryd.f50.ntmps (pt Tryd.f50 1) (stPw p W i) (EndsA Γ (.mem [] (gatM R) (.tup [])) Tryd.f50) :=
  HT.walk Γ_ok mo_ok (⟨[(23, .val (.bool true)), (25, .val (.agg (fltL (p.test.getD i flt0)))), (28, .callM [] [] [1000003] [1000010, 1000011, 1000777, 1000014] (gatM V).heap (gatM V).tags (.tup []))], (sp50).filter (fun x => !Nat.beq x 23), hd50 [] [] [1000003] [1000010, 1000011, 1000777, 1000014], [], .mem [] (gatM R) (.tup [])⟩ : Wk) 4000 (T := .ob (decide ((↑i : Int) < (↑p.test.length : Int)) = true) (.ob ((0 : Int) ≤ (↑i : Int) ∧ (↑i : Int) < (↑p.test.length : Int) ∧ (↑i : Int).toNat * (6 : Nat) < (fltsC p.test).length) (.ob (List.take (6 : Nat) (List.drop ((↑i : Int).toNat * (6 : Nat)) (fltsC p.test)) = (fltL (p.test.getD i flt0))) (.ob ((6 : Nat) ≤ (6 : Nat)) (.ob (CtrM Tryd.prog (67 : Nat) { heap := [(1000003, .var true [AV.vec (1000010 : Nat) W.N.length, AV.vec (1000011 : Nat) W.A.length, AV.vec (1000777 : Nat) W.V.length, AV.vec (1000014 : Nat) W.T.length])], tags := [(1000010, { n := W.N.length, e := (36 : Nat), sz := (2 : Nat), cs := some (false, nmsC W.N) }), (1000011, { n := W.A.length, e := (36 : Nat), sz := (2 : Nat), cs := some (false, nmsC W.A) }), (1000777, { n := W.V.length, e := (64 : Nat), sz := (1 : Nat), cs := some (true, valsC W.V) }), (1000014, { n := W.T.length, e := (9 : Nat), sz := (1 : Nat), cs := some (false, strsC W.T) })] } [AV.ptr 1000003 0, AV.agg (fltL (p.test.getD i flt0))] { heap := [(1000003, .var true [AV.vec (1000010 : Nat) V.N.length, AV.vec (1000011 : Nat) V.A.length, AV.vec (1000777 : Nat) V.V.length, AV.vec (1000014 : Nat) V.T.length])], tags := [(1000010, { n := V.N.length, e := (36 : Nat), sz := (2 : Nat), cs := some (false, nmsC V.N) }), (1000011, { n := V.A.length, e := (36 : Nat), sz := (2 : Nat), cs := some (false, nmsC V.A) }), (1000777, { n := V.V.length, e := (64 : Nat), sz := (1 : Nat), cs := some (true, valsC V.V) }), (1000014, { n := V.T.length, e := (9 : Nat), sz := (1 : Nat), cs := some (false, strsC V.T) })] } (AV.tup [])) (.head (pt Tryd.f50 1) ({ tmps := [(0, AV.ptr 1000003 0), (20, AV.sl none p.test.length (fltsC p.test) .no), (21, AV.int .i64 (↑p.test.length : Int)), (22, AV.int .i64 (IntKind.i64.wrap ((↑i : Int) + (1 : Int))))], heap := [(3, .var true (pthL p)), (1000003, .var true [AV.vec (1000010 : Nat) V.N.length, AV.vec (1000011 : Nat) V.A.length, AV.vec (1000777 : Nat) V.V.length, AV.vec (1000014 : Nat) V.T.length])], tags := [(1000010, { n := V.N.length, e := (36 : Nat), sz := (2 : Nat), cs := some (false, nmsC V.N) }), (1000011, { n := V.A.length, e := (36 : Nat), sz := (2 : Nat), cs := some (false, nmsC V.A) }), (1000777, { n := V.V.length, e := (64 : Nat), sz := (1 : Nat), cs := some (true, valsC V.V) }), (1000014, { n := V.T.length, e := (9 : Nat), sz := (1 : Nat), cs := some (false, strsC V.T) })] }))))))) (by kernel_rfl) (by
    have w2 : IntKind.i64.wrap ((i : Int) + 1) = ((i + 1 : Nat) : Int) := by rw [i64_wrap (by omega) (by omega)]; rfl
    have h0 : decide ((i : Int) < p.test.length) = true := by simp; omega
    simp only [PT.holds, w2, h0, Int.toNat_natCast, pthsC_len, fltsC_len, true_implies, Bool.false_eq_true, Bool.true_eq_false, false_implies, true_and, and_true]
    exact ⟨by omega, by ((try simp only [Nat.add_assoc, Nat.reduceAdd, Nat.add_zero]) <;> first | (rw [ats_take _ _ _ _ hi (by decide)]; rfl) | (rw [pths_take _ _ _ _ hi (by decide)]; rfl) | (rw [flts_take _ _ _ _ hi (by decide)]; rfl) | (rw [ats_take0 _ _ _ hi (by decide)]; rfl) | (rw [pths_take0 _ _ _ hi (by decide)]; rfl) | (rw [flts_take0 _ _ _ hi (by decide)]; rfl)), by omega, hc, head_eq k (by simp [stPw, pthL, gatC, gatT, gatM])⟩)
theorem pw_e (p : Pth) (W : Wd) (i : Nat) (hi : i = p.test.length) : HT Tryd.prog Tryd.f50.ntmps (pt Tryd.f50 1) (stPw p W i) (EndsA Γ (.mem [] (gatM W) (.tup [])) Tryd.f50) :=
  HT.walk Γ_ok mo_ok (⟨[(23, .val (.bool false)), (25, .val (.agg (fltL flt0))), (28, .callM [] [] [1000003] [1000010, 1000011, 1000777, 1000014] (gatM W).heap (gatM W).tags (.tup []))], (sp50).filter (fun x => !Nat.beq x 23), hd50 [] [] [1000003] [1000010, 1000011, 1000777, 1000014], [], .mem [] (gatM W) (.tup [])⟩ : Wk) 4000 (T := .ob (decide ((↑i : Int) < (↑p.test.length : Int)) = false) (.ob (W.N.length = W.N.length) (.ob (W.A.length = W.A.length) (.ob (W.V.length = W.V.length) (.ob (W.T.length = W.T.length) (.ob (W.N.length = W.N.length) (.ob (nmsC W.N = nmsC W.N) (.ob (W.A.length = W.A.length) (.ob (nmsC W.A = nmsC W.A) (.ob (W.V.length = W.V.length) (.ob (valsC W.V = valsC W.V) (.ob (W.T.length = W.T.length) (.ob (strsC W.T = strsC W.T) (.tt)))))))))))))) (by kernel_rfl) (by
    have h0 : decide ((i : Int) < p.test.length) = false := by simp; omega
    simp only [PT.holds, h0, true_implies, Bool.false_eq_true, Bool.true_eq_false, false_implies, true_and, and_true]
    try trivial)
end Go.Proofs.YteimloiaipiadaaDoor
end

section
set_option linter.unusedVariables false
set_option linter.unusedSimpArgs false
set_option maxRecDepth 100000
namespace Go.Proofs.YteimloiaipiadaaDoor
open Go Go.AX

structure Wd.ok (W : Wd) (n : Nat) : Prop where
  N : W.N.length ≤ n
  A : W.A.length ≤ n
  V : W.V.length = W.A.length
  T : W.T.length ≤ n
  vs : ∀ v ∈ W.V, v.length ≤ n
theorem addG_len {α : Type} [DecidableEq α] (l : List α) (x : α) : (addG l x).length ≤ l.length + 1 := by unfold addG; split <;> simp
theorem Wd.ok.att {W : Wd} {n : Nat} (h : W.ok n) (x : Nm) : (attW W x).ok (n + 1) := by
  have h1 := h.N; have h2 := h.A; have h3 := h.V; have h4 := h.T; have h5 := h.vs
  refine ⟨?_, ?_, attW_eq W x h3, ?_, fun v hv => ?_⟩
  · unfold attW; split
    · omega
    · show W.N.length ≤ _; omega
  · unfold attW; split
    · omega
    · simp; omega
  · unfold attW; split
    · omega
    · show W.T.length ≤ _; omega
  · rcases attV_mem W x v hv with hm | hm
    · have := h5 v hm; omega
    · rw [hm]; simp
theorem Wd.ok.step {W : Wd} {n : Nat} (h : W.ok n) (f : Flt) : (gstep W f).ok (n + 1) := by
  have h1 := h.N; have h2 := h.A; have h3 := h.V; have h4 := h.T; have h5 := h.vs
  unfold gstep
  split
  · have := addG_len W.N f.nm
    exact ⟨by simp only; omega, by simp only; omega, h3, by simp only; omega, fun v hv => by have := h5 v hv; omega⟩
  · split
    · exact h.att f.nm
    · split
      · have ha := h.att f.nm
        refine ⟨ha.N, ha.A, by simp only [List.length_set]; exact ha.V, ha.T, fun v hv => ?_⟩
        rcases List.mem_or_eq_of_mem_set hv with hm | hm
        · exact ha.vs v hm
        · have hI := attI_in W f.nm h3
          have hm2 := getD_mem (attW W f.nm).V (attI W f.nm).toNat [] (by omega)
          have hb : ((attW W f.nm).V.getD (attI W f.nm).toNat []).length ≤ n := by
            rcases attV_mem W f.nm _ hm2 with h6 | h6
            · exact h5 _ h6
            · rw [h6]; simp
          have := addG_len ((attW W f.nm).V.getD (attI W f.nm).toNat []) f.val
          rw [hm]; omega
      · split
        · have := addG_len W.T f.val
          exact ⟨by simp only; omega, by simp only; omega, h3, by simp only; omega, fun v hv => by have := h5 v hv; omega⟩
        · exact ⟨by omega, by omega, h3, by omega, fun v hv => by have := h5 v hv; omega⟩
theorem Wd.ok.many {W : Wd} {n : Nat} (h : W.ok n) (l : List Flt) : (l.foldl gstep W).ok (n + l.length) := by
  induction l generalizing W n with
  | nil => exact h
  | cons f r ih =>
    have := ih (h.step f)
    rw [List.foldl_cons, List.length_cons]
    rw [show n + (r.length + 1) = n + 1 + r.length by omega]
    exact this
theorem fu_l (p : Flt) (hs : p.sub.length ≤ 1048600) (T R : Wd) (k : HT Tryd.prog Tryd.f67.ntmps (pt Tryd.f67 1) (stFw p T 0) (EndsA Γ (.mem [] (gatM R) (.tup [])) Tryd.f67)) (hc : ∀ q ∈ p.sub, ∀ (W : Wd) (n : Nat), W.ok n → n + (withinF q).length ≤ 1000000 → CtrM Tryd.prog 67 (gatM W) [.ptr 1000003 0, .agg (fltL q)] (gatM ((withinF q).foldl gstep W)) (.tup [])) : ∀ d i n W, i + d = p.sub.length → W.ok n → n + (withinFs (p.sub.drop i)).length ≤ 1000000 → T = (withinFs (p.sub.drop i)).foldl gstep W → HT Tryd.prog Tryd.f67.ntmps (pt Tryd.f67 0) (stFu p W i) (EndsA Γ (.mem [] (gatM R) (.tup [])) Tryd.f67) := by
  intro d
  induction d with
  | zero =>
    intro i n W h hW hn e
    rw [List.drop_of_length_le (by omega)] at e
    simp only [withinFs, List.foldl_nil] at e
    subst e
    exact fu_e p T R i (by omega) k
  | succ d ih =>
    intro i n W h hW hn e
    have hlt : i < p.sub.length := by omega
    rw [drop_cons _ _ flt0 hlt] at e hn
    simp only [withinFs, List.foldl_append, List.length_append] at e hn
    exact fu_h p W _ _ i hlt hs (hc _ (getD_mem _ _ _ hlt) W n hW (by omega)) (ih (i + 1) _ _ (by omega) (hW.many (withinF (p.sub.getD i flt0))) (by omega) e)
theorem fw_l (p : Flt) (hs : p.way.length ≤ 1048600) (T : Wd) (hc : ∀ q ∈ p.way, ∀ (W : Wd) (n : Nat), W.ok n → n + (filtersP q).length ≤ 1000000 → CtrM Tryd.prog 50 (gatM W) [.ptr 1000003 0, .agg (pthL q)] (gatM ((filtersP q).foldl gstep W)) (.tup [])) : ∀ d i n W, i + d = p.way.length → W.ok n → n + (filtersPs (p.way.drop i)).length ≤ 1000000 → T = (filtersPs (p.way.drop i)).foldl gstep W → HT Tryd.prog Tryd.f67.ntmps (pt Tryd.f67 1) (stFw p W i) (EndsA Γ (.mem [] (gatM T) (.tup [])) Tryd.f67) := by
  intro d
  induction d with
  | zero =>
    intro i n W h hW hn e
    rw [List.drop_of_length_le (by omega)] at e
    simp only [filtersPs, List.foldl_nil] at e
    subst e
    exact fw_e p T i (by omega)
  | succ d ih =>
    intro i n W h hW hn e
    have hlt : i < p.way.length := by omega
    rw [drop_cons _ _ pth0 hlt] at e hn
    simp only [filtersPs, List.foldl_append, List.length_append] at e hn
    exact fw_h p W _ _ i hlt hs (hc _ (getD_mem _ _ _ hlt) W n hW (by omega)) (ih (i + 1) _ _ (by omega) (hW.many (filtersP (p.way.getD i pth0))) (by omega) e)
theorem fu_lK (p : Flt) (j : Nat) (hs : p.sub.length ≤ 1048600) (T R : Wd) (k : HT Tryd.prog Tryd.f67.ntmps (pt Tryd.f67 1) (stFwK p T j 0) (EndsA Γ (.mem [] (gatM R) (.tup [])) Tryd.f67)) (hc : ∀ q ∈ p.sub, ∀ (W : Wd) (n : Nat), W.ok n → n + (withinF q).length ≤ 1000000 → CtrM Tryd.prog 67 (gatM W) [.ptr 1000003 0, .agg (fltL q)] (gatM ((withinF q).foldl gstep W)) (.tup [])) : ∀ d i n W, i + d = p.sub.length → W.ok n → n + (withinFs (p.sub.drop i)).length ≤ 1000000 → T = (withinFs (p.sub.drop i)).foldl gstep W → HT Tryd.prog Tryd.f67.ntmps (pt Tryd.f67 0) (stFuK p W j i) (EndsA Γ (.mem [] (gatM R) (.tup [])) Tryd.f67) := by
  intro d
  induction d with
  | zero =>
    intro i n W h hW hn e
    rw [List.drop_of_length_le (by omega)] at e
    simp only [withinFs, List.foldl_nil] at e
    subst e
    exact fu_eK p T R j i (by omega) k
  | succ d ih =>
    intro i n W h hW hn e
    have hlt : i < p.sub.length := by omega
    rw [drop_cons _ _ flt0 hlt] at e hn
    simp only [withinFs, List.foldl_append, List.length_append] at e hn
    exact fu_hK p W _ _ j i hlt hs (hc _ (getD_mem _ _ _ hlt) W n hW (by omega)) (ih (i + 1) _ _ (by omega) (hW.many (withinF (p.sub.getD i flt0))) (by omega) e)
theorem fw_lK (p : Flt) (j : Nat) (hs : p.way.length ≤ 1048600) (T : Wd) (hc : ∀ q ∈ p.way, ∀ (W : Wd) (n : Nat), W.ok n → n + (filtersP q).length ≤ 1000000 → CtrM Tryd.prog 50 (gatM W) [.ptr 1000003 0, .agg (pthL q)] (gatM ((filtersP q).foldl gstep W)) (.tup [])) : ∀ d i n W, i + d = p.way.length → W.ok n → n + (filtersPs (p.way.drop i)).length ≤ 1000000 → T = (filtersPs (p.way.drop i)).foldl gstep W → HT Tryd.prog Tryd.f67.ntmps (pt Tryd.f67 1) (stFwK p W j i) (EndsA Γ (.mem [] (gatM T) (.tup [])) Tryd.f67) := by
  intro d
  induction d with
  | zero =>
    intro i n W h hW hn e
    rw [List.drop_of_length_le (by omega)] at e
    simp only [filtersPs, List.foldl_nil] at e
    subst e
    exact fw_eK p T j i (by omega)
  | succ d ih =>
    intro i n W h hW hn e
    have hlt : i < p.way.length := by omega
    rw [drop_cons _ _ pth0 hlt] at e hn
    simp only [filtersPs, List.foldl_append, List.length_append] at e hn
    exact fw_hK p W _ _ j i hlt hs (hc _ (getD_mem _ _ _ hlt) W n hW (by omega)) (ih (i + 1) _ _ (by omega) (hW.many (filtersP (p.way.getD i pth0))) (by omega) e)
theorem pu_l (p : Pth) (hs : p.sub.length ≤ 1048600) (T R : Wd) (k : HT Tryd.prog Tryd.f50.ntmps (pt Tryd.f50 1) (stPw p T 0) (EndsA Γ (.mem [] (gatM R) (.tup [])) Tryd.f50)) (hc : ∀ q ∈ p.sub, ∀ (W : Wd) (n : Nat), W.ok n → n + (filtersP q).length ≤ 1000000 → CtrM Tryd.prog 50 (gatM W) [.ptr 1000003 0, .agg (pthL q)] (gatM ((filtersP q).foldl gstep W)) (.tup [])) : ∀ d i n W, i + d = p.sub.length → W.ok n → n + (filtersPs (p.sub.drop i)).length ≤ 1000000 → T = (filtersPs (p.sub.drop i)).foldl gstep W → HT Tryd.prog Tryd.f50.ntmps (pt Tryd.f50 0) (stPu p W i) (EndsA Γ (.mem [] (gatM R) (.tup [])) Tryd.f50) := by
  intro d
  induction d with
  | zero =>
    intro i n W h hW hn e
    rw [List.drop_of_length_le (by omega)] at e
    simp only [filtersPs, List.foldl_nil] at e
    subst e
    exact pu_e p T R i (by omega) k
  | succ d ih =>
    intro i n W h hW hn e
    have hlt : i < p.sub.length := by omega
    rw [drop_cons _ _ pth0 hlt] at e hn
    simp only [filtersPs, List.foldl_append, List.length_append] at e hn
    exact pu_h p W _ _ i hlt hs (hc _ (getD_mem _ _ _ hlt) W n hW (by omega)) (ih (i + 1) _ _ (by omega) (hW.many (filtersP (p.sub.getD i pth0))) (by omega) e)
theorem pw_l (p : Pth) (hs : p.test.length ≤ 1048600) (T : Wd) (hc : ∀ q ∈ p.test, ∀ (W : Wd) (n : Nat), W.ok n → n + (withinF q).length ≤ 1000000 → CtrM Tryd.prog 67 (gatM W) [.ptr 1000003 0, .agg (fltL q)] (gatM ((withinF q).foldl gstep W)) (.tup [])) : ∀ d i n W, i + d = p.test.length → W.ok n → n + (withinFs (p.test.drop i)).length ≤ 1000000 → T = (withinFs (p.test.drop i)).foldl gstep W → HT Tryd.prog Tryd.f50.ntmps (pt Tryd.f50 1) (stPw p W i) (EndsA Γ (.mem [] (gatM T) (.tup [])) Tryd.f50) := by
  intro d
  induction d with
  | zero =>
    intro i n W h hW hn e
    rw [List.drop_of_length_le (by omega)] at e
    simp only [withinFs, List.foldl_nil] at e
    subst e
    exact pw_e p T i (by omega)
  | succ d ih =>
    intro i n W h hW hn e
    have hlt : i < p.test.length := by omega
    rw [drop_cons _ _ flt0 hlt] at e hn
    simp only [withinFs, List.foldl_append, List.length_append] at e hn
    exact pw_h p W _ _ i hlt hs (hc _ (getD_mem _ _ _ hlt) W n hW (by omega)) (ih (i + 1) _ _ (by omega) (hW.many (withinF (p.test.getD i flt0))) (by omega) e)
mutual
theorem pathG_ctr (p : Pth) (hok : p.ok) (W : Wd) (n : Nat) (hW : W.ok n) (hl : n + (filtersP p).length ≤ 1000000) : CtrM Tryd.prog 50 (gatM W) [.ptr 1000003 0, .agg (pthL p)] (gatM ((filtersP p).foldl gstep W)) (.tup []) := by
  have ho := Pth.ok_i hok
  have e := filtersP_eq p
  rw [e] at hl ⊢
  rw [List.length_append] at hl
  rw [List.foldl_append]
  have k := pw_l p ho.2.1 ((withinFs p.test).foldl gstep ((filtersPs p.sub).foldl gstep W)) (fun q hq W n hW hn => have := test_lt p q hq; filterG_ctr q (ho.2.2.2 q hq) W n hW hn) p.test.length 0 _ _ (Nat.zero_add _) (hW.many (filtersPs p.sub)) (by rw [List.drop_zero]; omega) (by rw [List.drop_zero])
  exact gp_p p W _ (pu_l p ho.1 _ _ k (fun q hq W n hW hn => have := sub_lt p q hq; pathG_ctr q (ho.2.2.1 q hq) W n hW hn) p.sub.length 0 n W (Nat.zero_add _) hW (by rw [List.drop_zero]; omega) (by rw [List.drop_zero]))
termination_by SizeOf.sizeOf p
theorem filterG_ctr (p : Flt) (hok : p.ok) (W : Wd) (n : Nat) (hW : W.ok n) (hl : n + (withinF p).length ≤ 1000000) : CtrM Tryd.prog 67 (gatM W) [.ptr 1000003 0, .agg (fltL p)] (gatM ((withinF p).foldl gstep W)) (.tup []) := by
  have ho := Flt.ok_i hok
  have e := withinF_eq p
  rw [e] at hl ⊢
  rw [List.length_cons, List.length_append] at hl
  rw [List.foldl_cons, List.foldl_append]
  have hW1 := hW.step p
  have h1 := hW.N; have h2 := hW.A; have h3 := hW.V; have h4 := hW.T; have h5 := hW.vs
  refine gf_p p W _ (by omega) (by omega) (by omega) (by omega) h3 (fun v hv => by have := h5 v hv; omega) (fun _ => ?_) (fun _ j => ?_)
  · have k := fw_l p ho.2.2.2.1 ((filtersPs p.way).foldl gstep ((withinFs p.sub).foldl gstep (gstep W p))) (fun q hq W n hW hn => have := way_lt p q hq; pathG_ctr q (ho.2.2.2.2.2 q hq) W n hW hn) p.way.length 0 _ _ (Nat.zero_add _) (hW1.many (withinFs p.sub)) (by rw [List.drop_zero]; omega) (by rw [List.drop_zero])
    exact fr11 p _ _ (fu_l p ho.2.2.1 _ _ k (fun q hq W n hW hn => have := fsub_lt p q hq; filterG_ctr q (ho.2.2.2.2.1 q hq) W n hW hn) p.sub.length 0 _ _ (Nat.zero_add _) hW1 (by rw [List.drop_zero]; omega) (by rw [List.drop_zero]))
  · have k := fw_lK p j ho.2.2.2.1 ((filtersPs p.way).foldl gstep ((withinFs p.sub).foldl gstep (gstep W p))) (fun q hq W n hW hn => have := way_lt p q hq; pathG_ctr q (ho.2.2.2.2.2 q hq) W n hW hn) p.way.length 0 _ _ (Nat.zero_add _) (hW1.many (withinFs p.sub)) (by rw [List.drop_zero]; omega) (by rw [List.drop_zero])
    exact fr11K p _ _ j (fu_lK p j ho.2.2.1 _ _ k (fun q hq W n hW hn => have := fsub_lt p q hq; filterG_ctr q (ho.2.2.2.2.1 q hq) W n hW hn) p.sub.length 0 _ _ (Nat.zero_add _) hW1 (by rw [List.drop_zero]; omega) (by rw [List.drop_zero]))
termination_by SizeOf.sizeOf p
end

end Go.Proofs.YteimloiaipiadaaDoor
end

section
set_option linter.unusedVariables false
set_option linter.unusedSimpArgs false
set_option maxRecDepth 100000
namespace Go.Proofs.YteimloiaipiadaaDoor
open Go Go.AX

def wd0 : Wd := ⟨[], [], [], []⟩
def spkW (p : Pth) : Wd := (filtersP p).foldl gstep wd0
def stS0 (p : Pth) : AS := ⟨[(2, .ptr 2 0), (3, .ptr 1000003 0), (6, .sl (some false) 1 (pthL p) .clip), (7, .int .i64 1), (8, .int .i64 0)], [(2, .var true [.sl (some true) 0 [] .clip, .sl (some true) 0 [] .clip, .sl (some true) 0 [] .clip, .sl (some true) 0 [] .clip]), (1000003, .var true [.sl (some true) 0 [] .clip, .sl (some true) 0 [] .clip, .sl (some true) 0 [] .clip, .sl (some true) 0 [] .clip])], []⟩
def stS1 (p : Pth) (W : Wd) : AS := ⟨[(2, .ptr 2 0), (3, .ptr 1000003 0), (6, .sl (some false) 1 (pthL p) .clip), (7, .int .i64 1), (8, .int .i64 1)], [(2, .var true [.sl (some true) 0 [] .clip, .sl (some true) 0 [] .clip, .sl (some true) 0 [] .clip, .sl (some true) 0 [] .clip]), (1000003, .var true (gatC W))], gatT true W⟩

theorem sp_h (p : Pth) (V R : Wd) (hc : CtrM Tryd.prog 50 (gatM wd0) [.ptr 1000003 0, .agg (pthL p)] (gatM V) (.tup [])) (k : HT Tryd.prog Tryd.f25.ntmps (pt Tryd.f25 0) (stS1 p V) (EndsA Γ (.mem [6000777] (⟨[], gatT false R⟩ : MemS) (.agg (gatC R))) Tryd.f25)) : HT Tryd.prog Tryd.f25.ntmps (pt Tryd.f25 0) (stS0 p) (EndsA Γ (.mem [6000777] (⟨[], gatT false R⟩ : MemS) (.agg (gatC R))) Tryd.f25) :=
  HT.walk Γ_ok mo_ok (⟨([(11, .val (.agg (pthL p))), (13, .callM [(true, 1000003, 0, 1000010, 36, 2), (true, 1000003, 1, 1000011, 36, 2), (true, 1000003, 2, 1000777, 64, 1), (true, 1000003, 3, 1000014, 9, 1)] [6000010, 6000011, 6000014] [1000003] [1000010, 1000011, 1000777, 1000014] (gatM V).heap (gatM V).tags (.tup []))] ++ []), sp25, hd25 [] [] [1000003] [1000010, 1000011, 1000777, 1000014], [], .mem [6000777] (⟨[], gatT false R⟩ : MemS) (.agg (gatC R))⟩ : Wk) 4000 (T := .split (true) (.ob ((0 : Int) ≤ (0 : Int) ∧ (0 : Int) < (↑(1 : Nat) : Int) ∧ Int.toNat (0 : Int) * (3 : Nat) < (pthL p).length) (.ob ((pthL p) = (pthL p)) (.ob ((3 : Nat) ≤ (3 : Nat)) (.ob (CtrM Tryd.prog (50 : Nat) { heap := [(1000003, .var true [AV.vec (1000010 : Nat) (0 : Nat), AV.vec (1000011 : Nat) (0 : Nat), AV.vec (1000777 : Nat) (0 : Nat), AV.vec (1000014 : Nat) (0 : Nat)])], tags := [(1000010, { n := (0 : Nat), e := (36 : Nat), sz := (2 : Nat), cs := some (false, []) }), (1000011, { n := (0 : Nat), e := (36 : Nat), sz := (2 : Nat), cs := some (false, []) }), (1000777, { n := (0 : Nat), e := (64 : Nat), sz := (1 : Nat), cs := some (true, []) }), (1000014, { n := (0 : Nat), e := (9 : Nat), sz := (1 : Nat), cs := some (false, []) })] } [AV.ptr 1000003 0, AV.agg (pthL p)] { heap := [(1000003, .var true [AV.vec (1000010 : Nat) V.N.length, AV.vec (1000011 : Nat) V.A.length, AV.vec (1000777 : Nat) V.V.length, AV.vec (1000014 : Nat) V.T.length])], tags := [(1000010, { n := V.N.length, e := (36 : Nat), sz := (2 : Nat), cs := some (false, nmsC V.N) }), (1000011, { n := V.A.length, e := (36 : Nat), sz := (2 : Nat), cs := some (false, nmsC V.A) }), (1000777, { n := V.V.length, e := (64 : Nat), sz := (1 : Nat), cs := some (true, valsC V.V) }), (1000014, { n := V.T.length, e := (9 : Nat), sz := (1 : Nat), cs := some (false, strsC V.T) })] } (AV.tup [])) (.head (pt Tryd.f25 0) ({ tmps := [(2, AV.ptr 2 0), (3, AV.ptr 1000003 0), (6, AV.sl (some false) (1 : Nat) (pthL p) .clip), (7, AV.int .i64 (1 : Int)), (8, AV.int .i64 (1 : Int))], heap := [(2, .var true [AV.sl (some true) (0 : Nat) [] .clip, AV.sl (some true) (0 : Nat) [] .clip, AV.sl (some true) (0 : Nat) [] .clip, AV.sl (some true) (0 : Nat) [] .clip]), (1000003, .var true [AV.vec (1000010 : Nat) V.N.length, AV.vec (1000011 : Nat) V.A.length, AV.vec (1000777 : Nat) V.V.length, AV.vec (1000014 : Nat) V.T.length])], tags := [(1000010, { n := V.N.length, e := (36 : Nat), sz := (2 : Nat), cs := some (false, nmsC V.N) }), (1000011, { n := V.A.length, e := (36 : Nat), sz := (2 : Nat), cs := some (false, nmsC V.A) }), (1000777, { n := V.V.length, e := (64 : Nat), sz := (1 : Nat), cs := some (true, valsC V.V) }), (1000014, { n := V.T.length, e := (9 : Nat), sz := (1 : Nat), cs := some (false, strsC V.T) })] })))))) (.ob ((4 : Nat) ≤ (4 : Nat)) ((.bad (4 : Nat) (0 : Nat))))) (by kernel_rfl) (by
    simp only [PT.holds, true_implies, Bool.false_eq_true, Bool.true_eq_false, false_implies, true_and, and_true]
    exact ⟨⟨by omega, by omega, by simp [pthL]⟩, by omega, hc, head_eq k (by simp [stS1, pthL, gatC, gatT])⟩)
theorem sp_e (p : Pth) (W : Wd) : HT Tryd.prog Tryd.f25.ntmps (pt Tryd.f25 0) (stS1 p W) (EndsA Γ (.mem [6000777] (⟨[], gatT false W⟩ : MemS) (.agg (gatC W))) Tryd.f25) :=
  HT.walk Γ_ok mo_ok (⟨([(11, .val (.agg (pthL p))), (13, .callM [(true, 1000003, 0, 1000010, 36, 2), (true, 1000003, 1, 1000011, 36, 2), (true, 1000003, 2, 1000777, 64, 1), (true, 1000003, 3, 1000014, 9, 1)] [6000010, 6000011, 6000014] [1000003] [1000010, 1000011, 1000777, 1000014] (gatM W).heap (gatM W).tags (.tup []))] ++ []), sp25, hd25 [] [] [1000003] [1000010, 1000011, 1000777, 1000014], [], .mem [6000777] (⟨[], gatT false W⟩ : MemS) (.agg (gatC W))⟩ : Wk) 4000 (T := .split (false) (.ob ((0 : Int) ≤ (1 : Int) ∧ (1 : Int) < (↑(1 : Nat) : Int) ∧ Int.toNat (1 : Int) * (3 : Nat) < (pthL p).length) (.ob (([] : List AV) = (pthL p)) (.ob ((3 : Nat) ≤ (3 : Nat)) (.ob (CtrM Tryd.prog (50 : Nat) { heap := [(1000003, .var true [AV.vec (1000010 : Nat) W.N.length, AV.vec (1000011 : Nat) W.A.length, AV.vec (1000777 : Nat) W.V.length, AV.vec (1000014 : Nat) W.T.length])], tags := [(1000010, { n := W.N.length, e := (36 : Nat), sz := (2 : Nat), cs := some (false, nmsC W.N) }), (1000011, { n := W.A.length, e := (36 : Nat), sz := (2 : Nat), cs := some (false, nmsC W.A) }), (1000777, { n := W.V.length, e := (64 : Nat), sz := (1 : Nat), cs := some (true, valsC W.V) }), (1000014, { n := W.T.length, e := (9 : Nat), sz := (1 : Nat), cs := some (false, strsC W.T) })] } [AV.ptr 1000003 0, AV.agg (pthL p)] { heap := [(1000003, .var true [AV.vec (1000010 : Nat) W.N.length, AV.vec (1000011 : Nat) W.A.length, AV.vec (1000777 : Nat) W.V.length, AV.vec (1000014 : Nat) W.T.length])], tags := [(1000010, { n := W.N.length, e := (36 : Nat), sz := (2 : Nat), cs := some (false, nmsC W.N) }), (1000011, { n := W.A.length, e := (36 : Nat), sz := (2 : Nat), cs := some (false, nmsC W.A) }), (1000777, { n := W.V.length, e := (64 : Nat), sz := (1 : Nat), cs := some (true, valsC W.V) }), (1000014, { n := W.T.length, e := (9 : Nat), sz := (1 : Nat), cs := some (false, strsC W.T) })] } (AV.tup [])) (.head (pt Tryd.f25 0) ({ tmps := [(2, AV.ptr 2 0), (3, AV.ptr 1000003 0), (6, AV.sl (some false) (1 : Nat) (pthL p) .clip), (7, AV.int .i64 (1 : Int)), (8, AV.int .i64 (2 : Int))], heap := [(2, .var true [AV.sl (some true) (0 : Nat) [] .clip, AV.sl (some true) (0 : Nat) [] .clip, AV.sl (some true) (0 : Nat) [] .clip, AV.sl (some true) (0 : Nat) [] .clip]), (1000003, .var true [AV.vec (1000010 : Nat) W.N.length, AV.vec (1000011 : Nat) W.A.length, AV.vec (1000777 : Nat) W.V.length, AV.vec (1000014 : Nat) W.T.length])], tags := [(1000010, { n := W.N.length, e := (36 : Nat), sz := (2 : Nat), cs := some (false, nmsC W.N) }), (1000011, { n := W.A.length, e := (36 : Nat), sz := (2 : Nat), cs := some (false, nmsC W.A) }), (1000777, { n := W.V.length, e := (64 : Nat), sz := (1 : Nat), cs := some (true, valsC W.V) }), (1000014, { n := W.T.length, e := (9 : Nat), sz := (1 : Nat), cs := some (false, strsC W.T) })] })))))) (.ob ((4 : Nat) ≤ (4 : Nat)) (.ob (W.N.length = W.N.length) (.ob (W.A.length = W.A.length) (.ob (W.V.length = W.V.length) (.ob (W.T.length = W.T.length) (.ob (W.N.length = W.N.length) (.ob (nmsC W.N = nmsC W.N) (.ob (W.A.length = W.A.length) (.ob (nmsC W.A = nmsC W.A) (.ob (W.V.length = W.V.length) (.ob (valsC W.V = valsC W.V) (.ob (W.T.length = W.T.length) (.ob (strsC W.T = strsC W.T) (.tt))))))))))))))) (by kernel_rfl) (by
    simp only [PT.holds, true_implies, Bool.false_eq_true, Bool.true_eq_false, false_implies, true_and, and_true]
    try trivial)
theorem sp_p (p : Pth) (R : Wd) (k : HT Tryd.prog Tryd.f25.ntmps (pt Tryd.f25 0) (stS0 p) (EndsA Γ (.mem [6000777] (⟨[], gatT false R⟩ : MemS) (.agg (gatC R))) Tryd.f25)) : CtrM Tryd.prog 25 (⟨[], []⟩ : MemS) [.sl (some false) 1 (pthL p) .clip] (⟨[], gatT false R⟩ : MemS) (.agg (gatC R)) :=
  CtrM.mk Γ_ok Tryd.func25 (by kernel_rfl) Tryd.call25 [6000777] (by kernel_rfl) (by kernel_rfl) (by kernel_rfl) (HT.walk Γ_ok mo_ok (⟨([(3, .id 1000003)] ++ []), sp25, hd25 [] [] [1000003] [1000010, 1000011, 1000777, 1000014], [], .mem [6000777] (⟨[], gatT false R⟩ : MemS) (.agg (gatC R))⟩ : Wk) 4000 (T := .head (pt Tryd.f25 0) ({ tmps := [(2, AV.ptr 2 0), (3, AV.ptr 1000003 0), (6, AV.sl (some false) (1 : Nat) (pthL p) .clip), (7, AV.int .i64 (1 : Int)), (8, AV.int .i64 (0 : Int))], heap := [(2, .var true [AV.sl (some true) (0 : Nat) [] .clip, AV.sl (some true) (0 : Nat) [] .clip, AV.sl (some true) (0 : Nat) [] .clip, AV.sl (some true) (0 : Nat) [] .clip]), (1000003, .var true [AV.sl (some true) (0 : Nat) [] .clip, AV.sl (some true) (0 : Nat) [] .clip, AV.sl (some true) (0 : Nat) [] .clip, AV.sl (some true) (0 : Nat) [] .clip])], tags := [] })) (by kernel_rfl) (by
    simp only [PT.holds, true_implies, Bool.false_eq_true, Bool.true_eq_false, false_implies, true_and, and_true]
    exact head_eq k (by simp [stS0, pthL])))
theorem wd0_ok : wd0.ok 0 := ⟨Nat.le_refl _, Nat.le_refl _, rfl, Nat.le_refl _, fun v hv => by simp [wd0] at hv⟩
/-- What a query speaks of. -/
theorem speaks_ctr (p : Pth) (hok : p.ok) (hl : (filtersP p).length ≤ 1000000) : CtrM Tryd.prog 25 ⟨[], []⟩ [.sl (some false) 1 (pthL p) .clip] ⟨[], gatT false (spkW p)⟩ (.agg (gatC (spkW p))) :=
  sp_p p _ (sp_h p _ _ (pathG_ctr p hok wd0 0 wd0_ok (by omega)) (sp_e p _))
theorem spkW_ok (p : Pth) : (spkW p).ok (filtersP p).length := by
  have := wd0_ok.many (filtersP p)
  rwa [Nat.zero_add] at this

end Go.Proofs.YteimloiaipiadaaDoor
end

section
set_option linter.unusedVariables false
set_option linter.unusedSimpArgs false
set_option maxRecDepth 100000
namespace Go.Proofs.YteimloiaipiadaaDoor
open Go Go.AX

theorem digN_1 (n : Nat) (h : n < 10) : digN n = ⟨#[UInt8.ofNat (48 + n)]⟩ := by rw [digN, if_pos h]
theorem digN_2 (n : Nat) (h : ¬ n < 10) (h2 : n < 100) : digN n = ⟨#[UInt8.ofNat (48 + n / 10), UInt8.ofNat (48 + n % 10)]⟩ := by
  rw [digN, if_neg h, digN_1 _ (by omega), digN_1 _ (by omega)]
  rfl

theorem small_ctr (n : Nat) (hn : n < 100) : Ctr Tryd.prog 88 [.int .i64 n] (.str (digN n)) :=
  Ctr.mk Γ_ok Tryd.func88 (by kernel_rfl) Tryd.call88 [] (by kernel_rfl) (HT.walk Γ_ok mo_ok (⟨[], sp88, [], [], .pure [] (.str (digN n))⟩ : Wk) 4000 (T := .split (decide ((↑n : Int) < (10 : Int))) (.ob ((0 : Int) ≤ (↑n : Int) ∧ (↑n : Int) ≤ IntKind.i64.wrap ((↑n : Int) + (1 : Int)) ∧ IntKind.i64.wrap ((↑n : Int) + (1 : Int)) ≤ (↑(ByteArray.mk #[(48 : UInt8), (49 : UInt8), (50 : UInt8), (51 : UInt8), (52 : UInt8), (53 : UInt8), (54 : UInt8), (55 : UInt8), (56 : UInt8), (57 : UInt8), (97 : UInt8), (98 : UInt8), (99 : UInt8), (100 : UInt8), (101 : UInt8), (102 : UInt8), (103 : UInt8), (104 : UInt8), (105 : UInt8), (106 : UInt8), (107 : UInt8), (108 : UInt8), (109 : UInt8), (110 : UInt8), (111 : UInt8), (112 : UInt8), (113 : UInt8), (114 : UInt8), (115 : UInt8), (116 : UInt8), (117 : UInt8), (118 : UInt8), (119 : UInt8), (120 : UInt8), (121 : UInt8), (122 : UInt8)]).size : Int)) (.ob ((ByteArray.mk #[(48 : UInt8), (49 : UInt8), (50 : UInt8), (51 : UInt8), (52 : UInt8), (53 : UInt8), (54 : UInt8), (55 : UInt8), (56 : UInt8), (57 : UInt8), (97 : UInt8), (98 : UInt8), (99 : UInt8), (100 : UInt8), (101 : UInt8), (102 : UInt8), (103 : UInt8), (104 : UInt8), (105 : UInt8), (106 : UInt8), (107 : UInt8), (108 : UInt8), (109 : UInt8), (110 : UInt8), (111 : UInt8), (112 : UInt8), (113 : UInt8), (114 : UInt8), (115 : UInt8), (116 : UInt8), (117 : UInt8), (118 : UInt8), (119 : UInt8), (120 : UInt8), (121 : UInt8), (122 : UInt8)]).extract (↑n : Int).toNat (IntKind.i64.wrap ((↑n : Int) + (1 : Int))).toNat = digN n) (.tt))) (.ob ((0 : Int) ≤ IntKind.i64.wrap ((↑n : Int) * (2 : Int)) ∧ IntKind.i64.wrap ((↑n : Int) * (2 : Int)) ≤ IntKind.i64.wrap (IntKind.i64.wrap ((↑n : Int) * (2 : Int)) + (2 : Int)) ∧ IntKind.i64.wrap (IntKind.i64.wrap ((↑n : Int) * (2 : Int)) + (2 : Int)) ≤ (↑(ByteArray.mk (([(48 : UInt8), (48 : UInt8), (48 : UInt8), (49 : UInt8), (48 : UInt8), (50 : UInt8), (48 : UInt8), (51 : UInt8), (48 : UInt8), (52 : UInt8), (48 : UInt8), (53 : UInt8), (48 : UInt8), (54 : UInt8), (48 : UInt8), (55 : UInt8), (48 : UInt8), (56 : UInt8), (48 : UInt8), (57 : UInt8), (49 : UInt8), (48 : UInt8), (49 : UInt8), (49 : UInt8), (49 : UInt8), (50 : UInt8), (49 : UInt8), (51 : UInt8), (49 : UInt8), (52 : UInt8), (49 : UInt8), (53 : UInt8), (49 : UInt8), (54 : UInt8), (49 : UInt8), (55 : UInt8), (49 : UInt8), (56 : UInt8), (49 : UInt8), (57 : UInt8), (50 : UInt8), (48 : UInt8), (50 : UInt8), (49 : UInt8), (50 : UInt8), (50 : UInt8), (50 : UInt8), (51 : UInt8), (50 : UInt8), (52 : UInt8)].append [(50 : UInt8), (53 : UInt8), (50 : UInt8), (54 : UInt8), (50 : UInt8), (55 : UInt8), (50 : UInt8), (56 : UInt8), (50 : UInt8), (57 : UInt8), (51 : UInt8), (48 : UInt8), (51 : UInt8), (49 : UInt8), (51 : UInt8), (50 : UInt8), (51 : UInt8), (51 : UInt8), (51 : UInt8), (52 : UInt8), (51 : UInt8), (53 : UInt8), (51 : UInt8), (54 : UInt8), (51 : UInt8), (55 : UInt8), (51 : UInt8), (56 : UInt8), (51 : UInt8), (57 : UInt8), (52 : UInt8), (48 : UInt8), (52 : UInt8), (49 : UInt8), (52 : UInt8), (50 : UInt8), (52 : UInt8), (51 : UInt8), (52 : UInt8), (52 : UInt8), (52 : UInt8), (53 : UInt8), (52 : UInt8), (54 : UInt8), (52 : UInt8), (55 : UInt8), (52 : UInt8), (56 : UInt8), (52 : UInt8), (57 : UInt8)]).append ([(53 : UInt8), (48 : UInt8), (53 : UInt8), (49 : UInt8), (53 : UInt8), (50 : UInt8), (53 : UInt8), (51 : UInt8), (53 : UInt8), (52 : UInt8), (53 : UInt8), (53 : UInt8), (53 : UInt8), (54 : UInt8), (53 : UInt8), (55 : UInt8), (53 : UInt8), (56 : UInt8), (53 : UInt8), (57 : UInt8), (54 : UInt8), (48 : UInt8), (54 : UInt8), (49 : UInt8), (54 : UInt8), (50 : UInt8), (54 : UInt8), (51 : UInt8), (54 : UInt8), (52 : UInt8), (54 : UInt8), (53 : UInt8), (54 : UInt8), (54 : UInt8), (54 : UInt8), (55 : UInt8), (54 : UInt8), (56 : UInt8), (54 : UInt8), (57 : UInt8), (55 : UInt8), (48 : UInt8), (55 : UInt8), (49 : UInt8), (55 : UInt8), (50 : UInt8), (55 : UInt8), (51 : UInt8), (55 : UInt8), (52 : UInt8)].append [(55 : UInt8), (53 : UInt8), (55 : UInt8), (54 : UInt8), (55 : UInt8), (55 : UInt8), (55 : UInt8), (56 : UInt8), (55 : UInt8), (57 : UInt8), (56 : UInt8), (48 : UInt8), (56 : UInt8), (49 : UInt8), (56 : UInt8), (50 : UInt8), (56 : UInt8), (51 : UInt8), (56 : UInt8), (52 : UInt8), (56 : UInt8), (53 : UInt8), (56 : UInt8), (54 : UInt8), (56 : UInt8), (55 : UInt8), (56 : UInt8), (56 : UInt8), (56 : UInt8), (57 : UInt8), (57 : UInt8), (48 : UInt8), (57 : UInt8), (49 : UInt8), (57 : UInt8), (50 : UInt8), (57 : UInt8), (51 : UInt8), (57 : UInt8), (52 : UInt8), (57 : UInt8), (53 : UInt8), (57 : UInt8), (54 : UInt8), (57 : UInt8), (55 : UInt8), (57 : UInt8), (56 : UInt8), (57 : UInt8), (57 : UInt8)])).toArray).size : Int)) (.ob ((ByteArray.mk (([(48 : UInt8), (48 : UInt8), (48 : UInt8), (49 : UInt8), (48 : UInt8), (50 : UInt8), (48 : UInt8), (51 : UInt8), (48 : UInt8), (52 : UInt8), (48 : UInt8), (53 : UInt8), (48 : UInt8), (54 : UInt8), (48 : UInt8), (55 : UInt8), (48 : UInt8), (56 : UInt8), (48 : UInt8), (57 : UInt8), (49 : UInt8), (48 : UInt8), (49 : UInt8), (49 : UInt8), (49 : UInt8), (50 : UInt8), (49 : UInt8), (51 : UInt8), (49 : UInt8), (52 : UInt8), (49 : UInt8), (53 : UInt8), (49 : UInt8), (54 : UInt8), (49 : UInt8), (55 : UInt8), (49 : UInt8), (56 : UInt8), (49 : UInt8), (57 : UInt8), (50 : UInt8), (48 : UInt8), (50 : UInt8), (49 : UInt8), (50 : UInt8), (50 : UInt8), (50 : UInt8), (51 : UInt8), (50 : UInt8), (52 : UInt8)].append [(50 : UInt8), (53 : UInt8), (50 : UInt8), (54 : UInt8), (50 : UInt8), (55 : UInt8), (50 : UInt8), (56 : UInt8), (50 : UInt8), (57 : UInt8), (51 : UInt8), (48 : UInt8), (51 : UInt8), (49 : UInt8), (51 : UInt8), (50 : UInt8), (51 : UInt8), (51 : UInt8), (51 : UInt8), (52 : UInt8), (51 : UInt8), (53 : UInt8), (51 : UInt8), (54 : UInt8), (51 : UInt8), (55 : UInt8), (51 : UInt8), (56 : UInt8), (51 : UInt8), (57 : UInt8), (52 : UInt8), (48 : UInt8), (52 : UInt8), (49 : UInt8), (52 : UInt8), (50 : UInt8), (52 : UInt8), (51 : UInt8), (52 : UInt8), (52 : UInt8), (52 : UInt8), (53 : UInt8), (52 : UInt8), (54 : UInt8), (52 : UInt8), (55 : UInt8), (52 : UInt8), (56 : UInt8), (52 : UInt8), (57 : UInt8)]).append ([(53 : UInt8), (48 : UInt8), (53 : UInt8), (49 : UInt8), (53 : UInt8), (50 : UInt8), (53 : UInt8), (51 : UInt8), (53 : UInt8), (52 : UInt8), (53 : UInt8), (53 : UInt8), (53 : UInt8), (54 : UInt8), (53 : UInt8), (55 : UInt8), (53 : UInt8), (56 : UInt8), (53 : UInt8), (57 : UInt8), (54 : UInt8), (48 : UInt8), (54 : UInt8), (49 : UInt8), (54 : UInt8), (50 : UInt8), (54 : UInt8), (51 : UInt8), (54 : UInt8), (52 : UInt8), (54 : UInt8), (53 : UInt8), (54 : UInt8), (54 : UInt8), (54 : UInt8), (55 : UInt8), (54 : UInt8), (56 : UInt8), (54 : UInt8), (57 : UInt8), (55 : UInt8), (48 : UInt8), (55 : UInt8), (49 : UInt8), (55 : UInt8), (50 : UInt8), (55 : UInt8), (51 : UInt8), (55 : UInt8), (52 : UInt8)].append [(55 : UInt8), (53 : UInt8), (55 : UInt8), (54 : UInt8), (55 : UInt8), (55 : UInt8), (55 : UInt8), (56 : UInt8), (55 : UInt8), (57 : UInt8), (56 : UInt8), (48 : UInt8), (56 : UInt8), (49 : UInt8), (56 : UInt8), (50 : UInt8), (56 : UInt8), (51 : UInt8), (56 : UInt8), (52 : UInt8), (56 : UInt8), (53 : UInt8), (56 : UInt8), (54 : UInt8), (56 : UInt8), (55 : UInt8), (56 : UInt8), (56 : UInt8), (56 : UInt8), (57 : UInt8), (57 : UInt8), (48 : UInt8), (57 : UInt8), (49 : UInt8), (57 : UInt8), (50 : UInt8), (57 : UInt8), (51 : UInt8), (57 : UInt8), (52 : UInt8), (57 : UInt8), (53 : UInt8), (57 : UInt8), (54 : UInt8), (57 : UInt8), (55 : UInt8), (57 : UInt8), (56 : UInt8), (57 : UInt8), (57 : UInt8)])).toArray).extract (IntKind.i64.wrap ((↑n : Int) * (2 : Int))).toNat (IntKind.i64.wrap (IntKind.i64.wrap ((↑n : Int) * (2 : Int)) + (2 : Int))).toNat = digN n) (.tt)))) (by kernel_rfl) (by
    simp only [PT.holds, true_implies, Bool.false_eq_true, Bool.true_eq_false, false_implies, true_and, and_true]
    refine ⟨fun h => ?_, fun h => ?_⟩
    · have h1 : n < 10 := by have := of_decide_eq_true h; omega
      have w2 : IntKind.i64.wrap ((n : Int) + 1) = ((n + 1 : Nat) : Int) := by rw [i64_wrap (by omega) (by omega)]; rfl
      rw [w2]
      refine ⟨⟨by omega, by omega, ?_⟩, ?_⟩
      · simp only [ByteArray.size]
        simp
        omega
      · rw [digN_1 n h1, Int.toNat_natCast, Int.toNat_natCast]
        clear w2 h hn
        revert h1
        revert n
        decide +kernel
    · have h1 : ¬ n < 10 := by have := of_decide_eq_false h; omega
      have w2 : IntKind.i64.wrap ((n : Int) * 2) = ((n * 2 : Nat) : Int) := by rw [i64_wrap (by omega) (by omega)]; rfl
      have w3 : IntKind.i64.wrap (((n * 2 : Nat) : Int) + 2) = ((n * 2 + 2 : Nat) : Int) := by rw [i64_wrap (by omega) (by omega)]; rfl
      rw [w2, w3]
      refine ⟨⟨by omega, by omega, ?_⟩, ?_⟩
      · simp only [ByteArray.size]
        simp
        omega
      · rw [digN_2 n h1 hn, Int.toNat_natCast, Int.toNat_natCast]
        clear w2 w3 h h1
        revert hn
        revert n
        decide +kernel))
theorem fmt_ctr (n : Nat) (hn : n < 100) : Ctr Tryd.prog 82 [.int .i64 n, .int .i64 10] (.str (digN n)) :=
  Ctr.mk Γ_ok Tryd.func82 (by kernel_rfl) Tryd.call82 [] (by kernel_rfl) (HT.walk Γ_ok mo_ok (⟨[(19, .call [] (.str (digN n)))], [16], [], [], .pure [] (.str (digN n))⟩ : Wk) 4000 (T := .split (decide ((↑n : Int) < (100 : Int))) (.ob (Ctr Tryd.prog 88 [AV.int .i64 (↑n : Int)] (AV.str (digN n))) (.ob (digN n = digN n) (.tt))) ((.bad (2 : Nat) (5 : Nat)))) (by kernel_rfl) (by
    simp only [PT.holds, true_implies, Bool.false_eq_true, Bool.true_eq_false, false_implies, true_and, and_true]
    exact ⟨fun _ => small_ctr n hn, fun h => absurd (of_decide_eq_false h) (by omega)⟩))
theorem itoa0_ctr (n : Nat) (hn : n < 100) : Ctr Tryd.prog 69 [.int .i64 n] (.str (digN n)) :=
  Ctr.mk Γ_ok Tryd.func69 (by kernel_rfl) Tryd.call69 [] (by kernel_rfl) (HT.walk Γ_ok mo_ok (⟨[(4, .call [] (.str (digN n)))], sp69, [], [], .pure [] (.str (digN n))⟩ : Wk) 4000 (T := .ob (Ctr Tryd.prog 82 [AV.int .i64 (↑n : Int), AV.int .i64 (10 : Int)] (AV.str (digN n))) (.ob (digN n = digN n) (.tt))) (by kernel_rfl) (by
    simp only [PT.holds, true_implies, Bool.false_eq_true, Bool.true_eq_false, false_implies, true_and, and_true]
    exact fmt_ctr n hn))
theorem itoa_ctr (n : Nat) (hn : n < 100) : Ctr Tryd.prog 52 [.int .i64 n] (.str (digN n)) :=
  Ctr.mk Γ_ok Tryd.func52 (by kernel_rfl) Tryd.call52 [] (by kernel_rfl) (HT.walk Γ_ok mo_ok (⟨[(4, .call [] (.str (digN n)))], sp52, [], [], .pure [] (.str (digN n))⟩ : Wk) 4000 (T := .ob (Ctr Tryd.prog 69 [AV.int .i64 (↑n : Int)] (AV.str (digN n))) (.ob (digN n = digN n) (.tt))) (by kernel_rfl) (by
    simp only [PT.holds, true_implies, Bool.false_eq_true, Bool.true_eq_false, false_implies, true_and, and_true]
    exact itoa0_ctr n hn))
def stFra (l : List ByteArray) (stem : ByteArray) (nl : Option Bool) (a : List ByteArray) (i : Nat) : AS := ⟨[(0, .sl none l.length (strsC l) .no), (1, .str stem), (11, .sl nl a.length (strsC a) .clip), (12, .int .i64 a.length), (13, .int .i64 i)], [], []⟩
def stFrb (l : List ByteArray) (stem : ByteArray) (j : Nat) : AS := ⟨[(0, .sl none l.length (strsC l) .no), (1, .str stem), (9, .int .i64 j)], [], []⟩

theorem fra_h (l : List ByteArray) (stem : ByteArray) (nl : Option Bool) (a : List ByteArray) (i j : Nat) (R : ByteArray) (hi : i < a.length) (hl : l.length ≤ 1000000) (ha : a.length ≤ 1000000) (k : a.getD i ⟨#[]⟩ ∈ l → HT Tryd.prog Tryd.f29.ntmps (pt Tryd.f29 0) (stFra l stem nl a (i + 1)) (EndsA Γ (.pure [] (.str R)) Tryd.f29)) (hr : a.getD i ⟨#[]⟩ ∉ l → R = a.getD i ⟨#[]⟩) : HT Tryd.prog Tryd.f29.ntmps (pt Tryd.f29 0) (stFra l stem nl a i) (EndsA Γ (.pure [] (.str R)) Tryd.f29) :=
  HT.walk Γ_ok mo_ok (⟨[(14, .val (.bool true)), (16, .val (.str (a.getD i ⟨#[]⟩))), (19, .call [] (.bool (decide (0 ≤ ixG (a.getD i ⟨#[]⟩) l 0)))), (27, .call [] (.str (digN j))), (31, .call [] (.bool (decide (0 ≤ ixG (stem ++ digN j) l 0))))], (sp29).filter (fun x => !Nat.beq x 14), hd29 [] [] [] [], [], .pure [] (.str R)⟩ : Wk) 4000 (T := .ob (decide ((↑i : Int) < (↑a.length : Int)) = true) (.ob ((0 : Int) ≤ (↑i : Int) ∧ (↑i : Int) < (↑a.length : Int) ∧ (↑i : Int).toNat * (1 : Nat) < (strsC a).length) (.ob ((strsC a)[(↑i : Int).toNat * (1 : Nat)]? = some (AV.str (a.getD i (ByteArray.mk #[])))) (.ob (Ctr Tryd.prog 51 [AV.sl none l.length (strsC l) .no, AV.str (a.getD i (ByteArray.mk #[]))] (AV.bool (decide ((0 : Int) ≤ ixG (a.getD i (ByteArray.mk #[])) l (0 : Nat))))) (.split (decide ((0 : Int) ≤ ixG (a.getD i (ByteArray.mk #[])) l (0 : Nat))) (.head (pt Tryd.f29 0) ({ tmps := [(0, AV.sl none l.length (strsC l) .no), (1, AV.str stem), (11, AV.sl nl a.length (strsC a) .clip), (12, AV.int .i64 (↑a.length : Int)), (13, AV.int .i64 (IntKind.i64.wrap ((↑i : Int) + (1 : Int))))], heap := [], tags := [] })) (.ob (a.getD i (ByteArray.mk #[]) = R) (.tt))))))) (by kernel_rfl) (by
    have w2 : IntKind.i64.wrap ((i : Int) + 1) = ((i + 1 : Nat) : Int) := by rw [i64_wrap (by omega) (by omega)]; rfl
    have h0 : decide ((i : Int) < a.length) = true := by simp; omega
    simp only [PT.holds, w2, h0, Int.toNat_natCast, Nat.mul_one, strsC_len, strs_nth a i hi, true_implies, Bool.false_eq_true, Bool.true_eq_false, false_implies, true_and, and_true]
    exact ⟨by omega, ctB_ctr l _ hl, fun h => head_eq (k ((ixG_ge _ ⟨#[]⟩ l).1 h)) (by simp [stFra]), fun h => (hr (fun hm => by rw [(ixG_ge _ ⟨#[]⟩ l).2 hm] at h; cases h)).symm⟩)
theorem fra_e (l : List ByteArray) (stem : ByteArray) (nl : Option Bool) (a : List ByteArray) (i j : Nat) (R : ByteArray) (hi : i = a.length) (k : HT Tryd.prog Tryd.f29.ntmps (pt Tryd.f29 1) (stFrb l stem 0) (EndsA Γ (.pure [] (.str R)) Tryd.f29)) : HT Tryd.prog Tryd.f29.ntmps (pt Tryd.f29 0) (stFra l stem nl a i) (EndsA Γ (.pure [] (.str R)) Tryd.f29) :=
  HT.walk Γ_ok mo_ok (⟨[(14, .val (.bool false)), (16, .val (.str (a.getD i ⟨#[]⟩))), (19, .call [] (.bool (decide (0 ≤ ixG (a.getD i ⟨#[]⟩) l 0)))), (27, .call [] (.str (digN j))), (31, .call [] (.bool (decide (0 ≤ ixG (stem ++ digN j) l 0))))], (sp29).filter (fun x => !Nat.beq x 14), hd29 [] [] [] [], [], .pure [] (.str R)⟩ : Wk) 4000 (T := .ob (decide ((↑i : Int) < (↑a.length : Int)) = false) (.head (pt Tryd.f29 1) ({ tmps := [(0, AV.sl none l.length (strsC l) .no), (1, AV.str stem), (9, AV.int .i64 (0 : Int))], heap := [], tags := [] }))) (by kernel_rfl) (by
    have h0 : decide ((i : Int) < a.length) = false := by simp; omega
    simp only [PT.holds, h0, true_implies, Bool.false_eq_true, Bool.true_eq_false, false_implies, true_and, and_true]
    exact head_eq k (by simp [stFrb]))
theorem frb_h (l : List ByteArray) (stem : ByteArray) (j : Nat) (a : List ByteArray) (i : Nat) (R : ByteArray) (hj : j < 100) (hl : l.length ≤ 1000000) (hs : stem.size ≤ 1000000) (k : stem ++ digN j ∈ l → HT Tryd.prog Tryd.f29.ntmps (pt Tryd.f29 1) (stFrb l stem (j + 1)) (EndsA Γ (.pure [] (.str R)) Tryd.f29)) (hr : stem ++ digN j ∉ l → R = stem ++ digN j) : HT Tryd.prog Tryd.f29.ntmps (pt Tryd.f29 1) (stFrb l stem j) (EndsA Γ (.pure [] (.str R)) Tryd.f29) :=
  HT.walk Γ_ok mo_ok (⟨[(16, .val (.str (a.getD i ⟨#[]⟩))), (19, .call [] (.bool (decide (0 ≤ ixG (a.getD i ⟨#[]⟩) l 0)))), (27, .call [] (.str (digN j))), (31, .call [] (.bool (decide (0 ≤ ixG (stem ++ digN j) l 0))))], sp29, hd29 [] [] [] [], [], .pure [] (.str R)⟩ : Wk) 4000 (T := .ob (Ctr Tryd.prog 52 [AV.int .i64 (↑j : Int)] (AV.str (digN j))) (.ob (stem.size + (digN j).size ≤ (9223372036854775807 : Nat)) (.ob (Ctr Tryd.prog 51 [AV.sl none l.length (strsC l) .no, AV.str (stem ++ digN j)] (AV.bool (decide ((0 : Int) ≤ ixG (stem ++ digN j) l (0 : Nat))))) (.split (decide ((0 : Int) ≤ ixG (stem ++ digN j) l (0 : Nat))) (.head (pt Tryd.f29 1) ({ tmps := [(0, AV.sl none l.length (strsC l) .no), (1, AV.str stem), (9, AV.int .i64 (IntKind.i64.wrap ((↑j : Int) + (1 : Int))))], heap := [], tags := [] })) (.ob (stem ++ digN j = R) (.tt)))))) (by kernel_rfl) (by
    have w2 : IntKind.i64.wrap ((j : Int) + 1) = ((j + 1 : Nat) : Int) := by rw [i64_wrap (by omega) (by omega)]; rfl
    simp only [PT.holds, w2, true_implies, Bool.false_eq_true, Bool.true_eq_false, false_implies, true_and, and_true]
    have hsz : (digN j).size ≤ j + 1 := digN_size j
    exact ⟨itoa_ctr j hj, by omega, ctB_ctr l _ hl, fun h => head_eq (k ((ixG_ge _ ⟨#[]⟩ l).1 h)) (by simp [stFrb]), fun h => (hr (fun hm => by rw [(ixG_ge _ ⟨#[]⟩ l).2 hm] at h; cases h)).symm⟩)
theorem fr_p (l : List ByteArray) (stem : ByteArray) (nl : Option Bool) (a : List ByteArray) (j i : Nat) (R : ByteArray) (k : HT Tryd.prog Tryd.f29.ntmps (pt Tryd.f29 0) (stFra l stem nl a 0) (EndsA Γ (.pure [] (.str R)) Tryd.f29)) : Ctr Tryd.prog 29 [.sl none l.length (strsC l) .no, .str stem, .sl nl a.length (strsC a) .clip] (.str R) :=
  Ctr.mk Γ_ok Tryd.func29 (by kernel_rfl) Tryd.call29 [] (by kernel_rfl) (HT.walk Γ_ok mo_ok (⟨[(16, .val (.str (a.getD i ⟨#[]⟩))), (19, .call [] (.bool (decide (0 ≤ ixG (a.getD i ⟨#[]⟩) l 0)))), (27, .call [] (.str (digN j))), (31, .call [] (.bool (decide (0 ≤ ixG (stem ++ digN j) l 0))))], sp29, hd29 [] [] [] [], [], .pure [] (.str R)⟩ : Wk) 4000 (T := .head (pt Tryd.f29 0) ({ tmps := [(0, AV.sl none l.length (strsC l) .no), (1, AV.str stem), (11, AV.sl nl a.length (strsC a) .clip), (12, AV.int .i64 (↑a.length : Int)), (13, AV.int .i64 (0 : Int))], heap := [], tags := [] })) (by kernel_rfl) (by
    simp only [PT.holds, true_implies, Bool.false_eq_true, Bool.true_eq_false, false_implies, true_and, and_true]
    exact head_eq k (by simp [stFra])))
/-- The first text of a row that is not in a list. -/
def frR (l : List ByteArray) (stem : ByteArray) (k : Nat) : List ByteArray → ByteArray
  | [] => stem ++ digN k
  | s :: r => if hasB l s = true then frR l stem k r else s
theorem frb_l (l : List ByteArray) (stem : ByteArray) (hl : l.length ≤ 1000000) (hs : stem.size ≤ 1000000) (k : Nat) (hk : First stem l k) (h100 : k < 100) : ∀ d j, j + d = k → HT Tryd.prog Tryd.f29.ntmps (pt Tryd.f29 1) (stFrb l stem j) (EndsA Γ (.pure [] (.str (stem ++ digN k))) Tryd.f29) := by
  intro d
  induction d with
  | zero =>
    intro j h
    have hj : j = k := by omega
    subst hj
    exact frb_h l stem j [] 0 _ h100 hl hs (fun hm => absurd hm hk.out) (fun _ => rfl)
  | succ d ih =>
    intro j h
    exact frb_h l stem j [] 0 _ (by omega) hl hs (fun _ => ih (j + 1) (by omega)) (fun hm => absurd (hk.low j (by omega)) hm)
theorem fra_l (l : List ByteArray) (stem : ByteArray) (nl : Option Bool) (a : List ByteArray) (ha : a.length ≤ 1000000) (hl : l.length ≤ 1000000) (hs : stem.size ≤ 1000000) (k : Nat) (hk : First stem l k) (h100 : k < 100) : ∀ d i, i + d = a.length → HT Tryd.prog Tryd.f29.ntmps (pt Tryd.f29 0) (stFra l stem nl a i) (EndsA Γ (.pure [] (.str (frR l stem k (a.drop i)))) Tryd.f29) := by
  intro d
  induction d with
  | zero =>
    intro i h
    rw [List.drop_of_length_le (by omega)]
    exact fra_e l stem nl a i 0 _ (by omega) (frb_l l stem hl hs k hk h100 k 0 (Nat.zero_add _))
  | succ d ih =>
    intro i h
    rw [drop_cons a i ⟨#[]⟩ (by omega)]
    simp only [frR]
    refine fra_h l stem nl a i 0 _ (by omega) hl ha (fun hm => ?_) (fun hm => by rw [if_neg (fun h => hm ((hasB_iff _ _).1 h))])
    rw [if_pos ((hasB_iff _ _).2 hm)]
    exact ih (i + 1) (by omega)
/-- The first text of a row that is not in a list. -/
theorem fresh_ctr (l : List ByteArray) (stem : ByteArray) (nl : Option Bool) (a : List ByteArray) (ha : a.length ≤ 1000000) (hl : l.length ≤ 1000000) (hs : stem.size ≤ 1000000) (k : Nat) (hk : First stem l k) (h100 : k < 100) : Ctr Tryd.prog 29 [.sl none l.length (strsC l) .no, .str stem, .sl nl a.length (strsC a) .clip] (.str (frR l stem k a)) :=
  fr_p l stem nl a 0 0 _ (fra_l l stem nl a ha hl hs k hk h100 a.length 0 (Nat.zero_add _))

end Go.Proofs.YteimloiaipiadaaDoor
end

section
set_option linter.unusedVariables false
set_option linter.unusedSimpArgs false
set_option maxRecDepth 100000
namespace Go.Proofs.YteimloiaipiadaaDoor
open Go Go.AX

def bZ0 : ByteArray := ByteArray.mk #[122, 48]
def stepL (out : List ByteArray) (n : Nm) : List ByteArray := if n.sp = ⟨#[]⟩ then out ++ [n.lo] else out
def stOl (l : List Nm) (out : List ByteArray) (i : Nat) : AS := ⟨[(2, .ptr 2 0), (3, .sl none out.length (strsC out) (.own 1)), (6, .sl none l.length (nmsC l) .no), (7, .int .i64 l.length), (8, .int .i64 i)], [(2, .var true [.str ⟨#[]⟩, .str ⟨#[]⟩])], [(1, ⟨out.length, 9, 1, none⟩)]⟩

theorem ol_h (l : List Nm) (out : List ByteArray) (R : ByteArray) (i : Nat) (hi : i < l.length) (hl : l.length ≤ 1000000) (ho : out.length ≤ i) (k : HT Tryd.prog Tryd.f31.ntmps (pt Tryd.f31 0) (stOl l (stepL out (l.getD i nm0)) (i + 1)) (EndsA Γ (.pure [] (.agg (nmC ⟨⟨#[]⟩, R⟩))) Tryd.f31)) : HT Tryd.prog Tryd.f31.ntmps (pt Tryd.f31 0) (stOl l out i) (EndsA Γ (.pure [] (.agg (nmC ⟨⟨#[]⟩, R⟩))) Tryd.f31) :=
  HT.walk Γ_ok mo_ok (⟨[(9, .val (.bool true)), (11, .val (.agg (nmC (l.getD i nm0)))), (26, .call [] (.str R))], (sp31).filter (fun x => !Nat.beq x 9), hd31 [(3, 1, 9, 1)] [] [] [], [], .pure [] (.agg (nmC ⟨⟨#[]⟩, R⟩))⟩ : Wk) 4000 (T := .ob (decide ((↑i : Int) < (↑l.length : Int)) = true) (.ob ((0 : Int) ≤ (↑i : Int) ∧ (↑i : Int) < (↑l.length : Int) ∧ (↑i : Int).toNat * (2 : Nat) < (nmsC l).length) (.ob (List.take (2 : Nat) (List.drop ((↑i : Int).toNat * (2 : Nat)) (nmsC l)) = [AV.str (l.getD i nm0).sp, AV.str (l.getD i nm0).lo]) (.split (decide ((l.getD i nm0).sp = (ByteArray.mk #[]))) (.ob (out.length = out.length) (.ob ((strsC out).length = out.length * ((0 : Nat) + (1 : Nat)) ∧ (splice (repL (List.map zn [AV.str (ByteArray.mk #[])]) (1 : Nat)) ((0 : Nat) * (1 : Nat)) (cellsOf (AV.str (l.getD i nm0).lo))).length = (1 : Nat) * ((0 : Nat) + (1 : Nat)) ∧ (out.length + (1 : Nat)) * ((15 : Nat) + (1 : Nat)) ≤ (140737488355328 : Nat)) (.head (pt Tryd.f31 0) ({ tmps := [(2, AV.ptr 2 0), (3, AV.sl none (out.length + (1 : Nat)) (strsC out ++ splice (repL (List.map zn [AV.str (ByteArray.mk #[])]) (1 : Nat)) ((0 : Nat) * (1 : Nat)) (cellsOf (AV.str (l.getD i nm0).lo))) (.own (1 : Nat))), (6, AV.sl none l.length (nmsC l) .no), (7, AV.int .i64 (↑l.length : Int)), (8, AV.int .i64 (IntKind.i64.wrap ((↑i : Int) + (1 : Int))))], heap := [(2, .var true [AV.str (ByteArray.mk #[]), AV.str (ByteArray.mk #[])])], tags := [(1, { n := out.length + (1 : Nat), e := (9 : Nat), sz := (1 : Nat) })] })))) (.head (pt Tryd.f31 0) ({ tmps := [(2, AV.ptr 2 0), (3, AV.sl none out.length (strsC out) (.own (1 : Nat))), (6, AV.sl none l.length (nmsC l) .no), (7, AV.int .i64 (↑l.length : Int)), (8, AV.int .i64 (IntKind.i64.wrap ((↑i : Int) + (1 : Int))))], heap := [(2, .var true [AV.str (ByteArray.mk #[]), AV.str (ByteArray.mk #[])])], tags := [(1, { n := out.length, e := (9 : Nat), sz := (1 : Nat) })] })))))) (by kernel_rfl) (by
    have w2 : IntKind.i64.wrap ((i : Int) + 1) = ((i + 1 : Nat) : Int) := by rw [i64_wrap (by omega) (by omega)]; rfl
    have h0 : decide ((i : Int) < l.length) = true := by simp; omega
    simp only [PT.holds, w2, h0, Int.toNat_natCast, nmsC_len, strsC_len, true_implies, Bool.false_eq_true, Bool.true_eq_false, false_implies, true_and, and_true]
    refine ⟨by omega, by rw [nms_take0 _ _ _ hi (by decide)]; rfl, fun h => ⟨⟨by omega, rfl, by omega⟩, head_eq k ?_⟩, fun h => head_eq k ?_⟩
    · rw [stepL, if_pos (of_decide_eq_true h)]
      simp [stOl, strsC_app, splice, repL, cellsOf]
    · rw [stepL, if_neg (of_decide_eq_false h)]
      simp [stOl])
theorem ol_e (l : List Nm) (out : List ByteArray) (R : ByteArray) (i : Nat) (hi : i = l.length) (hl : l.length ≤ 1000000) (ho : out.length ≤ i) (hc : Ctr Tryd.prog 29 [.sl none (out ++ [bZ0]).length (strsC (out ++ [bZ0])) .no, .str bZ, .sl (some false) 1 (strsC [bZ]) .clip] (.str R)) : HT Tryd.prog Tryd.f31.ntmps (pt Tryd.f31 0) (stOl l out i) (EndsA Γ (.pure [] (.agg (nmC ⟨⟨#[]⟩, R⟩))) Tryd.f31) :=
  HT.walk Γ_ok mo_ok (⟨[(9, .val (.bool false)), (11, .val (.agg (nmC (l.getD i nm0)))), (26, .call [] (.str R))], (sp31).filter (fun x => !Nat.beq x 9), hd31 [(3, 1, 9, 1)] [] [] [], [], .pure [] (.agg (nmC ⟨⟨#[]⟩, R⟩))⟩ : Wk) 4000 (T := .ob (decide ((↑i : Int) < (↑l.length : Int)) = false) (.ob (out.length = out.length) (.ob ((strsC out).length = out.length * ((0 : Nat) + (1 : Nat)) ∧ (splice (repL (List.map zn [AV.str (ByteArray.mk #[])]) (1 : Nat)) ((0 : Nat) * (1 : Nat)) (cellsOf (AV.str (ByteArray.mk #[(122 : UInt8), (48 : UInt8)])))).length = (1 : Nat) * ((0 : Nat) + (1 : Nat)) ∧ (out.length + (1 : Nat)) * ((15 : Nat) + (1 : Nat)) ≤ (140737488355328 : Nat)) (.ob (Ctr Tryd.prog 29 [AV.sl none (out.length + (1 : Nat)) (strsC out ++ splice (repL (List.map zn [AV.str (ByteArray.mk #[])]) (1 : Nat)) ((0 : Nat) * (1 : Nat)) (cellsOf (AV.str (ByteArray.mk #[(122 : UInt8), (48 : UInt8)])))) .no, AV.str (ByteArray.mk #[(122 : UInt8)]), AV.sl (some false) (1 : Nat) [AV.str (ByteArray.mk #[(122 : UInt8)])] .clip] (AV.str R)) (.ob ((ByteArray.mk #[]) = (ByteArray.mk #[])) (.ob (R = R) (.tt))))))) (by kernel_rfl) (by
    have h0 : decide ((i : Int) < l.length) = false := by simp; omega
    simp only [PT.holds, h0, strsC_len, true_implies, Bool.false_eq_true, Bool.true_eq_false, false_implies, true_and, and_true]
    rw [strsC_app, List.length_append] at hc
    exact ⟨⟨by omega, rfl, by omega⟩, hc⟩)
theorem ol_p (l : List Nm) (R : ByteArray) (i : Nat) (k : HT Tryd.prog Tryd.f31.ntmps (pt Tryd.f31 0) (stOl l [] 0) (EndsA Γ (.pure [] (.agg (nmC ⟨⟨#[]⟩, R⟩))) Tryd.f31)) : Ctr Tryd.prog 31 [.sl none l.length (nmsC l) .no] (.agg (nmC ⟨⟨#[]⟩, R⟩)) :=
  Ctr.mk Γ_ok Tryd.func31 (by kernel_rfl) Tryd.call31 [] (by kernel_rfl) (HT.walk Γ_ok mo_ok (⟨[(11, .val (.agg (nmC (l.getD i nm0)))), (26, .call [] (.str R))], sp31, hd31 [(3, 1, 9, 1)] [] [] [], [], .pure [] (.agg (nmC ⟨⟨#[]⟩, R⟩))⟩ : Wk) 4000 (T := .head (pt Tryd.f31 0) ({ tmps := [(2, AV.ptr 2 0), (3, AV.sl none (0 : Nat) [] (.own (1 : Nat))), (6, AV.sl none l.length (nmsC l) .no), (7, AV.int .i64 (↑l.length : Int)), (8, AV.int .i64 (0 : Int))], heap := [(2, .var true [AV.str (ByteArray.mk #[]), AV.str (ByteArray.mk #[])])], tags := [(1, { n := (0 : Nat), e := (9 : Nat), sz := (1 : Nat) })] })) (by kernel_rfl) (by
    simp only [PT.holds, true_implies, Bool.false_eq_true, Bool.true_eq_false, false_implies, true_and, and_true]
    exact head_eq k (by simp [stOl, strsC])))
theorem stepL_len (out : List ByteArray) (n : Nm) : (stepL out n).length ≤ out.length + 1 := by unfold stepL; split <;> simp
def localsF (l : List Nm) : List ByteArray := l.foldl stepL []
theorem ol_l (l : List Nm) (hl : l.length ≤ 900000) (R : ByteArray) : ∀ d i out, i + d = l.length → out.length ≤ i → Ctr Tryd.prog 29 [.sl none ((l.drop i).foldl stepL out ++ [bZ0]).length (strsC ((l.drop i).foldl stepL out ++ [bZ0])) .no, .str bZ, .sl (some false) 1 (strsC [bZ]) .clip] (.str R) → HT Tryd.prog Tryd.f31.ntmps (pt Tryd.f31 0) (stOl l out i) (EndsA Γ (.pure [] (.agg (nmC ⟨⟨#[]⟩, R⟩))) Tryd.f31) := by
  intro d
  induction d with
  | zero =>
    intro i out h ho hc
    rw [List.drop_of_length_le (by omega)] at hc
    exact ol_e l out R i (by omega) (by omega) ho hc
  | succ d ih =>
    intro i out h ho hc
    have hs := stepL_len out (l.getD i nm0)
    rw [drop_cons l i nm0 (by omega), List.foldl_cons] at hc
    exact ol_h l out R i (by omega) (by omega) ho (ih (i + 1) _ (by omega) (by omega) hc)
theorem localsF_len : ∀ (l : List Nm) (out : List ByteArray), (l.foldl stepL out).length ≤ out.length + l.length
  | [], out => by simp
  | n :: l, out => by
    have h1 := stepL_len out n
    have h2 := localsF_len l (stepL out n)
    simp only [List.foldl_cons, List.length_cons]
    omega
/-- A name that is not spoken of. -/
theorem otherP_ctr (l : List Nm) (hl : l.length ≤ 900000) (k : Nat) (hk : First bZ (localsF l ++ [bZ0]) k) (h100 : k < 100) : Ctr Tryd.prog 31 [.sl none l.length (nmsC l) .no] (.agg (nmC ⟨⟨#[]⟩, frR (localsF l ++ [bZ0]) bZ k [bZ]⟩)) := by
  have h1 := localsF_len l []
  refine ol_p l _ 0 (ol_l l hl _ l.length 0 [] (Nat.zero_add _) (Nat.le_refl _) ?_)
  rw [List.drop_zero]
  exact fresh_ctr (localsF l ++ [bZ0]) bZ (some false) [bZ] (by simp) (by simp only [localsF, List.length_append, List.length_cons, List.length_nil] at h1 ⊢; omega) (by decide) k hk h100
theorem mem_localsF : ∀ (l : List Nm) (out : List ByteArray) (b : ByteArray), b ∈ l.foldl stepL out ↔ b ∈ out ∨ (⟨⟨#[]⟩, b⟩ : Nm) ∈ l
  | [], out, b => by simp
  | n :: l, out, b => by
    rw [List.foldl_cons, mem_localsF l, List.mem_cons]
    unfold stepL
    split
    · rename_i h
      rw [List.mem_append, List.mem_singleton]
      cases n
      simp only at h
      subst h
      simp only [Nm.mk.injEq, true_and]
      rw [or_assoc]
    · rename_i h
      cases n
      simp only [Nm.mk.injEq] at h ⊢
      constructor
      · rintro (h1 | h1)
        · exact .inl h1
        · exact .inr (.inr h1)
      · rintro (h1 | h1 | h1)
        · exact .inl h1
        · exact absurd h1.1.symm h
        · exact .inr h1
theorem bZ0_eq : bZ0 = bZ ++ digN 0 := by rw [digN_1 0 (by omega)]; rfl
theorem bZn_ne (k : Nat) : bZ ≠ bZ ++ digN k := fun h => by
  have := congrArg ByteArray.size h
  rw [ByteArray.size_append] at this
  have hz : ∀ n, 0 < (digN n).size := fun n => by
    induction n using Nat.strongRecOn with
    | ind n ih =>
      rw [digN]
      split
      · simp [ByteArray.size]
      · rename_i hh
        rw [ByteArray.size_append]
        have := ih (n / 10) (by omega)
        omega
  have := hz k
  omega
/-- Both find the same name. -/
theorem other_same (l : List Nm) (k k' : Nat) (hk : First bZ (localsF l ++ [bZ0]) k) (hk' : FirstZ l k') : (⟨⟨#[]⟩, frR (localsF l ++ [bZ0]) bZ k [bZ]⟩ : Nm) = nmZ k' := by
  have hm : ∀ b : ByteArray, b ∈ localsF l ++ [bZ0] ↔ (⟨⟨#[]⟩, b⟩ : Nm) ∈ l ∨ b = bZ0 := fun b => by
    rw [List.mem_append, List.mem_singleton]
    unfold localsF
    rw [mem_localsF]
    simp
  have hz : ∀ n, 0 < n → (nmZ n = ⟨⟨#[]⟩, bZ ++ digN n⟩) := fun n hn => by unfold nmZ; rw [if_neg (by omega)]
  have hz0 : nmZ 0 = ⟨⟨#[]⟩, bZ⟩ := rfl
  simp only [frR]
  by_cases h : hasB (localsF l ++ [bZ0]) bZ = true
  · rw [if_pos h]
    have h0 := (hm bZ).1 ((hasB_iff _ _).1 h)
    have h1 : nmZ 0 ∈ l := by
      rw [hz0]
      rcases h0 with h0 | h0
      · exact h0
      · rw [bZ0_eq] at h0; exact absurd h0 (bZn_ne 0)
    have hk0 : 0 < k := by
      rcases Nat.eq_zero_or_pos k with e | e
      · subst e
        exact absurd ((hm _).2 (.inr bZ0_eq.symm)) hk.out
      · exact e
    have hk0' : 0 < k' := by
      rcases Nat.eq_zero_or_pos k' with e | e
      · subst e; exact absurd h1 hk'.out
      · exact e
    have : k = k' := by
      rcases Nat.lt_trichotomy k k' with h2 | h2 | h2
      · have := hk'.low k h2
        rw [hz k hk0] at this
        exact absurd ((hm _).2 (.inl this)) hk.out
      · exact h2
      · have := (hm _).1 (hk.low k' h2)
        rcases this with h3 | h3
        · rw [← hz k' hk0'] at h3
          exact absurd h3 hk'.out
        · rw [bZ0_eq] at h3
          have e2 := congrArg (fun x : ByteArray => x.data.toList) h3
          simp only [ByteArray.data_append, Array.toList_append] at e2
          have e3 := List.append_cancel_left e2
          have : k' = 0 := by rw [← digN_val k', e3, digN_val 0]
          omega
    subst this
    rw [hz k hk0]
  · rw [if_neg h]
    have h1 : nmZ 0 ∉ l := fun hm2 => h ((hasB_iff _ _).2 ((hm _).2 (.inl hm2)))
    have : k' = 0 := by
      rcases Nat.eq_zero_or_pos k' with e | e
      · exact e
      · exact absurd (hk'.low 0 e) h1
    subst this
    rfl

end Go.Proofs.YteimloiaipiadaaDoor
end

section
set_option linter.unusedVariables false
set_option linter.unusedSimpArgs false
set_option maxRecDepth 100000
namespace Go.Proofs.YteimloiaipiadaaDoor
open Go Go.AX

def alG {α : Type} [DecidableEq α] (l : List α) (a b : α) : Bool := decide (a = b) || (!decide (0 ≤ ixG a l 0) && !decide (0 ≤ ixG b l 0))
/-- An attribute's value, or that there is none. -/
def atV (l : List Atr) (n : Nm) : ByteArray × Bool := match l.find? (fun a => decide (a.nm = n)) with
  | some a => (a.v, true)
  | none => (⟨#[]⟩, false)
def stAt (e : Ev) (n : Nm) (i : Nat) : AS := ⟨[(3, .ptr 3 0), (9, .sl none e.attrs.length (atsC e.attrs) .no), (10, .int .i64 e.attrs.length), (11, .int .i64 i)], [(2, .var true (evC e)), (3, .var true (nmC n))], []⟩

theorem alN_ctr (l : List Nm) (a b : Nm) (hl : l.length ≤ 1000000) : Ctr Tryd.prog 56 [.sl none l.length (nmsC l) .no, .agg (nmC a), .agg (nmC b)] (.bool (alG l a b)) :=
  Ctr.mk Γ_ok Tryd.func56 (by kernel_rfl) Tryd.call56 [] (by kernel_rfl) (HT.walk Γ_ok mo_ok (⟨[(13, .call [] (.bool (decide (0 ≤ ixG a l 0)))), (18, .call [] (.bool (decide (0 ≤ ixG b l 0))))], sp56, [], [], .pure [] (.bool (alG l a b))⟩ : Wk) 4000 (T := .ob ((2 : Nat) ≤ (2 : Nat)) (.ob ((2 : Nat) ≤ (2 : Nat)) (.split (decide (a.sp = b.sp) && (decide (a.lo = b.lo) && true)) (.ob (true = alG l a b) (.tt)) (.ob ((2 : Nat) ≤ (2 : Nat)) (.ob (Ctr Tryd.prog 71 [AV.sl none l.length (nmsC l) .no, AV.agg [AV.str a.sp, AV.str a.lo]] (AV.bool (decide ((0 : Int) ≤ ixG a l (0 : Nat))))) (.split (decide ((0 : Int) ≤ ixG a l (0 : Nat))) (.ob (false = alG l a b) (.tt)) (.ob ((2 : Nat) ≤ (2 : Nat)) (.ob (Ctr Tryd.prog 71 [AV.sl none l.length (nmsC l) .no, AV.agg [AV.str b.sp, AV.str b.lo]] (AV.bool (decide ((0 : Int) ≤ ixG b l (0 : Nat))))) (.ob ((!decide ((0 : Int) ≤ ixG b l (0 : Nat))) = alG l a b) (.tt)))))))))) (by kernel_rfl) (by
    simp only [PT.holds, nm_eq, true_implies, Bool.false_eq_true, Bool.true_eq_false, false_implies, true_and, and_true]
    refine ⟨by omega, by omega, fun h => ?_, fun h => ⟨by omega, ctN_ctr l a hl, fun h2 => ?_, fun h2 => ⟨by omega, ctN_ctr l b hl, ?_⟩⟩⟩
    · unfold alG; rw [h]; rfl
    · unfold alG; rw [h, h2]; rfl
    · unfold alG; rw [h, h2]; rfl))
theorem alB_ctr (l : List ByteArray) (a b : ByteArray) (hl : l.length ≤ 1000000) : Ctr Tryd.prog 57 [.sl none l.length (strsC l) .no, .str a, .str b] (.bool (alG l a b)) :=
  Ctr.mk Γ_ok Tryd.func57 (by kernel_rfl) Tryd.call57 [] (by kernel_rfl) (HT.walk Γ_ok mo_ok (⟨[(13, .call [] (.bool (decide (0 ≤ ixG a l 0)))), (18, .call [] (.bool (decide (0 ≤ ixG b l 0))))], sp57, [], [], .pure [] (.bool (alG l a b))⟩ : Wk) 4000 (T := .split (decide (a = b)) (.ob (true = alG l a b) (.tt)) (.ob (Ctr Tryd.prog 51 [AV.sl none l.length (strsC l) .no, AV.str a] (AV.bool (decide ((0 : Int) ≤ ixG a l (0 : Nat))))) (.split (decide ((0 : Int) ≤ ixG a l (0 : Nat))) (.ob (false = alG l a b) (.tt)) (.ob (Ctr Tryd.prog 51 [AV.sl none l.length (strsC l) .no, AV.str b] (AV.bool (decide ((0 : Int) ≤ ixG b l (0 : Nat))))) (.ob ((!decide ((0 : Int) ≤ ixG b l (0 : Nat))) = alG l a b) (.tt)))))) (by kernel_rfl) (by
    simp only [PT.holds, true_implies, Bool.false_eq_true, Bool.true_eq_false, false_implies, true_and, and_true]
    refine ⟨fun h => ?_, fun h => ⟨ctB_ctr l a hl, fun h2 => ?_, fun h2 => ⟨ctB_ctr l b hl, ?_⟩⟩⟩
    · unfold alG; rw [h]; rfl
    · unfold alG; rw [h, h2]; rfl
    · unfold alG; rw [h, h2]; rfl))
theorem at_h (e : Ev) (n : Nm) (i : Nat) (R : ByteArray) (b : Bool) (hi : i < e.attrs.length) (hl : e.attrs.length ≤ 1048600) (k : (e.attrs.getD i atr0).nm ≠ n → HT Tryd.prog Tryd.f58.ntmps (pt Tryd.f58 0) (stAt e n (i + 1)) (EndsA Γ (.pure [] (.tup [.str R, .bool b])) Tryd.f58)) (hr : (e.attrs.getD i atr0).nm = n → R = (e.attrs.getD i atr0).v ∧ b = true) : HT Tryd.prog Tryd.f58.ntmps (pt Tryd.f58 0) (stAt e n i) (EndsA Γ (.pure [] (.tup [.str R, .bool b])) Tryd.f58) :=
  HT.walk Γ_ok mo_ok (⟨[(12, .val (.bool true)), (14, .val (.agg (atC (e.attrs.getD i atr0))))], (sp58).filter (fun x => !Nat.beq x 12), hd58 [] [] [] [], [], .pure [] (.tup [.str R, .bool b])⟩ : Wk) 4000 (T := .ob (decide ((↑i : Int) < (↑e.attrs.length : Int)) = true) (.ob ((0 : Int) ≤ (↑i : Int) ∧ (↑i : Int) < (↑e.attrs.length : Int) ∧ (↑i : Int).toNat * (3 : Nat) < (atsC e.attrs).length) (.ob (List.take (3 : Nat) (List.drop ((↑i : Int).toNat * (3 : Nat)) (atsC e.attrs)) = [AV.str (e.attrs.getD i atr0).nm.sp, AV.str (e.attrs.getD i atr0).nm.lo, AV.str (e.attrs.getD i atr0).v]) (.ob ((2 : Nat) ≤ (3 : Nat)) (.ob ((2 : Nat) ≤ (2 : Nat)) (.split (decide ((e.attrs.getD i atr0).nm.sp = n.sp) && (decide ((e.attrs.getD i atr0).nm.lo = n.lo) && true)) (.ob ((e.attrs.getD i atr0).v = R) (.ob (true = b) (.tt))) (.head (pt Tryd.f58 0) ({ tmps := [(3, AV.ptr 3 0), (9, AV.sl none e.attrs.length (atsC e.attrs) .no), (10, AV.int .i64 (↑e.attrs.length : Int)), (11, AV.int .i64 (IntKind.i64.wrap ((↑i : Int) + (1 : Int))))], heap := [(2, .var true (evC e)), (3, .var true [AV.str n.sp, AV.str n.lo])], tags := [] })))))))) (by kernel_rfl) (by
    have w2 : IntKind.i64.wrap ((i : Int) + 1) = ((i + 1 : Nat) : Int) := by rw [i64_wrap (by omega) (by omega)]; rfl
    have h0 : decide ((i : Int) < e.attrs.length) = true := by simp; omega
    simp only [PT.holds, w2, h0, nm_eq, Int.toNat_natCast, atsC_len, true_implies, Bool.false_eq_true, Bool.true_eq_false, false_implies, true_and, and_true]
    exact ⟨by omega, by ((try simp only [Nat.add_assoc, Nat.reduceAdd, Nat.add_zero]) <;> first | (rw [ats_take _ _ _ _ hi (by decide)]; rfl) | (rw [evs_take _ _ _ _ hi (by decide)]; rfl) | (rw [ats_take0 _ _ _ hi (by decide)]; rfl) | (rw [evs_take0 _ _ _ hi (by decide)]; rfl)), by omega, by omega, fun h => ⟨(hr (of_decide_eq_true h)).1.symm, (hr (of_decide_eq_true h)).2.symm⟩, fun h => head_eq (k (of_decide_eq_false h)) (by simp [stAt, nmC, evC])⟩)
theorem at_e (e : Ev) (n : Nm) (i : Nat) (hi : i = e.attrs.length) : HT Tryd.prog Tryd.f58.ntmps (pt Tryd.f58 0) (stAt e n i) (EndsA Γ (.pure [] (.tup [.str ⟨#[]⟩, .bool false])) Tryd.f58) :=
  HT.walk Γ_ok mo_ok (⟨[(12, .val (.bool false)), (14, .val (.agg (atC (e.attrs.getD i atr0))))], (sp58).filter (fun x => !Nat.beq x 12), hd58 [] [] [] [], [], .pure [] (.tup [.str ⟨#[]⟩, .bool false])⟩ : Wk) 4000 (T := .ob (decide ((↑i : Int) < (↑e.attrs.length : Int)) = false) (.ob ((ByteArray.mk #[]) = (ByteArray.mk #[])) (.ob (false = false) (.tt)))) (by kernel_rfl) (by
    have h0 : decide ((i : Int) < e.attrs.length) = false := by simp; omega
    simp only [PT.holds, h0, true_implies, Bool.false_eq_true, Bool.true_eq_false, false_implies, true_and, and_true]
    try trivial)
theorem at_p (e : Ev) (n : Nm) (R : ByteArray) (b : Bool) (k : HT Tryd.prog Tryd.f58.ntmps (pt Tryd.f58 0) (stAt e n 0) (EndsA Γ (.pure [] (.tup [.str R, .bool b])) Tryd.f58)) : Ctr Tryd.prog 58 [.agg (evC e), .agg (nmC n)] (.tup [.str R, .bool b]) :=
  Ctr.mk Γ_ok Tryd.func58 (by kernel_rfl) Tryd.call58 [] (by kernel_rfl) (HT.walk Γ_ok mo_ok (⟨[], sp58, hd58 [] [] [] [], [], .pure [] (.tup [.str R, .bool b])⟩ : Wk) 4000 (T := .head (pt Tryd.f58 0) ({ tmps := [(3, AV.ptr 3 0), (9, AV.sl none e.attrs.length (atsC e.attrs) .no), (10, AV.int .i64 (↑e.attrs.length : Int)), (11, AV.int .i64 (0 : Int))], heap := [(2, .var true (evC e)), (3, .var true [AV.str n.sp, AV.str n.lo])], tags := [] })) (by kernel_rfl) (by
    simp only [PT.holds, true_implies, Bool.false_eq_true, Bool.true_eq_false, false_implies, true_and, and_true]
    exact head_eq k (by simp [stAt, nmC, evC])))
theorem at_l (e : Ev) (n : Nm) (hl : e.attrs.length ≤ 1048600) : ∀ d i, i + d = e.attrs.length → HT Tryd.prog Tryd.f58.ntmps (pt Tryd.f58 0) (stAt e n i) (EndsA Γ (.pure [] (.tup [.str (atV (e.attrs.drop i) n).1, .bool (atV (e.attrs.drop i) n).2])) Tryd.f58) := by
  intro d
  induction d with
  | zero =>
    intro i h
    rw [List.drop_of_length_le (by omega)]
    exact at_e e n i (by omega)
  | succ d ih =>
    intro i h
    rw [drop_cons e.attrs i atr0 (by omega)]
    refine at_h e n i _ _ (by omega) hl (fun hm => ?_) (fun hm => ?_)
    · have : atV (e.attrs.getD i atr0 :: e.attrs.drop (i + 1)) n = atV (e.attrs.drop (i + 1)) n := by
        unfold atV; rw [List.find?_cons, decide_eq_false hm]
      rw [this]
      exact ih (i + 1) (by omega)
    · unfold atV; rw [List.find?_cons, decide_eq_true hm]; exact ⟨rfl, rfl⟩
theorem at_ctr (e : Ev) (n : Nm) (hl : e.attrs.length ≤ 1048600) : Ctr Tryd.prog 58 [.agg (evC e), .agg (nmC n)] (.tup [.str (atV e.attrs n).1, .bool (atV e.attrs n).2]) := at_p e n _ _ (by have := at_l e n hl e.attrs.length 0 (Nat.zero_add _); rwa [List.drop_zero] at this)

end Go.Proofs.YteimloiaipiadaaDoor
end

section
set_option linter.unusedVariables false
set_option linter.unusedSimpArgs false
set_option maxRecDepth 100000
namespace Go.Proofs.YteimloiaipiadaaDoor
open Go Go.AX

def lkA1 (a b : Ev) (n : Nm) (v : List ByteArray) : Bool := decide ((atV a.attrs n).2 = (atV b.attrs n).2) && alG v (atV a.attrs n).1 (atV b.attrs n).1
def lkA (a b : Ev) : List Nm → List (List ByteArray) → Bool
  | n :: A, v :: V => lkA1 a b n v && lkA a b A V
  | _, _ => true
/-- Are two events alike? -/
def likW (W : Wd) (a b : Ev) : Bool := decide (a.kind = b.kind) && (alG W.N a.nm b.nm && (alG W.T a.text b.text && lkA a b W.A W.V))
def stLk (W : Wd) (a b : Ev) (i : Nat) : AS := ⟨[(3, .ptr 3 0), (4, .ptr 4 0), (5, .ptr 5 0), (39, .sl none W.A.length (nmsC W.A) .no), (40, .int .i64 W.A.length), (41, .int .i64 i)], [(3, .var true (spkC W.N W.A W.V W.T)), (4, .var true (evC a)), (5, .var true (evC b))], []⟩

theorem lk_h (W : Wd) (a b : Ev) (i : Nat) (R : Bool) (hi : i < W.A.length) (hN : W.N.length ≤ 1000000) (hT : W.T.length ≤ 1000000) (hA : W.A.length ≤ 1000000) (hVl : W.V.length = W.A.length) (hVs : ∀ v ∈ W.V, v.length ≤ 1000000) (ha : a.attrs.length ≤ 1048600) (hb : b.attrs.length ≤ 1048600) (k : lkA1 a b (W.A.getD i nm0) (W.V.getD i []) = true → HT Tryd.prog Tryd.f40.ntmps (pt Tryd.f40 0) (stLk W a b (i + 1)) (EndsA Γ (.pure [] (.bool R)) Tryd.f40)) (hr : lkA1 a b (W.A.getD i nm0) (W.V.getD i []) = false → R = false) : HT Tryd.prog Tryd.f40.ntmps (pt Tryd.f40 0) (stLk W a b i) (EndsA Γ (.pure [] (.bool R)) Tryd.f40) :=
  HT.walk Γ_ok mo_ok (⟨[(42, .val (.bool true)), (25, .call [] (.bool (alG W.N a.nm b.nm))), (35, .call [] (.bool (alG W.T a.text b.text))), (45, .val (.agg (nmC (W.A.getD i nm0)))), (49, .call [] (.tup [.str (atV a.attrs (W.A.getD i nm0)).1, .bool (atV a.attrs (W.A.getD i nm0)).2])), (55, .call [] (.tup [.str (atV b.attrs (W.A.getD i nm0)).1, .bool (atV b.attrs (W.A.getD i nm0)).2])), (66, .val (.sl none (W.V.getD i []).length (strsC (W.V.getD i [])) .no)), (69, .call [] (.bool (alG (W.V.getD i []) (atV a.attrs (W.A.getD i nm0)).1 (atV b.attrs (W.A.getD i nm0)).1)))], (sp40).filter (fun x => !Nat.beq x 42), hd40 [] [] [] [], [], .pure [] (.bool R)⟩ : Wk) 4000 (T := .ob (decide ((↑i : Int) < (↑W.A.length : Int)) = true) (.ob ((0 : Int) ≤ (↑i : Int) ∧ (↑i : Int) < (↑W.A.length : Int) ∧ (↑i : Int).toNat * (2 : Nat) < (nmsC W.A).length) (.ob (List.take (2 : Nat) (List.drop ((↑i : Int).toNat * (2 : Nat)) (nmsC W.A)) = [AV.str (W.A.getD i nm0).sp, AV.str (W.A.getD i nm0).lo]) (.ob ((5 : Nat) ≤ (5 : Nat)) (.ob ((2 : Nat) ≤ (2 : Nat)) (.ob (Ctr Tryd.prog 58 [AV.agg (evC a), AV.agg [AV.str (W.A.getD i nm0).sp, AV.str (W.A.getD i nm0).lo]] (AV.tup [AV.str (atV a.attrs (W.A.getD i nm0)).fst, AV.bool (atV a.attrs (W.A.getD i nm0)).snd])) (.ob ((5 : Nat) ≤ (5 : Nat)) (.ob ((2 : Nat) ≤ (2 : Nat)) (.ob (Ctr Tryd.prog 58 [AV.agg (evC b), AV.agg [AV.str (W.A.getD i nm0).sp, AV.str (W.A.getD i nm0).lo]] (AV.tup [AV.str (atV b.attrs (W.A.getD i nm0)).fst, AV.bool (atV b.attrs (W.A.getD i nm0)).snd])) (.split (!(atV a.attrs (W.A.getD i nm0)).snd == (atV b.attrs (W.A.getD i nm0)).snd) (.ob (false = R) (.tt)) (.ob ((0 : Int) ≤ (↑i : Int) ∧ (↑i : Int) < (↑W.V.length : Int) ∧ (↑i : Int).toNat * (1 : Nat) < (valsC W.V).length) (.ob ((valsC W.V)[(↑i : Int).toNat * (1 : Nat)]? = some (AV.sl none (W.V.getD i []).length (strsC (W.V.getD i [])) .no)) (.ob (Ctr Tryd.prog 57 [AV.sl none (W.V.getD i []).length (strsC (W.V.getD i [])) .no, AV.str (atV a.attrs (W.A.getD i nm0)).fst, AV.str (atV b.attrs (W.A.getD i nm0)).fst] (AV.bool (alG (W.V.getD i []) (atV a.attrs (W.A.getD i nm0)).fst (atV b.attrs (W.A.getD i nm0)).fst))) (.split (alG (W.V.getD i []) (atV a.attrs (W.A.getD i nm0)).fst (atV b.attrs (W.A.getD i nm0)).fst) (.head (pt Tryd.f40 0) ({ tmps := [(3, AV.ptr 3 0), (4, AV.ptr 4 0), (5, AV.ptr 5 0), (39, AV.sl none W.A.length (nmsC W.A) .no), (40, AV.int .i64 (↑W.A.length : Int)), (41, AV.int .i64 (IntKind.i64.wrap ((↑i : Int) + (1 : Int))))], heap := [(3, .var true [AV.sl none W.N.length (nmsC W.N) .no, AV.sl none W.A.length (nmsC W.A) .no, AV.sl none W.V.length (valsC W.V) .no, AV.sl none W.T.length (strsC W.T) .no]), (4, .var true (evC a)), (5, .var true (evC b))], tags := [] })) (.ob (false = R) (.tt)))))))))))))))) (by kernel_rfl) (by
    have w2 : IntKind.i64.wrap ((i : Int) + 1) = ((i + 1 : Nat) : Int) := by rw [i64_wrap (by omega) (by omega)]; rfl
    have h0 : decide ((i : Int) < W.A.length) = true := by simp; omega
    simp only [PT.holds, w2, h0, nm_eq, Int.toNat_natCast, nmsC_len, valsC_len, true_implies, Bool.false_eq_true, Bool.true_eq_false, false_implies, true_and, and_true]
    have hv : (W.V.getD i []).length ≤ 1000000 := hVs _ (getD_mem _ _ _ (by omega))
    refine ⟨by omega, by rw [nms_take0 _ _ _ hi (by decide)]; rfl, by omega, by omega, at_ctr a _ ha, by omega, by omega, at_ctr b _ hb, fun h => ?_, fun h => ⟨by omega, by rw [Nat.mul_one]; exact vals_nth _ _ (by omega), alB_ctr _ _ _ hv, fun h2 => head_eq (k ?_) (by simp [stLk, spkC, evC]), fun h2 => ?_⟩⟩
    · refine (hr ?_).symm
      unfold lkA1
      rw [decide_eq_false (by simpa using h)]
      rfl
    · unfold lkA1
      rw [h2, decide_eq_true (by simpa using h)]
      rfl
    · refine (hr ?_).symm
      unfold lkA1
      rw [h2, Bool.and_false])
theorem lk_e (W : Wd) (a b : Ev) (i : Nat) (hi : i = W.A.length) : HT Tryd.prog Tryd.f40.ntmps (pt Tryd.f40 0) (stLk W a b i) (EndsA Γ (.pure [] (.bool true)) Tryd.f40) :=
  HT.walk Γ_ok mo_ok (⟨[(42, .val (.bool false)), (25, .call [] (.bool (alG W.N a.nm b.nm))), (35, .call [] (.bool (alG W.T a.text b.text))), (45, .val (.agg (nmC (W.A.getD i nm0)))), (49, .call [] (.tup [.str (atV a.attrs (W.A.getD i nm0)).1, .bool (atV a.attrs (W.A.getD i nm0)).2])), (55, .call [] (.tup [.str (atV b.attrs (W.A.getD i nm0)).1, .bool (atV b.attrs (W.A.getD i nm0)).2])), (66, .val (.sl none (W.V.getD i []).length (strsC (W.V.getD i [])) .no)), (69, .call [] (.bool (alG (W.V.getD i []) (atV a.attrs (W.A.getD i nm0)).1 (atV b.attrs (W.A.getD i nm0)).1)))], (sp40).filter (fun x => !Nat.beq x 42), hd40 [] [] [] [], [], .pure [] (.bool true)⟩ : Wk) 4000 (T := .ob (decide ((↑i : Int) < (↑W.A.length : Int)) = false) (.ob (true = true) (.tt))) (by kernel_rfl) (by
    have h0 : decide ((i : Int) < W.A.length) = false := by simp; omega
    simp only [PT.holds, h0, true_implies, Bool.false_eq_true, Bool.true_eq_false, false_implies, true_and, and_true]
    try trivial)
theorem lk_p (W : Wd) (a b : Ev) (i : Nat) (R : Bool) (hN : W.N.length ≤ 1000000) (hT : W.T.length ≤ 1000000) (hA : W.A.length ≤ 1000000) (hVl : W.V.length = W.A.length) (hVs : ∀ v ∈ W.V, v.length ≤ 1000000) (ha : a.attrs.length ≤ 1048600) (hb : b.attrs.length ≤ 1048600) (k : a.kind = b.kind → alG W.N a.nm b.nm = true → alG W.T a.text b.text = true → HT Tryd.prog Tryd.f40.ntmps (pt Tryd.f40 0) (stLk W a b 0) (EndsA Γ (.pure [] (.bool R)) Tryd.f40)) (hr : (decide (a.kind = b.kind) && (alG W.N a.nm b.nm && alG W.T a.text b.text)) = false → R = false) : Ctr Tryd.prog 40 [.agg (spkC W.N W.A W.V W.T), .agg (evC a), .agg (evC b)] (.bool R) :=
  Ctr.mk Γ_ok Tryd.func40 (by kernel_rfl) Tryd.call40 [] (by kernel_rfl) (HT.walk Γ_ok mo_ok (⟨[(25, .call [] (.bool (alG W.N a.nm b.nm))), (35, .call [] (.bool (alG W.T a.text b.text))), (45, .val (.agg (nmC (W.A.getD i nm0)))), (49, .call [] (.tup [.str (atV a.attrs (W.A.getD i nm0)).1, .bool (atV a.attrs (W.A.getD i nm0)).2])), (55, .call [] (.tup [.str (atV b.attrs (W.A.getD i nm0)).1, .bool (atV b.attrs (W.A.getD i nm0)).2])), (66, .val (.sl none (W.V.getD i []).length (strsC (W.V.getD i [])) .no)), (69, .call [] (.bool (alG (W.V.getD i []) (atV a.attrs (W.A.getD i nm0)).1 (atV b.attrs (W.A.getD i nm0)).1)))], sp40, hd40 [] [] [] [], [], .pure [] (.bool R)⟩ : Wk) 4000 (T := .split (!decide (a.kind = b.kind)) (.ob (false = R) (.tt)) (.ob ((3 : Nat) ≤ (5 : Nat)) (.ob ((3 : Nat) ≤ (5 : Nat)) (.ob (Ctr Tryd.prog 56 [AV.sl none W.N.length (nmsC W.N) .no, AV.agg [AV.str a.nm.sp, AV.str a.nm.lo], AV.agg [AV.str b.nm.sp, AV.str b.nm.lo]] (AV.bool (alG W.N a.nm b.nm))) (.split (alG W.N a.nm b.nm) (.ob (Ctr Tryd.prog 57 [AV.sl none W.T.length (strsC W.T) .no, AV.str a.text, AV.str b.text] (AV.bool (alG W.T a.text b.text))) (.split (alG W.T a.text b.text) (.head (pt Tryd.f40 0) ({ tmps := [(3, AV.ptr 3 0), (4, AV.ptr 4 0), (5, AV.ptr 5 0), (39, AV.sl none W.A.length (nmsC W.A) .no), (40, AV.int .i64 (↑W.A.length : Int)), (41, AV.int .i64 (0 : Int))], heap := [(3, .var true [AV.sl none W.N.length (nmsC W.N) .no, AV.sl none W.A.length (nmsC W.A) .no, AV.sl none W.V.length (valsC W.V) .no, AV.sl none W.T.length (strsC W.T) .no]), (4, .var true (evC a)), (5, .var true (evC b))], tags := [] })) (.ob (false = R) (.tt)))) (.ob (false = R) (.tt))))))) (by kernel_rfl) (by
    simp only [PT.holds, nm_eq, true_implies, Bool.false_eq_true, Bool.true_eq_false, false_implies, true_and, and_true]
    refine ⟨fun h => ?_, fun h => ⟨by omega, by omega, alN_ctr _ _ _ hN, fun h2 => ⟨alB_ctr _ _ _ hT, fun h3 => head_eq (k (by simpa using h) h2 h3) (by simp [stLk, spkC, evC]), fun h3 => ?_⟩, fun h2 => ?_⟩⟩
    · refine (hr ?_).symm
      rw [decide_eq_false (by simpa using h)]
      rfl
    · refine (hr ?_).symm
      rw [h3, Bool.and_false, Bool.and_false]
    · refine (hr ?_).symm
      rw [h2, Bool.false_and, Bool.and_false]))
theorem lk_l (W : Wd) (a b : Ev) (hN : W.N.length ≤ 1000000) (hT : W.T.length ≤ 1000000) (hA : W.A.length ≤ 1000000) (hVl : W.V.length = W.A.length) (hVs : ∀ v ∈ W.V, v.length ≤ 1000000) (ha : a.attrs.length ≤ 1048600) (hb : b.attrs.length ≤ 1048600) : ∀ d i, i + d = W.A.length → HT Tryd.prog Tryd.f40.ntmps (pt Tryd.f40 0) (stLk W a b i) (EndsA Γ (.pure [] (.bool (lkA a b (W.A.drop i) (W.V.drop i)))) Tryd.f40) := by
  intro d
  induction d with
  | zero =>
    intro i h
    have e : lkA a b (W.A.drop i) (W.V.drop i) = true := by rw [List.drop_of_length_le (by omega)]; simp [lkA]
    rw [e]
    exact lk_e W a b i (by omega)
  | succ d ih =>
    intro i h
    rw [drop_cons W.A i nm0 (by omega), drop_cons W.V i [] (by omega)]
    simp only [lkA]
    refine lk_h W a b i _ (by omega) hN hT hA hVl hVs ha hb (fun h1 => ?_) (fun h1 => ?_)
    · rw [h1, Bool.true_and]
      exact ih (i + 1) (by omega)
    · rw [h1, Bool.false_and]
theorem like_ctr (W : Wd) (a b : Ev) (hN : W.N.length ≤ 1000000) (hT : W.T.length ≤ 1000000) (hA : W.A.length ≤ 1000000) (hVl : W.V.length = W.A.length) (hVs : ∀ v ∈ W.V, v.length ≤ 1000000) (ha : a.attrs.length ≤ 1048600) (hb : b.attrs.length ≤ 1048600) : Ctr Tryd.prog 40 [.agg (spkC W.N W.A W.V W.T), .agg (evC a), .agg (evC b)] (.bool (likW W a b)) := by
  refine lk_p W a b 0 _ hN hT hA hVl hVs ha hb (fun h1 h2 h3 => ?_) (fun h => ?_)
  · unfold likW
    rw [h2, h3, decide_eq_true h1, Bool.true_and, Bool.true_and, Bool.true_and]
    have := lk_l W a b hN hT hA hVl hVs ha hb W.A.length 0 (Nat.zero_add _)
    rwa [List.drop_zero, List.drop_zero] at this
  · unfold likW
    revert h
    cases decide (a.kind = b.kind) <;> cases alG W.N a.nm b.nm <;> cases alG W.T a.text b.text <;> simp

end Go.Proofs.YteimloiaipiadaaDoor
end

section
set_option linter.unusedVariables false
set_option linter.unusedSimpArgs false
set_option maxRecDepth 100000
namespace Go.Proofs.YteimloiaipiadaaDoor
open Go Go.AX

theorem Class1_ctr (W : Wd) (x e : Ev) (hk : Ctr Tryd.prog 40 [.agg (spkC W.N W.A W.V W.T), .agg (evC x), .agg (evC e)] (.bool (likW W x e))) : Ctr Tryd.prog 39 [.agg (evC x), .rop (spkC W.N W.A W.V W.T) 0, .rop (evC e) 0] (.bool (likW W x e)) :=
  Ctr.mk Γ_ok Tryd.func39 (by kernel_rfl) Tryd.call39 [] (by kernel_rfl) (HT.walk Γ_ok mo_ok (⟨[(8, .call [] (.bool (likW W x e)))], sp39, [], [], .pure [] (.bool (likW W x e))⟩ : Wk) 4000 (T := .ob ((4 : Nat) ≤ (4 : Nat)) (.ob ((5 : Nat) ≤ (5 : Nat)) (.ob ((5 : Nat) ≤ (5 : Nat)) (.ob (Ctr Tryd.prog 40 [AV.agg [AV.sl none W.N.length (nmsC W.N) .no, AV.sl none W.A.length (nmsC W.A) .no, AV.sl none W.V.length (valsC W.V) .no, AV.sl none W.T.length (strsC W.T) .no], AV.agg (evC x), AV.agg (evC e)] (AV.bool (likW W x e))) (.ob (likW W x e = likW W x e) (.tt)))))) (by kernel_rfl) (by
    simp only [PT.holds, true_implies, Bool.false_eq_true, Bool.true_eq_false, false_implies, true_and, and_true]
    exact ⟨by omega, by omega, by omega, hk⟩))
def stIf (W : Wd) (l : List Ev) (e : Ev) (i : Nat) : AS := ⟨[(0, .sl none l.length (evsC l) .no), (1, (.fn 39 [.rop (spkC W.N W.A W.V W.T) 0, .rop (evC e) 0])), (7, .int .i64 l.length), (8, .int .i64 i)], [], []⟩
/-- The place of the first that is alike. -/
def clsR (W : Wd) (e : Ev) : List Ev → Nat → Int
  | [], _ => -1
  | x :: r, i => if likW W x e then (i : Int) else clsR W e r (i + 1)

theorem if_h (W : Wd) (l : List Ev) (e : Ev) (i : Nat) (R : Int) (hi : i < l.length) (hl : l.length ≤ 1000000) (hc : Ctr Tryd.prog 39 [.agg (evC (l.getD i ev0)), .rop (spkC W.N W.A W.V W.T) 0, .rop (evC e) 0] (.bool (likW W (l.getD i ev0) e))) (k : likW W (l.getD i ev0) e = false → HT Tryd.prog Tryd.f38.ntmps (pt Tryd.f38 0) (stIf W l e (i + 1)) (EndsA Γ (.pure [] (.int .i64 R)) Tryd.f38)) (hr : likW W (l.getD i ev0) e = true → R = i) : HT Tryd.prog Tryd.f38.ntmps (pt Tryd.f38 0) (stIf W l e i) (EndsA Γ (.pure [] (.int .i64 R)) Tryd.f38) :=
  HT.walk Γ_ok mo_ok (⟨[(9, .val (.bool true)), (15, .val (.agg (evC (l.getD i ev0)))), (16, .call [] (.bool (likW W (l.getD i ev0) e)))], (sp38).filter (fun x => !Nat.beq x 9), hd38 [] [] [] [], [], .pure [] (.int .i64 R)⟩ : Wk) 4000 (T := .ob (decide ((↑i : Int) < (↑l.length : Int)) = true) (.ob ((0 : Int) ≤ (↑i : Int) ∧ (↑i : Int) < (↑l.length : Int) ∧ (↑i : Int).toNat * (5 : Nat) < (evsC l).length) (.ob (List.take (5 : Nat) (List.drop ((↑i : Int).toNat * (5 : Nat)) (evsC l)) = (evC (l.getD i ev0))) (.ob (Ctr Tryd.prog 39 [AV.agg (evC (l.getD i ev0)), AV.rop [AV.sl none W.N.length (nmsC W.N) .no, AV.sl none W.A.length (nmsC W.A) .no, AV.sl none W.V.length (valsC W.V) .no, AV.sl none W.T.length (strsC W.T) .no] (0 : Nat), AV.rop (evC e) (0 : Nat)] (AV.bool (likW W (l.getD i ev0) e))) (.split (likW W (l.getD i ev0) e) (.ob ((↑i : Int) = R) (.tt)) (.head (pt Tryd.f38 0) ({ tmps := [(0, AV.sl none l.length (evsC l) .no), (1, AV.fn (39 : Nat) [AV.rop [AV.sl none W.N.length (nmsC W.N) .no, AV.sl none W.A.length (nmsC W.A) .no, AV.sl none W.V.length (valsC W.V) .no, AV.sl none W.T.length (strsC W.T) .no] (0 : Nat), AV.rop (evC e) (0 : Nat)]), (7, AV.int .i64 (↑l.length : Int)), (8, AV.int .i64 (IntKind.i64.wrap ((↑i : Int) + (1 : Int))))], heap := [], tags := [] }))))))) (by kernel_rfl) (by
    have w2 : IntKind.i64.wrap ((i : Int) + 1) = ((i + 1 : Nat) : Int) := by rw [i64_wrap (by omega) (by omega)]; rfl
    have h0 : decide ((i : Int) < l.length) = true := by simp; omega
    simp only [PT.holds, w2, h0, Int.toNat_natCast, evsC_len, true_implies, Bool.false_eq_true, Bool.true_eq_false, false_implies, true_and, and_true]
    exact ⟨by omega, by ((try simp only [Nat.add_assoc, Nat.reduceAdd, Nat.add_zero]) <;> first | (rw [ats_take _ _ _ _ hi (by decide)]; rfl) | (rw [evs_take _ _ _ _ hi (by decide)]; rfl) | (rw [ats_take0 _ _ _ hi (by decide)]; rfl) | (rw [evs_take0 _ _ _ hi (by decide)]; rfl)), hc, fun h => (hr h).symm, fun h => head_eq (k h) (by simp [stIf, spkC, evC])⟩)
theorem if_e (W : Wd) (l : List Ev) (e : Ev) (i : Nat) (hi : i = l.length) : HT Tryd.prog Tryd.f38.ntmps (pt Tryd.f38 0) (stIf W l e i) (EndsA Γ (.pure [] (.int .i64 (-1))) Tryd.f38) :=
  HT.walk Γ_ok mo_ok (⟨[(9, .val (.bool false)), (15, .val (.agg (evC (l.getD i ev0)))), (16, .call [] (.bool (likW W (l.getD i ev0) e)))], (sp38).filter (fun x => !Nat.beq x 9), hd38 [] [] [] [], [], .pure [] (.int .i64 (-1))⟩ : Wk) 4000 (T := .ob (decide ((↑i : Int) < (↑l.length : Int)) = false) (.ob ((-1 : Int) = (-1 : Int)) (.tt))) (by kernel_rfl) (by
    have h0 : decide ((i : Int) < l.length) = false := by simp; omega
    simp only [PT.holds, h0, true_implies, Bool.false_eq_true, Bool.true_eq_false, false_implies, true_and, and_true]
    try trivial)
theorem if_p (W : Wd) (l : List Ev) (e : Ev) (R : Int) (k : HT Tryd.prog Tryd.f38.ntmps (pt Tryd.f38 0) (stIf W l e 0) (EndsA Γ (.pure [] (.int .i64 R)) Tryd.f38)) : Ctr Tryd.prog 38 [.sl none l.length (evsC l) .no, (.fn 39 [.rop (spkC W.N W.A W.V W.T) 0, .rop (evC e) 0])] (.int .i64 R) :=
  Ctr.mk Γ_ok Tryd.func38 (by kernel_rfl) Tryd.call38 [] (by kernel_rfl) (HT.walk Γ_ok mo_ok (⟨[], sp38, hd38 [] [] [] [], [], .pure [] (.int .i64 R)⟩ : Wk) 4000 (T := .head (pt Tryd.f38 0) ({ tmps := [(0, AV.sl none l.length (evsC l) .no), (1, AV.fn (39 : Nat) [AV.rop [AV.sl none W.N.length (nmsC W.N) .no, AV.sl none W.A.length (nmsC W.A) .no, AV.sl none W.V.length (valsC W.V) .no, AV.sl none W.T.length (strsC W.T) .no] (0 : Nat), AV.rop (evC e) (0 : Nat)]), (7, AV.int .i64 (↑l.length : Int)), (8, AV.int .i64 (0 : Int))], heap := [], tags := [] })) (by kernel_rfl) (by
    simp only [PT.holds, true_implies, Bool.false_eq_true, Bool.true_eq_false, false_implies, true_and, and_true]
    exact head_eq k (by simp [stIf, spkC, evC])))
theorem Class_p (p : Pth) (l : List Ev) (e : Ev) (R : Int) (hc : CtrM Tryd.prog 25 ⟨[], []⟩ [.sl (some false) 1 (pthL p) .clip] ⟨[], gatT false (spkW p)⟩ (.agg (gatC (spkW p)))) (hk : Ctr Tryd.prog 38 [.sl none l.length (evsC l) .no, .fn 39 [.rop (spkC (spkW p).N (spkW p).A (spkW p).V (spkW p).T) 0, .rop (evC e) 0]] (.int .i64 R)) : Ctr Tryd.prog 15 [.agg (pthL p), .sl none l.length (evsC l) .no, .agg (evC e)] (.int .i64 R) :=
  Ctr.mk Γ_ok Tryd.func15 (by kernel_rfl) Tryd.call15 [] (by kernel_rfl) (HT.walk Γ_ok mo_ok (⟨[(10, .callM [] [] [] [] [] (gatT false (spkW p)) (.agg (gatC (spkW p)))), (13, .call [7, 5] (.int .i64 R))], sp15, [], [], .pure [] (.int .i64 R)⟩ : Wk) 4000 (T := .ob ((3 : Nat) ≤ (3 : Nat)) (.ob (CtrM Tryd.prog (25 : Nat) { heap := [], tags := [] } [AV.sl (some false) (1 : Nat) (pthL p) .clip] { heap := [], tags := [(1000010, { n := (spkW p).N.length, e := (36 : Nat), sz := (2 : Nat), cs := some (false, nmsC (spkW p).N) }), (1000011, { n := (spkW p).A.length, e := (36 : Nat), sz := (2 : Nat), cs := some (false, nmsC (spkW p).A) }), (1000777, { n := (spkW p).V.length, e := (64 : Nat), sz := (1 : Nat), cs := some (false, valsC (spkW p).V) }), (1000014, { n := (spkW p).T.length, e := (9 : Nat), sz := (1 : Nat), cs := some (false, strsC (spkW p).T) })] } (AV.agg [AV.vec (1000010 : Nat) (spkW p).N.length, AV.vec (1000011 : Nat) (spkW p).A.length, AV.vec (1000777 : Nat) (spkW p).V.length, AV.vec (1000014 : Nat) (spkW p).T.length])) (.ob ((spkW p).N.length = (spkW p).N.length) (.ob ((spkW p).A.length = (spkW p).A.length) (.ob ((spkW p).V.length = (spkW p).V.length) (.ob ((spkW p).T.length = (spkW p).T.length) (.ob (Ctr Tryd.prog 38 [AV.sl none l.length (evsC l) .no, AV.fn (39 : Nat) [AV.rop [AV.sl none (spkW p).N.length (nmsC (spkW p).N) .no, AV.sl none (spkW p).A.length (nmsC (spkW p).A) .no, AV.sl none (spkW p).V.length (valsC (spkW p).V) .no, AV.sl none (spkW p).T.length (strsC (spkW p).T) .no] (0 : Nat), AV.rop (evC e) (0 : Nat)]] (AV.int .i64 R)) (.ob (R = R) (.tt))))))))) (by kernel_rfl) (by
    simp only [PT.holds, true_implies, Bool.false_eq_true, Bool.true_eq_false, false_implies, true_and, and_true]
    exact ⟨by omega, hc, hk⟩))
/-! A slice of which less is known. -/
def weakA (x y : AV) : Prop := x = y ∨ ∃ nl n cells o, x = .sl nl n cells o ∧ y = .sl none n cells .no
theorem weakA.rep {x y : AV} (h : weakA x y) {w : World} {G : Env} {l : Bool} {v : Value} (hr : Rep w G l x v) : Rep w G l y v := by
  rcases h with rfl | ⟨nl, n, cells, o, rfl, rfl⟩
  · exact hr
  · cases hr with
    | sl _ _ _ _ _ A c vs hnl hpos hc hcell hrep hclip hown =>
      exact .sl _ _ _ _ _ A c vs (fun b hb => by cases hb) hpos hc hcell hrep (fun e => by cases e) (fun t e => by cases e)
theorem speaks_len (p : Pth) (hl : (filtersP p).length ≤ 1000000) : (spkW p).N.length ≤ 1000000 ∧ (spkW p).T.length ≤ 1000000 ∧ (spkW p).A.length ≤ 1000000 ∧ (spkW p).V.length = (spkW p).A.length ∧ ∀ v ∈ (spkW p).V, v.length ≤ 1000000 := by
  have h := spkW_ok p
  exact ⟨Nat.le_trans h.N hl, Nat.le_trans h.T hl, Nat.le_trans h.A hl, h.V, fun v hv => Nat.le_trans (h.vs v hv) hl⟩
theorem if_l (W : Wd) (l : List Ev) (e : Ev) (hl : l.length ≤ 1000000) (hc : ∀ x ∈ l, Ctr Tryd.prog 39 [.agg (evC x), .rop (spkC W.N W.A W.V W.T) 0, .rop (evC e) 0] (.bool (likW W x e))) : ∀ d i, i + d = l.length → HT Tryd.prog Tryd.f38.ntmps (pt Tryd.f38 0) (stIf W l e i) (EndsA Γ (.pure [] (.int .i64 (clsR W e (l.drop i) i))) Tryd.f38) := by
  intro d
  induction d with
  | zero =>
    intro i h
    rw [List.drop_of_length_le (by omega)]
    exact if_e W l e i (by omega)
  | succ d ih =>
    intro i h
    rw [drop_cons l i ev0 (by omega)]
    refine if_h W l e i _ (by omega) hl (hc _ (getD_mem _ _ _ (by omega))) (fun hm => ?_) (fun hm => by simp only [clsR]; rw [if_pos hm])
    simp only [clsR]
    rw [if_neg (by rw [hm]; decide)]
    exact ih (i + 1) (by omega)
/-- The place of the first that is like an event. -/
theorem Class_ctr (p : Pth) (hok : p.ok) (hl : (filtersP p).length ≤ 1000000) (l : List Ev) (e : Ev) (hll : l.length ≤ 1000000) (hla : ∀ x ∈ l, x.attrs.length ≤ 1048600) (he : e.attrs.length ≤ 1048600) : Ctr Tryd.prog 15 [.agg (pthL p), .sl none l.length (evsC l) .no, .agg (evC e)] (.int .i64 (clsR (spkW p) e l 0)) := by
  obtain ⟨h1, h2, h3, h4, h5⟩ := speaks_len p hl
  refine Class_p p l e _ (speaks_ctr p hok hl) (if_p (spkW p) l e _ ?_)
  have := if_l (spkW p) l e hll (fun x hx => Class1_ctr (spkW p) x e (like_ctr (spkW p) x e h1 h2 h3 h4 h5 (hla x hx) he)) l.length 0 (Nat.zero_add _)
  rwa [List.drop_zero] at this
end Go.Proofs.YteimloiaipiadaaDoor
end

section
set_option linter.unusedVariables false
set_option linter.unusedSimpArgs false
set_option maxRecDepth 100000
namespace Go.Proofs.YteimloiaipiadaaDoor
open Go Go.AX

def cntS (n : Nat) (v : List ByteArray) : Nat := if 25 < n * (v.length + 2) then 25 else n * (v.length + 2)
def cntW (W : Wd) : Nat := W.V.foldl cntS (W.N.length + 1) + W.T.length + 1
def stCt (W : Wd) (n i : Nat) : AS := ⟨[(1, .ptr 1 0), (3, .int .i64 n), (11, .sl none W.V.length (valsC W.V) .no), (12, .int .i64 W.V.length), (13, .int .i64 i)], [(1, .var true (spkC W.N W.A W.V W.T))], []⟩

theorem ct_h (W : Wd) (n i : Nat) (R : Int) (hi : i < W.V.length) (hn : n ≤ 1000001) (hT : W.T.length ≤ 1000000) (hV : W.V.length ≤ 1000000) (hVs : ∀ v ∈ W.V, v.length ≤ 1000000) (k : HT Tryd.prog Tryd.f26.ntmps (pt Tryd.f26 0) (stCt W (cntS n (W.V.getD i [])) (i + 1)) (EndsA Γ (.pure [] (.int .i64 R)) Tryd.f26)) : HT Tryd.prog Tryd.f26.ntmps (pt Tryd.f26 0) (stCt W n i) (EndsA Γ (.pure [] (.int .i64 R)) Tryd.f26) :=
  HT.walk Γ_ok mo_ok (⟨[(14, .val (.bool true)), (16, .val (.sl none (W.V.getD i []).length (strsC (W.V.getD i [])) .no))], (sp26).filter (fun x => !Nat.beq x 14), hd26 [] [] [] [], [], .pure [] (.int .i64 R)⟩ : Wk) 4000 (T := .ob (decide ((↑i : Int) < (↑W.V.length : Int)) = true) (.ob ((0 : Int) ≤ (↑i : Int) ∧ (↑i : Int) < (↑W.V.length : Int) ∧ (↑i : Int).toNat * (1 : Nat) < (valsC W.V).length) (.ob ((valsC W.V)[(↑i : Int).toNat * (1 : Nat)]? = some (AV.sl none (W.V.getD i []).length (strsC (W.V.getD i [])) .no)) (.head (pt Tryd.f26 0) ({ tmps := [(1, AV.ptr 1 0), (3, AV.int .i64 (if (25 : Int) < IntKind.i64.wrap ((↑n : Int) * IntKind.i64.wrap ((↑(W.V.getD i []).length : Int) + (2 : Int))) then (25 : Int) else IntKind.i64.wrap ((↑n : Int) * IntKind.i64.wrap ((↑(W.V.getD i []).length : Int) + (2 : Int))))), (11, AV.sl none W.V.length (valsC W.V) .no), (12, AV.int .i64 (↑W.V.length : Int)), (13, AV.int .i64 (IntKind.i64.wrap ((↑i : Int) + (1 : Int))))], heap := [(1, .var true [AV.sl none W.N.length (nmsC W.N) .no, AV.sl none W.A.length (nmsC W.A) .no, AV.sl none W.V.length (valsC W.V) .no, AV.sl none W.T.length (strsC W.T) .no])], tags := [] }))))) (by kernel_rfl) (by
    have w2 : IntKind.i64.wrap ((i : Int) + 1) = ((i + 1 : Nat) : Int) := by rw [i64_wrap (by omega) (by omega)]; rfl
    have h0 : decide ((i : Int) < W.V.length) = true := by simp; omega
    simp only [PT.holds, w2, h0, Int.toNat_natCast, valsC_len, Nat.mul_one, true_implies, Bool.false_eq_true, Bool.true_eq_false, false_implies, true_and, and_true]
    have hv : (W.V.getD i []).length ≤ 1000000 := hVs _ (getD_mem _ _ _ (by omega))
    have hm : n * ((W.V.getD i []).length + 2) ≤ 1000001 * 1000002 := Nat.mul_le_mul hn (by omega)
    have w3 : IntKind.i64.wrap (((W.V.getD i []).length : Int) + 2) = (((W.V.getD i []).length + 2 : Nat) : Int) := by rw [i64_wrap (by omega) (by omega)]; rfl
    have w4 : IntKind.i64.wrap ((n : Int) * (((W.V.getD i []).length + 2 : Nat) : Int)) = ((n * ((W.V.getD i []).length + 2) : Nat) : Int) := by rw [← Int.natCast_mul, i64_wrap (by omega) (by omega)]
    have w5 : (if (25 : Int) < ((n * ((W.V.getD i []).length + 2) : Nat) : Int) then (25 : Int) else ((n * ((W.V.getD i []).length + 2) : Nat) : Int)) = ((cntS n (W.V.getD i []) : Nat) : Int) := by
      unfold cntS
      split <;> split <;> omega
    rw [w3, w4, w5]
    exact ⟨by omega, vals_nth _ _ (by omega), head_eq k (by simp [stCt, spkC])⟩)
theorem ct_e (W : Wd) (n i : Nat) (hi : i = W.V.length) (hn : n ≤ 1000001) (hT : W.T.length ≤ 1000000) : HT Tryd.prog Tryd.f26.ntmps (pt Tryd.f26 0) (stCt W n i) (EndsA Γ (.pure [] (.int .i64 (n + W.T.length + 1 : Nat))) Tryd.f26) :=
  HT.walk Γ_ok mo_ok (⟨[(14, .val (.bool false)), (16, .val (.sl none (W.V.getD i []).length (strsC (W.V.getD i [])) .no))], (sp26).filter (fun x => !Nat.beq x 14), hd26 [] [] [] [], [], .pure [] (.int .i64 (n + W.T.length + 1 : Nat))⟩ : Wk) 4000 (T := .ob (decide ((↑i : Int) < (↑W.V.length : Int)) = false) (.ob (IntKind.i64.wrap (IntKind.i64.wrap ((↑n : Int) + (↑W.T.length : Int)) + (1 : Int)) = (↑(n + W.T.length + (1 : Nat)) : Int)) (.tt))) (by kernel_rfl) (by
    have h0 : decide ((i : Int) < W.V.length) = false := by simp; omega
    simp only [PT.holds, h0, true_implies, Bool.false_eq_true, Bool.true_eq_false, false_implies, true_and, and_true]
    have w3 : IntKind.i64.wrap ((n : Int) + (W.T.length : Int)) = ((n + W.T.length : Nat) : Int) := by rw [i64_wrap (by omega) (by omega)]; rfl
    have w4 : IntKind.i64.wrap (((n + W.T.length : Nat) : Int) + 1) = ((n + W.T.length + 1 : Nat) : Int) := by rw [i64_wrap (by omega) (by omega)]; rfl
    rw [w3, w4])
theorem ct_p (W : Wd) (R : Int) (hN : W.N.length ≤ 1000000) (k : HT Tryd.prog Tryd.f26.ntmps (pt Tryd.f26 0) (stCt W (W.N.length + 1) 0) (EndsA Γ (.pure [] (.int .i64 R)) Tryd.f26)) : Ctr Tryd.prog 26 [.agg (spkC W.N W.A W.V W.T)] (.int .i64 R) :=
  Ctr.mk Γ_ok Tryd.func26 (by kernel_rfl) Tryd.call26 [] (by kernel_rfl) (HT.walk Γ_ok mo_ok (⟨[], sp26, hd26 [] [] [] [], [], .pure [] (.int .i64 R)⟩ : Wk) 4000 (T := .head (pt Tryd.f26 0) ({ tmps := [(1, AV.ptr 1 0), (3, AV.int .i64 (IntKind.i64.wrap ((↑W.N.length : Int) + (1 : Int)))), (11, AV.sl none W.V.length (valsC W.V) .no), (12, AV.int .i64 (↑W.V.length : Int)), (13, AV.int .i64 (0 : Int))], heap := [(1, .var true [AV.sl none W.N.length (nmsC W.N) .no, AV.sl none W.A.length (nmsC W.A) .no, AV.sl none W.V.length (valsC W.V) .no, AV.sl none W.T.length (strsC W.T) .no])], tags := [] })) (by kernel_rfl) (by
    simp only [PT.holds, true_implies, Bool.false_eq_true, Bool.true_eq_false, false_implies, true_and, and_true]
    have w3 : IntKind.i64.wrap ((W.N.length : Int) + 1) = ((W.N.length + 1 : Nat) : Int) := by rw [i64_wrap (by omega) (by omega)]; rfl
    rw [w3]
    exact head_eq k (by simp [stCt, spkC])))
theorem ct_l (W : Wd) (hT : W.T.length ≤ 1000000) (hV : W.V.length ≤ 1000000) (hVs : ∀ v ∈ W.V, v.length ≤ 1000000) : ∀ d n i, i + d = W.V.length → n ≤ 1000001 → HT Tryd.prog Tryd.f26.ntmps (pt Tryd.f26 0) (stCt W n i) (EndsA Γ (.pure [] (.int .i64 ((W.V.drop i).foldl cntS n + W.T.length + 1 : Nat))) Tryd.f26) := by
  intro d
  induction d with
  | zero =>
    intro n i h hn
    rw [List.drop_of_length_le (by omega)]
    exact ct_e W n i (by omega) hn hT
  | succ d ih =>
    intro n i h hn
    rw [drop_cons W.V i [] (by omega), List.foldl_cons]
    exact ct_h W n i _ (by omega) hn hT hV hVs (ih _ (i + 1) (by omega) (by unfold cntS; split <;> omega))
/-- How many labels there are; above the limit: some number above it. -/
theorem count_ctr (W : Wd) (hN : W.N.length ≤ 1000000) (hT : W.T.length ≤ 1000000) (hV : W.V.length ≤ 1000000) (hVs : ∀ v ∈ W.V, v.length ≤ 1000000) : Ctr Tryd.prog 26 [.agg (spkC W.N W.A W.V W.T)] (.int .i64 (cntW W : Nat)) := by
  have := ct_l W hT hV hVs W.V.length (W.N.length + 1) 0 (Nat.zero_add _) (by omega)
  rw [List.drop_zero] at this
  exact ct_p W _ hN this

end Go.Proofs.YteimloiaipiadaaDoor
end

section
set_option linter.unusedVariables false
set_option linter.unusedSimpArgs false
set_option maxRecDepth 100000
namespace Go.Proofs.YteimloiaipiadaaDoor
open Go Go.AX

theorem clB_n (l : List ByteArray) (h : l.length = 0) (hl : l = []) : Ctr Tryd.prog 28 [.sl (some true) l.length (strsC l) .no] (.sl none l.length (strsC l) (.fresh 9 1)) :=
  Ctr.mk Γ_ok Tryd.func28 (by kernel_rfl) Tryd.call28 [] (by kernel_rfl) (HT.walk Γ_ok mo_ok (⟨[], sp28, [], [], .pure [] (.sl none l.length (strsC l) (.fresh 9 1))⟩ : Wk) 4000 (T := .split (true) (.ob ((0 : Nat) = l.length) (.ob (([] : List AV) = strsC l) (.tt))) (.ob ((repL (List.map zn [AV.str (ByteArray.mk #[])]) (0 : Nat)).length = (0 : Nat) * ((0 : Nat) + (1 : Nat)) ∧ (strsC l).length = l.length * ((0 : Nat) + (1 : Nat)) ∧ ((0 : Nat) + l.length) * ((15 : Nat) + (1 : Nat)) ≤ (140737488355328 : Nat)) (.ob ((0 : Nat) + l.length = l.length) (.ob (repL (List.map zn [AV.str (ByteArray.mk #[])]) (0 : Nat) ++ strsC l = strsC l) (.ob ((0 : Nat) + l.length = (0 : Nat) + l.length) (.tt)))))) (by kernel_rfl) (by
    simp only [PT.holds, true_implies, Bool.false_eq_true, Bool.true_eq_false, false_implies, true_and, and_true]
    subst hl
    exact ⟨rfl, rfl⟩))
theorem clB_f (l : List ByteArray) (hl : l.length ≤ 1000000) : Ctr Tryd.prog 28 [.sl (some false) l.length (strsC l) .no] (.sl none l.length (strsC l) (.fresh 9 1)) :=
  Ctr.mk Γ_ok Tryd.func28 (by kernel_rfl) Tryd.call28 [] (by kernel_rfl) (HT.walk Γ_ok mo_ok (⟨[], sp28, [], [], .pure [] (.sl none l.length (strsC l) (.fresh 9 1))⟩ : Wk) 4000 (T := .split (false) (.ob ((0 : Nat) = l.length) (.ob (([] : List AV) = strsC l) (.tt))) (.ob ((repL (List.map zn [AV.str (ByteArray.mk #[])]) (0 : Nat)).length = (0 : Nat) * ((0 : Nat) + (1 : Nat)) ∧ (strsC l).length = l.length * ((0 : Nat) + (1 : Nat)) ∧ ((0 : Nat) + l.length) * ((15 : Nat) + (1 : Nat)) ≤ (140737488355328 : Nat)) (.ob ((0 : Nat) + l.length = l.length) (.ob (repL (List.map zn [AV.str (ByteArray.mk #[])]) (0 : Nat) ++ strsC l = strsC l) (.ob ((0 : Nat) + l.length = (0 : Nat) + l.length) (.tt)))))) (by kernel_rfl) (by
    simp only [PT.holds, true_implies, Bool.false_eq_true, Bool.true_eq_false, false_implies, true_and, and_true]
    exact ⟨⟨by simp [repL], by rw [strsC_len]; omega, by omega⟩, by omega, by simp [repL]⟩))
theorem clA_n (l : List Atr) (h : l.length = 0) (hl : l = []) : Ctr Tryd.prog 30 [.sl (some true) l.length (atsC l) .no] (.sl none l.length (atsC l) (.fresh 58 3)) :=
  Ctr.mk Γ_ok Tryd.func30 (by kernel_rfl) Tryd.call30 [] (by kernel_rfl) (HT.walk Γ_ok mo_ok (⟨[], sp30, [], [], .pure [] (.sl none l.length (atsC l) (.fresh 58 3))⟩ : Wk) 4000 (T := .split (true) (.ob ((0 : Nat) = l.length) (.ob (([] : List AV) = atsC l) (.tt))) (.ob ((repL (List.map zn [AV.str (ByteArray.mk #[]), AV.str (ByteArray.mk #[]), AV.str (ByteArray.mk #[])]) (0 : Nat)).length = (0 : Nat) * ((2 : Nat) + (1 : Nat)) ∧ (atsC l).length = l.length * ((2 : Nat) + (1 : Nat)) ∧ ((0 : Nat) + l.length) * ((47 : Nat) + (1 : Nat)) ≤ (140737488355328 : Nat)) (.ob ((0 : Nat) + l.length = l.length) (.ob (repL (List.map zn [AV.str (ByteArray.mk #[]), AV.str (ByteArray.mk #[]), AV.str (ByteArray.mk #[])]) (0 : Nat) ++ atsC l = atsC l) (.ob ((0 : Nat) + l.length = (0 : Nat) + l.length) (.tt)))))) (by kernel_rfl) (by
    simp only [PT.holds, true_implies, Bool.false_eq_true, Bool.true_eq_false, false_implies, true_and, and_true]
    subst hl
    exact ⟨rfl, rfl⟩))
theorem clA_f (l : List Atr) (hl : l.length ≤ 1000000) : Ctr Tryd.prog 30 [.sl (some false) l.length (atsC l) .no] (.sl none l.length (atsC l) (.fresh 58 3)) :=
  Ctr.mk Γ_ok Tryd.func30 (by kernel_rfl) Tryd.call30 [] (by kernel_rfl) (HT.walk Γ_ok mo_ok (⟨[], sp30, [], [], .pure [] (.sl none l.length (atsC l) (.fresh 58 3))⟩ : Wk) 4000 (T := .split (false) (.ob ((0 : Nat) = l.length) (.ob (([] : List AV) = atsC l) (.tt))) (.ob ((repL (List.map zn [AV.str (ByteArray.mk #[]), AV.str (ByteArray.mk #[]), AV.str (ByteArray.mk #[])]) (0 : Nat)).length = (0 : Nat) * ((2 : Nat) + (1 : Nat)) ∧ (atsC l).length = l.length * ((2 : Nat) + (1 : Nat)) ∧ ((0 : Nat) + l.length) * ((47 : Nat) + (1 : Nat)) ≤ (140737488355328 : Nat)) (.ob ((0 : Nat) + l.length = l.length) (.ob (repL (List.map zn [AV.str (ByteArray.mk #[]), AV.str (ByteArray.mk #[]), AV.str (ByteArray.mk #[])]) (0 : Nat) ++ atsC l = atsC l) (.ob ((0 : Nat) + l.length = (0 : Nat) + l.length) (.tt)))))) (by kernel_rfl) (by
    simp only [PT.holds, true_implies, Bool.false_eq_true, Bool.true_eq_false, false_implies, true_and, and_true]
    exact ⟨⟨by simp [repL], by rw [atsC_len], by omega⟩, by omega, by simp [repL]⟩))
theorem ctr_nil {P : Program} {f : FuncId} {n : Nat} {cells r : List AV} {res : AV} (hf : Ctr P f (.sl (some false) n cells .no :: r) res) (hn : n = 0 → Ctr P f (.sl (some true) n cells .no :: r) res) : Ctr P f (.sl none n cells .no :: r) res := by
  refine ⟨hf.1, fun w F vs hF ha => ?_⟩
  have h0 : 0 < vs.size := by rw [ha.1]; simp
  have hr := ha.2 0 _ vs[0] rfl (Array.getElem?_eq_getElem h0)
  generalize hv : vs[0] = v0 at hr
  cases hr with
  | sl _ _ _ _ _ A c us hnl hpos hc hcell hrep hclip hown =>
    have hb : ∀ b : Bool, A.isNone = b → Rep w (envF F) false (.sl (some b) n cells .no) (.slice A n c) := fun b e => .sl _ _ _ _ _ A c us (fun b' hb' => by cases hb'; exact e) hpos hc hcell hrep hclip hown
    have ha' : ∀ b : Bool, A.isNone = b → Args w F (.sl (some b) n cells .no :: r) vs := fun b e => by
      refine ⟨by simpa using ha.1, fun i x u hx hu => ?_⟩
      match i, hx with
      | 0, hx =>
        simp at hx
        subst hx
        rw [Array.getElem?_eq_getElem h0, hv] at hu
        cases hu
        exact hb b e
      | i + 1, hx => exact ha.2 (i + 1) x u hx hu
    cases A with
    | none =>
      have : n = 0 := by
        rcases Nat.eq_zero_or_pos n with h | h
        · exact h
        · obtain ⟨ad, e, _⟩ := hpos h
          cases e
      exact (hn this).2 w F vs hF (ha' true rfl)
    | some ad => exact hf.2 w F vs hF (ha' false rfl)
theorem cloneB_ctr (l : List ByteArray) (hl : l.length ≤ 1000000) : Ctr Tryd.prog 28 [.sl none l.length (strsC l) .no] (.sl none l.length (strsC l) (.fresh 9 1)) :=
  ctr_nil (clB_f l hl) (fun h => clB_n l h (List.eq_nil_of_length_eq_zero h))
theorem cloneA_ctr (l : List Atr) (hl : l.length ≤ 1000000) : Ctr Tryd.prog 30 [.sl none l.length (atsC l) .no] (.sl none l.length (atsC l) (.fresh 58 3)) :=
  ctr_nil (clA_f l hl) (fun h => clA_n l h (List.eq_nil_of_length_eq_zero h))

end Go.Proofs.YteimloiaipiadaaDoor
end
