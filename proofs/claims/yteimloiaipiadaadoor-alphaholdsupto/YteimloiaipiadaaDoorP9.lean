import Derived.Test.YteimloiaipiadaaDoorP8
import Derived.Test.YteimloiaipiadaaDoorP7
import Derived.OpenShut
import Derived.Test.YteimloiaipiadaaDoorP4
import Derived.Test.YteimloiaipiadaaDoorRows
section
set_option linter.unusedVariables false
set_option linter.unusedSimpArgs false
set_option maxRecDepth 100000
namespace Go.Proofs.YteimloiaipiadaaDoor
open Go Go.AX

def stL1 (p : Pth) (W : Wd) (X : List Nm) (out : List Ev) (i : Nat) : AS := ⟨[(4, .ptr 1000004 0), (5, .ptr 1000005 0), (6, .ptr 1000006 0), (24, .vec 1000010 X.length), (25, .int .i64 X.length), (26, .int .i64 i)], [(1, .var true (pthL p))] ++ (labM W X W.N.length out).heap, (labM W X W.N.length out).tags⟩
def stL2 (p : Pth) (W : Wd) (X : List Nm) (Y : List ByteArray) (out : List Ev) (i : Nat) : AS := ⟨[(5, .ptr 1000005 0), (41, .vec 1000014 Y.length), (42, .int .i64 Y.length), (43, .int .i64 i)], [(1, .var true (pthL p))] ++ (labM W X W.N.length out).heap, [(1000010, ⟨X.length, 36, 2, some (false, nmsC X)⟩), (1000011, ⟨W.A.length, 36, 2, some (false, nmsC W.A)⟩), (1000777, ⟨W.V.length, 64, 1, some (false, valsC W.V)⟩), (1000014, ⟨Y.length, 9, 1, some (false, strsC Y)⟩), (1000028, ⟨out.length, 39, 5, some (true, evsC out)⟩)]⟩
theorem ctrM_ev {P : Program} {f : FuncId} {M M' : MemS} {k : Int} {a b t : ByteArray} {r : List AV} {res : AV} (h : CtrM P f M (.agg (evC ⟨k, ⟨a, b⟩, [], t⟩) :: r) M' res) : CtrM P f M (.agg [.int .i64 k, .str a, .str b, .sl (some true) 0 [] .clip, .str t] :: r) M' res := by
  refine ⟨h.1, fun C vs hst hl ha => h.2 C vs hst (by simpa using hl) fun i c v hc hv => ?_⟩
  match i, hc with
  | 0, hc =>
    simp at hc
    subst hc
    have h1 := ha 0 _ v rfl hv
    cases h1 with
    | agg _ _ us hl2 h2 h3 =>
      refine .agg _ _ us hl2 (fun i c v hc hv => ?_) h3
      match i, hc with
      | 0, hc => exact h2 0 c v hc hv
      | 1, hc => exact h2 1 c v hc hv
      | 2, hc => exact h2 2 c v hc hv
      | 3, hc =>
        have h4 := h2 3 _ v rfl hv
        simp [evC, atsC] at hc
        subst hc
        exact weakA.rep (.inr ⟨_, _, _, _, rfl, rfl⟩) h4
      | 4, hc => exact h2 4 c v hc hv
  | i + 1, hc => exact ha (i + 1) c v hc hv

theorem L_p (p : Pth) (W : Wd) (o : Nm) (R : List Ev) (c : Nat) (hc : CtrM Tryd.prog 25 ⟨[], []⟩ [.sl (some false) 1 (pthL p) .clip] ⟨[], gatT false W⟩ (.agg (gatC W))) (hk : Ctr Tryd.prog 26 [.agg (spkC W.N W.A W.V W.T)] (.int .i64 (c : Int))) (ho : Ctr Tryd.prog 31 [.sl none W.N.length (nmsC W.N) .no] (.agg (nmC o))) (hN : W.N.length ≤ 1000000) (hc24 : c ≤ 24) (k : HT Tryd.prog Tryd.f11.ntmps (pt Tryd.f11 0) (stL1 p W (W.N ++ [o]) [] 0) (EndsA Γ (.pure [6000028] (.tup [.sl none R.length (evsC R) .no, .int .i64 0])) Tryd.f11)) : Ctr Tryd.prog 11 [.agg (pthL p)] (.tup [.sl none R.length (evsC R) .no, .int .i64 0]) :=
  Ctr.mk Γ_ok Tryd.func11 (by kernel_rfl) Tryd.call11 [6000028] (by kernel_rfl) (HT.walk Γ_ok mo_ok (⟨[(13, .callM [] [] [] [] [] (gatT false W) (.agg (gatC W))), (4, .id 1000004), (5, .id 1000005), (6, .id 1000006), (15, .call [] (.int .i64 (c : Int))), (22, .call [] (.agg (nmC o)))], sp11, hd11 [] [(true, 1000005, 0, 1000028, 39, 5)] [1000004, 1000005, 1000006] [1000010, 1000011, 1000777, 1000014, 1000028], [], .pure [6000028] (.tup [.sl none R.length (evsC R) .no, .int .i64 0])⟩ : Wk) 4000 (T := .ob ((3 : Nat) ≤ (3 : Nat)) (.ob (CtrM Tryd.prog (25 : Nat) { heap := [], tags := [] } [AV.sl (some false) (1 : Nat) (pthL p) .clip] { heap := [], tags := [(1000010, { n := W.N.length, e := (36 : Nat), sz := (2 : Nat), cs := some (false, nmsC W.N) }), (1000011, { n := W.A.length, e := (36 : Nat), sz := (2 : Nat), cs := some (false, nmsC W.A) }), (1000777, { n := W.V.length, e := (64 : Nat), sz := (1 : Nat), cs := some (false, valsC W.V) }), (1000014, { n := W.T.length, e := (9 : Nat), sz := (1 : Nat), cs := some (false, strsC W.T) })] } (AV.agg [AV.vec (1000010 : Nat) W.N.length, AV.vec (1000011 : Nat) W.A.length, AV.vec (1000777 : Nat) W.V.length, AV.vec (1000014 : Nat) W.T.length])) (.ob ((4 : Nat) ≤ (4 : Nat)) (.ob (W.N.length = W.N.length) (.ob (W.A.length = W.A.length) (.ob (W.V.length = W.V.length) (.ob (W.T.length = W.T.length) (.ob (Ctr Tryd.prog 26 [AV.agg [AV.sl none W.N.length (nmsC W.N) .no, AV.sl none W.A.length (nmsC W.A) .no, AV.sl none W.V.length (valsC W.V) .no, AV.sl none W.T.length (strsC W.T) .no]] (AV.int .i64 (↑c : Int))) (.split (decide ((24 : Int) < (↑c : Int))) ((.bad (4 : Nat) (0 : Nat))) (.ob (W.N.length = W.N.length) (.ob (Ctr Tryd.prog 31 [AV.sl none W.N.length (nmsC W.N) .no] (AV.agg [AV.str o.sp, AV.str o.lo])) (.ob (W.N.length = W.N.length ∧ (splice (repL (List.map zn [AV.str (ByteArray.mk #[]), AV.str (ByteArray.mk #[])]) (1 : Nat)) ((0 : Nat) * (2 : Nat)) (cellsOf (AV.agg [AV.str o.sp, AV.str o.lo]))).length = (1 : Nat) * ((1 : Nat) + (1 : Nat)) ∧ (W.N.length + (1 : Nat)) * ((31 : Nat) + (1 : Nat)) ≤ (140737488355328 : Nat)) (.ob (W.N.length + (1 : Nat) = W.N.length + (1 : Nat)) (.head (pt Tryd.f11 0) ({ tmps := [(4, AV.ptr 1000004 0), (5, AV.ptr 1000005 0), (6, AV.ptr 1000006 0), (24, AV.vec (1000010 : Nat) (W.N.length + (1 : Nat))), (25, AV.int .i64 (↑(W.N.length + (1 : Nat)) : Int)), (26, AV.int .i64 (0 : Int))], heap := [(1, .var true (pthL p)), (1000004, .var true [AV.vec (1000010 : Nat) W.N.length, AV.vec (1000011 : Nat) W.A.length, AV.vec (1000777 : Nat) W.V.length, AV.vec (1000014 : Nat) W.T.length]), (1000005, .var true [AV.vec (1000028 : Nat) (0 : Nat)]), (1000006, .var true [AV.fn (27 : Nat) [AV.ptr 1000004 0, AV.ptr 1000005 0, AV.ptr 1000006 0]])], tags := [(1000010, { n := W.N.length + (1 : Nat), e := (36 : Nat), sz := (2 : Nat), cs := some (false, nmsC W.N ++ splice (repL (List.map zn [AV.str (ByteArray.mk #[]), AV.str (ByteArray.mk #[])]) (1 : Nat)) ((0 : Nat) * (2 : Nat)) (cellsOf (AV.agg [AV.str o.sp, AV.str o.lo]))) }), (1000011, { n := W.A.length, e := (36 : Nat), sz := (2 : Nat), cs := some (false, nmsC W.A) }), (1000777, { n := W.V.length, e := (64 : Nat), sz := (1 : Nat), cs := some (false, valsC W.V) }), (1000014, { n := W.T.length, e := (9 : Nat), sz := (1 : Nat), cs := some (false, strsC W.T) }), (1000028, { n := (0 : Nat), e := (39 : Nat), sz := (5 : Nat), cs := some (true, []) })] }))))))))))))))) (by kernel_rfl) (by
    simp only [PT.holds, true_implies, Bool.false_eq_true, Bool.true_eq_false, false_implies, true_and, and_true]
    have h24 : decide ((24 : Int) < (c : Int)) = false := by simp; omega
    simp only [h24, true_implies, Bool.false_eq_true, Bool.true_eq_false, false_implies, true_and, and_true]
    repeat' (with_reducible apply And.intro)
    all_goals first | exact hc | exact hk | exact ho | omega | rfl | exact head_eq k (by simp [stL1, labM, pthL, evsC, nmsC_app, splice, repL, cellsOf])))
theorem L_f (p : Pth) (W : Wd) (o : Nm) (c : Nat) (hc : CtrM Tryd.prog 25 ⟨[], []⟩ [.sl (some false) 1 (pthL p) .clip] ⟨[], gatT false W⟩ (.agg (gatC W))) (hk : Ctr Tryd.prog 26 [.agg (spkC W.N W.A W.V W.T)] (.int .i64 (c : Int))) (hc24 : 24 < c) : Ctr Tryd.prog 11 [.agg (pthL p)] (.tup [.sl none ([] : List Ev).length (evsC ([] : List Ev)) .no, .int .i64 13]) :=
  Ctr.mk Γ_ok Tryd.func11 (by kernel_rfl) Tryd.call11 [] (by kernel_rfl) (HT.walk Γ_ok mo_ok (⟨[(13, .callM [] [] [] [] [] (gatT false W) (.agg (gatC W))), (4, .id 1000004), (5, .id 1000005), (6, .id 1000006), (15, .call [] (.int .i64 (c : Int))), (22, .call [] (.agg (nmC o)))], sp11, hd11 [] [(true, 1000005, 0, 1000028, 39, 5)] [1000004, 1000005, 1000006] [1000010, 1000011, 1000777, 1000014, 1000028], [], .pure [] (.tup [.sl none ([] : List Ev).length (evsC ([] : List Ev)) .no, .int .i64 13])⟩ : Wk) 4000 (T := .ob ((3 : Nat) ≤ (3 : Nat)) (.ob (CtrM Tryd.prog (25 : Nat) { heap := [], tags := [] } [AV.sl (some false) (1 : Nat) (pthL p) .clip] { heap := [], tags := [(1000010, { n := W.N.length, e := (36 : Nat), sz := (2 : Nat), cs := some (false, nmsC W.N) }), (1000011, { n := W.A.length, e := (36 : Nat), sz := (2 : Nat), cs := some (false, nmsC W.A) }), (1000777, { n := W.V.length, e := (64 : Nat), sz := (1 : Nat), cs := some (false, valsC W.V) }), (1000014, { n := W.T.length, e := (9 : Nat), sz := (1 : Nat), cs := some (false, strsC W.T) })] } (AV.agg [AV.vec (1000010 : Nat) W.N.length, AV.vec (1000011 : Nat) W.A.length, AV.vec (1000777 : Nat) W.V.length, AV.vec (1000014 : Nat) W.T.length])) (.ob ((4 : Nat) ≤ (4 : Nat)) (.ob (W.N.length = W.N.length) (.ob (W.A.length = W.A.length) (.ob (W.V.length = W.V.length) (.ob (W.T.length = W.T.length) (.ob (Ctr Tryd.prog 26 [AV.agg [AV.sl none W.N.length (nmsC W.N) .no, AV.sl none W.A.length (nmsC W.A) .no, AV.sl none W.V.length (valsC W.V) .no, AV.sl none W.T.length (strsC W.T) .no]] (AV.int .i64 (↑c : Int))) (.split (decide ((24 : Int) < (↑c : Int))) (.ob ((0 : Nat) = (0 : Nat)) (.ob (([] : List AV) = []) (.ob ((13 : Int) = (13 : Int)) (.tt)))) (.ob (W.N.length = W.N.length) (.ob (Ctr Tryd.prog 31 [AV.sl none W.N.length (nmsC W.N) .no] (AV.agg [AV.str o.sp, AV.str o.lo])) (.ob (W.N.length = W.N.length ∧ (splice (repL (List.map zn [AV.str (ByteArray.mk #[]), AV.str (ByteArray.mk #[])]) (1 : Nat)) ((0 : Nat) * (2 : Nat)) (cellsOf (AV.agg [AV.str o.sp, AV.str o.lo]))).length = (1 : Nat) * ((1 : Nat) + (1 : Nat)) ∧ (W.N.length + (1 : Nat)) * ((31 : Nat) + (1 : Nat)) ≤ (140737488355328 : Nat)) (.ob (W.N.length + (1 : Nat) = W.N.length + (1 : Nat)) (.head (pt Tryd.f11 0) ({ tmps := [(4, AV.ptr 1000004 0), (5, AV.ptr 1000005 0), (6, AV.ptr 1000006 0), (24, AV.vec (1000010 : Nat) (W.N.length + (1 : Nat))), (25, AV.int .i64 (↑(W.N.length + (1 : Nat)) : Int)), (26, AV.int .i64 (0 : Int))], heap := [(1, .var true (pthL p)), (1000004, .var true [AV.vec (1000010 : Nat) W.N.length, AV.vec (1000011 : Nat) W.A.length, AV.vec (1000777 : Nat) W.V.length, AV.vec (1000014 : Nat) W.T.length]), (1000005, .var true [AV.vec (1000028 : Nat) (0 : Nat)]), (1000006, .var true [AV.fn (27 : Nat) [AV.ptr 1000004 0, AV.ptr 1000005 0, AV.ptr 1000006 0]])], tags := [(1000010, { n := W.N.length + (1 : Nat), e := (36 : Nat), sz := (2 : Nat), cs := some (false, nmsC W.N ++ splice (repL (List.map zn [AV.str (ByteArray.mk #[]), AV.str (ByteArray.mk #[])]) (1 : Nat)) ((0 : Nat) * (2 : Nat)) (cellsOf (AV.agg [AV.str o.sp, AV.str o.lo]))) }), (1000011, { n := W.A.length, e := (36 : Nat), sz := (2 : Nat), cs := some (false, nmsC W.A) }), (1000777, { n := W.V.length, e := (64 : Nat), sz := (1 : Nat), cs := some (false, valsC W.V) }), (1000014, { n := W.T.length, e := (9 : Nat), sz := (1 : Nat), cs := some (false, strsC W.T) }), (1000028, { n := (0 : Nat), e := (39 : Nat), sz := (5 : Nat), cs := some (true, []) })] }))))))))))))))) (by kernel_rfl) (by
    simp only [PT.holds, true_implies, Bool.false_eq_true, Bool.true_eq_false, false_implies, true_and, and_true]
    have h24 : decide ((24 : Int) < (c : Int)) = true := by simp; omega
    simp only [h24, true_implies, Bool.false_eq_true, Bool.true_eq_false, false_implies, true_and, and_true]
    repeat' (with_reducible apply And.intro)
    all_goals first | exact hc | exact hk | omega | rfl))
theorem L1_h (p : Pth) (W : Wd) (X : List Nm) (out out1 R : List Ev) (i : Nat) (hi : i < X.length) (hX : X.length ≤ 1000001) (hc : CtrM Tryd.prog 27 (labM W X W.N.length out) [.agg (evC (⟨1, (X.getD i nm0), [], ⟨#[]⟩⟩ : Ev)), .int .i64 0, .ptr 1000004 0, .ptr 1000005 0, .ptr 1000006 0] (labM W X W.N.length out1) (.tup [])) (k : HT Tryd.prog Tryd.f11.ntmps (pt Tryd.f11 0) (stL1 p W X out1 (i + 1)) (EndsA Γ (.pure [6000028] (.tup [.sl none R.length (evsC R) .no, .int .i64 0])) Tryd.f11)) : HT Tryd.prog Tryd.f11.ntmps (pt Tryd.f11 0) (stL1 p W X out i) (EndsA Γ (.pure [6000028] (.tup [.sl none R.length (evsC R) .no, .int .i64 0])) Tryd.f11) :=
  HT.walk Γ_ok mo_ok (⟨[(27, .val (.bool true)), (29, .val (.agg (nmC (X.getD i nm0)))), (33, .callM [] [] [1000004, 1000005, 1000006] [1000010, 1000011, 1000777, 1000014, 1000028] (labM W X W.N.length out1).heap (labM W X W.N.length out1).tags (.tup [])), (39, .call [] (.str ⟨#[]⟩))], (sp11).filter (fun x => !Nat.beq x 27), hd11 [] [(true, 1000005, 0, 1000028, 39, 5)] [1000004, 1000005, 1000006] [1000010, 1000011, 1000777, 1000014, 1000028], [], .pure [6000028] (.tup [.sl none R.length (evsC R) .no, .int .i64 0])⟩ : Wk) 4000 (T := .ob (decide ((↑i : Int) < (↑X.length : Int)) = true) (.ob ((0 : Int) ≤ (↑i : Int) ∧ (↑i : Int) < (↑X.length : Int) ∧ X.length = X.length) (.ob (X.length = X.length) (.ob (List.take (2 : Nat) (List.drop ((↑i : Int).toNat * (2 : Nat)) (nmsC X)) = [AV.str (X.getD i nm0).sp, AV.str (X.getD i nm0).lo]) (.ob ((2 : Nat) ≤ (2 : Nat)) (.ob (CtrM Tryd.prog (27 : Nat) { heap := [(1000004, .var true [AV.vec (1000010 : Nat) W.N.length, AV.vec (1000011 : Nat) W.A.length, AV.vec (1000777 : Nat) W.V.length, AV.vec (1000014 : Nat) W.T.length]), (1000005, .var true [AV.vec (1000028 : Nat) out.length]), (1000006, .var true [AV.fn (27 : Nat) [AV.ptr 1000004 0, AV.ptr 1000005 0, AV.ptr 1000006 0]])], tags := [(1000010, { n := X.length, e := (36 : Nat), sz := (2 : Nat), cs := some (false, nmsC X) }), (1000011, { n := W.A.length, e := (36 : Nat), sz := (2 : Nat), cs := some (false, nmsC W.A) }), (1000777, { n := W.V.length, e := (64 : Nat), sz := (1 : Nat), cs := some (false, valsC W.V) }), (1000014, { n := W.T.length, e := (9 : Nat), sz := (1 : Nat), cs := some (false, strsC W.T) }), (1000028, { n := out.length, e := (39 : Nat), sz := (5 : Nat), cs := some (true, evsC out) })] } [AV.agg [AV.int .i64 (1 : Int), AV.str (X.getD i nm0).sp, AV.str (X.getD i nm0).lo, AV.sl (some true) (0 : Nat) [] .clip, AV.str (ByteArray.mk #[])], AV.int .i64 (0 : Int), AV.ptr 1000004 0, AV.ptr 1000005 0, AV.ptr 1000006 0] { heap := [(1000004, .var true [AV.vec (1000010 : Nat) W.N.length, AV.vec (1000011 : Nat) W.A.length, AV.vec (1000777 : Nat) W.V.length, AV.vec (1000014 : Nat) W.T.length]), (1000005, .var true [AV.vec (1000028 : Nat) out1.length]), (1000006, .var true [AV.fn (27 : Nat) [AV.ptr 1000004 0, AV.ptr 1000005 0, AV.ptr 1000006 0]])], tags := [(1000010, { n := X.length, e := (36 : Nat), sz := (2 : Nat), cs := some (false, nmsC X) }), (1000011, { n := W.A.length, e := (36 : Nat), sz := (2 : Nat), cs := some (false, nmsC W.A) }), (1000777, { n := W.V.length, e := (64 : Nat), sz := (1 : Nat), cs := some (false, valsC W.V) }), (1000014, { n := W.T.length, e := (9 : Nat), sz := (1 : Nat), cs := some (false, strsC W.T) }), (1000028, { n := out1.length, e := (39 : Nat), sz := (5 : Nat), cs := some (true, evsC out1) })] } (AV.tup [])) (.head (pt Tryd.f11 0) ({ tmps := [(4, AV.ptr 1000004 0), (5, AV.ptr 1000005 0), (6, AV.ptr 1000006 0), (24, AV.vec (1000010 : Nat) X.length), (25, AV.int .i64 (↑X.length : Int)), (26, AV.int .i64 (IntKind.i64.wrap ((↑i : Int) + (1 : Int))))], heap := [(1, .var true (pthL p)), (1000004, .var true [AV.vec (1000010 : Nat) W.N.length, AV.vec (1000011 : Nat) W.A.length, AV.vec (1000777 : Nat) W.V.length, AV.vec (1000014 : Nat) W.T.length]), (1000005, .var true [AV.vec (1000028 : Nat) out1.length]), (1000006, .var true [AV.fn (27 : Nat) [AV.ptr 1000004 0, AV.ptr 1000005 0, AV.ptr 1000006 0]])], tags := [(1000010, { n := X.length, e := (36 : Nat), sz := (2 : Nat), cs := some (false, nmsC X) }), (1000011, { n := W.A.length, e := (36 : Nat), sz := (2 : Nat), cs := some (false, nmsC W.A) }), (1000777, { n := W.V.length, e := (64 : Nat), sz := (1 : Nat), cs := some (false, valsC W.V) }), (1000014, { n := W.T.length, e := (9 : Nat), sz := (1 : Nat), cs := some (false, strsC W.T) }), (1000028, { n := out1.length, e := (39 : Nat), sz := (5 : Nat), cs := some (true, evsC out1) })] })))))))) (by kernel_rfl) (by
    have w2 : IntKind.i64.wrap ((i : Int) + 1) = ((i + 1 : Nat) : Int) := by rw [i64_wrap (by omega) (by omega)]; rfl
    have h0 : decide ((i : Int) < X.length) = true := by simp; omega
    simp only [PT.holds, w2, h0, true_implies, Bool.false_eq_true, Bool.true_eq_false, false_implies, true_and, and_true]
    repeat' (with_reducible apply And.intro)
    all_goals first | exact ctrM_ev hc | (rw [Int.toNat_natCast, nms_take0 _ _ _ (by omega) (by decide)]; rfl) | omega | rfl | exact head_eq k (by simp [stL1, labM, pthL]))
theorem L1_e (p : Pth) (W : Wd) (X : List Nm) (out R : List Ev) (s : ByteArray) (i : Nat) (hi : i = X.length) (hT : W.T.length ≤ 1000000) (hc : Ctr Tryd.prog 29 [.sl none W.T.length (strsC W.T) .no, .str ⟨#[]⟩, .sl (some true) 0 (strsC []) .clip] (.str s)) (k : HT Tryd.prog Tryd.f11.ntmps (pt Tryd.f11 1) (stL2 p W X (W.T ++ [s]) out 0) (EndsA Γ (.pure [6000028] (.tup [.sl none R.length (evsC R) .no, .int .i64 0])) Tryd.f11)) : HT Tryd.prog Tryd.f11.ntmps (pt Tryd.f11 0) (stL1 p W X out i) (EndsA Γ (.pure [6000028] (.tup [.sl none R.length (evsC R) .no, .int .i64 0])) Tryd.f11) :=
  HT.walk Γ_ok mo_ok (⟨[(27, .val (.bool false)), (29, .val (.agg (nmC nm0))), (33, .callM [] [] [1000004, 1000005, 1000006] [1000010, 1000011, 1000777, 1000014, 1000028] (labM W X W.N.length out).heap (labM W X W.N.length out).tags (.tup [])), (39, .call [] (.str s))], (sp11).filter (fun x => !Nat.beq x 27), hd11 [] [(true, 1000005, 0, 1000028, 39, 5)] [1000004, 1000005, 1000006] [1000010, 1000011, 1000777, 1000014, 1000028], [], .pure [6000028] (.tup [.sl none R.length (evsC R) .no, .int .i64 0])⟩ : Wk) 4000 (T := .ob (decide ((↑i : Int) < (↑X.length : Int)) = false) (.ob (W.T.length = W.T.length) (.ob (Ctr Tryd.prog 29 [AV.sl none W.T.length (strsC W.T) .no, AV.str (ByteArray.mk #[]), AV.sl (some true) (0 : Nat) [] .clip] (AV.str s)) (.ob (W.T.length = W.T.length ∧ (splice (repL (List.map zn [AV.str (ByteArray.mk #[])]) (1 : Nat)) ((0 : Nat) * (1 : Nat)) (cellsOf (AV.str s))).length = (1 : Nat) * ((0 : Nat) + (1 : Nat)) ∧ (W.T.length + (1 : Nat)) * ((15 : Nat) + (1 : Nat)) ≤ (140737488355328 : Nat)) (.ob (W.T.length + (1 : Nat) = W.T.length + (1 : Nat)) (.head (pt Tryd.f11 1) ({ tmps := [(5, AV.ptr 1000005 0), (41, AV.vec (1000014 : Nat) (W.T.length + (1 : Nat))), (42, AV.int .i64 (↑(W.T.length + (1 : Nat)) : Int)), (43, AV.int .i64 (0 : Int))], heap := [(1, .var true (pthL p)), (1000004, .var true [AV.vec (1000010 : Nat) W.N.length, AV.vec (1000011 : Nat) W.A.length, AV.vec (1000777 : Nat) W.V.length, AV.vec (1000014 : Nat) W.T.length]), (1000005, .var true [AV.vec (1000028 : Nat) out.length]), (1000006, .var true [AV.fn (27 : Nat) [AV.ptr 1000004 0, AV.ptr 1000005 0, AV.ptr 1000006 0]])], tags := [(1000010, { n := X.length, e := (36 : Nat), sz := (2 : Nat), cs := some (false, nmsC X) }), (1000011, { n := W.A.length, e := (36 : Nat), sz := (2 : Nat), cs := some (false, nmsC W.A) }), (1000777, { n := W.V.length, e := (64 : Nat), sz := (1 : Nat), cs := some (false, valsC W.V) }), (1000014, { n := W.T.length + (1 : Nat), e := (9 : Nat), sz := (1 : Nat), cs := some (false, strsC W.T ++ splice (repL (List.map zn [AV.str (ByteArray.mk #[])]) (1 : Nat)) ((0 : Nat) * (1 : Nat)) (cellsOf (AV.str s))) }), (1000028, { n := out.length, e := (39 : Nat), sz := (5 : Nat), cs := some (true, evsC out) })] }))))))) (by kernel_rfl) (by
    have h0 : decide ((i : Int) < X.length) = false := by simp; omega
    simp only [PT.holds, h0, true_implies, Bool.false_eq_true, Bool.true_eq_false, false_implies, true_and, and_true]
    repeat' (with_reducible apply And.intro)
    all_goals first | exact hc | omega | rfl | (rw [strsC_len]; omega) | exact head_eq k (by simp [stL2, labM, pthL, strsC_app, splice, repL, cellsOf]))
theorem L2_h (p : Pth) (W : Wd) (X : List Nm) (Y : List ByteArray) (out R : List Ev) (i : Nat) (hi : i < Y.length) (hY : Y.length ≤ 1000001) (ho : out.length ≤ 1000000) (k : HT Tryd.prog Tryd.f11.ntmps (pt Tryd.f11 1) (stL2 p W X Y (out ++ [(⟨2, nm0, [], (Y.getD i ⟨#[]⟩)⟩ : Ev)]) (i + 1)) (EndsA Γ (.pure [6000028] (.tup [.sl none R.length (evsC R) .no, .int .i64 0])) Tryd.f11)) : HT Tryd.prog Tryd.f11.ntmps (pt Tryd.f11 1) (stL2 p W X Y out i) (EndsA Γ (.pure [6000028] (.tup [.sl none R.length (evsC R) .no, .int .i64 0])) Tryd.f11) :=
  HT.walk Γ_ok mo_ok (⟨[(44, .val (.bool true)), (46, .val (.str (Y.getD i ⟨#[]⟩)))], (sp11).filter (fun x => !Nat.beq x 44), hd11 [] [(true, 1000005, 0, 1000028, 39, 5)] [1000004, 1000005, 1000006] [1000010, 1000011, 1000777, 1000014, 1000028], [], .pure [6000028] (.tup [.sl none R.length (evsC R) .no, .int .i64 0])⟩ : Wk) 4000 (T := .ob (decide ((↑i : Int) < (↑Y.length : Int)) = true) (.ob ((0 : Int) ≤ (↑i : Int) ∧ (↑i : Int) < (↑Y.length : Int) ∧ Y.length = Y.length) (.ob (Y.length = Y.length) (.ob ((strsC Y)[(↑i : Int).toNat * (1 : Nat)]? = some (AV.str (Y.getD i (ByteArray.mk #[])))) (.ob (out.length = out.length ∧ (splice (repL (List.map zn [AV.int .i64 (0 : Int), AV.str (ByteArray.mk #[]), AV.str (ByteArray.mk #[]), AV.sl (some true) (0 : Nat) [] .clip, AV.str (ByteArray.mk #[])]) (1 : Nat)) ((0 : Nat) * (5 : Nat)) (cellsOf (AV.agg [AV.int .i64 (2 : Int), AV.str (ByteArray.mk #[]), AV.str (ByteArray.mk #[]), AV.sl none (0 : Nat) [] .no, AV.str (Y.getD i (ByteArray.mk #[]))]))).length = (1 : Nat) * ((4 : Nat) + (1 : Nat)) ∧ (out.length + (1 : Nat)) * ((79 : Nat) + (1 : Nat)) ≤ (140737488355328 : Nat)) (.head (pt Tryd.f11 1) ({ tmps := [(5, AV.ptr 1000005 0), (41, AV.vec (1000014 : Nat) Y.length), (42, AV.int .i64 (↑Y.length : Int)), (43, AV.int .i64 (IntKind.i64.wrap ((↑i : Int) + (1 : Int))))], heap := [(1, .var true (pthL p)), (1000004, .var true [AV.vec (1000010 : Nat) W.N.length, AV.vec (1000011 : Nat) W.A.length, AV.vec (1000777 : Nat) W.V.length, AV.vec (1000014 : Nat) W.T.length]), (1000005, .var true [AV.vec (1000028 : Nat) (out.length + (1 : Nat))]), (1000006, .var true [AV.fn (27 : Nat) [AV.ptr 1000004 0, AV.ptr 1000005 0, AV.ptr 1000006 0]])], tags := [(1000010, { n := X.length, e := (36 : Nat), sz := (2 : Nat), cs := some (false, nmsC X) }), (1000011, { n := W.A.length, e := (36 : Nat), sz := (2 : Nat), cs := some (false, nmsC W.A) }), (1000777, { n := W.V.length, e := (64 : Nat), sz := (1 : Nat), cs := some (false, valsC W.V) }), (1000014, { n := Y.length, e := (9 : Nat), sz := (1 : Nat), cs := some (false, strsC Y) }), (1000028, { n := out.length + (1 : Nat), e := (39 : Nat), sz := (5 : Nat), cs := some (true, evsC out ++ splice (repL (List.map zn [AV.int .i64 (0 : Int), AV.str (ByteArray.mk #[]), AV.str (ByteArray.mk #[]), AV.sl (some true) (0 : Nat) [] .clip, AV.str (ByteArray.mk #[])]) (1 : Nat)) ((0 : Nat) * (5 : Nat)) (cellsOf (AV.agg [AV.int .i64 (2 : Int), AV.str (ByteArray.mk #[]), AV.str (ByteArray.mk #[]), AV.sl none (0 : Nat) [] .no, AV.str (Y.getD i (ByteArray.mk #[]))]))) })] }))))))) (by kernel_rfl) (by
    have w2 : IntKind.i64.wrap ((i : Int) + 1) = ((i + 1 : Nat) : Int) := by rw [i64_wrap (by omega) (by omega)]; rfl
    have h0 : decide ((i : Int) < Y.length) = true := by simp; omega
    simp only [PT.holds, w2, h0, true_implies, Bool.false_eq_true, Bool.true_eq_false, false_implies, true_and, and_true]
    repeat' (with_reducible apply And.intro)
    all_goals first | omega | rfl | (rw [Nat.mul_one, Int.toNat_natCast]; exact strs_nth _ _ (by omega)) | exact head_eq k (by simp [stL2, labM, pthL, evsC, evC, atsC, nm0, splice, repL, cellsOf]))
theorem L2_e (p : Pth) (W : Wd) (X : List Nm) (Y : List ByteArray) (out : List Ev) (i : Nat) (hi : i = Y.length) : HT Tryd.prog Tryd.f11.ntmps (pt Tryd.f11 1) (stL2 p W X Y out i) (EndsA Γ (.pure [6000028] (.tup [.sl none out.length (evsC out) .no, .int .i64 0])) Tryd.f11) :=
  HT.walk Γ_ok mo_ok (⟨[(44, .val (.bool false)), (46, .val (.str ⟨#[]⟩))], (sp11).filter (fun x => !Nat.beq x 44), hd11 [] [(true, 1000005, 0, 1000028, 39, 5)] [1000004, 1000005, 1000006] [1000010, 1000011, 1000777, 1000014, 1000028], [], .pure [6000028] (.tup [.sl none out.length (evsC out) .no, .int .i64 0])⟩ : Wk) 4000 (T := .ob (decide ((↑i : Int) < (↑Y.length : Int)) = false) (.ob (out.length = out.length) (.ob (out.length = out.length) (.ob (evsC out = evsC out) (.ob ((0 : Int) = (0 : Int)) (.tt)))))) (by kernel_rfl) (by
    have h0 : decide ((i : Int) < Y.length) = false := by simp; omega
    simp only [PT.holds, h0, true_implies, Bool.false_eq_true, Bool.true_eq_false, false_implies, true_and, and_true]
    try trivial)
end Go.Proofs.YteimloiaipiadaaDoor
end

section
set_option linter.unusedVariables false
set_option linter.unusedSimpArgs false
set_option maxRecDepth 100000
namespace Go.Proofs.YteimloiaipiadaaDoor
open Go Go.AX

/-- Another name. -/
noncomputable def othN (l : List Nm) : Nm := ⟨⟨#[]⟩, frR (localsF l ++ [bZ0]) bZ (kOf bZ (localsF l ++ [bZ0])) [bZ]⟩
/-- Another text. -/
noncomputable def anoT (l : List ByteArray) : ByteArray := frR l ⟨#[]⟩ (kOf ⟨#[]⟩ l) []
noncomputable def opnW (W : Wd) (N : List Nm) : List Ev := N.flatMap fun n => labF W.A W.V ⟨1, n, [], ⟨#[]⟩⟩
def txtW (T : List ByteArray) : List Ev := T.map fun s => ⟨2, nm0, [], s⟩
/-- The labels. -/
noncomputable def labsW (W : Wd) : List Ev := opnW W (W.N ++ [othN W.N]) ++ txtW (W.T ++ [anoT W.T])
def prodV : List (List ByteArray) → Nat
  | [] => 1
  | v :: V => (v.length + 2) * prodV V
theorem flatMap_const {α β : Type} (f : α → List β) (m : Nat) (h : ∀ x, (f x).length = m) : ∀ l : List α, (l.flatMap f).length = l.length * m
  | [] => by simp
  | x :: l => by rw [List.flatMap_cons, List.length_append, h, flatMap_const f m h l, List.length_cons, Nat.add_mul, Nat.one_mul, Nat.add_comm]
theorem labF_len : ∀ (A : List Nm) (V : List (List ByteArray)) (e : Ev), V.length = A.length → (labF A V e).length = prodV V
  | [], V, e, h => by
    obtain rfl := List.eq_nil_of_length_eq_zero h
    simp [labF, prodV]
  | n :: A, [], e, h => by simp at h
  | n :: A, v :: V, e, h => by
    have h' : V.length = A.length := by simpa using h
    simp only [labF, prodV]
    rw [List.length_append, labF_len A V e h', flatMap_const _ (prodV V) (fun x => labF_len A V _ h'), List.length_append, List.length_singleton, show v.length + 2 = (v.length + 1) + 1 by omega, Nat.add_mul (v.length + 1) 1, Nat.one_mul, Nat.add_comm]
theorem opnW_len (W : Wd) (hV : W.V.length = W.A.length) (N : List Nm) : (opnW W N).length = N.length * prodV W.V := flatMap_const _ _ (fun n => labF_len _ _ _ hV) N
theorem labsW_len (W : Wd) (hV : W.V.length = W.A.length) : (labsW W).length = (W.N.length + 1) * prodV W.V + W.T.length + 1 := by
  unfold labsW
  rw [List.length_append, opnW_len W hV]
  simp [txtW]
  omega
theorem cnt_ge : ∀ (V : List (List ByteArray)) (n : Nat), 25 ≤ n → 25 ≤ V.foldl cntS n
  | [], n, h => h
  | v :: V, n, h => by
    rw [List.foldl_cons]
    refine cnt_ge V _ ?_
    unfold cntS
    split
    · omega
    · have : 25 * 1 ≤ n * (v.length + 2) := Nat.mul_le_mul h (by omega)
      omega
theorem cnt_eq : ∀ (V : List (List ByteArray)) (n : Nat), V.foldl cntS n ≤ 24 → V.foldl cntS n = n * prodV V
  | [], n, h => by simp [prodV]
  | v :: V, n, h => by
    rw [List.foldl_cons] at h ⊢
    have h1 : cntS n v = n * (v.length + 2) := by
      have h2 : cntS n v < 25 := by
        rcases Nat.lt_or_ge (cntS n v) 25 with h3 | h3
        · exact h3
        · have := cnt_ge V _ h3; omega
      unfold cntS at h2 ⊢
      split
      · rename_i h3; rw [if_pos h3] at h2; omega
      · rfl
    rw [cnt_eq V _ h, h1, prodV, Nat.mul_assoc]
theorem cnt_le : ∀ (V : List (List ByteArray)) (n : Nat), V.foldl cntS n ≤ n * prodV V
  | [], n => by simp [prodV]
  | v :: V, n => by
    rw [List.foldl_cons, prodV, ← Nat.mul_assoc]
    refine Nat.le_trans (cnt_le V _) (Nat.mul_le_mul_right _ ?_)
    unfold cntS
    split <;> omega
/-- The count tells whether there are too many. -/
theorem cntW_iff (W : Wd) (hV : W.V.length = W.A.length) : cntW W ≤ 24 ↔ (labsW W).length ≤ 24 := by
  rw [labsW_len W hV]
  unfold cntW
  constructor
  · intro h
    have := cnt_eq W.V (W.N.length + 1) (by omega)
    omega
  · intro h
    have := cnt_le W.V (W.N.length + 1)
    omega
theorem L2_l (p : Pth) (W : Wd) (X : List Nm) (Y : List ByteArray) (hY : Y.length ≤ 1000001) : ∀ d i out R, i + d = Y.length → R = out ++ txtW (Y.drop i) → R.length ≤ 1000000 → HT Tryd.prog Tryd.f11.ntmps (pt Tryd.f11 1) (stL2 p W X Y out i) (EndsA Γ (.pure [6000028] (.tup [.sl none R.length (evsC R) .no, .int .i64 0])) Tryd.f11) := by
  intro d
  induction d with
  | zero =>
    intro i out R h e hl
    rw [List.drop_of_length_le (by omega)] at e
    simp only [txtW, List.map_nil, List.append_nil] at e
    subst e
    exact L2_e p W X Y R i (by omega)
  | succ d ih =>
    intro i out R h e hl
    rw [drop_cons Y i ⟨#[]⟩ (by omega)] at e
    have e2 : R = out ++ [⟨2, nm0, [], Y.getD i ⟨#[]⟩⟩] ++ txtW (Y.drop (i + 1)) := by rw [e]; simp [txtW]
    have hlen := congrArg List.length e2
    simp only [List.length_append, List.length_singleton] at hlen
    exact L2_h p W X Y out R i (by omega) hY (by omega) (ih (i + 1) _ _ (by omega) e2 hl)
theorem L1_l (p : Pth) (W : Wd) (X : List Nm) (hX : X.length ≤ 1000001) (s : ByteArray) (hA : W.A.length ≤ 50000) (hV : W.V.length = W.A.length) (hVs : ∀ v ∈ W.V, v.length < 100) (hT : W.T.length ≤ 1000000) (hc : Ctr Tryd.prog 29 [.sl none W.T.length (strsC W.T) .no, .str ⟨#[]⟩, .sl (some true) 0 (strsC []) .clip] (.str s)) : ∀ d i out R, i + d = X.length → R = out ++ opnW W (X.drop i) ++ txtW (W.T ++ [s]) → R.length ≤ 1000000 → HT Tryd.prog Tryd.f11.ntmps (pt Tryd.f11 0) (stL1 p W X out i) (EndsA Γ (.pure [6000028] (.tup [.sl none R.length (evsC R) .no, .int .i64 0])) Tryd.f11) := by
  intro d
  induction d with
  | zero =>
    intro i out R h e hl
    rw [List.drop_of_length_le (by omega)] at e
    simp only [opnW, List.flatMap_nil, List.append_nil] at e
    exact L1_e p W X out R s i (by omega) hT hc (L2_l p W X _ (by rw [List.length_append, List.length_singleton]; omega) (W.T ++ [s]).length 0 out R (Nat.zero_add _) (by rw [List.drop_zero]; exact e) hl)
  | succ d ih =>
    intro i out R h e hl
    rw [drop_cons X i nm0 (by omega)] at e
    have e2 : R = (out ++ labF W.A W.V ⟨1, X.getD i nm0, [], ⟨#[]⟩⟩) ++ opnW W (X.drop (i + 1)) ++ txtW (W.T ++ [s]) := by rw [e]; simp [opnW]
    have hlen := congrArg List.length e2
    simp only [List.length_append] at hlen
    have k := lab_ctr W X W.N.length hA hV hVs W.A.length 0 (Nat.zero_add _) ⟨1, X.getD i nm0, [], ⟨#[]⟩⟩ out (by simp; omega) (by rw [List.drop_zero, List.drop_zero]; omega)
    rw [List.drop_zero, List.drop_zero] at k
    exact L1_h p W X out _ R i (by omega) hX k (ih (i + 1) _ _ (by omega) e2 hl)
theorem speaks_small (p : Pth) (hl : (filtersP p).length ≤ 64) : (spkW p).N.length ≤ 64 ∧ (spkW p).T.length ≤ 64 ∧ (spkW p).A.length ≤ 64 ∧ (spkW p).V.length = (spkW p).A.length ∧ ∀ v ∈ (spkW p).V, v.length ≤ 64 := by
  have h := spkW_ok p
  exact ⟨Nat.le_trans h.N hl, Nat.le_trans h.T hl, Nat.le_trans h.A hl, h.V, fun v hv => Nat.le_trans (h.vs v hv) hl⟩
theorem oth_ctr (W : Wd) (hN : W.N.length ≤ 64) : Ctr Tryd.prog 31 [.sl none W.N.length (nmsC W.N) .no] (.agg (nmC (othN W.N))) := by
  have hk := kOf_first bZ (localsF W.N ++ [bZ0])
  have h1 := localsF_len W.N []
  have h2 := hk.le
  unfold localsF at h2
  rw [List.length_append, List.length_singleton] at h2
  simp only [List.length_nil] at h1
  exact otherP_ctr W.N (by omega) _ hk (by unfold localsF; omega)
/-- The labels, or that there are too many. -/
theorem Labels_ctr (p : Pth) (hok : p.ok) (hl : (filtersP p).length ≤ 64) (h24 : (labsW (spkW p)).length ≤ 24) : Ctr Tryd.prog 11 [.agg (pthL p)] (.tup [.sl none (labsW (spkW p)).length (evsC (labsW (spkW p))) .no, .int .i64 0]) := by
  obtain ⟨h1, h2, h3, h4, h5⟩ := speaks_small p hl
  have hk := kOf_first ⟨#[]⟩ (spkW p).T
  have hkl := hk.le
  refine L_p p (spkW p) (othN (spkW p).N) _ (cntW (spkW p)) (speaks_ctr p hok (by omega)) (count_ctr _ (by omega) (by omega) (by omega) (fun v hv => by have := h5 v hv; omega)) (oth_ctr _ h1) (by omega) ((cntW_iff _ h4).2 h24) ?_
  refine L1_l p (spkW p) _ (by rw [List.length_append, List.length_singleton]; omega) (anoT (spkW p).T) (by omega) h4 (fun v hv => by have := h5 v hv; omega) (by omega) ?_ _ 0 [] _ (Nat.zero_add _) (by rw [List.drop_zero, List.nil_append]; rfl) (by omega)
  exact fresh_ctr (spkW p).T ⟨#[]⟩ (some true) [] (by simp) (by omega) (by decide) _ hk (by omega)
theorem Labels_ctr_f (p : Pth) (hok : p.ok) (hl : (filtersP p).length ≤ 64) (h24 : 24 < (labsW (spkW p)).length) : Ctr Tryd.prog 11 [.agg (pthL p)] (.tup [.sl none ([] : List Ev).length (evsC ([] : List Ev)) .no, .int .i64 13]) := by
  obtain ⟨h1, h2, h3, h4, h5⟩ := speaks_small p hl
  refine L_f p (spkW p) nm0 (cntW (spkW p)) (speaks_ctr p hok (by omega)) (count_ctr _ (by omega) (by omega) (by omega) (fun v hv => by have := h5 v hv; omega)) ?_
  rcases Nat.lt_or_ge 24 (cntW (spkW p)) with h | h
  · exact h
  · have := (cntW_iff _ h4).1 h; omega

end Go.Proofs.YteimloiaipiadaaDoor
end

section
set_option linter.unusedVariables false
set_option linter.unusedSimpArgs false
set_option maxRecDepth 100000
namespace Go.Proofs.YteimloiaipiadaaDoor
open Go Go.AX

end Go.Proofs.YteimloiaipiadaaDoor
end

section
set_option linter.unusedVariables false
set_option linter.unusedSimpArgs false
set_option maxRecDepth 100000
namespace Go.Proofs.YteimloiaipiadaaDoor
open Go Go.AX

theorem repL0 (l : List AV) : repL l 0 = [] := rfl
end Go.Proofs.YteimloiaipiadaaDoor
end

section
set_option linter.unusedVariables false
set_option linter.unusedSimpArgs false
set_option maxRecDepth 100000
namespace Go.Proofs.YteimloiaipiadaaDoor
open Go Go.AX

/-- What is answered: all, or that there are too many. -/
structure Good (R : List Ev) (c : Int) (t : List Ev) : Prop where
  few : t.length ≤ 24 → R = t ∧ c = 0
  many : 24 < t.length → R = [] ∧ c = 13
end Go.Proofs.YteimloiaipiadaaDoor
end

section
set_option linter.unusedVariables false
set_option linter.unusedSimpArgs false
set_option maxRecDepth 100000
namespace Go.Proofs.YteimloiaipiadaaDoor
open Go Go.AX

end Go.Proofs.YteimloiaipiadaaDoor
end

section
set_option linter.unusedVariables false
set_option linter.unusedSimpArgs false
set_option maxRecDepth 100000
namespace Go.Proofs.YteimloiaipiadaaDoor
open Go Go.AX

/-! Both tell the same. -/
theorem ixG_mem {α : Type} [DecidableEq α] (x d : α) (l : List α) : decide (0 ≤ ixG x l 0) = decide (x ∈ l) := by
  have := ixG_ge x d l
  by_cases h : x ∈ l
  · rw [this.2 h, decide_eq_true h]
  · rw [decide_eq_false h]
    cases e : decide (0 ≤ ixG x l 0) with
    | true => exact absurd (this.1 e) h
    | false => rfl
theorem alG_iff {α : Type} [DecidableEq α] (d : α) (l : List α) (a b : α) : alG l a b = true ↔ a = b ∨ (a ∉ l ∧ b ∉ l) := by
  unfold alG
  rw [ixG_mem a d, ixG_mem b d]
  simp
end Go.Proofs.YteimloiaipiadaaDoor
end

section
set_option linter.unusedVariables false
set_option linter.unusedSimpArgs false
set_option maxRecDepth 100000
namespace Go.Proofs.YteimloiaipiadaaDoor
open Go Go.AX

theorem addG_pos {α : Type} [DecidableEq α] (d : α) {l : List α} {x : α} (h : x ∈ l) : addG l x = l := by
  unfold addG; rw [if_pos (of_decide_eq_true ((ixG_ge x d l).2 h))]
theorem addG_neg {α : Type} [DecidableEq α] (d : α) {l : List α} {x : α} (h : x ∉ l) : addG l x = l ++ [x] := by
  unfold addG; rw [if_neg (fun h2 => h ((ixG_ge x d l).1 (decide_eq_true h2)))]
/-- What is spoken of, by the document's answer. -/
def refW (l : List Flt) : Wd := ⟨namesF 4 4 l, namesF 5 6 l, valsF l (namesF 5 6 l), valuesF 7 nm0 l⟩
theorem namesF_snoc (a b : Int) (l : List Flt) (f : Flt) : namesF a b (l ++ [f]) = stepN a b (namesF a b l) f := by simp [namesF]
theorem valuesF_snoc (o : Int) (n : Nm) (l : List Flt) (f : Flt) : valuesF o n (l ++ [f]) = stepV o n (valuesF o n l) f := by simp [valuesF]
theorem snoc_ind {α : Type} {P : List α → Prop} (h0 : P []) (h1 : ∀ l x, P l → P (l ++ [x])) : ∀ l, P l := by
  intro l
  have : ∀ r : List α, P r.reverse := fun r => by
    induction r with
    | nil => exact h0
    | cons x r ih => rw [List.reverse_cons]; exact h1 _ _ ih
  have := this l.reverse
  rwa [List.reverse_reverse] at this
theorem namesF_nodup (a b : Int) : ∀ l, (namesF a b l).Nodup := by
  refine snoc_ind ?_ (fun l f ih => ?_)
  · simp [namesF]
  · rw [namesF_snoc]
    unfold stepN
    split
    · rename_i h
      rw [List.nodup_append]
      exact ⟨ih, by simp, fun x hx y hy => by simp at hy; subst hy; exact fun e => h.2.2 (e ▸ hx)⟩
    · exact ih
theorem namesF_mem (a b : Int) (n : Nm) : ∀ l, n ∈ namesF a b l ↔ ∃ f ∈ l, a ≤ f.op ∧ f.op ≤ b ∧ f.nm = n := by
  refine snoc_ind ?_ (fun l f ih => ?_)
  · simp [namesF]
  · rw [namesF_snoc]
    unfold stepN
    constructor
    · intro h
      split at h
      · rename_i hc
        rcases List.mem_append.1 h with h | h
        · obtain ⟨g, hg, h2⟩ := ih.1 h
          exact ⟨g, List.mem_append.2 (.inl hg), h2⟩
        · simp at h
          exact ⟨f, by simp, hc.1, hc.2.1, h.symm⟩
      · obtain ⟨g, hg, h2⟩ := ih.1 h
        exact ⟨g, List.mem_append.2 (.inl hg), h2⟩
    · rintro ⟨g, hg, h1, h2, h3⟩
      rcases List.mem_append.1 hg with hg | hg
      · have := ih.2 ⟨g, hg, h1, h2, h3⟩
        split
        · exact List.mem_append.2 (.inl this)
        · exact this
      · simp at hg
        subst hg
        split
        · exact List.mem_append.2 (.inr (by simp [h3]))
        · rename_i hc
          refine Classical.byContradiction fun hn => hc ⟨h1, h2, ?_⟩
          rw [h3]
          exact hn
theorem valuesF_mem (o : Int) (n : Nm) (x : ByteArray) : ∀ l, x ∈ valuesF o n l ↔ ∃ f ∈ l, f.op = o ∧ f.nm = n ∧ f.val = x := by
  refine snoc_ind ?_ (fun l f ih => ?_)
  · simp [valuesF]
  · rw [valuesF_snoc]
    unfold stepV
    constructor
    · intro h
      split at h
      · rename_i hc
        rcases List.mem_append.1 h with h | h
        · obtain ⟨g, hg, h2⟩ := ih.1 h
          exact ⟨g, List.mem_append.2 (.inl hg), h2⟩
        · simp at h
          exact ⟨f, by simp, hc.1, hc.2.1, h.symm⟩
      · obtain ⟨g, hg, h2⟩ := ih.1 h
        exact ⟨g, List.mem_append.2 (.inl hg), h2⟩
    · rintro ⟨g, hg, h1, h2, h3⟩
      rcases List.mem_append.1 hg with hg | hg
      · have := ih.2 ⟨g, hg, h1, h2, h3⟩
        split
        · exact List.mem_append.2 (.inl this)
        · exact this
      · simp at hg
        subst hg
        split
        · exact List.mem_append.2 (.inr (by simp [h3]))
        · rename_i hc
          refine Classical.byContradiction fun hn => hc ⟨h1, h2, ?_⟩
          rw [h3]
          exact hasB_false _ _ hn
theorem valuesF_none (n : Nm) (l : List Flt) (h : n ∉ namesF 5 6 l) : valuesF 6 n l = [] := by
  cases e : valuesF 6 n l with
  | nil => rfl
  | cons x r =>
    have hx : x ∈ valuesF 6 n l := by rw [e]; simp
    obtain ⟨f, hf, h1, h2, _⟩ := (valuesF_mem 6 n x l).1 hx
    exact absurd ((namesF_mem 5 6 n l).2 ⟨f, hf, by omega, by omega, h2⟩) h
theorem map_set_nodup {β : Type} (A : List Nm) (hA : A.Nodup) (g g' : Nm → β) (i : Nat) (n : Nm) (hi : i < A.length) (hn : A.getD i nm0 = n) (hg : ∀ m, m ≠ n → g' m = g m) : (A.map g).set i (g' n) = A.map g' := by
  have hn' : A[i] = n := by rw [← hn, List.getD_eq_getElem?_getD, List.getElem?_eq_getElem hi]; rfl
  refine List.ext_getElem (by simp) (fun j h1 h2 => ?_)
  have hj : j < A.length := by simpa using h2
  rw [List.getElem_set]
  split
  · rename_i e
    subst e
    rw [List.getElem_map, hn']
  · rename_i e
    rw [List.getElem_map, List.getElem_map]
    refine (hg _ fun e2 => e ?_).symm
    exact (List.getElem_inj hA).1 (hn'.trans e2.symm)
theorem stepV_other (n m : Nm) (f : Flt) (l : List ByteArray) (h : m ≠ f.nm) : stepV 6 m l f = l := by
  unfold stepV; rw [if_neg (fun hc => h hc.2.1.symm)]
theorem stepV_op (o : Int) (n : Nm) (f : Flt) (l : List ByteArray) (h : f.op ≠ o) : stepV o n l f = l := by
  unfold stepV; rw [if_neg (fun hc => h hc.1)]
theorem stepN_op (a b : Int) (f : Flt) (l : List Nm) (h : ¬ (a ≤ f.op ∧ f.op ≤ b)) : stepN a b l f = l := by
  unfold stepN; rw [if_neg (fun hc => h ⟨hc.1, hc.2.1⟩)]
theorem stepN_add (a b : Int) (f : Flt) (l : List Nm) (h : a ≤ f.op ∧ f.op ≤ b) : stepN a b l f = addG l f.nm := by
  unfold stepN
  by_cases hm : f.nm ∈ l
  · rw [if_neg (fun hc => hc.2.2 hm), addG_pos nm0 hm]
  · rw [if_pos ⟨h.1, h.2, hm⟩, addG_neg nm0 hm]
theorem stepV_add (o : Int) (n : Nm) (f : Flt) (l : List ByteArray) (h : f.op = o) (hn : f.nm = n) : stepV o n l f = addG l f.val := by
  unfold stepV
  by_cases hm : f.val ∈ l
  · rw [if_neg (fun hc => by rw [(hasB_iff _ _).2 hm] at hc; exact absurd hc.2.2 (by decide)), addG_pos ⟨#[]⟩ hm]
  · rw [if_pos ⟨h, hn, hasB_false _ _ hm⟩, addG_neg ⟨#[]⟩ hm]
theorem valsF_snoc (l : List Flt) (f : Flt) (A : List Nm) : valsF (l ++ [f]) A = A.map fun n => stepV 6 n (valuesF 6 n l) f := by
  unfold valsF
  congr 1
  funext n
  rw [valuesF_snoc]
theorem attW_ref (l : List Flt) (n : Nm) : attW (refW l) n = ⟨namesF 4 4 l, addG (namesF 5 6 l) n, (addG (namesF 5 6 l) n).map (fun m => valuesF 6 m l), valuesF 7 nm0 l⟩ := by
  unfold attW refW
  by_cases h : n ∈ namesF 5 6 l
  · rw [if_pos (of_decide_eq_true ((ixG_ge n nm0 _).2 h)), addG_pos nm0 h]
    rfl
  · rw [if_neg (fun h2 => h ((ixG_ge n nm0 _).1 (decide_eq_true h2))), addG_neg nm0 h]
    simp [valsF, valuesF_none n l h]
theorem attI_ref (l : List Flt) (n : Nm) : (attI (refW l) n).toNat < (addG (namesF 5 6 l) n).length ∧ (addG (namesF 5 6 l) n).getD (attI (refW l) n).toNat nm0 = n := by
  unfold attI refW
  by_cases h : n ∈ namesF 5 6 l
  · rw [if_pos (of_decide_eq_true ((ixG_ge n nm0 _).2 h)), addG_pos nm0 h]
    rcases ixG_spec n nm0 (namesF 5 6 l) 0 with ⟨h1, _⟩ | ⟨j, h1, h2, h3⟩
    · exact absurd h h1
    · rw [h3]
      simpa using ⟨h1, h2⟩
  · rw [if_neg (fun h2 => h ((ixG_ge n nm0 _).1 (decide_eq_true h2))), addG_neg nm0 h]
    simp
theorem gstep_ref (l : List Flt) (f : Flt) (h7 : f.op = 7 → f.nm = nm0) : gstep (refW l) f = refW (l ++ [f]) := by
  unfold gstep
  split
  · rename_i h4
    unfold refW
    rw [namesF_snoc, namesF_snoc, valuesF_snoc, valsF_snoc, stepN_add 4 4 f _ (by omega), stepN_op 5 6 f _ (by omega), stepV_op 7 nm0 f _ (by omega)]
    congr 1
    show List.map _ _ = List.map _ _
    congr 1
    funext n
    rw [stepV_op 6 n f _ (by omega)]
  · split
    · rename_i _ h5
      rw [attW_ref]
      unfold refW
      rw [namesF_snoc, namesF_snoc, valuesF_snoc, valsF_snoc, stepN_op 4 4 f _ (by omega), stepN_add 5 6 f _ (by omega), stepV_op 7 nm0 f _ (by omega)]
      congr 1
      congr 1
      funext n
      rw [stepV_op 6 n f _ (by omega)]
    · split
      · rename_i _ _ h6
        obtain ⟨k1, k2⟩ := attI_ref l f.nm
        rw [attW_ref]
        simp only
        have hnd : (addG (namesF 5 6 l) f.nm).Nodup := by
          have := namesF_nodup 5 6 (l ++ [f])
          rwa [namesF_snoc, stepN_add 5 6 f _ (by omega)] at this
        have e1 : ((addG (namesF 5 6 l) f.nm).map (fun m => valuesF 6 m l)).getD (attI (refW l) f.nm).toNat [] = valuesF 6 f.nm l := by
          rw [List.getD_eq_getElem?_getD, List.getElem?_map]
          rw [List.getD_eq_getElem?_getD, List.getElem?_eq_getElem k1] at k2
          rw [List.getElem?_eq_getElem k1]
          simp only [Option.getD_some] at k2
          simp [k2]
        rw [e1, ← stepV_add 6 f.nm f _ h6 rfl, map_set_nodup _ hnd (fun m => valuesF 6 m l) (fun m => stepV 6 m (valuesF 6 m l) f) _ f.nm k1 k2 (fun m hm => stepV_other m m f _ hm)]
        unfold refW
        rw [namesF_snoc, namesF_snoc, valuesF_snoc, valsF_snoc, stepN_op 4 4 f _ (by omega), stepN_add 5 6 f _ (by omega), stepV_op 7 nm0 f _ (by omega)]
      · split
        · rename_i _ _ _ h7'
          unfold refW
          rw [namesF_snoc, namesF_snoc, valuesF_snoc, valsF_snoc, stepN_op 4 4 f _ (by omega), stepN_op 5 6 f _ (by omega), stepV_add 7 nm0 f _ h7' (h7 h7')]
          congr 1
          show List.map _ _ = List.map _ _
          congr 1
          funext n
          rw [stepV_op 6 n f _ (by omega)]
        · rename_i h4 h5 h6 h7'
          unfold refW
          rw [namesF_snoc, namesF_snoc, valuesF_snoc, valsF_snoc, stepN_op 4 4 f _ (by omega), stepN_op 5 6 f _ (by omega), stepV_op 7 nm0 f _ h7']
          congr 1
          show List.map _ _ = List.map _ _
          congr 1
          funext n
          rw [stepV_op 6 n f _ h6]
theorem fold_ref : ∀ l : List Flt, (∀ f ∈ l, f.op = 7 → f.nm = nm0) → l.foldl gstep wd0 = refW l := by
  refine snoc_ind ?_ (fun l f ih => ?_)
  · intro _; rfl
  · intro h
    rw [List.foldl_append, ih (fun g hg => h g (List.mem_append.2 (.inl hg)))]
    exact gstep_ref l f (h f (by simp))
/-- What the program gathers is what the document says. -/
theorem spkW_ref (p : Pth) (h : ∀ f ∈ filtersP p, f.op = 7 → f.nm = nm0) : spkW p = refW (filtersP p) := fold_ref _ h
end Go.Proofs.YteimloiaipiadaaDoor
end

section
set_option linter.unusedVariables false
set_option linter.unusedSimpArgs false
set_option maxRecDepth 100000
namespace Go.Proofs.YteimloiaipiadaaDoor
open Go Go.AX

mutual
/-- How many parts there are. -/
def partsP : Pth → Nat
  | .mk _ sub test => 1 + partsPs sub + partsFs test
def partsPs : List Pth → Nat
  | [] => 0
  | p :: r => partsP p + partsPs r
def partsF : Flt → Nat
  | .mk _ _ _ sub way => 1 + partsFs sub + partsPs way
def partsFs : List Flt → Nat
  | [] => 0
  | f :: r => partsF f + partsFs r
end
theorem partsP_eq (p : Pth) : partsP p = 1 + partsPs p.sub + partsFs p.test := by cases p; simp only [partsP, Pth.sub, Pth.test]
theorem partsF_eq (p : Flt) : partsF p = 1 + partsFs p.sub + partsPs p.way := by cases p; simp only [partsF, Flt.sub, Flt.way]
theorem sP1_l (p : Pth) (m : Nat) (hm : m ≤ 1000) (hl : p.test.length ≤ 1048600) (hc : ∀ q ∈ p.test, ∀ k : Nat, k ≤ 1000 → Ctr Tryd.prog 65 [.agg (fltL q), .int .i64 k] (.int .i64 (min (partsF q) (k + 1) : Nat))) : ∀ d i n, i + d = p.test.length → n ≤ m + 1 → HT Tryd.prog Tryd.f48.ntmps (pt Tryd.f48 1) (stP1 p m n i) (EndsA Γ (.pure [] (.int .i64 (min (n + partsFs (p.test.drop i)) (m + 1) : Nat))) Tryd.f48) := by
  intro d
  induction d with
  | zero =>
    intro i n h hn
    rw [List.drop_of_length_le (by omega)]
    have e : min (n + partsFs []) (m + 1) = n := by simp only [partsFs]; omega
    rw [e]
    exact sP1_e p m n i (.inl (by omega))
  | succ d ih =>
    intro i n h hn
    rcases Nat.lt_or_ge m n with h1 | h1
    · have e : min (n + partsFs (p.test.drop i)) (m + 1) = n := by omega
      rw [e]
      exact sP1_e p m n i (.inr h1)
    · have hk := hc _ (getD_mem p.test i flt0 (by omega)) (m - n) (by omega)
      have e2 : partsFs (p.test.drop i) = partsF (p.test.getD i flt0) + partsFs (p.test.drop (i + 1)) := by rw [drop_cons p.test i flt0 (by omega)]; simp only [partsFs]
      have k := ih (i + 1) (n + min (partsF (p.test.getD i flt0)) (m - n + 1)) (by omega) (by omega)
      have e : min (n + partsFs (p.test.drop i)) (m + 1) = min (n + min (partsF (p.test.getD i flt0)) (m - n + 1) + partsFs (p.test.drop (i + 1))) (m + 1) := by rw [e2]; omega
      rw [e]
      exact sP1_h p m n i _ (min (partsF (p.test.getD i flt0)) (m - n + 1)) (by omega) hl hm h1 (by omega) hk k
theorem sP0_l (p : Pth) (m : Nat) (hm : m ≤ 1000) (hl : p.sub.length ≤ 1048600) (hl2 : p.test.length ≤ 1048600) (hc : ∀ q ∈ p.sub, ∀ k : Nat, k ≤ 1000 → Ctr Tryd.prog 48 [.agg (pthL q), .int .i64 k] (.int .i64 (min (partsP q) (k + 1) : Nat))) (hc2 : ∀ q ∈ p.test, ∀ k : Nat, k ≤ 1000 → Ctr Tryd.prog 65 [.agg (fltL q), .int .i64 k] (.int .i64 (min (partsF q) (k + 1) : Nat))) : ∀ d i n, i + d = p.sub.length → n ≤ m + 1 → HT Tryd.prog Tryd.f48.ntmps (pt Tryd.f48 0) (stP0 p m n i) (EndsA Γ (.pure [] (.int .i64 (min (n + partsPs (p.sub.drop i) + partsFs p.test) (m + 1) : Nat))) Tryd.f48) := by
  intro d
  induction d with
  | zero =>
    intro i n h hn
    rw [List.drop_of_length_le (by omega)]
    have k := sP1_l p m hm hl2 hc2 p.test.length 0 n (Nat.zero_add _) hn
    rw [List.drop_zero] at k
    have e : n + partsPs [] + partsFs p.test = n + partsFs p.test := by simp only [partsPs]; omega
    rw [e]
    exact sP0_e p m n i _ (.inl (by omega)) k
  | succ d ih =>
    intro i n h hn
    rcases Nat.lt_or_ge m n with h1 | h1
    · have k := sP1_l p m hm hl2 hc2 p.test.length 0 n (Nat.zero_add _) hn
      rw [List.drop_zero] at k
      have e : min (n + partsPs (p.sub.drop i) + partsFs p.test) (m + 1) = min (n + partsFs p.test) (m + 1) := by omega
      rw [e]
      exact sP0_e p m n i _ (.inr h1) k
    · have hk := hc _ (getD_mem p.sub i pth0 (by omega)) (m - n) (by omega)
      have e2 : partsPs (p.sub.drop i) = partsP (p.sub.getD i pth0) + partsPs (p.sub.drop (i + 1)) := by rw [drop_cons p.sub i pth0 (by omega)]; simp only [partsPs]
      have k := ih (i + 1) (n + min (partsP (p.sub.getD i pth0)) (m - n + 1)) (by omega) (by omega)
      have e : min (n + partsPs (p.sub.drop i) + partsFs p.test) (m + 1) = min (n + min (partsP (p.sub.getD i pth0)) (m - n + 1) + partsPs (p.sub.drop (i + 1)) + partsFs p.test) (m + 1) := by rw [e2]; omega
      rw [e]
      exact sP0_h p m n i _ (min (partsP (p.sub.getD i pth0)) (m - n + 1)) (by omega) hl hm h1 (by omega) hk k
theorem sQ1_l (p : Flt) (m : Nat) (hm : m ≤ 1000) (hl : p.way.length ≤ 1048600) (hc : ∀ q ∈ p.way, ∀ k : Nat, k ≤ 1000 → Ctr Tryd.prog 48 [.agg (pthL q), .int .i64 k] (.int .i64 (min (partsP q) (k + 1) : Nat))) : ∀ d i n, i + d = p.way.length → n ≤ m + 1 → HT Tryd.prog Tryd.f65.ntmps (pt Tryd.f65 1) (stQ1 p m n i) (EndsA Γ (.pure [] (.int .i64 (min (n + partsPs (p.way.drop i)) (m + 1) : Nat))) Tryd.f65) := by
  intro d
  induction d with
  | zero =>
    intro i n h hn
    rw [List.drop_of_length_le (by omega)]
    have e : min (n + partsPs []) (m + 1) = n := by simp only [partsPs]; omega
    rw [e]
    exact sQ1_e p m n i (.inl (by omega))
  | succ d ih =>
    intro i n h hn
    rcases Nat.lt_or_ge m n with h1 | h1
    · have e : min (n + partsPs (p.way.drop i)) (m + 1) = n := by omega
      rw [e]
      exact sQ1_e p m n i (.inr h1)
    · have hk := hc _ (getD_mem p.way i pth0 (by omega)) (m - n) (by omega)
      have e2 : partsPs (p.way.drop i) = partsP (p.way.getD i pth0) + partsPs (p.way.drop (i + 1)) := by rw [drop_cons p.way i pth0 (by omega)]; simp only [partsPs]
      have k := ih (i + 1) (n + min (partsP (p.way.getD i pth0)) (m - n + 1)) (by omega) (by omega)
      have e : min (n + partsPs (p.way.drop i)) (m + 1) = min (n + min (partsP (p.way.getD i pth0)) (m - n + 1) + partsPs (p.way.drop (i + 1))) (m + 1) := by rw [e2]; omega
      rw [e]
      exact sQ1_h p m n i _ (min (partsP (p.way.getD i pth0)) (m - n + 1)) (by omega) hl hm h1 (by omega) hk k
theorem sQ0_l (p : Flt) (m : Nat) (hm : m ≤ 1000) (hl : p.sub.length ≤ 1048600) (hl2 : p.way.length ≤ 1048600) (hc : ∀ q ∈ p.sub, ∀ k : Nat, k ≤ 1000 → Ctr Tryd.prog 65 [.agg (fltL q), .int .i64 k] (.int .i64 (min (partsF q) (k + 1) : Nat))) (hc2 : ∀ q ∈ p.way, ∀ k : Nat, k ≤ 1000 → Ctr Tryd.prog 48 [.agg (pthL q), .int .i64 k] (.int .i64 (min (partsP q) (k + 1) : Nat))) : ∀ d i n, i + d = p.sub.length → n ≤ m + 1 → HT Tryd.prog Tryd.f65.ntmps (pt Tryd.f65 0) (stQ0 p m n i) (EndsA Γ (.pure [] (.int .i64 (min (n + partsFs (p.sub.drop i) + partsPs p.way) (m + 1) : Nat))) Tryd.f65) := by
  intro d
  induction d with
  | zero =>
    intro i n h hn
    rw [List.drop_of_length_le (by omega)]
    have k := sQ1_l p m hm hl2 hc2 p.way.length 0 n (Nat.zero_add _) hn
    rw [List.drop_zero] at k
    have e : n + partsFs [] + partsPs p.way = n + partsPs p.way := by simp only [partsFs]; omega
    rw [e]
    exact sQ0_e p m n i _ (.inl (by omega)) k
  | succ d ih =>
    intro i n h hn
    rcases Nat.lt_or_ge m n with h1 | h1
    · have k := sQ1_l p m hm hl2 hc2 p.way.length 0 n (Nat.zero_add _) hn
      rw [List.drop_zero] at k
      have e : min (n + partsFs (p.sub.drop i) + partsPs p.way) (m + 1) = min (n + partsPs p.way) (m + 1) := by omega
      rw [e]
      exact sQ0_e p m n i _ (.inr h1) k
    · have hk := hc _ (getD_mem p.sub i flt0 (by omega)) (m - n) (by omega)
      have e2 : partsFs (p.sub.drop i) = partsF (p.sub.getD i flt0) + partsFs (p.sub.drop (i + 1)) := by rw [drop_cons p.sub i flt0 (by omega)]; simp only [partsFs]
      have k := ih (i + 1) (n + min (partsF (p.sub.getD i flt0)) (m - n + 1)) (by omega) (by omega)
      have e : min (n + partsFs (p.sub.drop i) + partsPs p.way) (m + 1) = min (n + min (partsF (p.sub.getD i flt0)) (m - n + 1) + partsFs (p.sub.drop (i + 1)) + partsPs p.way) (m + 1) := by rw [e2]; omega
      rw [e]
      exact sQ0_h p m n i _ (min (partsF (p.sub.getD i flt0)) (m - n + 1)) (by omega) hl hm h1 (by omega) hk k

mutual
theorem sizeP_ctr (p : Pth) (hok : p.ok) (m : Nat) (hm : m ≤ 1000) : Ctr Tryd.prog 48 [.agg (pthL p), .int .i64 m] (.int .i64 (min (partsP p) (m + 1) : Nat)) := by
  have ho := Pth.ok_i hok
  have k := sP0_l p m hm ho.1 ho.2.1 (fun q hq k hk => have := sub_lt p q hq; sizeP_ctr q (ho.2.2.1 q hq) k hk) (fun q hq k hk => have := test_lt p q hq; sizeQ_ctr q (ho.2.2.2 q hq) k hk) p.sub.length 0 1 (Nat.zero_add _) (by omega)
  rw [List.drop_zero, ← partsP_eq] at k
  exact sP_p p m _ k
termination_by SizeOf.sizeOf p
theorem sizeQ_ctr (p : Flt) (hok : p.ok) (m : Nat) (hm : m ≤ 1000) : Ctr Tryd.prog 65 [.agg (fltL p), .int .i64 m] (.int .i64 (min (partsF p) (m + 1) : Nat)) := by
  have ho := Flt.ok_i hok
  have k := sQ0_l p m hm ho.2.2.1 ho.2.2.2.1 (fun q hq k hk => have := fsub_lt p q hq; sizeQ_ctr q (ho.2.2.2.2.1 q hq) k hk) (fun q hq k hk => have := way_lt p q hq; sizeP_ctr q (ho.2.2.2.2.2 q hq) k hk) p.sub.length 0 1 (Nat.zero_add _) (by omega)
  rw [List.drop_zero, ← partsF_eq] at k
  exact sQ_p p m _ k
termination_by SizeOf.sizeOf p
end
mutual
theorem filtersP_le : ∀ p : Pth, (filtersP p).length ≤ partsP p
  | .mk _ sub test => by
    simp only [filtersP, partsP, List.length_append]
    have h1 := filtersPs_le sub
    have h2 := withinFs_le test
    omega
theorem filtersPs_le : ∀ l : List Pth, (filtersPs l).length ≤ partsPs l
  | [] => by simp [filtersPs]
  | p :: r => by
    simp only [filtersPs, partsPs, List.length_append]
    have h1 := filtersP_le p
    have h2 := filtersPs_le r
    omega
theorem withinF_le : ∀ f : Flt, (withinF f).length ≤ partsF f
  | .mk o n v sub way => by
    simp only [withinF, partsF, List.length_append, List.length_cons]
    have h1 := withinFs_le sub
    have h2 := filtersPs_le way
    omega
theorem withinFs_le : ∀ l : List Flt, (withinFs l).length ≤ partsFs l
  | [] => by simp [withinFs]
  | f :: r => by
    simp only [withinFs, partsFs, List.length_append]
    have h1 := withinF_le f
    have h2 := withinFs_le r
    omega
end

theorem size23_ctr (p : Pth) (hok : p.ok) : Ctr Tryd.prog 23 [.agg (pthL p)] (.int .i64 (min (partsP p) 65 : Nat)) :=
  Ctr.mk Γ_ok Tryd.func23 (by kernel_rfl) Tryd.call23 [] (by kernel_rfl) (HT.walk Γ_ok mo_ok (⟨([(4, .call [] (.int .i64 (min (partsP p) 65 : Nat)))] ++ []), sp23, [], [], .pure [] (.int .i64 (min (partsP p) 65 : Nat))⟩ : Wk) 4000 (T := .ob ((3 : Nat) ≤ (3 : Nat)) (.ob (Ctr Tryd.prog 48 [AV.agg (pthL p), AV.int .i64 (64 : Int)] (AV.int .i64 (↑(min (partsP p) (65 : Nat)) : Int))) (.ob ((↑(min (partsP p) (65 : Nat)) : Int) = (↑(min (partsP p) (65 : Nat)) : Int)) (.tt)))) (by kernel_rfl) (by
    simp only [PT.holds, true_implies, Bool.false_eq_true, Bool.true_eq_false, false_implies, true_and, and_true]
    exact ⟨by omega, sizeP_ctr p hok 64 (by omega)⟩))
theorem rightp2_p (p : Pth) (hok : p.ok) (b : Bool) (hb : (b = true → p.r) ∧ Ctr Tryd.prog 24 [.agg (pthL p), .int .i64 16] (.bool b)) : ∃ x : Bool, (x = true → p.r ∧ partsP p ≤ 64) ∧ Ctr Tryd.prog 10 [.agg (pthL p)] (.bool x) := by
    have H : ∃ x : Bool, (x = true → p.r ∧ partsP p ≤ 64) ∧ PT.holds Tryd.prog Tryd.f10.ntmps (EndsA Γ (.pure [] (.bool x)) Tryd.f10) (.ob ((3 : Nat) ≤ (3 : Nat)) (.ob (Ctr Tryd.prog 23 [AV.agg (pthL p)] (AV.int .i64 (↑(min (partsP p) (65 : Nat)) : Int))) (.split (decide ((↑(min (partsP p) (65 : Nat)) : Int) ≤ (64 : Int))) (.ob ((3 : Nat) ≤ (3 : Nat)) (.ob (Ctr Tryd.prog 24 [AV.agg (pthL p), AV.int .i64 (16 : Int)] (AV.bool b)) (.ob (b = x) (.tt)))) (.ob (false = x) (.tt))))) := by
      simp only [PT.holds, true_implies, Bool.false_eq_true, Bool.true_eq_false, false_implies, true_and, and_true]
      (repeat' first | exact ⟨_, triv, rfl, trivial⟩ | exact ⟨_, triv, rfl⟩ | refine ex_split (fun _ => ?_) (fun _ => ?_) | refine ex_ob ?_ ?_)
      all_goals first | exact hb.2 | exact size23_ctr p hok | omega | (first | exact ⟨_, (fun h => absurd h (by decide)), rfl, trivial⟩ | exact ⟨_, (fun h => absurd h (by decide)), rfl⟩) | exact ⟨_, fun h => ⟨hb.1 h, by have := of_decide_eq_true ‹decide (((min (partsP p) 65 : Nat) : Int) ≤ 64) = true›; omega⟩, rfl⟩
    obtain ⟨x, hR, hx⟩ := H
    exact ⟨x, hR, Ctr.mk Γ_ok Tryd.func10 (by kernel_rfl) Tryd.call10 [] (by kernel_rfl) (HT.walk Γ_ok mo_ok (⟨([(4, .call [] (.int .i64 (min (partsP p) 65 : Nat))), (8, .call [] (.bool b))] ++ []), sp10, [], [], .pure [] (.bool x)⟩ : Wk) 4000 (by kernel_rfl) hx)⟩
theorem rightp2_ex (p : Pth) (hok : p.ok) : ∃ x : Bool, (x = true → p.r ∧ partsP p ≤ 64) ∧ Ctr Tryd.prog 10 [.agg (pthL p)] (.bool x) := by
  obtain ⟨b, hb⟩ := path_ex p hok 16
  exact rightp2_p p hok b hb
mutual
theorem filtersP_r : ∀ p : Pth, p.r → ∀ f ∈ filtersP p, f.r
  | .mk o sub test, h, f, hf => by
    cases h with
    | mk _ h1 hs ht =>
      simp only [filtersP, List.mem_append] at hf
      rcases hf with hf | hf
      · exact filtersPs_r sub hs f hf
      · exact withinFs_r test ht f hf
theorem filtersPs_r : ∀ l : List Pth, (∀ q ∈ l, q.r) → ∀ f ∈ filtersPs l, f.r
  | [], h, f, hf => by simp [filtersPs] at hf
  | p :: r, h, f, hf => by
    simp only [filtersPs, List.mem_append] at hf
    rcases hf with hf | hf
    · exact filtersP_r p (h p (by simp)) f hf
    · exact filtersPs_r r (fun q hq => h q (by simp [hq])) f hf
theorem withinF_r : ∀ g : Flt, g.r → ∀ f ∈ withinF g, f.r
  | .mk o n v sub way, h, f, hf => by
    have h' := h
    cases h with
    | mk _ h1 hs ht =>
      simp only [withinF, List.mem_append, List.mem_cons] at hf
      rcases hf with hf | hf | hf
      · rw [hf]; exact h'
      · exact withinFs_r sub hs f hf
      · exact filtersPs_r way ht f hf
theorem withinFs_r : ∀ l : List Flt, (∀ q ∈ l, q.r) → ∀ f ∈ withinFs l, f.r
  | [], h, f, hf => by simp [withinFs] at hf
  | g :: r, h, f, hf => by
    simp only [withinFs, List.mem_append] at hf
    rcases hf with hf | hf
    · exact withinF_r g (h g (by simp)) f hf
    · exact withinFs_r r (fun q hq => h q (by simp [hq])) f hf
end
theorem Flt.r_1 {f : Flt} (h : f.r) : f.r1 := by cases h; assumption
theorem spk_of_r (p : Pth) (h : p.r) : spkW p = refW (filtersP p) := spkW_ref p fun f hf h7 => Classical.byContradiction fun hn => by
  have := (Flt.r_1 (filtersP_r p h f hf)).named.2 hn
  omega
theorem filters_64 (p : Pth) (h : partsP p ≤ 64) : (filtersP p).length ≤ 64 := Nat.le_trans (filtersP_le p) h

end Go.Proofs.YteimloiaipiadaaDoor
end

section
set_option linter.unusedVariables false
set_option linter.unusedSimpArgs false
set_option maxRecDepth 100000
namespace Go.Proofs.YteimloiaipiadaaDoor
open Go Go.AX

def nA : Nm := ⟨⟨#[]⟩, ⟨#[97]⟩⟩
def fW : Flt := .mk 4 nA ⟨#[]⟩ [] []
def pW : Pth := .mk 7 [] [fW]
def eB : Ev := ⟨1, ⟨⟨#[]⟩, ⟨#[98]⟩⟩, [], ⟨#[]⟩⟩
def labsA : List Ev := [⟨1, nA, [], ⟨#[]⟩⟩, ⟨1, ⟨⟨#[]⟩, ⟨#[122]⟩⟩, [], ⟨#[]⟩⟩, ⟨2, nm0, [], ⟨#[48]⟩⟩]

theorem awake_p (h11 : Ctr Tryd.prog 11 [.agg (pthL pW)] (.tup [.sl none 3 (evsC labsA) .no, .int .i64 0])) (h15 : Ctr Tryd.prog 15 [.agg (pthL pW), .sl none 3 (evsC labsA) .no, .agg (evC eB)] (.int .i64 1)) : Ctr Tryd.prog 9 [] (.bool true) :=
  Ctr.mk Γ_ok Tryd.func9 (by kernel_rfl) Tryd.call9 [] (by kernel_rfl) (HT.walk Γ_ok mo_ok (⟨([(10, .call [] (.tup [.sl none 3 (evsC labsA) .no, .int .i64 0])), (48, .call [] (.int .i64 1))] ++ []), [], [], [], .pure [] (.bool true)⟩ : Wk) 4000 (T := .ob ((3 : Nat) ≤ (3 : Nat)) (.ob (Ctr Tryd.prog 11 [AV.agg [AV.int .i64 (7 : Int), AV.sl (some true) (0 : Nat) [] .clip, AV.sl (some false) (1 : Nat) [AV.int .i64 (4 : Int), AV.str (ByteArray.mk #[]), AV.str (ByteArray.mk #[(97 : UInt8)]), AV.str (ByteArray.mk #[]), AV.sl none (0 : Nat) [] .no, AV.sl none (0 : Nat) [] .no] .clip]] (AV.tup [AV.sl none (3 : Nat) [AV.int .i64 (1 : Int), AV.str nA.sp, AV.str nA.lo, AV.sl none (0 : Nat) [] .no, AV.str (ByteArray.mk #[]), AV.int .i64 (1 : Int), AV.str (ByteArray.mk #[]), AV.str (ByteArray.mk #[(122 : UInt8)]), AV.sl none (0 : Nat) [] .no, AV.str (ByteArray.mk #[]), AV.int .i64 (2 : Int), AV.str nm0.sp, AV.str nm0.lo, AV.sl none (0 : Nat) [] .no, AV.str (ByteArray.mk #[(48 : UInt8)])] .no, AV.int .i64 (0 : Int)])) (.ob ((0 : Int) ≤ (0 : Int) ∧ (0 : Int) < (↑(3 : Nat) : Int) ∧ Int.toNat (0 : Int) * (5 : Nat) < (evsC labsA).length) (.ob ((0 : Int) ≤ (1 : Int) ∧ (1 : Int) < (↑(3 : Nat) : Int) ∧ Int.toNat (1 : Int) * (5 : Nat) < (evsC labsA).length) (.ob ((0 : Int) ≤ (2 : Int) ∧ (2 : Int) < (↑(3 : Nat) : Int) ∧ Int.toNat (2 : Int) * (5 : Nat) < (evsC labsA).length) (.ob ((3 : Nat) ≤ (3 : Nat)) (.ob (Ctr Tryd.prog 15 [AV.agg [AV.int .i64 (7 : Int), AV.sl (some true) (0 : Nat) [] .clip, AV.sl (some false) (1 : Nat) [AV.int .i64 (4 : Int), AV.str (ByteArray.mk #[]), AV.str (ByteArray.mk #[(97 : UInt8)]), AV.str (ByteArray.mk #[]), AV.sl none (0 : Nat) [] .no, AV.sl none (0 : Nat) [] .no] .clip], AV.sl none (3 : Nat) [AV.int .i64 (1 : Int), AV.str nA.sp, AV.str nA.lo, AV.sl none (0 : Nat) [] .no, AV.str (ByteArray.mk #[]), AV.int .i64 (1 : Int), AV.str (ByteArray.mk #[]), AV.str (ByteArray.mk #[(122 : UInt8)]), AV.sl none (0 : Nat) [] .no, AV.str (ByteArray.mk #[]), AV.int .i64 (2 : Int), AV.str nm0.sp, AV.str nm0.lo, AV.sl none (0 : Nat) [] .no, AV.str (ByteArray.mk #[(48 : UInt8)])] .no, AV.agg [AV.int .i64 (1 : Int), AV.str (ByteArray.mk #[]), AV.str (ByteArray.mk #[(98 : UInt8)]), AV.sl (some true) (0 : Nat) [] .clip, AV.str (ByteArray.mk #[])]] (AV.int .i64 (1 : Int))) (.ob (true = true) (.tt))))))))) (by kernel_rfl) (by
    simp only [PT.holds, true_implies, Bool.false_eq_true, Bool.true_eq_false, false_implies, true_and, and_true]
    have hl : (evsC labsA).length = 15 := rfl
    refine ⟨by omega, h11.args rfl ?_, by omega, by omega, by omega, by omega, h15.args rfl ?_⟩
    all_goals (repeat' first | exact rfl | refine And.intro ?_ ?_)))
theorem pW_ok : pW.ok := by simp [pW, fW, nA, Pth.ok, Flt.ok, oksP, oksF, Nm.ok, ByteArray.size]
theorem pW_filters : filtersP pW = [fW] := by simp [pW, fW, filtersP, filtersPs, withinF, withinFs]
theorem pW_spk : spkW pW = ⟨[nA], [], [], []⟩ := by
  unfold spkW
  rw [pW_filters]
  rfl
theorem othA : othN [nA] = ⟨⟨#[]⟩, ⟨#[122]⟩⟩ := by
  have h : FirstZ [nA] 0 := ⟨by simp, by decide, fun j hj => by omega⟩
  have := other_same [nA] _ 0 (kOf_first bZ (localsF [nA] ++ [bZ0])) h
  unfold othN
  rw [this]
  rfl
theorem anoA : anoT [] = ⟨#[48]⟩ := by
  have hk := (kOf_first ⟨#[]⟩ []).le
  have h0 : kOf ⟨#[]⟩ [] = 0 := by simpa using hk
  unfold anoT
  rw [h0]
  simp only [frR]
  rw [digN_1 0 (by omega)]
  rfl
theorem labsA_eq : labsW (spkW pW) = labsA := by
  rw [pW_spk]
  unfold labsW
  rw [othA, anoA]
  simp [opnW, txtW, labF, labsA]
theorem awake_ctr : Ctr Tryd.prog 9 [] (.bool true) := by
  have h11 := Labels_ctr pW pW_ok (by rw [pW_filters]; decide) (by rw [labsA_eq]; decide)
  rw [labsA_eq] at h11
  have h15 := Class_ctr pW pW_ok (by rw [pW_filters]; decide) labsA eB (by decide) (fun x hx => by simp [labsA] at hx; rcases hx with rfl | rfl | rfl <;> simp) (by decide)
  have e : clsR (spkW pW) eB labsA 0 = 1 := by rw [pW_spk]; decide
  rw [e] at h15
  exact awake_p h11 h15

end Go.Proofs.YteimloiaipiadaaDoor
end

section
set_option linter.unusedVariables false
set_option linter.unusedSimpArgs false
set_option maxRecDepth 100000
namespace Go.Proofs.YteimloiaipiadaaDoor
open Go Go.AX

theorem node_p (e : Ev) (xr xf : Bool) (hr : (xr = true → EvR e ∧ e.nd) ∧ Ctr Tryd.prog 22 [.agg (evC e)] (.bool xr)) (hf : Ctr Tryd.prog 37 [.sl none 1 (evsC [e]) .no] (.bool xf)) : ∃ x : Bool, (x = true → EvR e ∧ e.nd ∧ e.kind ≠ 3) ∧ Ctr Tryd.prog 14 [.agg (evC e)] (.bool x) := by
    have H : ∃ x : Bool, (x = true → EvR e ∧ e.nd ∧ e.kind ≠ 3) ∧ PT.holds Tryd.prog Tryd.f14.ntmps (EndsA Γ (.pure [] (.bool x)) Tryd.f14) (.ob ((5 : Nat) ≤ (5 : Nat)) (.ob (Ctr Tryd.prog 22 [AV.agg (evC e)] (AV.bool xr)) (.split (xr) (.split (!decide (e.kind = (3 : Int))) (.ob ((5 : Nat) ≤ (5 : Nat)) (.ob (Ctr Tryd.prog 37 [AV.sl (some false) (1 : Nat) (evC e) .clip] (AV.bool xf)) (.ob (xf = x) (.tt)))) (.ob (false = x) (.tt))) (.ob (false = x) (.tt))))) := by
      simp only [PT.holds, true_implies, Bool.false_eq_true, Bool.true_eq_false, false_implies, true_and, and_true]
      have hf' : Ctr Tryd.prog 37 [.sl (some false) 1 (evC e) .clip] (.bool xf) := by
        refine hf.args rfl ?_
        refine ⟨rfl, ?_⟩
        simp [evsC, All]
      (repeat' first | exact ⟨_, triv, rfl, trivial⟩ | exact ⟨_, triv, rfl⟩ | refine ex_split (fun _ => ?_) (fun _ => ?_) | refine ex_ob ?_ ?_)
      all_goals first | exact hr.2 | exact hf' | omega | (first | exact ⟨_, (fun h => absurd h (by decide)), rfl, trivial⟩ | exact ⟨_, (fun h => absurd h (by decide)), rfl⟩) | (first | exact ⟨_, (fun _ => ⟨(hr.1 (by assumption)).1, (hr.1 (by assumption)).2, by simpa using ‹(!decide (e.kind = 3)) = true›⟩), rfl, trivial⟩ | exact ⟨_, (fun _ => ⟨(hr.1 (by assumption)).1, (hr.1 (by assumption)).2, by simpa using ‹(!decide (e.kind = 3)) = true›⟩), rfl⟩)
    obtain ⟨x, hR, hx⟩ := H
    exact ⟨x, hR, Ctr.mk Γ_ok Tryd.func14 (by kernel_rfl) Tryd.call14 [] (by kernel_rfl) (HT.walk Γ_ok mo_ok (⟨([(4, .call [] (.bool xr)), (13, .call [] (.bool xf))] ++ []), sp14, [], [], .pure [] (.bool x)⟩ : Wk) 4000 (by kernel_rfl) hx)⟩
theorem node_ex (e : Ev) (he : e.ok) : ∃ x : Bool, (x = true → EvR e ∧ e.nd ∧ e.kind ≠ 3) ∧ Ctr Tryd.prog 14 [.agg (evC e)] (.bool x) := by
  obtain ⟨xr, hr⟩ := evr2_ex e he
  obtain ⟨xf, _, hf⟩ := fewe_ex [e] (by simp)
  exact node_p e xr xf hr hf
/-! How long the attributes of labels are. -/
theorem labF_attrs : ∀ (A : List Nm) (V : List (List ByteArray)) (e x : Ev), x ∈ labF A V e → x.attrs.length ≤ e.attrs.length + A.length
  | [], V, e, x, h => by simp [labF] at h; subst h; simp
  | n :: A, [], e, x, h => by simp [labF] at h; subst h; simp
  | n :: A, v :: V, e, x, h => by
    simp only [labF, List.mem_append, List.mem_flatMap] at h
    rcases h with h | ⟨y, _, h⟩
    · have := labF_attrs A V e x h
      simp; omega
    · have := labF_attrs A V (addA e n y) x h
      simp [addA] at this ⊢
      omega
theorem labsW_attrs (W : Wd) (x : Ev) (h : x ∈ labsW W) : x.attrs.length ≤ W.A.length := by
  unfold labsW at h
  rcases List.mem_append.1 h with h | h
  · unfold opnW at h
    obtain ⟨n, _, h⟩ := List.mem_flatMap.1 h
    have := labF_attrs _ _ _ _ h
    simpa using this
  · unfold txtW at h
    obtain ⟨s, _, rfl⟩ := List.mem_map.1 h
    simp
/-- What is answered. -/
noncomputable def ansL (W : Wd) : List Ev := if (labsW W).length ≤ 24 then labsW W else []
noncomputable def ansC (W : Wd) : Int := if (labsW W).length ≤ 24 then 0 else 13
theorem Labels_all (p : Pth) (hok : p.ok) (hl : (filtersP p).length ≤ 64) : Ctr Tryd.prog 11 [.agg (pthL p)] (.tup [.sl none (ansL (spkW p)).length (evsC (ansL (spkW p))) .no, .int .i64 (ansC (spkW p))]) := by
  unfold ansL ansC
  by_cases h : (labsW (spkW p)).length ≤ 24
  · rw [if_pos h, if_pos h]
    exact Labels_ctr p hok hl h
  · rw [if_neg h, if_neg h]
    exact Labels_ctr_f p hok hl (by omega)
end Go.Proofs.YteimloiaipiadaaDoor
end

section
set_option linter.unusedVariables false
set_option linter.unusedSimpArgs false
set_option maxRecDepth 100000
namespace Go.Proofs.YteimloiaipiadaaDoor
open Go Go.AX Go.RowKit Go.WideShapes Go.ChangeShapes

/-! ### The bulk -/
theorem bulk_part {H : Type} {d : DataW H} {l : List (DataW H)} (h : d ∈ l) : Rows.uptoBulk d ≤ Rows.uptoBulkAll l := by
  induction l with
  | nil => cases h
  | cons x r ih =>
    simp only [Rows.uptoBulkAll]
    cases List.mem_cons.1 h with
    | inl e => subst e; omega
    | inr e => have := ih e; omega
theorem bulk_one {H : Type} (d : DataW H) : 1 ≤ Rows.uptoBulk d := by
  cases d with
  | lit l => cases l <;> simp [Rows.uptoBulk]
  | nil => simp [Rows.uptoBulk]
  | ptr d => simp [Rows.uptoBulk]
  | slice elems spare => simp [Rows.uptoBulk]
  | agg parts => simp [Rows.uptoBulk]
  | iface t d => simp [Rows.uptoBulk]
  | map entries => simp [Rows.uptoBulk]
  | held h => simp [Rows.uptoBulk]
theorem bulk_length {H : Type} (l : List (DataW H)) : l.length ≤ Rows.uptoBulkAll l := by
  induction l with
  | nil => simp [Rows.uptoBulkAll]
  | cons x r ih => have := bulk_one x; simp only [Rows.uptoBulkAll, List.length_cons]; omega
theorem bulk_meas (H : Type) : Meas (Rows.uptoBulk (H := H)) := by
  refine ⟨fun es sp x h => ?_, fun es sp => ?_, fun es x h => ?_, fun b => ?_⟩
  · have := bulk_part h
    simp only [Rows.uptoBulk]; omega
  · have := bulk_length es
    simp only [Rows.uptoBulk]; omega
  · have := bulk_part h
    simp only [Rows.uptoBulk]; omega
  · simp only [Rows.uptoBulk]; omega

/-! ### Names, attributes, events, paths -/
section
variable {H : Type} {enc : TypeId × Value → H} {w : World} {base : Nat} {spare : Nat → Bool} {held : Bool}
theorem open_str {n : Nat} {cs : List Value} {x : DataW H × List MemPlace} (h : DataW.trod enc Tryd.prog w base spare held n 9 cs = some x) (hx : Rows.uptoBulk x.1 ≤ 1048576) :
    ∃ s : ByteArray, cs = [.string s] ∧ s.size ≤ 1048600 := by
  obtain ⟨s, rfl, rfl, _⟩ := DataW.trod_string Tryd.underlying9 h
  have := (bulk_meas H).str s.data.toList
  have e : s.data.toList.length = s.size := by simp
  simp only at hx
  exact ⟨s, rfl, by omega⟩
theorem open_nm {n : Nat} {cs : List Value} {x : DataW H × List MemPlace} (h : DataW.trod enc Tryd.prog w base spare held n 36 cs = some x) (hx : Rows.uptoBulk x.1 ≤ 1048576) :
    ∃ a : Nm, Reps w (heldAt w) (nmC a) cs ∧ a.ok := by
  obtain ⟨xs, m, rfl, rfl, hl, hn, hf⟩ := DataW.trod_struct Tryd.underlying36 h
  have c36 : Tryd.prog.cellsOf 36 = 2 := by kernel_rfl
  have c9 : Tryd.prog.cellsOf 9 = 1 := by kernel_rfl
  rw [c36] at hl
  match cs, hl with
  | [c0, c1], _ =>
  have h0 : DataW.trod enc Tryd.prog w base spare held m 9 (([c0, c1].drop 0).take (Tryd.prog.cellsOf 9)) = _ := hf 0 _ rfl
  have h1 : DataW.trod enc Tryd.prog w base spare held m 9 (([c0, c1].drop 1).take (Tryd.prog.cellsOf 9)) = _ := hf 1 _ rfl
  simp only [c9] at h0 h1
  match xs, hn with
  | [x0, x1], _ =>
  have b0 := Nat.le_trans ((bulk_meas H).ag [x0.1, x1.1] x0.1 (by simp)) hx
  have b1 := Nat.le_trans ((bulk_meas H).ag [x0.1, x1.1] x1.1 (by simp)) hx
  obtain ⟨s0, e0, k0⟩ := open_str (x := x0) (by simpa using h0) b0
  obtain ⟨s1, e1, k1⟩ := open_str (x := x1) (by simpa using h1) b1
  simp only [List.drop_zero, List.take_succ_cons, List.take_zero, List.drop_succ_cons, List.cons.injEq, and_true] at e0 e1
  subst e0; subst e1
  exact ⟨⟨s0, s1⟩, .append (.one (.str _ _) rfl) (.one (.str _ _) rfl), k0, k1⟩
theorem open_atr {n : Nat} {cs : List Value} {x : DataW H × List MemPlace} (h : DataW.trod enc Tryd.prog w base spare held n 58 cs = some x) (hx : Rows.uptoBulk x.1 ≤ 1048576) :
    ∃ a : Atr, Reps w (heldAt w) (atC a) cs ∧ a.ok := by
  obtain ⟨xs, m, rfl, rfl, hl, hn, hf⟩ := DataW.trod_struct Tryd.underlying58 h
  have c58 : Tryd.prog.cellsOf 58 = 3 := by kernel_rfl
  have c9 : Tryd.prog.cellsOf 9 = 1 := by kernel_rfl
  have c36 : Tryd.prog.cellsOf 36 = 2 := by kernel_rfl
  rw [c58] at hl
  match cs, hl with
  | [v0, v1, v2], _ =>
  have h0 : DataW.trod enc Tryd.prog w base spare held m 36 (([v0, v1, v2].drop 0).take (Tryd.prog.cellsOf 36)) = _ := hf 0 _ rfl
  have h1 : DataW.trod enc Tryd.prog w base spare held m 9 (([v0, v1, v2].drop 2).take (Tryd.prog.cellsOf 9)) = _ := hf 1 _ rfl
  simp only [c9, c36] at h0 h1
  match xs, hn with
  | [x0, x1], _ =>
  have b0 := Nat.le_trans ((bulk_meas H).ag [x0.1, x1.1] x0.1 (by simp)) hx
  have b1 := Nat.le_trans ((bulk_meas H).ag [x0.1, x1.1] x1.1 (by simp)) hx
  obtain ⟨a, r0, k0⟩ := open_nm (x := x0) (by simpa using h0) b0
  obtain ⟨s1, e1, k1⟩ := open_str (x := x1) (by simpa using h1) b1
  simp only [List.drop_zero, List.take_succ_cons, List.take_zero, List.drop_succ_cons, List.cons.injEq, and_true] at e1 r0
  subst e1
  exact ⟨⟨a, s1⟩, Reps.append r0 (.one (.str _ _) rfl), k0, k1⟩
theorem open_atrs {n : Nat} {cs : List Value} {x : DataW H × List MemPlace} (h : DataW.trod enc Tryd.prog w base spare held n 37 cs = some x) (hx : Rows.uptoBulk x.1 ≤ 1048576) :
    ∃ l : List Atr, Reps w (heldAt w) [.sl none l.length (atsC l) .no] cs ∧ l.length ≤ 1048576 ∧ ∀ a ∈ l, a.ok :=
  open_list atC Atr.ok atC_len (by omega) (by kernel_rfl) Tryd.underlying37 (bulk_meas H) (fun n' _ cs x hh hb => open_atr hh hb) h hx
theorem open_int64 {n : Nat} {cs : List Value} {x : DataW H × List MemPlace} (h : DataW.trod enc Tryd.prog w base spare held n 3 cs = some x) : ∃ k : Int, cs = [.int .i64 k] ∧ (Lit.int .i64 k).wf = true := by
  obtain ⟨k, rfl, _, h⟩ := DataW.trod_int Tryd.underlying3 h
  exact ⟨k, rfl, h⟩
theorem open_ev {n : Nat} {cs : List Value} {x : DataW H × List MemPlace} (h : DataW.trod enc Tryd.prog w base spare held n 39 cs = some x) (hx : Rows.uptoBulk x.1 ≤ 1048576) :
    ∃ a : Ev, Reps w (heldAt w) (evC a) cs ∧ a.ok := by
  obtain ⟨xs, m, rfl, rfl, hl, hn, hf⟩ := DataW.trod_struct Tryd.underlying39 h
  have c39 : Tryd.prog.cellsOf 39 = 5 := by kernel_rfl
  have c9 : Tryd.prog.cellsOf 9 = 1 := by kernel_rfl
  have c3 : Tryd.prog.cellsOf 3 = 1 := by kernel_rfl
  have c36 : Tryd.prog.cellsOf 36 = 2 := by kernel_rfl
  have c37 : Tryd.prog.cellsOf 37 = 1 := by kernel_rfl
  rw [c39] at hl
  match cs, hl with
  | [v0, v1, v2, v3, v4], _ =>
  have h0 : DataW.trod enc Tryd.prog w base spare held m 3 (([v0, v1, v2, v3, v4].drop 0).take (Tryd.prog.cellsOf 3)) = _ := hf 0 _ rfl
  have h1 : DataW.trod enc Tryd.prog w base spare held m 36 (([v0, v1, v2, v3, v4].drop 1).take (Tryd.prog.cellsOf 36)) = _ := hf 1 _ rfl
  have h2 : DataW.trod enc Tryd.prog w base spare held m 37 (([v0, v1, v2, v3, v4].drop 3).take (Tryd.prog.cellsOf 37)) = _ := hf 2 _ rfl
  have h3 : DataW.trod enc Tryd.prog w base spare held m 9 (([v0, v1, v2, v3, v4].drop 4).take (Tryd.prog.cellsOf 9)) = _ := hf 3 _ rfl
  simp only [c9, c36, c3, c37] at h0 h1 h2 h3
  match xs, hn with
  | [x0, x1, x2, x3], _ =>
  have b1 := Nat.le_trans ((bulk_meas H).ag [x0.1, x1.1, x2.1, x3.1] x1.1 (by simp)) hx
  have b2 := Nat.le_trans ((bulk_meas H).ag [x0.1, x1.1, x2.1, x3.1] x2.1 (by simp)) hx
  have b3 := Nat.le_trans ((bulk_meas H).ag [x0.1, x1.1, x2.1, x3.1] x3.1 (by simp)) hx
  obtain ⟨k, e0, _⟩ := open_int64 (x := x0) (by simpa using h0)
  obtain ⟨a, r1, k1⟩ := open_nm (x := x1) (by simpa using h1) b1
  obtain ⟨l, r2, k2, k2'⟩ := open_atrs (x := x2) (by simpa using h2) b2
  obtain ⟨s, e3, k3⟩ := open_str (x := x3) (by simpa using h3) b3
  simp only [List.drop_zero, List.take_succ_cons, List.take_zero, List.drop_succ_cons, List.cons.injEq, and_true] at e0 r1 r2 e3
  subst e0; subst e3
  exact ⟨⟨k, a, l, s⟩, Reps.append (.one (.int _ _ _) rfl) (Reps.append r1 (Reps.append r2 (.one (.str _ _) rfl))), k1, k3, Nat.le_trans k2 (by omega), k2'⟩
theorem oksP_of : ∀ {l : List Pth}, (∀ p ∈ l, p.ok) → oksP l
  | [], _ => trivial
  | p :: r, h => ⟨h p List.mem_cons_self, oksP_of fun q hq => h q (List.mem_cons_of_mem _ hq)⟩
theorem oksF_of : ∀ {l : List Flt}, (∀ p ∈ l, p.ok) → oksF l
  | [], _ => trivial
  | p :: r, h => ⟨h p List.mem_cons_self, oksF_of fun q hq => h q (List.mem_cons_of_mem _ hq)⟩
theorem open_pf : ∀ (n : Nat), (∀ (cs : List Value) (x : DataW H × List MemPlace), DataW.trod enc Tryd.prog w base spare held n 25 cs = some x → Rows.uptoBulk x.1 ≤ 1048576 → ∃ a : Pth, Reps w (heldAt w) (pthC a) cs ∧ a.ok) ∧
    (∀ (cs : List Value) (x : DataW H × List MemPlace), DataW.trod enc Tryd.prog w base spare held n 55 cs = some x → Rows.uptoBulk x.1 ≤ 1048576 → ∃ a : Flt, Reps w (heldAt w) (fltC a) cs ∧ a.ok) := by
  intro n
  induction n using Nat.strongRecOn with
  | ind n ih =>
  have hP : ∀ n', n' < n → ∀ {cs : List Value} {x : DataW H × List MemPlace}, DataW.trod enc Tryd.prog w base spare held n' 22 cs = some x → Rows.uptoBulk x.1 ≤ 1048576 → ∃ l : List Pth, Reps w (heldAt w) [.sl none l.length (pthsC l) .no] cs ∧ l.length ≤ 1048576 ∧ ∀ a ∈ l, a.ok := by
    intro n' hn' cs x h hx
    obtain ⟨l, a, b⟩ := open_list pthC Pth.ok pthC_len (by omega) (by kernel_rfl) Tryd.underlying22 (bulk_meas H) (fun n'' hn'' cs x hh hb => (ih n'' (by omega)).1 cs x hh hb) h hx
    exact ⟨l, by rw [pthsC_eq]; exact a, b⟩
  have hF : ∀ n', n' < n → ∀ {cs : List Value} {x : DataW H × List MemPlace}, DataW.trod enc Tryd.prog w base spare held n' 23 cs = some x → Rows.uptoBulk x.1 ≤ 1048576 → ∃ l : List Flt, Reps w (heldAt w) [.sl none l.length (fltsC l) .no] cs ∧ l.length ≤ 1048576 ∧ ∀ a ∈ l, a.ok := by
    intro n' hn' cs x h hx
    obtain ⟨l, a, b⟩ := open_list fltC Flt.ok fltC_len (by omega) (by kernel_rfl) Tryd.underlying23 (bulk_meas H) (fun n'' hn'' cs x hh hb => (ih n'' (by omega)).2 cs x hh hb) h hx
    exact ⟨l, by rw [fltsC_eq]; exact a, b⟩
  have c9 : Tryd.prog.cellsOf 9 = 1 := by kernel_rfl
  have c3 : Tryd.prog.cellsOf 3 = 1 := by kernel_rfl
  have c36 : Tryd.prog.cellsOf 36 = 2 := by kernel_rfl
  have c22 : Tryd.prog.cellsOf 22 = 1 := by kernel_rfl
  have c23 : Tryd.prog.cellsOf 23 = 1 := by kernel_rfl
  refine ⟨fun cs x h hx => ?_, fun cs x h hx => ?_⟩
  · obtain ⟨xs, m, rfl, rfl, hl, hn, hf⟩ := DataW.trod_struct Tryd.underlying25 h
    have c25 : Tryd.prog.cellsOf 25 = 3 := by kernel_rfl
    rw [c25] at hl
    match cs, hl with
    | [v0, v1, v2], _ =>
    have h0 : DataW.trod enc Tryd.prog w base spare held m 3 (([v0, v1, v2].drop 0).take (Tryd.prog.cellsOf 3)) = _ := hf 0 _ rfl
    have h1 : DataW.trod enc Tryd.prog w base spare held m 22 (([v0, v1, v2].drop 1).take (Tryd.prog.cellsOf 22)) = _ := hf 1 _ rfl
    have h2 : DataW.trod enc Tryd.prog w base spare held m 23 (([v0, v1, v2].drop 2).take (Tryd.prog.cellsOf 23)) = _ := hf 2 _ rfl
    simp only [c3, c22, c23] at h0 h1 h2
    match xs, hn with
    | [x0, x1, x2], _ =>
    have b1 := Nat.le_trans ((bulk_meas H).ag [x0.1, x1.1, x2.1] x1.1 (by simp)) hx
    have b2 := Nat.le_trans ((bulk_meas H).ag [x0.1, x1.1, x2.1] x2.1 (by simp)) hx
    obtain ⟨k, e0, _⟩ := open_int64 (x := x0) (by simpa using h0)
    obtain ⟨l, r1, k1, k1'⟩ := hP m (by omega) (x := x1) (by simpa using h1) b1
    obtain ⟨l2, r2, k2, k2'⟩ := hF m (by omega) (x := x2) (by simpa using h2) b2
    simp only [List.drop_zero, List.take_succ_cons, List.take_zero, List.drop_succ_cons, List.cons.injEq, and_true] at e0 r1 r2
    subst e0
    exact ⟨.mk k l l2, by rw [pthC]; exact Reps.append (.one (.int _ _ _) rfl) (Reps.append r1 r2), by rw [Pth.ok]; exact ⟨by omega, by omega, oksP_of k1', oksF_of k2'⟩⟩
  · obtain ⟨xs, m, rfl, rfl, hl, hn, hf⟩ := DataW.trod_struct Tryd.underlying55 h
    have c55 : Tryd.prog.cellsOf 55 = 6 := by kernel_rfl
    rw [c55] at hl
    match cs, hl with
    | [v0, v1, v2, v3, v4, v5], _ =>
    have h0 : DataW.trod enc Tryd.prog w base spare held m 3 (([v0, v1, v2, v3, v4, v5].drop 0).take (Tryd.prog.cellsOf 3)) = _ := hf 0 _ rfl
    have h1 : DataW.trod enc Tryd.prog w base spare held m 36 (([v0, v1, v2, v3, v4, v5].drop 1).take (Tryd.prog.cellsOf 36)) = _ := hf 1 _ rfl
    have h2 : DataW.trod enc Tryd.prog w base spare held m 9 (([v0, v1, v2, v3, v4, v5].drop 3).take (Tryd.prog.cellsOf 9)) = _ := hf 2 _ rfl
    have h3 : DataW.trod enc Tryd.prog w base spare held m 23 (([v0, v1, v2, v3, v4, v5].drop 4).take (Tryd.prog.cellsOf 23)) = _ := hf 3 _ rfl
    have h4 : DataW.trod enc Tryd.prog w base spare held m 22 (([v0, v1, v2, v3, v4, v5].drop 5).take (Tryd.prog.cellsOf 22)) = _ := hf 4 _ rfl
    simp only [c3, c22, c23, c9, c36] at h0 h1 h2 h3 h4
    match xs, hn with
    | [x0, x1, x2, x3, x4], _ =>
    have b1 := Nat.le_trans ((bulk_meas H).ag [x0.1, x1.1, x2.1, x3.1, x4.1] x1.1 (by simp)) hx
    have b2 := Nat.le_trans ((bulk_meas H).ag [x0.1, x1.1, x2.1, x3.1, x4.1] x2.1 (by simp)) hx
    have b3 := Nat.le_trans ((bulk_meas H).ag [x0.1, x1.1, x2.1, x3.1, x4.1] x3.1 (by simp)) hx
    have b4 := Nat.le_trans ((bulk_meas H).ag [x0.1, x1.1, x2.1, x3.1, x4.1] x4.1 (by simp)) hx
    obtain ⟨k, e0, _⟩ := open_int64 (x := x0) (by simpa using h0)
    obtain ⟨a, r1, k1⟩ := open_nm (x := x1) (by simpa using h1) b1
    obtain ⟨s, e2, k2⟩ := open_str (x := x2) (by simpa using h2) b2
    obtain ⟨l3, r3, k3, k3'⟩ := hF m (by omega) (x := x3) (by simpa using h3) b3
    obtain ⟨l4, r4, k4, k4'⟩ := hP m (by omega) (x := x4) (by simpa using h4) b4
    simp only [List.drop_zero, List.take_succ_cons, List.take_zero, List.drop_succ_cons, List.cons.injEq, and_true] at e0 r1 e2 r3 r4
    subst e0; subst e2
    exact ⟨.mk k a s l3 l4, by rw [fltC]; exact Reps.append (.one (.int _ _ _) rfl) (Reps.append r1 (Reps.append (.one (.str _ _) rfl) (Reps.append r3 r4))), by rw [Flt.ok]; exact ⟨k1, k2, by omega, by omega, oksF_of k3', oksP_of k4'⟩⟩

/-! ### As arguments -/
theorem open_path {r : Reach} {b0 : Nat} {v : Value} {d : DataW H} {ps : List MemPlace} (hok : Value.okWide Tryd.prog w r b0 25 v) (h : DataW.Trod enc Tryd.prog w base spare held 25 v d ps) (hd : Rows.uptoBulk d ≤ 1048576) : ∃ p : Pth, Rep w (envF (heldAt w)) false (.agg (pthL p)) v ∧ p.ok := by
  obtain ⟨cs, rfl, hsz⟩ := okWide_struct Tryd.underlying25 hok
  obtain ⟨fuel, hf⟩ := h
  obtain ⟨p, hr, hk⟩ := (open_pf fuel).1 _ _ hf hd
  rw [pthC_L] at hr
  exact ⟨p, hr.agg, hk⟩
theorem open_event {r : Reach} {b0 : Nat} {v : Value} {d : DataW H} {ps : List MemPlace} (hok : Value.okWide Tryd.prog w r b0 39 v) (h : DataW.Trod enc Tryd.prog w base spare held 39 v d ps) (hd : Rows.uptoBulk d ≤ 1048576) : ∃ e : Ev, Rep w (envF (heldAt w)) false (.agg (evC e)) v ∧ e.ok := by
  obtain ⟨cs, rfl, hsz⟩ := okWide_struct Tryd.underlying39 hok
  obtain ⟨fuel, hf⟩ := h
  obtain ⟨e, hr, hk⟩ := open_ev hf hd
  exact ⟨e, hr.agg, hk⟩
/-- An argument read again. -/
theorem back {t : TypeId} {W W' : World} {v : Value} {d : DataW H} {ps : List MemPlace} (sp : Nat → Bool) (hl : laidOutB Tryd.prog = true) (hr : Tryd.prog.readableRec t = true) (hrow : t < Tryd.prog.types.size) (hb : Below W.heap.size W W') (h : DataW.Trod enc Tryd.prog W 0 (fun _ => true) true t v d ps) (hall : ∀ p ∈ ps, sp p.block = true) (hlt : ∀ x ∈ ps, x.block < W.heap.size) :
    DataW.Trod enc Tryd.prog W' 0 sp true t v d ps :=
  WideElems.Trod_stays hl hr hrow h (fun x hx => hb.same (hlt x hx)) (fun x hx => hall x hx)
end
end Go.Proofs.YteimloiaipiadaaDoor
end

section
set_option linter.unusedVariables false
set_option linter.unusedSimpArgs false
set_option maxRecDepth 100000
namespace Go.Proofs.YteimloiaipiadaaDoor
open Go Go.AX

/-! ### Each event has just one label -/
/-- What of a thing is told: which of those that are spoken of it is. -/
def cO {α : Type} [DecidableEq α] (d : α) (l : List α) (x : α) : Option α := if 0 ≤ ixG x l 0 then some x else none
theorem cO_in {α : Type} [DecidableEq α] (d : α) {l : List α} {x : α} (h : x ∈ l) : cO d l x = some x := by
  unfold cO; rw [if_pos (of_decide_eq_true ((ixG_ge x d l).2 h))]
theorem cO_out {α : Type} [DecidableEq α] (d : α) {l : List α} {x : α} (h : x ∉ l) : cO d l x = none := by
  unfold cO; rw [if_neg (fun h2 => h ((ixG_ge x d l).1 (decide_eq_true h2)))]
theorem cO_al {α : Type} [DecidableEq α] (d : α) (l : List α) (a b : α) : alG l a b = true ↔ cO d l a = cO d l b := by
  rw [alG_iff d]
  by_cases ha : a ∈ l <;> by_cases hb : b ∈ l
  · rw [cO_in d ha, cO_in d hb]
    simp only [Option.some.injEq]
    exact ⟨fun h => h.elim id (fun h => absurd ha h.1), .inl⟩
  · rw [cO_in d ha, cO_out d hb]
    exact ⟨fun h => h.elim (fun e => absurd (e ▸ ha) hb) (fun h => absurd ha h.1), fun h => by cases h⟩
  · rw [cO_out d ha, cO_in d hb]
    exact ⟨fun h => h.elim (fun e => absurd (e ▸ hb) ha) (fun h => absurd hb h.2), fun h => by cases h⟩
  · rw [cO_out d ha, cO_out d hb]
    exact ⟨fun _ => rfl, fun _ => .inr ⟨ha, hb⟩⟩
theorem cO_mem {α : Type} [DecidableEq α] (d : α) (l : List α) (x : α) : cO d l x ∈ l.map some ++ [none] := by
  by_cases h : x ∈ l
  · rw [cO_in d h]; simp [h]
  · rw [cO_out d h]; simp
def sigL : List Nm → List (List ByteArray) → List Atr → List (Bool × Option ByteArray)
  | n :: A, v :: V, l => ((atV l n).2, cO ⟨#[]⟩ v (atV l n).1) :: sigL A V l
  | _, _, _ => []
structure Sg where
  kind : Int
  nm : Option Nm
  text : Option ByteArray
  attrs : List (Bool × Option ByteArray)
def sigW (W : Wd) (e : Ev) : Sg := ⟨e.kind, cO nm0 W.N e.nm, cO ⟨#[]⟩ W.T e.text, sigL W.A W.V e.attrs⟩
theorem lkA_sig (a b : Ev) : ∀ (A : List Nm) (V : List (List ByteArray)), lkA a b A V = true ↔ sigL A V a.attrs = sigL A V b.attrs
  | [], V => by simp [lkA, sigL]
  | n :: A, [] => by simp [lkA, sigL]
  | n :: A, v :: V => by
    simp only [lkA, sigL, Bool.and_eq_true, List.cons.injEq, lkA_sig a b A V, Prod.mk.injEq]
    unfold lkA1
    rw [Bool.and_eq_true, cO_al ⟨#[]⟩, decide_eq_true_eq]
theorem likW_sig (W : Wd) (a b : Ev) : likW W a b = true ↔ sigW W a = sigW W b := by
  unfold likW sigW
  simp only [Bool.and_eq_true, decide_eq_true_eq, Sg.mk.injEq, cO_al nm0, cO_al (⟨#[]⟩ : ByteArray), lkA_sig]
/-- All ways to have attributes. -/
def allS : List Nm → List (List ByteArray) → List (List (Bool × Option ByteArray))
  | n :: A, v :: V => (allS A V).map (fun s => (false, cO ⟨#[]⟩ v ⟨#[]⟩) :: s) ++ (v.map some ++ [none]).flatMap (fun o => (allS A V).map (fun s => (true, o) :: s))
  | _, _ => [[]]
theorem atV_app_ne (l : List Atr) (a : Atr) (n : Nm) (h : a.nm ≠ n) : atV (l ++ [a]) n = atV l n := by
  unfold atV
  rw [List.find?_append]
  cases l.find? (fun a => decide (a.nm = n)) with
  | some x => rfl
  | none => simp [decide_eq_false h]
theorem atV_app_new (l : List Atr) (n : Nm) (x : ByteArray) (h : (atV l n).2 = false) : atV (l ++ [⟨n, x⟩]) n = (x, true) := by
  unfold atV at h ⊢
  rw [List.find?_append]
  cases e : l.find? (fun a => decide (a.nm = n)) with
  | some y => rw [e] at h; cases h
  | none => simp
theorem atV_none (l : List Atr) (n : Nm) (h : (atV l n).2 = false) : atV l n = (⟨#[]⟩, false) := by
  unfold atV at h ⊢
  cases e : l.find? (fun a => decide (a.nm = n)) with
  | some y => rw [e] at h; cases h
  | none => rfl
theorem labF_atV (m : Nm) : ∀ (A : List Nm) (V : List (List ByteArray)) (e x : Ev), m ∉ A → x ∈ labF A V e → atV x.attrs m = atV e.attrs m
  | [], V, e, x, hm, h => by simp [labF] at h; rw [h]
  | n :: A, [], e, x, hm, h => by simp [labF] at h; rw [h]
  | n :: A, v :: V, e, x, hm, h => by
    have hm' : m ∉ A := fun h2 => hm (by simp [h2])
    have hn : n ≠ m := fun h2 => hm (by simp [h2])
    simp only [labF, List.mem_append, List.mem_flatMap] at h
    rcases h with h | ⟨y, _, h⟩
    · exact labF_atV m A V e x hm' h
    · rw [labF_atV m A V (addA e n y) x hm' h]
      exact atV_app_ne _ _ _ hn
theorem anoB_out (v : List ByteArray) : anoB v ∉ v := by
  have hk := kOf_first ⟨#[]⟩ v
  unfold anoB
  simp only [frR]
  by_cases h : hasB v ⟨#[]⟩ = true
  · rw [if_pos h]; exact hk.out
  · rw [if_neg h]; exact fun h2 => h ((hasB_iff _ _).2 h2)
theorem anoT_out (v : List ByteArray) : anoT v ∉ v := (kOf_first ⟨#[]⟩ v).out
theorem othN_out (l : List Nm) : othN l ∉ l := by
  obtain ⟨k', hk'⟩ := firstZ_ex l
  have := other_same l _ k' (kOf_first bZ (localsF l ++ [bZ0])) hk'
  unfold othN
  rw [this]
  exact hk'.out
theorem map_ano (v : List ByteArray) (x : ByteArray) (hx : x ∉ v) : (v ++ [x]).map (cO ⟨#[]⟩ v) = v.map some ++ [none] := by
  rw [List.map_append, List.map_singleton, cO_out _ hx]
  congr 1
  exact List.map_congr_left fun y hy => cO_in _ hy
theorem map_oth (v : List Nm) (x : Nm) (hx : x ∉ v) : (v ++ [x]).map (cO nm0 v) = v.map some ++ [none] := by
  rw [List.map_append, List.map_singleton, cO_out _ hx]
  congr 1
  exact List.map_congr_left fun y hy => cO_in _ hy
theorem labF_sigs : ∀ (A : List Nm) (V : List (List ByteArray)) (e : Ev), A.Nodup → (∀ n ∈ A, (atV e.attrs n).2 = false) → (labF A V e).map (fun x => sigL A V x.attrs) = allS A V
  | [], V, e, hA, he => by simp [labF, allS, sigL]
  | n :: A, [], e, hA, he => by simp [labF, allS, sigL]
  | n :: A, v :: V, e, hA, he => by
    obtain ⟨hn, hA'⟩ := List.nodup_cons.1 hA
    have h0 := atV_none _ _ (he n (by simp))
    simp only [labF, allS, List.map_append, List.map_flatMap]
    congr 1
    · rw [← labF_sigs A V e hA' (fun m hm => he m (by simp [hm])), List.map_map]
      refine List.map_congr_left fun x hx => ?_
      simp only [sigL, Function.comp]
      rw [labF_atV n A V e x hn hx, h0]
    · rw [← map_ano v (anoB v) (anoB_out v), List.flatMap_map]
      congr 1
      funext y
      rw [← labF_sigs A V (addA e n y) hA' (fun m hm => (by
        have : n ≠ m := fun e2 => hn (e2 ▸ hm)
        simp only [addA]
        rw [atV_app_ne _ _ _ this]
        exact he m (by simp [hm]))), List.map_map]
      refine List.map_congr_left fun x hx => ?_
      simp only [sigL, Function.comp]
      rw [labF_atV n A V (addA e n y) x hn hx]
      simp only [addA]
      rw [atV_app_new _ _ _ (by rw [h0])]
theorem sigL_in (l : List Atr) : ∀ (A : List Nm) (V : List (List ByteArray)), sigL A V l ∈ allS A V
  | [], V => by simp [sigL, allS]
  | n :: A, [] => by simp [sigL, allS]
  | n :: A, v :: V => by
    have ih := sigL_in l A V
    simp only [sigL, allS, List.mem_append, List.mem_map, List.mem_flatMap]
    cases h : (atV l n).2 with
    | false =>
      left
      exact ⟨_, ih, by rw [atV_none l n h]⟩
    | true =>
      right
      have := cO_mem (⟨#[]⟩ : ByteArray) v (atV l n).1
      rw [List.mem_append, List.mem_map] at this
      exact ⟨_, this, _, ih, rfl⟩
theorem nodup_flat {α β : Type} (f : α → List β) (l : List α) (hl : l.Nodup) (hf : ∀ x ∈ l, (f x).Nodup) (hd : ∀ x ∈ l, ∀ y ∈ l, x ≠ y → ∀ z ∈ f x, z ∉ f y) : (l.flatMap f).Nodup := by
  induction l with
  | nil => simp
  | cons a l ih =>
    obtain ⟨ha, hl'⟩ := List.nodup_cons.1 hl
    rw [List.flatMap_cons, List.nodup_append]
    refine ⟨hf a (by simp), ih hl' (fun x hx => hf x (by simp [hx])) (fun x hx y hy => hd x (by simp [hx]) y (by simp [hy])), fun x hx y hy e => ?_⟩
    obtain ⟨b, hb, hyb⟩ := List.mem_flatMap.1 hy
    exact hd a (by simp) b (by simp [hb]) (fun e2 => ha (e2 ▸ hb)) x hx (e ▸ hyb)
theorem nodup_map {α β : Type} (f : α → β) (hf : ∀ x y, f x = f y → x = y) {l : List α} (hl : l.Nodup) : (l.map f).Nodup := by
  rw [List.Nodup, List.pairwise_map]
  exact hl.imp fun h e => h (hf _ _ e)
theorem opts_nodup {α : Type} {l : List α} (hl : l.Nodup) : (l.map some ++ [none]).Nodup := by
  rw [List.nodup_append]
  exact ⟨nodup_map _ (fun x y e => by simpa using e) hl, by simp, fun x hx y hy e => by simp at hy hx; subst hy; obtain ⟨z, _, rfl⟩ := hx; cases e⟩
theorem allS_nodup : ∀ (A : List Nm) (V : List (List ByteArray)), (∀ v ∈ V, v.Nodup) → (allS A V).Nodup
  | [], V, h => by simp [allS]
  | n :: A, [], h => by simp [allS]
  | n :: A, v :: V, h => by
    have ih := allS_nodup A V (fun v hv => h v (by simp [hv]))
    simp only [allS]
    rw [List.nodup_append]
    refine ⟨nodup_map _ (fun x y e => by simpa using e) ih, ?_, fun x hx y hy e => ?_⟩
    · refine nodup_flat _ _ (opts_nodup (h v (by simp))) (fun o _ => nodup_map _ (fun x y e => by simpa using e) ih) (fun o _ o' _ hne z hz hz' => ?_)
      obtain ⟨s, _, rfl⟩ := List.mem_map.1 hz
      obtain ⟨s', _, e⟩ := List.mem_map.1 hz'
      simp only [List.cons.injEq, Prod.mk.injEq, true_and] at e
      exact hne e.1.symm
    · obtain ⟨s, _, rfl⟩ := List.mem_map.1 hx
      obtain ⟨o, _, hy⟩ := List.mem_flatMap.1 hy
      obtain ⟨s', _, rfl⟩ := List.mem_map.1 hy
      simp at e
/-- What is spoken of is spoken of once. -/
structure Wd.nd (W : Wd) : Prop where
  N : W.N.Nodup
  A : W.A.Nodup
  T : W.T.Nodup
  vs : ∀ v ∈ W.V, v.Nodup
/-- The labels' marks. -/
def allW (W : Wd) : List Sg := (W.N.map some ++ [none]).flatMap (fun o => (allS W.A W.V).map (fun s => ⟨1, o, cO ⟨#[]⟩ W.T ⟨#[]⟩, s⟩)) ++ (W.T.map some ++ [none]).map (fun o => ⟨2, cO nm0 W.N nm0, o, sigL W.A W.V []⟩)
theorem labF_same : ∀ (A : List Nm) (V : List (List ByteArray)) (e x : Ev), x ∈ labF A V e → x.kind = e.kind ∧ x.nm = e.nm ∧ x.text = e.text
  | [], V, e, x, h => by simp [labF] at h; rw [h]; exact ⟨rfl, rfl, rfl⟩
  | n :: A, [], e, x, h => by simp [labF] at h; rw [h]; exact ⟨rfl, rfl, rfl⟩
  | n :: A, v :: V, e, x, h => by
    simp only [labF, List.mem_append, List.mem_flatMap] at h
    rcases h with h | ⟨y, _, h⟩
    · exact labF_same A V e x h
    · exact labF_same A V (addA e n y) x h
theorem labs_sigs (W : Wd) (hW : W.nd) : (labsW W).map (sigW W) = allW W := by
  unfold labsW allW
  rw [List.map_append]
  congr 1
  · unfold opnW
    rw [List.map_flatMap, ← map_oth W.N (othN W.N) (othN_out W.N), List.flatMap_map]
    congr 1
    funext n
    rw [← labF_sigs W.A W.V ⟨1, n, [], ⟨#[]⟩⟩ hW.A (fun m _ => rfl), List.map_map]
    refine List.map_congr_left fun x hx => ?_
    obtain ⟨h1, h2, h3⟩ := labF_same _ _ _ _ hx
    simp only [sigW, Function.comp, h1, h2, h3]
  · unfold txtW
    rw [← map_ano W.T (anoT W.T) (anoT_out W.T), List.map_map, List.map_map]
    rfl
theorem allW_nodup (W : Wd) (hW : W.nd) : (allW W).Nodup := by
  have hS := allS_nodup W.A W.V hW.vs
  unfold allW
  rw [List.nodup_append]
  refine ⟨nodup_flat _ _ (opts_nodup hW.N) (fun o _ => nodup_map _ (fun x y e => by simpa using e) hS) (fun o _ o' _ hne z hz hz' => ?_), nodup_map _ (fun x y e => by simpa using e) (opts_nodup hW.T), fun x hx y hy e => ?_⟩
  · obtain ⟨s, _, rfl⟩ := List.mem_map.1 hz
    obtain ⟨s', _, e⟩ := List.mem_map.1 hz'
    simp only [Sg.mk.injEq, true_and] at e
    exact hne e.1.symm
  · obtain ⟨o, _, hx⟩ := List.mem_flatMap.1 hx
    obtain ⟨s, _, rfl⟩ := List.mem_map.1 hx
    obtain ⟨o', _, rfl⟩ := List.mem_map.1 hy
    simp at e
theorem sig_in (W : Wd) (e : Ev) (hk : e.kind = 1 ∨ e.kind = 2) (hn : e.nd) : sigW W e ∈ allW W := by
  unfold allW sigW
  rw [List.mem_append]
  rcases hk with hk | hk
  · left
    rw [List.mem_flatMap]
    refine ⟨_, cO_mem nm0 W.N e.nm, List.mem_map.2 ⟨_, sigL_in e.attrs W.A W.V, ?_⟩⟩
    rw [hk, hn.elem (by omega)]
  · right
    obtain ⟨h1, h2⟩ := hn.text hk
    exact List.mem_map.2 ⟨_, cO_mem ⟨#[]⟩ W.T e.text, by rw [hk, h1, h2]⟩
/-- Where in a list something stands. -/
theorem nodup_at {α β : Type} (f : α → β) (d : α) (l : List α) (h : (l.map f).Nodup) (i j : Nat) (hi : i < l.length) (hj : j < l.length) (e : f (l.getD i d) = f (l.getD j d)) : i = j := by
  have := (List.getElem_inj h (i := i) (j := j) (h₀ := by simpa using hi) (h₁ := by simpa using hj)).1
  refine this ?_
  rw [List.getD_eq_getElem?_getD, List.getElem?_eq_getElem hi, List.getD_eq_getElem?_getD, List.getElem?_eq_getElem hj] at e
  simpa using e
/-- Just one label is like an event. -/
theorem just_one (W : Wd) (hW : W.nd) (e : Ev) (hk : e.kind = 1 ∨ e.kind = 2) (hn : e.nd) : ∃ k, k < (labsW W).length ∧ likW W ((labsW W).getD k ev0) e = true ∧ ∀ j, j < (labsW W).length → likW W ((labsW W).getD j ev0) e = true → j = k := by
  have hm := sig_in W e hk hn
  rw [← labs_sigs W hW] at hm
  obtain ⟨x, hx, hs⟩ := List.mem_map.1 hm
  obtain ⟨k, hk', rfl⟩ := List.getElem_of_mem hx
  have hd : (labsW W).getD k ev0 = (labsW W)[k] := by rw [List.getD_eq_getElem?_getD, List.getElem?_eq_getElem hk']; rfl
  have hnd := allW_nodup W hW
  rw [← labs_sigs W hW] at hnd
  refine ⟨k, hk', (likW_sig W _ _).2 (by rw [hd]; exact hs), fun j hj h => ?_⟩
  refine nodup_at (sigW W) ev0 _ hnd j k hj hk' ?_
  rw [(likW_sig W _ _).1 h, hd, hs]
/-- The first that is like an event, by where it stands. -/
theorem clsR_at (W : Wd) (e : Ev) : ∀ (l : List Ev) (i k : Nat), k < l.length → likW W (l.getD k ev0) e = true → (∀ j, j < k → likW W (l.getD j ev0) e = false) → clsR W e l i = ((i + k : Nat) : Int)
  | [], i, k, hk, _, _ => by simp at hk
  | x :: l, i, 0, hk, h, _ => by
    have h' : likW W x e = true := h
    simp only [clsR, h', if_true]
    rfl
  | x :: l, i, k + 1, hk, h, hl => by
    have h0 : likW W x e = false := hl 0 (by omega)
    simp only [clsR, h0]
    rw [if_neg (by decide), clsR_at W e l (i + 1) k (by simpa using hk) (by simpa using h) (fun j hj => by simpa using hl (j + 1) (by omega))]
    congr 1; omega
theorem valuesF_nodup (o : Int) (n : Nm) : ∀ l, (valuesF o n l).Nodup := by
  refine snoc_ind ?_ (fun l f ih => ?_)
  · simp [valuesF]
  · rw [valuesF_snoc]
    unfold stepV
    split
    · rename_i h
      rw [List.nodup_append]
      exact ⟨ih, by simp, fun x hx y hy e => by simp at hy; subst hy; subst e; rw [(hasB_iff _ _).2 hx] at h; exact absurd h.2.2 (by decide)⟩
    · exact ih
theorem refW_nd (l : List Flt) : (refW l).nd := ⟨namesF_nodup 4 4 l, namesF_nodup 5 6 l, valuesF_nodup 7 nm0 l, fun v hv => by
  obtain ⟨n, _, rfl⟩ := List.mem_map.1 hv
  exact valuesF_nodup 6 n l⟩
theorem spk_nd (p : Pth) (h : p.r) : (spkW p).nd := by rw [spk_of_r p h]; exact refW_nd _
end Go.Proofs.YteimloiaipiadaaDoor
end
