import Derived.Test.YteimloiaipiadaaDoorP6
section
set_option linter.unusedVariables false
set_option linter.unusedSimpArgs false
set_option maxRecDepth 100000
namespace Go.Proofs.YteimloiaipiadaaDoor
open Go Go.AX

def stepN (a b : Int) (out : List Nm) (f : Flt) : List Nm := if a ≤ f.op ∧ f.op ≤ b ∧ f.nm ∉ out then out ++ [f.nm] else out
def stepV (o : Int) (n : Nm) (out : List ByteArray) (f : Flt) : List ByteArray := if f.op = o ∧ f.nm = n ∧ hasB out f.val = false then out ++ [f.val] else out
def stNm (l : List Flt) (a b : Int) (out : List Nm) (i : Nat) : AS := ⟨[(0, .sl none l.length (fltsC l) .no), (1, .int .i64 a), (2, .int .i64 b), (7, .sl none out.length (nmsC out) (.own 1)), (8, .int .i64 i)], [], [(1, ⟨out.length, 36, 2, none⟩)]⟩
def stVa (l : List Flt) (o : Int) (n : Nm) (out : List ByteArray) (i : Nat) : AS := ⟨[(0, .sl none l.length (fltsC l) .no), (1, .int .i64 o), (5, .ptr 5 0), (7, .sl none out.length (strsC out) (.own 1)), (8, .int .i64 i)], [(5, .var true (nmC n))], [(1, ⟨out.length, 9, 1, none⟩)]⟩

theorem nm_h (l : List Flt) (a b : Int) (out R : List Nm) (i : Nat) (hi : i < l.length) (hl : l.length ≤ 1000000) (ho : out.length ≤ i) (k : HT Tryd.prog Tryd.f53.ntmps (pt Tryd.f53 0) (stNm l a b (stepN a b out (l.getD i flt0)) (i + 1)) (EndsA Γ (.pure [] (.sl none R.length (nmsC R) .no)) Tryd.f53)) : HT Tryd.prog Tryd.f53.ntmps (pt Tryd.f53 0) (stNm l a b out i) (EndsA Γ (.pure [] (.sl none R.length (nmsC R) .no)) Tryd.f53) :=
  HT.walk Γ_ok mo_ok (⟨[(12, .val (.bool true)), (19, .val (.int .i64 (l.getD i flt0).op)), (27, .val (.int .i64 (l.getD i flt0).op)), (37, .val (.agg (nmC (l.getD i flt0).nm))), (38, .call [] (.bool (decide ((l.getD i flt0).nm ∈ out)))), (46, .val (.agg (nmC (l.getD i flt0).nm)))], (sp53).filter (fun x => !Nat.beq x 12), hd53 [(7, 1, 36, 2)] [] [] [], [], .pure [] (.sl none R.length (nmsC R) .no)⟩ : Wk) 4000 (T := .ob (decide ((↑i : Int) < (↑l.length : Int)) = true) (.ob ((0 : Int) ≤ (↑i : Int) ∧ (↑i : Int) < (↑l.length : Int) ∧ (↑i : Int).toNat * (6 : Nat) < (fltsC l).length) (.ob ((fltsC l)[(↑i : Int).toNat * (6 : Nat) + (0 : Nat)]? = some (AV.int .i64 (l.getD i flt0).op)) (.split (decide (a ≤ (l.getD i flt0).op)) (.ob ((0 : Int) ≤ (↑i : Int) ∧ (↑i : Int) < (↑l.length : Int) ∧ (↑i : Int).toNat * (6 : Nat) < (fltsC l).length) (.ob ((fltsC l)[(↑i : Int).toNat * (6 : Nat) + (0 : Nat)]? = some (AV.int .i64 (l.getD i flt0).op)) (.split (decide ((l.getD i flt0).op ≤ b)) (.ob ((0 : Int) ≤ (↑i : Int) ∧ (↑i : Int) < (↑l.length : Int) ∧ (↑i : Int).toNat * (6 : Nat) < (fltsC l).length) (.ob (List.take (2 : Nat) (List.drop ((↑i : Int).toNat * (6 : Nat) + (1 : Nat)) (fltsC l)) = [AV.str (l.getD i flt0).nm.sp, AV.str (l.getD i flt0).nm.lo]) (.ob (Ctr Tryd.prog 70 [AV.sl none out.length (nmsC out) .no, AV.agg [AV.str (l.getD i flt0).nm.sp, AV.str (l.getD i flt0).nm.lo]] (AV.bool (decide ((l.getD i flt0).nm ∈ out)))) (.split (decide ((l.getD i flt0).nm ∈ out)) (.head (pt Tryd.f53 0) ({ tmps := [(0, AV.sl none l.length (fltsC l) .no), (1, AV.int .i64 a), (2, AV.int .i64 b), (7, AV.sl none out.length (nmsC out) (.own (1 : Nat))), (8, AV.int .i64 (IntKind.i64.wrap ((↑i : Int) + (1 : Int))))], heap := [], tags := [(1, { n := out.length, e := (36 : Nat), sz := (2 : Nat) })] })) (.ob ((0 : Int) ≤ (↑i : Int) ∧ (↑i : Int) < (↑l.length : Int) ∧ (↑i : Int).toNat * (6 : Nat) < (fltsC l).length) (.ob (List.take (2 : Nat) (List.drop ((↑i : Int).toNat * (6 : Nat) + (1 : Nat)) (fltsC l)) = [AV.str (l.getD i flt0).nm.sp, AV.str (l.getD i flt0).nm.lo]) (.ob (out.length = out.length) (.ob ((nmsC out).length = out.length * ((1 : Nat) + (1 : Nat)) ∧ (splice (repL (List.map zn [AV.str (ByteArray.mk #[]), AV.str (ByteArray.mk #[])]) (1 : Nat)) ((0 : Nat) * (2 : Nat)) (cellsOf (AV.agg [AV.str (l.getD i flt0).nm.sp, AV.str (l.getD i flt0).nm.lo]))).length = (1 : Nat) * ((1 : Nat) + (1 : Nat)) ∧ (out.length + (1 : Nat)) * ((31 : Nat) + (1 : Nat)) ≤ (140737488355328 : Nat)) (.head (pt Tryd.f53 0) ({ tmps := [(0, AV.sl none l.length (fltsC l) .no), (1, AV.int .i64 a), (2, AV.int .i64 b), (7, AV.sl none (out.length + (1 : Nat)) (nmsC out ++ splice (repL (List.map zn [AV.str (ByteArray.mk #[]), AV.str (ByteArray.mk #[])]) (1 : Nat)) ((0 : Nat) * (2 : Nat)) (cellsOf (AV.agg [AV.str (l.getD i flt0).nm.sp, AV.str (l.getD i flt0).nm.lo]))) (.own (1 : Nat))), (8, AV.int .i64 (IntKind.i64.wrap ((↑i : Int) + (1 : Int))))], heap := [], tags := [(1, { n := out.length + (1 : Nat), e := (36 : Nat), sz := (2 : Nat) })] })))))))))) (.head (pt Tryd.f53 0) ({ tmps := [(0, AV.sl none l.length (fltsC l) .no), (1, AV.int .i64 a), (2, AV.int .i64 b), (7, AV.sl none out.length (nmsC out) (.own (1 : Nat))), (8, AV.int .i64 (IntKind.i64.wrap ((↑i : Int) + (1 : Int))))], heap := [], tags := [(1, { n := out.length, e := (36 : Nat), sz := (2 : Nat) })] }))))) (.head (pt Tryd.f53 0) ({ tmps := [(0, AV.sl none l.length (fltsC l) .no), (1, AV.int .i64 a), (2, AV.int .i64 b), (7, AV.sl none out.length (nmsC out) (.own (1 : Nat))), (8, AV.int .i64 (IntKind.i64.wrap ((↑i : Int) + (1 : Int))))], heap := [], tags := [(1, { n := out.length, e := (36 : Nat), sz := (2 : Nat) })] })))))) (by kernel_rfl) (by
    have w2 : IntKind.i64.wrap ((i : Int) + 1) = ((i + 1 : Nat) : Int) := by rw [i64_wrap (by omega) (by omega)]; rfl
    have h0 : decide ((i : Int) < l.length) = true := by simp; omega
    simp only [PT.holds, w2, h0, Int.toNat_natCast, fltsC_len, nmsC_len, true_implies, Bool.false_eq_true, Bool.true_eq_false, false_implies, true_and, and_true]
    refine ⟨by omega, by ((try simp only [Nat.add_assoc, Nat.reduceAdd, Nat.add_zero]) <;> first | (rw [ats_take _ _ _ _ hi (by decide)]; rfl) | (rw [ats_nth _ _ _ hi (by decide)]; rfl) | (rw [flts_take _ _ _ _ hi (by decide)]; rfl) | (rw [flts_nth _ _ _ hi (by decide)]; rfl) | (rw [ats_take0 _ _ _ hi (by decide)]; rfl) | (rw [ats_nth0 _ _ hi]; rfl) | (rw [flts_take0 _ _ _ hi (by decide)]; rfl) | (rw [flts_nth0 _ _ hi]; rfl)), fun h1 => ⟨by omega, by ((try simp only [Nat.add_assoc, Nat.reduceAdd, Nat.add_zero]) <;> first | (rw [ats_take _ _ _ _ hi (by decide)]; rfl) | (rw [ats_nth _ _ _ hi (by decide)]; rfl) | (rw [flts_take _ _ _ _ hi (by decide)]; rfl) | (rw [flts_nth _ _ _ hi (by decide)]; rfl) | (rw [ats_take0 _ _ _ hi (by decide)]; rfl) | (rw [ats_nth0 _ _ hi]; rfl) | (rw [flts_take0 _ _ _ hi (by decide)]; rfl) | (rw [flts_nth0 _ _ hi]; rfl)), fun h2 => ⟨by omega, by ((try simp only [Nat.add_assoc, Nat.reduceAdd, Nat.add_zero]) <;> first | (rw [ats_take _ _ _ _ hi (by decide)]; rfl) | (rw [ats_nth _ _ _ hi (by decide)]; rfl) | (rw [flts_take _ _ _ _ hi (by decide)]; rfl) | (rw [flts_nth _ _ _ hi (by decide)]; rfl) | (rw [ats_take0 _ _ _ hi (by decide)]; rfl) | (rw [ats_nth0 _ _ hi]; rfl) | (rw [flts_take0 _ _ _ hi (by decide)]; rfl) | (rw [flts_nth0 _ _ hi]; rfl)), hn_ctr out _ (by omega), fun h3 => ?_, fun h3 => ⟨by omega, by ((try simp only [Nat.add_assoc, Nat.reduceAdd, Nat.add_zero]) <;> first | (rw [ats_take _ _ _ _ hi (by decide)]; rfl) | (rw [ats_nth _ _ _ hi (by decide)]; rfl) | (rw [flts_take _ _ _ _ hi (by decide)]; rfl) | (rw [flts_nth _ _ _ hi (by decide)]; rfl) | (rw [ats_take0 _ _ _ hi (by decide)]; rfl) | (rw [ats_nth0 _ _ hi]; rfl) | (rw [flts_take0 _ _ _ hi (by decide)]; rfl) | (rw [flts_nth0 _ _ hi]; rfl)), ⟨rfl, by omega⟩, ?_⟩⟩, fun h2 => ?_⟩, fun h1 => ?_⟩
    · rw [stepN, if_neg (fun h => h.2.2 (of_decide_eq_true h3))] at k
      exact head_eq k (by simp [stNm])
    · rw [stepN, if_pos ⟨of_decide_eq_true h1, of_decide_eq_true h2, of_decide_eq_false h3⟩] at k
      exact head_eq k (by simp [stNm, nmsC_app, splice, repL, cellsOf])
    · rw [stepN, if_neg (fun h => of_decide_eq_false h2 h.2.1)] at k
      exact head_eq k (by simp [stNm])
    · rw [stepN, if_neg (fun h => of_decide_eq_false h1 h.1)] at k
      exact head_eq k (by simp [stNm]))
theorem nm_e (l : List Flt) (a b : Int) (out : List Nm) (i : Nat) (hi : i = l.length) : HT Tryd.prog Tryd.f53.ntmps (pt Tryd.f53 0) (stNm l a b out i) (EndsA Γ (.pure [] (.sl none out.length (nmsC out) .no)) Tryd.f53) :=
  HT.walk Γ_ok mo_ok (⟨[(12, .val (.bool false)), (19, .val (.int .i64 (l.getD i flt0).op)), (27, .val (.int .i64 (l.getD i flt0).op)), (37, .val (.agg (nmC (l.getD i flt0).nm))), (38, .call [] (.bool (decide ((l.getD i flt0).nm ∈ out)))), (46, .val (.agg (nmC (l.getD i flt0).nm)))], (sp53).filter (fun x => !Nat.beq x 12), hd53 [(7, 1, 36, 2)] [] [] [], [], .pure [] (.sl none out.length (nmsC out) .no)⟩ : Wk) 4000 (T := .ob (decide ((↑i : Int) < (↑l.length : Int)) = false) (.ob (out.length = out.length) (.ob (nmsC out = nmsC out) (.tt)))) (by kernel_rfl) (by
    have h0 : decide ((i : Int) < l.length) = false := by simp; omega
    simp only [PT.holds, h0, true_implies, Bool.false_eq_true, Bool.true_eq_false, false_implies, true_and, and_true])
theorem va_h (l : List Flt) (o : Int) (n : Nm) (out R : List ByteArray) (i : Nat) (hi : i < l.length) (hl : l.length ≤ 1000000) (ho : out.length ≤ i) (k : HT Tryd.prog Tryd.f54.ntmps (pt Tryd.f54 0) (stVa l o n (stepV o n out (l.getD i flt0)) (i + 1)) (EndsA Γ (.pure [] (.sl none R.length (strsC R) .no)) Tryd.f54)) : HT Tryd.prog Tryd.f54.ntmps (pt Tryd.f54 0) (stVa l o n out i) (EndsA Γ (.pure [] (.sl none R.length (strsC R) .no)) Tryd.f54) :=
  HT.walk Γ_ok mo_ok (⟨[(12, .val (.bool true)), (19, .val (.int .i64 (l.getD i flt0).op)), (27, .val (.agg (nmC (l.getD i flt0).nm))), (37, .val (.str (l.getD i flt0).val)), (38, .call [] (.bool (hasB out (l.getD i flt0).val))), (46, .val (.str (l.getD i flt0).val))], (sp54).filter (fun x => !Nat.beq x 12), hd54 [(7, 1, 9, 1)] [] [] [], dsp54, .pure [] (.sl none R.length (strsC R) .no)⟩ : Wk) 4000 (T := .ob (decide ((↑i : Int) < (↑l.length : Int)) = true) (.or (.ob ((0 : Int) ≤ (↑i : Int) ∧ (↑i : Int) < (↑l.length : Int) ∧ (↑i : Int).toNat * (6 : Nat) < (fltsC l).length) (.ob ((fltsC l)[(↑i : Int).toNat * (6 : Nat) + (0 : Nat)]? = some (AV.int .i64 (l.getD i flt0).op)) (.ob (decide ((l.getD i flt0).op = o) = true) (.ob ((0 : Int) ≤ (↑i : Int) ∧ (↑i : Int) < (↑l.length : Int) ∧ (↑i : Int).toNat * (6 : Nat) < (fltsC l).length) (.ob (List.take (2 : Nat) (List.drop ((↑i : Int).toNat * (6 : Nat) + (1 : Nat)) (fltsC l)) = [AV.str (l.getD i flt0).nm.sp, AV.str (l.getD i flt0).nm.lo]) (.ob ((2 : Nat) ≤ (2 : Nat)) (.ob ((decide ((l.getD i flt0).nm.sp = n.sp) && (decide ((l.getD i flt0).nm.lo = n.lo) && true)) = true) (.ob ((0 : Int) ≤ (↑i : Int) ∧ (↑i : Int) < (↑l.length : Int) ∧ (↑i : Int).toNat * (6 : Nat) < (fltsC l).length) (.ob ((fltsC l)[(↑i : Int).toNat * (6 : Nat) + (3 : Nat)]? = some (AV.str (l.getD i flt0).val)) (.ob (Ctr Tryd.prog 34 [AV.sl none out.length (strsC out) .no, AV.str (l.getD i flt0).val] (AV.bool (hasB out (l.getD i flt0).val))) (.ob (hasB out (l.getD i flt0).val = true) (.head (pt Tryd.f54 0) ({ tmps := [(0, AV.sl none l.length (fltsC l) .no), (1, AV.int .i64 o), (5, AV.ptr 5 0), (7, AV.sl none out.length (strsC out) (.own (1 : Nat))), (8, AV.int .i64 (IntKind.i64.wrap ((↑i : Int) + (1 : Int))))], heap := [(5, .var true [AV.str n.sp, AV.str n.lo])], tags := [(1, { n := out.length, e := (9 : Nat), sz := (1 : Nat) })] }))))))))))))) (.or (.ob ((0 : Int) ≤ (↑i : Int) ∧ (↑i : Int) < (↑l.length : Int) ∧ (↑i : Int).toNat * (6 : Nat) < (fltsC l).length) (.ob ((fltsC l)[(↑i : Int).toNat * (6 : Nat) + (0 : Nat)]? = some (AV.int .i64 (l.getD i flt0).op)) (.ob (decide ((l.getD i flt0).op = o) = true) (.ob ((0 : Int) ≤ (↑i : Int) ∧ (↑i : Int) < (↑l.length : Int) ∧ (↑i : Int).toNat * (6 : Nat) < (fltsC l).length) (.ob (List.take (2 : Nat) (List.drop ((↑i : Int).toNat * (6 : Nat) + (1 : Nat)) (fltsC l)) = [AV.str (l.getD i flt0).nm.sp, AV.str (l.getD i flt0).nm.lo]) (.ob ((2 : Nat) ≤ (2 : Nat)) (.ob ((decide ((l.getD i flt0).nm.sp = n.sp) && (decide ((l.getD i flt0).nm.lo = n.lo) && true)) = true) (.ob ((0 : Int) ≤ (↑i : Int) ∧ (↑i : Int) < (↑l.length : Int) ∧ (↑i : Int).toNat * (6 : Nat) < (fltsC l).length) (.ob ((fltsC l)[(↑i : Int).toNat * (6 : Nat) + (3 : Nat)]? = some (AV.str (l.getD i flt0).val)) (.ob (Ctr Tryd.prog 34 [AV.sl none out.length (strsC out) .no, AV.str (l.getD i flt0).val] (AV.bool (hasB out (l.getD i flt0).val))) (.ob (hasB out (l.getD i flt0).val = false) (.ob ((0 : Int) ≤ (↑i : Int) ∧ (↑i : Int) < (↑l.length : Int) ∧ (↑i : Int).toNat * (6 : Nat) < (fltsC l).length) (.ob ((fltsC l)[(↑i : Int).toNat * (6 : Nat) + (3 : Nat)]? = some (AV.str (l.getD i flt0).val)) (.ob (out.length = out.length) (.ob ((strsC out).length = out.length * ((0 : Nat) + (1 : Nat)) ∧ (splice (repL (List.map zn [AV.str (ByteArray.mk #[])]) (1 : Nat)) ((0 : Nat) * (1 : Nat)) (cellsOf (AV.str (l.getD i flt0).val))).length = (1 : Nat) * ((0 : Nat) + (1 : Nat)) ∧ (out.length + (1 : Nat)) * ((15 : Nat) + (1 : Nat)) ≤ (140737488355328 : Nat)) (.head (pt Tryd.f54 0) ({ tmps := [(0, AV.sl none l.length (fltsC l) .no), (1, AV.int .i64 o), (5, AV.ptr 5 0), (7, AV.sl none (out.length + (1 : Nat)) (strsC out ++ splice (repL (List.map zn [AV.str (ByteArray.mk #[])]) (1 : Nat)) ((0 : Nat) * (1 : Nat)) (cellsOf (AV.str (l.getD i flt0).val))) (.own (1 : Nat))), (8, AV.int .i64 (IntKind.i64.wrap ((↑i : Int) + (1 : Int))))], heap := [(5, .var true [AV.str n.sp, AV.str n.lo])], tags := [(1, { n := out.length + (1 : Nat), e := (9 : Nat), sz := (1 : Nat) })] }))))))))))))))))) (.or (.ob ((0 : Int) ≤ (↑i : Int) ∧ (↑i : Int) < (↑l.length : Int) ∧ (↑i : Int).toNat * (6 : Nat) < (fltsC l).length) (.ob ((fltsC l)[(↑i : Int).toNat * (6 : Nat) + (0 : Nat)]? = some (AV.int .i64 (l.getD i flt0).op)) (.ob (decide ((l.getD i flt0).op = o) = true) (.ob ((0 : Int) ≤ (↑i : Int) ∧ (↑i : Int) < (↑l.length : Int) ∧ (↑i : Int).toNat * (6 : Nat) < (fltsC l).length) (.ob (List.take (2 : Nat) (List.drop ((↑i : Int).toNat * (6 : Nat) + (1 : Nat)) (fltsC l)) = [AV.str (l.getD i flt0).nm.sp, AV.str (l.getD i flt0).nm.lo]) (.ob ((2 : Nat) ≤ (2 : Nat)) (.ob ((decide ((l.getD i flt0).nm.sp = n.sp) && (decide ((l.getD i flt0).nm.lo = n.lo) && true)) = false) (.head (pt Tryd.f54 0) ({ tmps := [(0, AV.sl none l.length (fltsC l) .no), (1, AV.int .i64 o), (5, AV.ptr 5 0), (7, AV.sl none out.length (strsC out) (.own (1 : Nat))), (8, AV.int .i64 (IntKind.i64.wrap ((↑i : Int) + (1 : Int))))], heap := [(5, .var true [AV.str n.sp, AV.str n.lo])], tags := [(1, { n := out.length, e := (9 : Nat), sz := (1 : Nat) })] }))))))))) (.ob ((0 : Int) ≤ (↑i : Int) ∧ (↑i : Int) < (↑l.length : Int) ∧ (↑i : Int).toNat * (6 : Nat) < (fltsC l).length) (.ob ((fltsC l)[(↑i : Int).toNat * (6 : Nat) + (0 : Nat)]? = some (AV.int .i64 (l.getD i flt0).op)) (.ob (decide ((l.getD i flt0).op = o) = false) (.head (pt Tryd.f54 0) ({ tmps := [(0, AV.sl none l.length (fltsC l) .no), (1, AV.int .i64 o), (5, AV.ptr 5 0), (7, AV.sl none out.length (strsC out) (.own (1 : Nat))), (8, AV.int .i64 (IntKind.i64.wrap ((↑i : Int) + (1 : Int))))], heap := [(5, .var true [AV.str n.sp, AV.str n.lo])], tags := [(1, { n := out.length, e := (9 : Nat), sz := (1 : Nat) })] }))))))))) (by kernel_rfl) (by
    have w2 : IntKind.i64.wrap ((i : Int) + 1) = ((i + 1 : Nat) : Int) := by rw [i64_wrap (by omega) (by omega)]; rfl
    have h0 : decide ((i : Int) < l.length) = true := by simp; omega
    simp only [PT.holds, w2, h0, nm_eq, Int.toNat_natCast, fltsC_len, strsC_len, true_implies, Bool.false_eq_true, Bool.true_eq_false, false_implies, true_and, and_true]
    by_cases h1 : (l.getD i flt0).op = o
    · by_cases h2 : (l.getD i flt0).nm = n
      · cases h3 : hasB out (l.getD i flt0).val with
        | true =>
          rw [stepV, if_neg (fun h => by rw [h3] at h; exact absurd h.2.2 (by decide))] at k
          exact .inl ⟨by omega, by ((try simp only [Nat.add_assoc, Nat.reduceAdd, Nat.add_zero]) <;> first | (rw [ats_take _ _ _ _ hi (by decide)]; rfl) | (rw [ats_nth _ _ _ hi (by decide)]; rfl) | (rw [flts_take _ _ _ _ hi (by decide)]; rfl) | (rw [flts_nth _ _ _ hi (by decide)]; rfl) | (rw [ats_take0 _ _ _ hi (by decide)]; rfl) | (rw [ats_nth0 _ _ hi]; rfl) | (rw [flts_take0 _ _ _ hi (by decide)]; rfl) | (rw [flts_nth0 _ _ hi]; rfl)), decide_eq_true h1, by omega, by ((try simp only [Nat.add_assoc, Nat.reduceAdd, Nat.add_zero]) <;> first | (rw [ats_take _ _ _ _ hi (by decide)]; rfl) | (rw [ats_nth _ _ _ hi (by decide)]; rfl) | (rw [flts_take _ _ _ _ hi (by decide)]; rfl) | (rw [flts_nth _ _ _ hi (by decide)]; rfl) | (rw [ats_take0 _ _ _ hi (by decide)]; rfl) | (rw [ats_nth0 _ _ hi]; rfl) | (rw [flts_take0 _ _ _ hi (by decide)]; rfl) | (rw [flts_nth0 _ _ hi]; rfl)), by omega, decide_eq_true h2, by omega, by ((try simp only [Nat.add_assoc, Nat.reduceAdd, Nat.add_zero]) <;> first | (rw [ats_take _ _ _ _ hi (by decide)]; rfl) | (rw [ats_nth _ _ _ hi (by decide)]; rfl) | (rw [flts_take _ _ _ _ hi (by decide)]; rfl) | (rw [flts_nth _ _ _ hi (by decide)]; rfl) | (rw [ats_take0 _ _ _ hi (by decide)]; rfl) | (rw [ats_nth0 _ _ hi]; rfl) | (rw [flts_take0 _ _ _ hi (by decide)]; rfl) | (rw [flts_nth0 _ _ hi]; rfl)), by rw [← h3]; exact hs_ctr out _ (by omega), rfl, head_eq k (by simp [stVa, nmC])⟩
        | false =>
          rw [stepV, if_pos ⟨h1, h2, h3⟩] at k
          refine .inr (.inl ⟨by omega, by ((try simp only [Nat.add_assoc, Nat.reduceAdd, Nat.add_zero]) <;> first | (rw [ats_take _ _ _ _ hi (by decide)]; rfl) | (rw [ats_nth _ _ _ hi (by decide)]; rfl) | (rw [flts_take _ _ _ _ hi (by decide)]; rfl) | (rw [flts_nth _ _ _ hi (by decide)]; rfl) | (rw [ats_take0 _ _ _ hi (by decide)]; rfl) | (rw [ats_nth0 _ _ hi]; rfl) | (rw [flts_take0 _ _ _ hi (by decide)]; rfl) | (rw [flts_nth0 _ _ hi]; rfl)), decide_eq_true h1, by omega, by ((try simp only [Nat.add_assoc, Nat.reduceAdd, Nat.add_zero]) <;> first | (rw [ats_take _ _ _ _ hi (by decide)]; rfl) | (rw [ats_nth _ _ _ hi (by decide)]; rfl) | (rw [flts_take _ _ _ _ hi (by decide)]; rfl) | (rw [flts_nth _ _ _ hi (by decide)]; rfl) | (rw [ats_take0 _ _ _ hi (by decide)]; rfl) | (rw [ats_nth0 _ _ hi]; rfl) | (rw [flts_take0 _ _ _ hi (by decide)]; rfl) | (rw [flts_nth0 _ _ hi]; rfl)), by omega, decide_eq_true h2, by omega, by ((try simp only [Nat.add_assoc, Nat.reduceAdd, Nat.add_zero]) <;> first | (rw [ats_take _ _ _ _ hi (by decide)]; rfl) | (rw [ats_nth _ _ _ hi (by decide)]; rfl) | (rw [flts_take _ _ _ _ hi (by decide)]; rfl) | (rw [flts_nth _ _ _ hi (by decide)]; rfl) | (rw [ats_take0 _ _ _ hi (by decide)]; rfl) | (rw [ats_nth0 _ _ hi]; rfl) | (rw [flts_take0 _ _ _ hi (by decide)]; rfl) | (rw [flts_nth0 _ _ hi]; rfl)), by rw [← h3]; exact hs_ctr out _ (by omega), rfl, by omega, by ((try simp only [Nat.add_assoc, Nat.reduceAdd, Nat.add_zero]) <;> first | (rw [ats_take _ _ _ _ hi (by decide)]; rfl) | (rw [ats_nth _ _ _ hi (by decide)]; rfl) | (rw [flts_take _ _ _ _ hi (by decide)]; rfl) | (rw [flts_nth _ _ _ hi (by decide)]; rfl) | (rw [ats_take0 _ _ _ hi (by decide)]; rfl) | (rw [ats_nth0 _ _ hi]; rfl) | (rw [flts_take0 _ _ _ hi (by decide)]; rfl) | (rw [flts_nth0 _ _ hi]; rfl)), ⟨by omega, rfl, by omega⟩, head_eq k ?_⟩)
          simp [stVa, nmC, strsC_app, splice, repL, cellsOf]
      · rw [stepV, if_neg (fun h => h2 h.2.1)] at k
        exact .inr (.inr (.inl ⟨by omega, by ((try simp only [Nat.add_assoc, Nat.reduceAdd, Nat.add_zero]) <;> first | (rw [ats_take _ _ _ _ hi (by decide)]; rfl) | (rw [ats_nth _ _ _ hi (by decide)]; rfl) | (rw [flts_take _ _ _ _ hi (by decide)]; rfl) | (rw [flts_nth _ _ _ hi (by decide)]; rfl) | (rw [ats_take0 _ _ _ hi (by decide)]; rfl) | (rw [ats_nth0 _ _ hi]; rfl) | (rw [flts_take0 _ _ _ hi (by decide)]; rfl) | (rw [flts_nth0 _ _ hi]; rfl)), decide_eq_true h1, by omega, by ((try simp only [Nat.add_assoc, Nat.reduceAdd, Nat.add_zero]) <;> first | (rw [ats_take _ _ _ _ hi (by decide)]; rfl) | (rw [ats_nth _ _ _ hi (by decide)]; rfl) | (rw [flts_take _ _ _ _ hi (by decide)]; rfl) | (rw [flts_nth _ _ _ hi (by decide)]; rfl) | (rw [ats_take0 _ _ _ hi (by decide)]; rfl) | (rw [ats_nth0 _ _ hi]; rfl) | (rw [flts_take0 _ _ _ hi (by decide)]; rfl) | (rw [flts_nth0 _ _ hi]; rfl)), by omega, decide_eq_false h2, head_eq k (by simp [stVa, nmC])⟩))
    · rw [stepV, if_neg (fun h => h1 h.1)] at k
      exact .inr (.inr (.inr ⟨by omega, by ((try simp only [Nat.add_assoc, Nat.reduceAdd, Nat.add_zero]) <;> first | (rw [ats_take _ _ _ _ hi (by decide)]; rfl) | (rw [ats_nth _ _ _ hi (by decide)]; rfl) | (rw [flts_take _ _ _ _ hi (by decide)]; rfl) | (rw [flts_nth _ _ _ hi (by decide)]; rfl) | (rw [ats_take0 _ _ _ hi (by decide)]; rfl) | (rw [ats_nth0 _ _ hi]; rfl) | (rw [flts_take0 _ _ _ hi (by decide)]; rfl) | (rw [flts_nth0 _ _ hi]; rfl)), decide_eq_false h1, head_eq k (by simp [stVa, nmC])⟩)))
theorem va_e (l : List Flt) (o : Int) (n : Nm) (out : List ByteArray) (i : Nat) (hi : i = l.length) : HT Tryd.prog Tryd.f54.ntmps (pt Tryd.f54 0) (stVa l o n out i) (EndsA Γ (.pure [] (.sl none out.length (strsC out) .no)) Tryd.f54) :=
  HT.walk Γ_ok mo_ok (⟨[(12, .val (.bool false)), (19, .val (.int .i64 (l.getD i flt0).op)), (27, .val (.agg (nmC (l.getD i flt0).nm))), (37, .val (.str (l.getD i flt0).val)), (38, .call [] (.bool (hasB out (l.getD i flt0).val))), (46, .val (.str (l.getD i flt0).val))], (sp54).filter (fun x => !Nat.beq x 12), hd54 [(7, 1, 9, 1)] [] [] [], dsp54, .pure [] (.sl none out.length (strsC out) .no)⟩ : Wk) 4000 (T := .ob (decide ((↑i : Int) < (↑l.length : Int)) = false) (.ob (out.length = out.length) (.ob (strsC out = strsC out) (.tt)))) (by kernel_rfl) (by
    have h0 : decide ((i : Int) < l.length) = false := by simp; omega
    simp only [PT.holds, h0, true_implies, Bool.false_eq_true, Bool.true_eq_false, false_implies, true_and, and_true])
def namesF (a b : Int) (l : List Flt) : List Nm := l.foldl (stepN a b) []
def valuesF (o : Int) (n : Nm) (l : List Flt) : List ByteArray := l.foldl (stepV o n) []
theorem stepN_len (a b : Int) (out : List Nm) (f : Flt) : (stepN a b out f).length ≤ out.length + 1 := by unfold stepN; split <;> simp
theorem stepV_len (o : Int) (n : Nm) (out : List ByteArray) (f : Flt) : (stepV o n out f).length ≤ out.length + 1 := by unfold stepV; split <;> simp
theorem drop_cons {α : Type} (l : List α) (i : Nat) (d : α) (h : i < l.length) : l.drop i = l.getD i d :: l.drop (i + 1) := by
  rw [List.drop_eq_getElem_cons h, List.getD_eq_getElem?_getD, List.getElem?_eq_getElem h]
  rfl
theorem nm_l (l : List Flt) (a b : Int) (hl : l.length ≤ 1000000) : ∀ d i out, i + d = l.length → out.length ≤ i → HT Tryd.prog Tryd.f53.ntmps (pt Tryd.f53 0) (stNm l a b out i) (EndsA Γ (.pure [] (.sl none ((l.drop i).foldl (stepN a b) out).length (nmsC ((l.drop i).foldl (stepN a b) out)) .no)) Tryd.f53) := by
  intro d
  induction d with
  | zero =>
    intro i out h ho
    rw [List.drop_of_length_le (by omega)]
    exact nm_e l a b out i (by omega)
  | succ d ih =>
    intro i out h ho
    have hlt : i < l.length := by omega
    have hs := stepN_len a b out (l.getD i flt0)
    rw [drop_cons l i flt0 hlt, List.foldl_cons]
    exact nm_h l a b out _ i hlt hl ho (ih (i + 1) _ (by omega) (by omega))
theorem va_l (l : List Flt) (o : Int) (n : Nm) (hl : l.length ≤ 1000000) : ∀ d i out, i + d = l.length → out.length ≤ i → HT Tryd.prog Tryd.f54.ntmps (pt Tryd.f54 0) (stVa l o n out i) (EndsA Γ (.pure [] (.sl none ((l.drop i).foldl (stepV o n) out).length (strsC ((l.drop i).foldl (stepV o n) out)) .no)) Tryd.f54) := by
  intro d
  induction d with
  | zero =>
    intro i out h ho
    rw [List.drop_of_length_le (by omega)]
    exact va_e l o n out i (by omega)
  | succ d ih =>
    intro i out h ho
    have hlt : i < l.length := by omega
    have hs := stepV_len o n out (l.getD i flt0)
    rw [drop_cons l i flt0 hlt, List.foldl_cons]
    exact va_h l o n out _ i hlt hl ho (ih (i + 1) _ (by omega) (by omega))

theorem names_ctr0 (l : List Flt) (a b : Int) (R : List Nm) (k : HT Tryd.prog Tryd.f53.ntmps (pt Tryd.f53 0) (stNm l a b [] 0) (EndsA Γ (.pure [] (.sl none R.length (nmsC R) .no)) Tryd.f53)) : Ctr Tryd.prog 53 [.sl none l.length (fltsC l) .no, .int .i64 a, .int .i64 b] (.sl none R.length (nmsC R) .no) :=
  Ctr.mk Γ_ok Tryd.func53 (by kernel_rfl) Tryd.call53 [] (by kernel_rfl) (HT.walk Γ_ok mo_ok (⟨[], sp53, hd53 [(7, 1, 36, 2)] [] [] [], [], .pure [] (.sl none R.length (nmsC R) .no)⟩ : Wk) 4000 (T := .head (pt Tryd.f53 0) ({ tmps := [(0, AV.sl none l.length (fltsC l) .no), (1, AV.int .i64 a), (2, AV.int .i64 b), (7, AV.sl none (0 : Nat) [] (.own (1 : Nat))), (8, AV.int .i64 (0 : Int))], heap := [], tags := [(1, { n := (0 : Nat), e := (36 : Nat), sz := (2 : Nat) })] })) (by kernel_rfl) (by
    simp only [PT.holds]
    exact head_eq k (by simp [stNm, nmsC])))
theorem values_ctr0 (l : List Flt) (o : Int) (n : Nm) (R : List ByteArray) (k : HT Tryd.prog Tryd.f54.ntmps (pt Tryd.f54 0) (stVa l o n [] 0) (EndsA Γ (.pure [] (.sl none R.length (strsC R) .no)) Tryd.f54)) : Ctr Tryd.prog 54 [.sl none l.length (fltsC l) .no, .int .i64 o, .agg (nmC n)] (.sl none R.length (strsC R) .no) :=
  Ctr.mk Γ_ok Tryd.func54 (by kernel_rfl) Tryd.call54 [] (by kernel_rfl) (HT.walk Γ_ok mo_ok (⟨[], sp54, hd54 [(7, 1, 9, 1)] [] [] [], dsp54, .pure [] (.sl none R.length (strsC R) .no)⟩ : Wk) 4000 (T := .head (pt Tryd.f54 0) ({ tmps := [(0, AV.sl none l.length (fltsC l) .no), (1, AV.int .i64 o), (5, AV.ptr 5 0), (7, AV.sl none (0 : Nat) [] (.own (1 : Nat))), (8, AV.int .i64 (0 : Int))], heap := [(5, .var true [AV.str n.sp, AV.str n.lo])], tags := [(1, { n := (0 : Nat), e := (9 : Nat), sz := (1 : Nat) })] })) (by kernel_rfl) (by
    simp only [PT.holds]
    exact head_eq k (by simp [stVa, strsC, nmC])))
theorem names_ctr (l : List Flt) (a b : Int) (hl : l.length ≤ 1000000) : Ctr Tryd.prog 53 [.sl none l.length (fltsC l) .no, .int .i64 a, .int .i64 b] (.sl none (namesF a b l).length (nmsC (namesF a b l)) .no) := by
  have := nm_l l a b hl l.length 0 [] (Nat.zero_add _) (Nat.le_refl _)
  rw [List.drop_zero] at this
  exact names_ctr0 l a b _ this
theorem values_ctr (l : List Flt) (o : Int) (n : Nm) (hl : l.length ≤ 1000000) : Ctr Tryd.prog 54 [.sl none l.length (fltsC l) .no, .int .i64 o, .agg (nmC n)] (.sl none (valuesF o n l).length (strsC (valuesF o n l)) .no) := by
  have := va_l l o n hl l.length 0 [] (Nat.zero_add _) (Nat.le_refl _)
  rw [List.drop_zero] at this
  exact values_ctr0 l o n _ this

end Go.Proofs.YteimloiaipiadaaDoor
end

section
set_option linter.unusedVariables false
set_option linter.unusedSimpArgs false
set_option maxRecDepth 100000
namespace Go.Proofs.YteimloiaipiadaaDoor
open Go Go.AX

theorem fltsC_app (a b : List Flt) : fltsC (a ++ b) = fltsC a ++ fltsC b := by simp [fltsC_eq]
def stFa (p : Pth) (out : List Flt) (i : Nat) : AS := ⟨[(1, .ptr 1 0), (3, .sl none out.length (fltsC out) (.own 1)), (4, .int .i64 i)], [(1, .var true (pthL p))], [(1, ⟨out.length, 55, 6, none⟩)]⟩
def stFb (p : Pth) (out : List Flt) (i : Nat) : AS := ⟨[(1, .ptr 1 0), (3, .sl none out.length (fltsC out) (.own 1)), (5, .int .i64 i)], [(1, .var true (pthL p))], [(1, ⟨out.length, 55, 6, none⟩)]⟩
def stWa (p : Flt) (out : List Flt) (i : Nat) : AS := ⟨[(1, .ptr 1 0), (3, .sl none out.length (fltsC out) (.own 1)), (4, .int .i64 i)], [(1, .var true (fltL p))], [(1, ⟨out.length, 55, 6, none⟩)]⟩
def stWb (p : Flt) (out : List Flt) (i : Nat) : AS := ⟨[(1, .ptr 1 0), (3, .sl none out.length (fltsC out) (.own 1)), (5, .int .i64 i)], [(1, .var true (fltL p))], [(1, ⟨out.length, 55, 6, none⟩)]⟩

theorem fa_h (p : Pth) (out m R : List Flt) (i : Nat) (hi : i < p.sub.length) (hs : p.sub.length ≤ 1048600) (ho : out.length + m.length ≤ 1000000) (hc : Ctr Tryd.prog 18 [.agg (pthL (p.sub.getD i pth0))] (.sl none m.length (fltsC m) .no)) (k : HT Tryd.prog Tryd.f18.ntmps (pt Tryd.f18 0) (stFa p (out ++ m) (i + 1)) (EndsA Γ (.pure [] (.sl none R.length (fltsC R) .no)) Tryd.f18)) : HT Tryd.prog Tryd.f18.ntmps (pt Tryd.f18 0) (stFa p out i) (EndsA Γ (.pure [] (.sl none R.length (fltsC R) .no)) Tryd.f18) :=
  HT.walk Γ_ok mo_ok (⟨[(10, .val (.bool true)), (18, .val (.agg (pthL (p.sub.getD i pth0)))), (19, .call [] (.sl none m.length (fltsC m) .no))], (sp18).filter (fun x => !Nat.beq x 10), hd18 [(3, 1, 55, 6)] [] [] [], [], .pure [] (.sl none R.length (fltsC R) .no)⟩ : Wk) 4000 (T := .ob (decide ((↑i : Int) < (↑p.sub.length : Int)) = true) (.ob ((0 : Int) ≤ (↑i : Int) ∧ (↑i : Int) < (↑p.sub.length : Int) ∧ (↑i : Int).toNat * (3 : Nat) < (pthsC p.sub).length) (.ob (List.take (3 : Nat) (List.drop ((↑i : Int).toNat * (3 : Nat)) (pthsC p.sub)) = (pthL (p.sub.getD i pth0))) (.ob (Ctr Tryd.prog 18 [AV.agg (pthL (p.sub.getD i pth0))] (AV.sl none m.length (fltsC m) .no)) (.ob (out.length = out.length) (.ob ((fltsC out).length = out.length * ((5 : Nat) + (1 : Nat)) ∧ (fltsC m).length = m.length * ((5 : Nat) + (1 : Nat)) ∧ (out.length + m.length) * ((103 : Nat) + (1 : Nat)) ≤ (140737488355328 : Nat)) (.head (pt Tryd.f18 0) ({ tmps := [(1, AV.ptr 1 0), (3, AV.sl none (out.length + m.length) (fltsC out ++ fltsC m) (.own (1 : Nat))), (4, AV.int .i64 (IntKind.i64.wrap ((↑i : Int) + (1 : Int))))], heap := [(1, .var true (pthL p))], tags := [(1, { n := out.length + m.length, e := (55 : Nat), sz := (6 : Nat) })] })))))))) (by kernel_rfl) (by
    have w2 : IntKind.i64.wrap ((i : Int) + 1) = ((i + 1 : Nat) : Int) := by rw [i64_wrap (by omega) (by omega)]; rfl
    have h0 : decide ((i : Int) < p.sub.length) = true := by simp; omega
    simp only [PT.holds, w2, h0, Int.toNat_natCast, pthsC_len, fltsC_len, true_implies, Bool.false_eq_true, Bool.true_eq_false, false_implies, true_and, and_true]
    refine ⟨by omega, by ((try simp only [Nat.add_assoc, Nat.reduceAdd, Nat.add_zero]) <;> first | (rw [ats_take _ _ _ _ hi (by decide)]; rfl) | (rw [pths_take _ _ _ _ hi (by decide)]; rfl) | (rw [flts_take _ _ _ _ hi (by decide)]; rfl) | (rw [ats_take0 _ _ _ hi (by decide)]; rfl) | (rw [pths_take0 _ _ _ hi (by decide)]; rfl) | (rw [flts_take0 _ _ _ hi (by decide)]; rfl)), hc, by omega, head_eq k ?_⟩
    simp [stFa, pthL, fltL, fltsC_app])
theorem fa_e (p : Pth) (out R : List Flt) (i : Nat) (hi : i = p.sub.length) (k : HT Tryd.prog Tryd.f18.ntmps (pt Tryd.f18 1) (stFb p out 0) (EndsA Γ (.pure [] (.sl none R.length (fltsC R) .no)) Tryd.f18)) : HT Tryd.prog Tryd.f18.ntmps (pt Tryd.f18 0) (stFa p out i) (EndsA Γ (.pure [] (.sl none R.length (fltsC R) .no)) Tryd.f18) :=
  HT.walk Γ_ok mo_ok (⟨[(10, .val (.bool false)), (18, .val (.agg (pthL pth0))), (19, .call [] (.sl none out.length (fltsC out) .no))], (sp18).filter (fun x => !Nat.beq x 10), hd18 [(3, 1, 55, 6)] [] [] [], [], .pure [] (.sl none R.length (fltsC R) .no)⟩ : Wk) 4000 (T := .ob (decide ((↑i : Int) < (↑p.sub.length : Int)) = false) (.head (pt Tryd.f18 1) ({ tmps := [(1, AV.ptr 1 0), (3, AV.sl none out.length (fltsC out) (.own (1 : Nat))), (5, AV.int .i64 (0 : Int))], heap := [(1, .var true (pthL p))], tags := [(1, { n := out.length, e := (55 : Nat), sz := (6 : Nat) })] }))) (by kernel_rfl) (by
    have h0 : decide ((i : Int) < p.sub.length) = false := by simp; omega
    simp only [PT.holds, h0, true_implies, Bool.false_eq_true, Bool.true_eq_false, false_implies, true_and, and_true]
    exact head_eq k (by simp [stFb, pthL]))
theorem fb_h (p : Pth) (out m R : List Flt) (i : Nat) (hi : i < p.test.length) (hs : p.test.length ≤ 1048600) (ho : out.length + m.length ≤ 1000000) (hc : Ctr Tryd.prog 44 [.agg (fltL (p.test.getD i flt0))] (.sl none m.length (fltsC m) .no)) (k : HT Tryd.prog Tryd.f18.ntmps (pt Tryd.f18 1) (stFb p (out ++ m) (i + 1)) (EndsA Γ (.pure [] (.sl none R.length (fltsC R) .no)) Tryd.f18)) : HT Tryd.prog Tryd.f18.ntmps (pt Tryd.f18 1) (stFb p out i) (EndsA Γ (.pure [] (.sl none R.length (fltsC R) .no)) Tryd.f18) :=
  HT.walk Γ_ok mo_ok (⟨[(25, .val (.bool true)), (33, .val (.agg (fltL (p.test.getD i flt0)))), (34, .call [] (.sl none m.length (fltsC m) .no))], (sp18).filter (fun x => !Nat.beq x 25), hd18 [(3, 1, 55, 6)] [] [] [], [], .pure [] (.sl none R.length (fltsC R) .no)⟩ : Wk) 4000 (T := .ob (decide ((↑i : Int) < (↑p.test.length : Int)) = true) (.ob ((0 : Int) ≤ (↑i : Int) ∧ (↑i : Int) < (↑p.test.length : Int) ∧ (↑i : Int).toNat * (6 : Nat) < (fltsC p.test).length) (.ob (List.take (6 : Nat) (List.drop ((↑i : Int).toNat * (6 : Nat)) (fltsC p.test)) = (fltL (p.test.getD i flt0))) (.ob (Ctr Tryd.prog 44 [AV.agg (fltL (p.test.getD i flt0))] (AV.sl none m.length (fltsC m) .no)) (.ob (out.length = out.length) (.ob ((fltsC out).length = out.length * ((5 : Nat) + (1 : Nat)) ∧ (fltsC m).length = m.length * ((5 : Nat) + (1 : Nat)) ∧ (out.length + m.length) * ((103 : Nat) + (1 : Nat)) ≤ (140737488355328 : Nat)) (.head (pt Tryd.f18 1) ({ tmps := [(1, AV.ptr 1 0), (3, AV.sl none (out.length + m.length) (fltsC out ++ fltsC m) (.own (1 : Nat))), (5, AV.int .i64 (IntKind.i64.wrap ((↑i : Int) + (1 : Int))))], heap := [(1, .var true (pthL p))], tags := [(1, { n := out.length + m.length, e := (55 : Nat), sz := (6 : Nat) })] })))))))) (by kernel_rfl) (by
    have w2 : IntKind.i64.wrap ((i : Int) + 1) = ((i + 1 : Nat) : Int) := by rw [i64_wrap (by omega) (by omega)]; rfl
    have h0 : decide ((i : Int) < p.test.length) = true := by simp; omega
    simp only [PT.holds, w2, h0, Int.toNat_natCast, pthsC_len, fltsC_len, true_implies, Bool.false_eq_true, Bool.true_eq_false, false_implies, true_and, and_true]
    refine ⟨by omega, by ((try simp only [Nat.add_assoc, Nat.reduceAdd, Nat.add_zero]) <;> first | (rw [ats_take _ _ _ _ hi (by decide)]; rfl) | (rw [pths_take _ _ _ _ hi (by decide)]; rfl) | (rw [flts_take _ _ _ _ hi (by decide)]; rfl) | (rw [ats_take0 _ _ _ hi (by decide)]; rfl) | (rw [pths_take0 _ _ _ hi (by decide)]; rfl) | (rw [flts_take0 _ _ _ hi (by decide)]; rfl)), hc, by omega, head_eq k ?_⟩
    simp [stFb, pthL, fltL, fltsC_app])
theorem fb_e (p : Pth) (out : List Flt) (i : Nat) (hi : i = p.test.length) : HT Tryd.prog Tryd.f18.ntmps (pt Tryd.f18 1) (stFb p out i) (EndsA Γ (.pure [] (.sl none out.length (fltsC out) .no)) Tryd.f18) :=
  HT.walk Γ_ok mo_ok (⟨[(25, .val (.bool false)), (33, .val (.agg (fltL flt0))), (34, .call [] (.sl none out.length (fltsC out) .no))], (sp18).filter (fun x => !Nat.beq x 25), hd18 [(3, 1, 55, 6)] [] [] [], [], .pure [] (.sl none out.length (fltsC out) .no)⟩ : Wk) 4000 (T := .ob (decide ((↑i : Int) < (↑p.test.length : Int)) = false) (.ob (out.length = out.length) (.ob (fltsC out = fltsC out) (.tt)))) (by kernel_rfl) (by
    have h0 : decide ((i : Int) < p.test.length) = false := by simp; omega
    simp only [PT.holds, h0, true_implies, Bool.false_eq_true, Bool.true_eq_false, false_implies, true_and, and_true])
theorem wa_h (p : Flt) (out m R : List Flt) (i : Nat) (hi : i < p.sub.length) (hs : p.sub.length ≤ 1048600) (ho : out.length + m.length ≤ 1000000) (hc : Ctr Tryd.prog 44 [.agg (fltL (p.sub.getD i flt0))] (.sl none m.length (fltsC m) .no)) (k : HT Tryd.prog Tryd.f44.ntmps (pt Tryd.f44 0) (stWa p (out ++ m) (i + 1)) (EndsA Γ (.pure [] (.sl none R.length (fltsC R) .no)) Tryd.f44)) : HT Tryd.prog Tryd.f44.ntmps (pt Tryd.f44 0) (stWa p out i) (EndsA Γ (.pure [] (.sl none R.length (fltsC R) .no)) Tryd.f44) :=
  HT.walk Γ_ok mo_ok (⟨[(12, .val (.bool true)), (20, .val (.agg (fltL (p.sub.getD i flt0)))), (21, .call [] (.sl none m.length (fltsC m) .no))], (sp44).filter (fun x => !Nat.beq x 12), hd44 [(3, 1, 55, 6)] [] [] [], [], .pure [] (.sl none R.length (fltsC R) .no)⟩ : Wk) 4000 (T := .ob (decide ((↑i : Int) < (↑p.sub.length : Int)) = true) (.ob ((0 : Int) ≤ (↑i : Int) ∧ (↑i : Int) < (↑p.sub.length : Int) ∧ (↑i : Int).toNat * (6 : Nat) < (fltsC p.sub).length) (.ob (List.take (6 : Nat) (List.drop ((↑i : Int).toNat * (6 : Nat)) (fltsC p.sub)) = (fltL (p.sub.getD i flt0))) (.ob (Ctr Tryd.prog 44 [AV.agg (fltL (p.sub.getD i flt0))] (AV.sl none m.length (fltsC m) .no)) (.ob (out.length = out.length) (.ob ((fltsC out).length = out.length * ((5 : Nat) + (1 : Nat)) ∧ (fltsC m).length = m.length * ((5 : Nat) + (1 : Nat)) ∧ (out.length + m.length) * ((103 : Nat) + (1 : Nat)) ≤ (140737488355328 : Nat)) (.head (pt Tryd.f44 0) ({ tmps := [(1, AV.ptr 1 0), (3, AV.sl none (out.length + m.length) (fltsC out ++ fltsC m) (.own (1 : Nat))), (4, AV.int .i64 (IntKind.i64.wrap ((↑i : Int) + (1 : Int))))], heap := [(1, .var true (fltL p))], tags := [(1, { n := out.length + m.length, e := (55 : Nat), sz := (6 : Nat) })] })))))))) (by kernel_rfl) (by
    have w2 : IntKind.i64.wrap ((i : Int) + 1) = ((i + 1 : Nat) : Int) := by rw [i64_wrap (by omega) (by omega)]; rfl
    have h0 : decide ((i : Int) < p.sub.length) = true := by simp; omega
    simp only [PT.holds, w2, h0, Int.toNat_natCast, pthsC_len, fltsC_len, true_implies, Bool.false_eq_true, Bool.true_eq_false, false_implies, true_and, and_true]
    refine ⟨by omega, by ((try simp only [Nat.add_assoc, Nat.reduceAdd, Nat.add_zero]) <;> first | (rw [ats_take _ _ _ _ hi (by decide)]; rfl) | (rw [pths_take _ _ _ _ hi (by decide)]; rfl) | (rw [flts_take _ _ _ _ hi (by decide)]; rfl) | (rw [ats_take0 _ _ _ hi (by decide)]; rfl) | (rw [pths_take0 _ _ _ hi (by decide)]; rfl) | (rw [flts_take0 _ _ _ hi (by decide)]; rfl)), hc, by omega, head_eq k ?_⟩
    simp [stWa, pthL, fltL, fltsC_app])
theorem wa_e (p : Flt) (out R : List Flt) (i : Nat) (hi : i = p.sub.length) (k : HT Tryd.prog Tryd.f44.ntmps (pt Tryd.f44 1) (stWb p out 0) (EndsA Γ (.pure [] (.sl none R.length (fltsC R) .no)) Tryd.f44)) : HT Tryd.prog Tryd.f44.ntmps (pt Tryd.f44 0) (stWa p out i) (EndsA Γ (.pure [] (.sl none R.length (fltsC R) .no)) Tryd.f44) :=
  HT.walk Γ_ok mo_ok (⟨[(12, .val (.bool false)), (20, .val (.agg (fltL flt0))), (21, .call [] (.sl none out.length (fltsC out) .no))], (sp44).filter (fun x => !Nat.beq x 12), hd44 [(3, 1, 55, 6)] [] [] [], [], .pure [] (.sl none R.length (fltsC R) .no)⟩ : Wk) 4000 (T := .ob (decide ((↑i : Int) < (↑p.sub.length : Int)) = false) (.head (pt Tryd.f44 1) ({ tmps := [(1, AV.ptr 1 0), (3, AV.sl none out.length (fltsC out) (.own (1 : Nat))), (5, AV.int .i64 (0 : Int))], heap := [(1, .var true (fltL p))], tags := [(1, { n := out.length, e := (55 : Nat), sz := (6 : Nat) })] }))) (by kernel_rfl) (by
    have h0 : decide ((i : Int) < p.sub.length) = false := by simp; omega
    simp only [PT.holds, h0, true_implies, Bool.false_eq_true, Bool.true_eq_false, false_implies, true_and, and_true]
    exact head_eq k (by simp [stWb, fltL]))
theorem wb_h (p : Flt) (out m R : List Flt) (i : Nat) (hi : i < p.way.length) (hs : p.way.length ≤ 1048600) (ho : out.length + m.length ≤ 1000000) (hc : Ctr Tryd.prog 18 [.agg (pthL (p.way.getD i pth0))] (.sl none m.length (fltsC m) .no)) (k : HT Tryd.prog Tryd.f44.ntmps (pt Tryd.f44 1) (stWb p (out ++ m) (i + 1)) (EndsA Γ (.pure [] (.sl none R.length (fltsC R) .no)) Tryd.f44)) : HT Tryd.prog Tryd.f44.ntmps (pt Tryd.f44 1) (stWb p out i) (EndsA Γ (.pure [] (.sl none R.length (fltsC R) .no)) Tryd.f44) :=
  HT.walk Γ_ok mo_ok (⟨[(27, .val (.bool true)), (35, .val (.agg (pthL (p.way.getD i pth0)))), (36, .call [] (.sl none m.length (fltsC m) .no))], (sp44).filter (fun x => !Nat.beq x 27), hd44 [(3, 1, 55, 6)] [] [] [], [], .pure [] (.sl none R.length (fltsC R) .no)⟩ : Wk) 4000 (T := .ob (decide ((↑i : Int) < (↑p.way.length : Int)) = true) (.ob ((0 : Int) ≤ (↑i : Int) ∧ (↑i : Int) < (↑p.way.length : Int) ∧ (↑i : Int).toNat * (3 : Nat) < (pthsC p.way).length) (.ob (List.take (3 : Nat) (List.drop ((↑i : Int).toNat * (3 : Nat)) (pthsC p.way)) = (pthL (p.way.getD i pth0))) (.ob (Ctr Tryd.prog 18 [AV.agg (pthL (p.way.getD i pth0))] (AV.sl none m.length (fltsC m) .no)) (.ob (out.length = out.length) (.ob ((fltsC out).length = out.length * ((5 : Nat) + (1 : Nat)) ∧ (fltsC m).length = m.length * ((5 : Nat) + (1 : Nat)) ∧ (out.length + m.length) * ((103 : Nat) + (1 : Nat)) ≤ (140737488355328 : Nat)) (.head (pt Tryd.f44 1) ({ tmps := [(1, AV.ptr 1 0), (3, AV.sl none (out.length + m.length) (fltsC out ++ fltsC m) (.own (1 : Nat))), (5, AV.int .i64 (IntKind.i64.wrap ((↑i : Int) + (1 : Int))))], heap := [(1, .var true (fltL p))], tags := [(1, { n := out.length + m.length, e := (55 : Nat), sz := (6 : Nat) })] })))))))) (by kernel_rfl) (by
    have w2 : IntKind.i64.wrap ((i : Int) + 1) = ((i + 1 : Nat) : Int) := by rw [i64_wrap (by omega) (by omega)]; rfl
    have h0 : decide ((i : Int) < p.way.length) = true := by simp; omega
    simp only [PT.holds, w2, h0, Int.toNat_natCast, pthsC_len, fltsC_len, true_implies, Bool.false_eq_true, Bool.true_eq_false, false_implies, true_and, and_true]
    refine ⟨by omega, by ((try simp only [Nat.add_assoc, Nat.reduceAdd, Nat.add_zero]) <;> first | (rw [ats_take _ _ _ _ hi (by decide)]; rfl) | (rw [pths_take _ _ _ _ hi (by decide)]; rfl) | (rw [flts_take _ _ _ _ hi (by decide)]; rfl) | (rw [ats_take0 _ _ _ hi (by decide)]; rfl) | (rw [pths_take0 _ _ _ hi (by decide)]; rfl) | (rw [flts_take0 _ _ _ hi (by decide)]; rfl)), hc, by omega, head_eq k ?_⟩
    simp [stWb, pthL, fltL, fltsC_app])
theorem wb_e (p : Flt) (out : List Flt) (i : Nat) (hi : i = p.way.length) : HT Tryd.prog Tryd.f44.ntmps (pt Tryd.f44 1) (stWb p out i) (EndsA Γ (.pure [] (.sl none out.length (fltsC out) .no)) Tryd.f44) :=
  HT.walk Γ_ok mo_ok (⟨[(27, .val (.bool false)), (35, .val (.agg (pthL pth0))), (36, .call [] (.sl none out.length (fltsC out) .no))], (sp44).filter (fun x => !Nat.beq x 27), hd44 [(3, 1, 55, 6)] [] [] [], [], .pure [] (.sl none out.length (fltsC out) .no)⟩ : Wk) 4000 (T := .ob (decide ((↑i : Int) < (↑p.way.length : Int)) = false) (.ob (out.length = out.length) (.ob (fltsC out = fltsC out) (.tt)))) (by kernel_rfl) (by
    have h0 : decide ((i : Int) < p.way.length) = false := by simp; omega
    simp only [PT.holds, h0, true_implies, Bool.false_eq_true, Bool.true_eq_false, false_implies, true_and, and_true])
theorem flts_p (p : Pth) (R : List Flt) (k : HT Tryd.prog Tryd.f18.ntmps (pt Tryd.f18 0) (stFa p [] 0) (EndsA Γ (.pure [] (.sl none R.length (fltsC R) .no)) Tryd.f18)) : Ctr Tryd.prog 18 [.agg (pthL p)] (.sl none R.length (fltsC R) .no) :=
  Ctr.mk Γ_ok Tryd.func18 (by kernel_rfl) Tryd.call18 [] (by kernel_rfl) (HT.walk Γ_ok mo_ok (⟨[], sp18, hd18 [(3, 1, 55, 6)] [] [] [], [], .pure [] (.sl none R.length (fltsC R) .no)⟩ : Wk) 4000 (T := .head (pt Tryd.f18 0) ({ tmps := [(1, AV.ptr 1 0), (3, AV.sl none (0 : Nat) [] (.own (1 : Nat))), (4, AV.int .i64 (0 : Int))], heap := [(1, .var true (pthL p))], tags := [(1, { n := (0 : Nat), e := (55 : Nat), sz := (6 : Nat) })] })) (by kernel_rfl) (by
    simp only [PT.holds]
    exact head_eq k (by simp [stFa, pthL, fltsC])))
theorem with_p (p : Flt) (R : List Flt) (k : HT Tryd.prog Tryd.f44.ntmps (pt Tryd.f44 0) (stWa p [p] 0) (EndsA Γ (.pure [] (.sl none R.length (fltsC R) .no)) Tryd.f44)) : Ctr Tryd.prog 44 [.agg (fltL p)] (.sl none R.length (fltsC R) .no) :=
  Ctr.mk Γ_ok Tryd.func44 (by kernel_rfl) Tryd.call44 [] (by kernel_rfl) (HT.walk Γ_ok mo_ok (⟨[], sp44, hd44 [(3, 1, 55, 6)] [] [] [], [], .pure [] (.sl none R.length (fltsC R) .no)⟩ : Wk) 4000 (T := .ob ((6 : Nat) ≤ (6 : Nat)) (.head (pt Tryd.f44 0) ({ tmps := [(1, AV.ptr 1 0), (3, AV.sl none (1 : Nat) (fltL p) (.own (1 : Nat))), (4, AV.int .i64 (0 : Int))], heap := [(1, .var true (fltL p))], tags := [(1, { n := (1 : Nat), e := (55 : Nat), sz := (6 : Nat) })] }))) (by kernel_rfl) (by
    simp only [PT.holds]
    exact ⟨by omega, head_eq k (by simp [stWa, fltL, fltsC, fltC_L])⟩))
mutual
def filtersP : Pth → List Flt
  | .mk _ sub test => filtersPs sub ++ withinFs test
def filtersPs : List Pth → List Flt
  | [] => []
  | p :: r => filtersP p ++ filtersPs r
def withinF : Flt → List Flt
  | .mk op n v sub way => .mk op n v sub way :: (withinFs sub ++ filtersPs way)
def withinFs : List Flt → List Flt
  | [] => []
  | p :: r => withinF p ++ withinFs r
end
theorem filtersP_eq (p : Pth) : filtersP p = filtersPs p.sub ++ withinFs p.test := by cases p; simp only [filtersP, Pth.sub, Pth.test]
theorem withinF_eq (p : Flt) : withinF p = p :: (withinFs p.sub ++ filtersPs p.way) := by cases p; simp only [withinF, Flt.sub, Flt.way]
theorem fa_l (p : Pth) (hs : p.sub.length ≤ 1048600) (T : List Flt) (R : List Flt) (hc : ∀ q ∈ p.sub, (filtersP q).length ≤ 1000000 → Ctr Tryd.prog 18 [.agg (pthL q)] (.sl none (filtersP q).length (fltsC (filtersP q)) .no)) (k : HT Tryd.prog Tryd.f18.ntmps (pt Tryd.f18 1) (stFb p T 0) (EndsA Γ (.pure [] (.sl none R.length (fltsC R) .no)) Tryd.f18)) (hT : T.length ≤ 1000000) : ∀ d i out, i + d = p.sub.length → T = out ++ filtersPs (p.sub.drop i) → HT Tryd.prog Tryd.f18.ntmps (pt Tryd.f18 0) (stFa p out i) (EndsA Γ (.pure [] (.sl none R.length (fltsC R) .no)) Tryd.f18) := by
  intro d
  induction d with
  | zero =>
    intro i out h e
    rw [List.drop_of_length_le (by omega)] at e
    simp only [filtersPs, List.append_nil] at e
    subst e
    exact fa_e p T R i (by omega) k
  | succ d ih =>
    intro i out h e
    have hlt : i < p.sub.length := by omega
    rw [drop_cons _ _ pth0 hlt] at e
    simp only [filtersPs] at e
    have hl : T.length = out.length + ((filtersP (p.sub.getD i pth0)).length + (filtersPs (p.sub.drop (i + 1))).length) := by rw [e]; simp
    exact fa_h p out _ R i hlt hs (by omega) (hc _ (getD_mem _ _ _ hlt) (by omega)) (ih (i + 1) _ (by omega) (by rw [e, List.append_assoc]))
theorem fb_l (p : Pth) (hs : p.test.length ≤ 1048600) (T : List Flt) (hc : ∀ q ∈ p.test, (withinF q).length ≤ 1000000 → Ctr Tryd.prog 44 [.agg (fltL q)] (.sl none (withinF q).length (fltsC (withinF q)) .no)) (hT : T.length ≤ 1000000) : ∀ d i out, i + d = p.test.length → T = out ++ withinFs (p.test.drop i) → HT Tryd.prog Tryd.f18.ntmps (pt Tryd.f18 1) (stFb p out i) (EndsA Γ (.pure [] (.sl none T.length (fltsC T) .no)) Tryd.f18) := by
  intro d
  induction d with
  | zero =>
    intro i out h e
    rw [List.drop_of_length_le (by omega)] at e
    simp only [withinFs, List.append_nil] at e
    subst e
    exact fb_e p T i (by omega)
  | succ d ih =>
    intro i out h e
    have hlt : i < p.test.length := by omega
    rw [drop_cons _ _ flt0 hlt] at e
    simp only [withinFs] at e
    have hl : T.length = out.length + ((withinF (p.test.getD i flt0)).length + (withinFs (p.test.drop (i + 1))).length) := by rw [e]; simp
    exact fb_h p out _ T i hlt hs (by omega) (hc _ (getD_mem _ _ _ hlt) (by omega)) (ih (i + 1) _ (by omega) (by rw [e, List.append_assoc]))
theorem wa_l (p : Flt) (hs : p.sub.length ≤ 1048600) (T : List Flt) (R : List Flt) (hc : ∀ q ∈ p.sub, (withinF q).length ≤ 1000000 → Ctr Tryd.prog 44 [.agg (fltL q)] (.sl none (withinF q).length (fltsC (withinF q)) .no)) (k : HT Tryd.prog Tryd.f44.ntmps (pt Tryd.f44 1) (stWb p T 0) (EndsA Γ (.pure [] (.sl none R.length (fltsC R) .no)) Tryd.f44)) (hT : T.length ≤ 1000000) : ∀ d i out, i + d = p.sub.length → T = out ++ withinFs (p.sub.drop i) → HT Tryd.prog Tryd.f44.ntmps (pt Tryd.f44 0) (stWa p out i) (EndsA Γ (.pure [] (.sl none R.length (fltsC R) .no)) Tryd.f44) := by
  intro d
  induction d with
  | zero =>
    intro i out h e
    rw [List.drop_of_length_le (by omega)] at e
    simp only [withinFs, List.append_nil] at e
    subst e
    exact wa_e p T R i (by omega) k
  | succ d ih =>
    intro i out h e
    have hlt : i < p.sub.length := by omega
    rw [drop_cons _ _ flt0 hlt] at e
    simp only [withinFs] at e
    have hl : T.length = out.length + ((withinF (p.sub.getD i flt0)).length + (withinFs (p.sub.drop (i + 1))).length) := by rw [e]; simp
    exact wa_h p out _ R i hlt hs (by omega) (hc _ (getD_mem _ _ _ hlt) (by omega)) (ih (i + 1) _ (by omega) (by rw [e, List.append_assoc]))
theorem wb_l (p : Flt) (hs : p.way.length ≤ 1048600) (T : List Flt) (hc : ∀ q ∈ p.way, (filtersP q).length ≤ 1000000 → Ctr Tryd.prog 18 [.agg (pthL q)] (.sl none (filtersP q).length (fltsC (filtersP q)) .no)) (hT : T.length ≤ 1000000) : ∀ d i out, i + d = p.way.length → T = out ++ filtersPs (p.way.drop i) → HT Tryd.prog Tryd.f44.ntmps (pt Tryd.f44 1) (stWb p out i) (EndsA Γ (.pure [] (.sl none T.length (fltsC T) .no)) Tryd.f44) := by
  intro d
  induction d with
  | zero =>
    intro i out h e
    rw [List.drop_of_length_le (by omega)] at e
    simp only [filtersPs, List.append_nil] at e
    subst e
    exact wb_e p T i (by omega)
  | succ d ih =>
    intro i out h e
    have hlt : i < p.way.length := by omega
    rw [drop_cons _ _ pth0 hlt] at e
    simp only [filtersPs] at e
    have hl : T.length = out.length + ((filtersP (p.way.getD i pth0)).length + (filtersPs (p.way.drop (i + 1))).length) := by rw [e]; simp
    exact wb_h p out _ T i hlt hs (by omega) (hc _ (getD_mem _ _ _ hlt) (by omega)) (ih (i + 1) _ (by omega) (by rw [e, List.append_assoc]))
mutual
theorem filters_ctr (p : Pth) (hok : p.ok) (hl : (filtersP p).length ≤ 1000000) : Ctr Tryd.prog 18 [.agg (pthL p)] (.sl none (filtersP p).length (fltsC (filtersP p)) .no) := by
  have ho := Pth.ok_i hok
  have e := filtersP_eq p
  have hlen : (filtersPs p.sub).length ≤ 1000000 := by rw [e] at hl; simp at hl; omega
  have k := fb_l p ho.2.1 (filtersP p) (fun q hq hq2 => have := test_lt p q hq; within_ctr q (ho.2.2.2 q hq) hq2) hl p.test.length 0 (filtersPs p.sub) (Nat.zero_add _) (by rw [List.drop_zero, e])
  exact flts_p p _ (fa_l p ho.1 (filtersPs p.sub) _ (fun q hq hq2 => have := sub_lt p q hq; filters_ctr q (ho.2.2.1 q hq) hq2) k hlen p.sub.length 0 [] (Nat.zero_add _) (by rw [List.drop_zero, List.nil_append]))
termination_by SizeOf.sizeOf p
theorem within_ctr (p : Flt) (hok : p.ok) (hl : (withinF p).length ≤ 1000000) : Ctr Tryd.prog 44 [.agg (fltL p)] (.sl none (withinF p).length (fltsC (withinF p)) .no) := by
  have ho := Flt.ok_i hok
  have e := withinF_eq p
  have hlen : (p :: withinFs p.sub).length ≤ 1000000 := by rw [e] at hl; simp at hl ⊢; omega
  have k := wb_l p ho.2.2.2.1 (withinF p) (fun q hq hq2 => have := way_lt p q hq; filters_ctr q (ho.2.2.2.2.2 q hq) hq2) hl p.way.length 0 (p :: withinFs p.sub) (Nat.zero_add _) (by rw [List.drop_zero, e]; rfl)
  exact with_p p _ (wa_l p ho.2.2.1 (p :: withinFs p.sub) _ (fun q hq hq2 => have := fsub_lt p q hq; within_ctr q (ho.2.2.2.2.1 q hq) hq2) k hlen p.sub.length 0 [p] (Nat.zero_add _) (by rw [List.drop_zero]; rfl))
termination_by SizeOf.sizeOf p
end

end Go.Proofs.YteimloiaipiadaaDoor
end

section
set_option linter.unusedVariables false
set_option linter.unusedSimpArgs false
set_option maxRecDepth 100000
namespace Go.Proofs.YteimloiaipiadaaDoor
open Go Go.AX

def digN (n : Nat) : ByteArray := if n < 10 then ⟨#[UInt8.ofNat (48 + n)]⟩ else digN (n / 10) ++ digN (n % 10)
termination_by n
decreasing_by all_goals omega
theorem digN_size (n : Nat) : (digN n).size ≤ n + 1 := by
  induction n using Nat.strongRecOn with
  | ind n ih =>
    rw [digN]
    split
    · simp [ByteArray.size]
    · rw [ByteArray.size_append]
      have h1 := ih (n / 10) (by omega)
      have h2 := ih (n % 10) (by omega)
      omega

theorem dig_1 (n : Nat) (h : n < 10) : Ctr Tryd.prog 55 [.int .i64 n] (.str (digN n)) :=
  Ctr.mk Γ_ok Tryd.func55 (by kernel_rfl) Tryd.call55 [] (by kernel_rfl) (HT.walk Γ_ok mo_ok (⟨([] ++ []), sp55, [], [], .pure [] (.str (digN n))⟩ : Wk) 4000 (T := .split (decide ((↑n : Int) < (10 : Int))) (.ob (splice (repL (List.map zn [AV.int .u8 (0 : Int)]) (1 : Nat)) ((0 : Nat) * (1 : Nat)) (cellsOf (AV.int .u8 (IntKind.u8.wrap (IntKind.i64.wrap ((48 : Int) + (↑n : Int)))))) = List.map (AV.int .u8) (intsOf (splice (repL (List.map zn [AV.int .u8 (0 : Int)]) (1 : Nat)) ((0 : Nat) * (1 : Nat)) (cellsOf (AV.int .u8 (IntKind.u8.wrap (IntKind.i64.wrap ((48 : Int) + (↑n : Int)))))))) ∧ (splice (repL (List.map zn [AV.int .u8 (0 : Int)]) (1 : Nat)) ((0 : Nat) * (1 : Nat)) (cellsOf (AV.int .u8 (IntKind.u8.wrap (IntKind.i64.wrap ((48 : Int) + (↑n : Int))))))).length = (1 : Nat)) (.ob (strOfNums (intsOf [AV.int .u8 (IntKind.u8.wrap (IntKind.i64.wrap ((48 : Int) + (↑n : Int))))]) = digN n) (.tt))) (.ob ((10 : Int) ≠ (0 : Int)) ((.bad (2 : Nat) (12 : Nat))))) (by kernel_rfl) (by
    simp only [PT.holds, true_implies, Bool.false_eq_true, Bool.true_eq_false, false_implies, true_and, and_true]
    refine ⟨fun _ => ?_, fun h1 => absurd (of_decide_eq_false h1) (by omega)⟩
    have e1 : IntKind.i64.wrap (48 + (n : Int)) = 48 + n := i64_wrap (by omega) (by omega)
    have e2 : IntKind.u8.wrap (48 + (n : Int)) = 48 + n := by simp [IntKind.wrap, IntKind.bits, IntKind.signed]; omega
    rw [e1, e2]
    refine ⟨⟨by simp [splice, repL, cellsOf, intsOf, zn], by simp [splice, repL, cellsOf]⟩, ?_⟩
    rw [digN, if_pos h]
    have e3 : intsOf [.int .u8 (48 + (n : Int))] = [48 + (n : Int)] := rfl
    rw [e3]
    have e4 : (48 + (n : Int)) = ((48 + n : Nat) : Int) := by omega
    rw [e4]
    simp only [strOfNums, List.map_cons, List.map_nil, Int.toNat_natCast]))
theorem dig_2 (n : Nat) (h : ¬ n < 10) (hn : n ≤ 1000000) (hq : Ctr Tryd.prog 55 [.int .i64 (n / 10 : Nat)] (.str (digN (n / 10)))) (hm : Ctr Tryd.prog 55 [.int .i64 (n % 10 : Nat)] (.str (digN (n % 10)))) : Ctr Tryd.prog 55 [.int .i64 n] (.str (digN n)) :=
  Ctr.mk Γ_ok Tryd.func55 (by kernel_rfl) Tryd.call55 [] (by kernel_rfl) (HT.walk Γ_ok mo_ok (⟨([(12, .call [] (.str (digN (n / 10)))), (15, .call [] (.str (digN (n % 10))))] ++ []), sp55, [], [], .pure [] (.str (digN n))⟩ : Wk) 4000 (T := .split (decide ((↑n : Int) < (10 : Int))) (.ob (splice (repL (List.map zn [AV.int .u8 (0 : Int)]) (1 : Nat)) ((0 : Nat) * (1 : Nat)) (cellsOf (AV.int .u8 (IntKind.u8.wrap (IntKind.i64.wrap ((48 : Int) + (↑n : Int)))))) = List.map (AV.int .u8) (intsOf (splice (repL (List.map zn [AV.int .u8 (0 : Int)]) (1 : Nat)) ((0 : Nat) * (1 : Nat)) (cellsOf (AV.int .u8 (IntKind.u8.wrap (IntKind.i64.wrap ((48 : Int) + (↑n : Int)))))))) ∧ (splice (repL (List.map zn [AV.int .u8 (0 : Int)]) (1 : Nat)) ((0 : Nat) * (1 : Nat)) (cellsOf (AV.int .u8 (IntKind.u8.wrap (IntKind.i64.wrap ((48 : Int) + (↑n : Int))))))).length = (1 : Nat)) (.ob (strOfNums (intsOf [AV.int .u8 (IntKind.u8.wrap (IntKind.i64.wrap ((48 : Int) + (↑n : Int))))]) = digN n) (.tt))) (.ob ((10 : Int) ≠ (0 : Int)) (.ob (Ctr Tryd.prog 55 [AV.int .i64 (IntKind.i64.wrap ((↑n : Int).tdiv (10 : Int)))] (AV.str (digN (n / (10 : Nat))))) (.ob ((10 : Int) ≠ (0 : Int)) (.ob (Ctr Tryd.prog 55 [AV.int .i64 ((↑n : Int).tmod (10 : Int))] (AV.str (digN (n % (10 : Nat))))) (.ob ((digN (n / (10 : Nat))).size + (digN (n % (10 : Nat))).size ≤ (9223372036854775807 : Nat)) (.ob (digN (n / (10 : Nat)) ++ digN (n % (10 : Nat)) = digN n) (.tt)))))))) (by kernel_rfl) (by
    simp only [PT.holds, true_implies, Bool.false_eq_true, Bool.true_eq_false, false_implies, true_and, and_true]
    refine ⟨fun h1 => absurd (of_decide_eq_true h1) (by omega), fun _ => ?_⟩
    have e1 : IntKind.i64.wrap ((n : Int).tdiv 10) = ((n / 10 : Nat) : Int) := by
      have : (n : Int).tdiv 10 = ((n / 10 : Nat) : Int) := by rw [Int.tdiv_eq_ediv_of_nonneg (by omega)]; omega
      rw [this]
      exact i64_wrap (by omega) (by omega)
    have e2 : (n : Int).tmod 10 = ((n % 10 : Nat) : Int) := by rw [Int.tmod_eq_emod_of_nonneg (by omega)]; omega
    rw [e1, e2]
    refine ⟨by omega, hq, by omega, hm, ?_, ?_⟩
    · have h1 := digN_size (n / 10)
      have h2 := digN_size (n % 10)
      omega
    · conv => rhs; rw [digN, if_neg h]))
theorem dig_ctr (n : Nat) (hn : n ≤ 1000000) : Ctr Tryd.prog 55 [.int .i64 n] (.str (digN n)) := by
  induction n using Nat.strongRecOn with
  | ind n ih =>
    by_cases h : n < 10
    · exact dig_1 n h
    · exact dig_2 n h hn (ih (n / 10) (by omega) (by omega)) (ih (n % 10) (by omega) (by omega))

end Go.Proofs.YteimloiaipiadaaDoor
end

section
set_option linter.unusedVariables false
set_option linter.unusedSimpArgs false
set_option maxRecDepth 100000
namespace Go.Proofs.YteimloiaipiadaaDoor
open Go Go.AX

def stNu (l : List ByteArray) (i : Nat) : AS := ⟨[(0, .sl none l.length (strsC l) .no), (3, .int .i64 i)], [], []⟩

theorem nu_h (l : List ByteArray) (i : Nat) (R : ByteArray) (hi : i ≤ 900000) (hl : l.length ≤ 1000000) (k1 : hasB l (digN i) = true → HT Tryd.prog Tryd.f35.ntmps (pt Tryd.f35 0) (stNu l (i + 1)) (EndsA Γ (.pure [] (.str R)) Tryd.f35)) (k2 : hasB l (digN i) = false → R = digN i) : HT Tryd.prog Tryd.f35.ntmps (pt Tryd.f35 0) (stNu l i) (EndsA Γ (.pure [] (.str R)) Tryd.f35) :=
  HT.walk Γ_ok mo_ok (⟨([(6, .call [] (.str (digN i))), (7, .call [] (.bool (hasB l (digN i)))), (11, .call [] (.str (digN i)))] ++ []), sp35, hd35 [] [] [] [], [], .pure [] (.str R)⟩ : Wk) 4000 (T := .ob (Ctr Tryd.prog 55 [AV.int .i64 (↑i : Int)] (AV.str (digN i))) (.ob (Ctr Tryd.prog 34 [AV.sl none l.length (strsC l) .no, AV.str (digN i)] (AV.bool (hasB l (digN i)))) (.split (hasB l (digN i)) (.head (pt Tryd.f35 0) ({ tmps := [(0, AV.sl none l.length (strsC l) .no), (3, AV.int .i64 (IntKind.i64.wrap ((↑i : Int) + (1 : Int))))], heap := [], tags := [] })) (.ob (Ctr Tryd.prog 55 [AV.int .i64 (↑i : Int)] (AV.str (digN i))) (.ob (digN i = R) (.tt)))))) (by kernel_rfl) (by
    have w2 : IntKind.i64.wrap ((i : Int) + 1) = ((i + 1 : Nat) : Int) := by rw [i64_wrap (by omega) (by omega)]; rfl
    simp only [PT.holds, w2, true_implies, Bool.false_eq_true, Bool.true_eq_false, false_implies, true_and, and_true]
    exact ⟨dig_ctr i (by omega), hs_ctr l _ hl, fun h => head_eq (k1 h) (by simp [stNu]), fun h => ⟨dig_ctr i (by omega), (k2 h).symm⟩⟩)
theorem nu_p (l : List ByteArray) (R : ByteArray) (k : HT Tryd.prog Tryd.f35.ntmps (pt Tryd.f35 0) (stNu l 0) (EndsA Γ (.pure [] (.str R)) Tryd.f35)) : Ctr Tryd.prog 35 [.sl none l.length (strsC l) .no] (.str R) :=
  Ctr.mk Γ_ok Tryd.func35 (by kernel_rfl) Tryd.call35 [] (by kernel_rfl) (HT.walk Γ_ok mo_ok (⟨[], sp35, hd35 [] [] [] [], [], .pure [] (.str R)⟩ : Wk) 4000 (T := .head (pt Tryd.f35 0) ({ tmps := [(0, AV.sl none l.length (strsC l) .no), (3, AV.int .i64 (0 : Int))], heap := [], tags := [] })) (by kernel_rfl) (by
    simp only [PT.holds]
    exact head_eq k (by simp [stNu])))
/-! Digits tell numbers apart. -/
def valB (b : List UInt8) : Nat := b.foldl (fun a x => 10 * a + (x.toNat - 48)) 0
theorem valB_app (a : List UInt8) (x : UInt8) : valB (a ++ [x]) = 10 * valB a + (x.toNat - 48) := by simp [valB]
theorem digN_snoc (n : Nat) (h : ¬ n < 10) : (digN n).data.toList = (digN (n / 10)).data.toList ++ [UInt8.ofNat (48 + n % 10)] := by
  rw [digN, if_neg h]
  have e : digN (n % 10) = ⟨#[UInt8.ofNat (48 + n % 10)]⟩ := by rw [digN, if_pos (by omega)]
  rw [e, ByteArray.data_append, Array.toList_append]
theorem digN_val (n : Nat) : valB (digN n).data.toList = n := by
  induction n using Nat.strongRecOn with
  | ind n ih =>
    have hx : ∀ k, k < 10 → (UInt8.ofNat (48 + k)).toNat - 48 = k := fun k hk => by
      rw [UInt8.toNat_ofNat']
      omega
    by_cases h : n < 10
    · rw [digN, if_pos h]
      simp only [valB, List.foldl_cons, List.foldl_nil]
      have := hx n h
      omega
    · rw [digN_snoc n h, valB_app, ih (n / 10) (by omega), hx (n % 10) (by omega)]
      omega
theorem nodupB_le : ∀ (a l : List ByteArray), a.Nodup → (∀ v ∈ a, v ∈ l) → a.length ≤ l.length := by
  intro a
  induction a with
  | nil => intro l _ _; exact Nat.zero_le _
  | cons x r ih =>
    intro l hn h
    obtain ⟨hx, hr⟩ := List.nodup_cons.1 hn
    obtain ⟨s, t, rfl⟩ := List.append_of_mem (h x List.mem_cons_self)
    have := ih (s ++ t) hr fun v hv => by
      have h1 := h v (List.mem_cons_of_mem _ hv)
      rw [List.mem_append, List.mem_cons] at h1
      rw [List.mem_append]
      rcases h1 with h1 | h1 | h1
      · exact .inl h1
      · exact absurd (h1 ▸ hv) hx
      · exact .inr h1
    simp at this ⊢
    omega
/-- One of so many numbers is not there. -/
theorem dig_free (pre : ByteArray) (l : List ByteArray) : ∃ k, k ≤ l.length ∧ pre ++ digN k ∉ l := by
  rcases Classical.em (∃ k, k ≤ l.length ∧ pre ++ digN k ∉ l) with h | h
  · exact h
  · exfalso
    have hall : ∀ k, k ≤ l.length → pre ++ digN k ∈ l := fun k hk => Classical.byContradiction fun hc => h ⟨k, hk, hc⟩
    have := nodupB_le ((List.range (l.length + 1)).map fun k => pre ++ digN k) l (by
      rw [List.Nodup, List.pairwise_map]
      refine (List.nodup_range).imp fun {a b} hab e => hab ?_
      have e2 : (pre ++ digN a).data.toList = (pre ++ digN b).data.toList := by rw [e]
      rw [ByteArray.data_append, ByteArray.data_append, Array.toList_append, Array.toList_append] at e2
      have e3 := List.append_cancel_left e2
      rw [← digN_val a, e3, digN_val b]) (fun v hv => by
      obtain ⟨k, hk, rfl⟩ := List.mem_map.1 hv
      exact hall k (by have := List.mem_range.1 hk; omega))
    simp at this
    omega

/-- The first number that is not there. -/
structure First (pre : ByteArray) (l : List ByteArray) (k : Nat) : Prop where
  le : k ≤ l.length
  out : pre ++ digN k ∉ l
  low : ∀ j, j < k → pre ++ digN j ∈ l
theorem first_ex (pre : ByteArray) (l : List ByteArray) : ∃ k, First pre l k := by
  obtain ⟨k, hk, ho⟩ := dig_free pre l
  induction k using Nat.strongRecOn with
  | ind k ih =>
    by_cases h : ∃ j, j < k ∧ pre ++ digN j ∉ l
    · obtain ⟨j, hj, hjo⟩ := h
      exact ih j hj (by omega) hjo
    · exact ⟨k, hk, ho, fun j hj => Classical.byContradiction fun hc => h ⟨j, hj, hc⟩⟩
def empB : ByteArray := ⟨#[]⟩
theorem emp_app (b : ByteArray) : empB ++ b = b := by
  have : (empB ++ b).data = b.data := by rw [ByteArray.data_append]; simp [empB]
  cases b
  cases h : empB ++ _ with
  | mk d => rw [h] at this; simpa using this
theorem nu_l (l : List ByteArray) (hl : l.length ≤ 800000) (k : Nat) (hk : First empB l k) : ∀ d i, i + d = k → HT Tryd.prog Tryd.f35.ntmps (pt Tryd.f35 0) (stNu l i) (EndsA Γ (.pure [] (.str (digN k))) Tryd.f35) := by
  have hle := hk.le
  intro d
  induction d with
  | zero =>
    intro i h
    have hi : i = k := by omega
    subst hi
    have ho := hk.out
    rw [emp_app] at ho
    exact nu_h l i _ (by omega) (by omega) (fun h => absurd ((hasB_iff _ _).1 h) ho) (fun _ => rfl)
  | succ d ih =>
    intro i h
    have hlo := hk.low i (by omega)
    rw [emp_app] at hlo
    exact nu_h l i _ (by omega) (by omega) (fun _ => ih (i + 1) (by omega)) (fun h => by rw [(hasB_iff _ _).2 hlo] at h; cases h)
theorem numbered_ctr (l : List ByteArray) (hl : l.length ≤ 800000) (k : Nat) (hk : First empB l k) : Ctr Tryd.prog 35 [.sl none l.length (strsC l) .no] (.str (digN k)) := nu_p l _ (nu_l l hl k hk k 0 (Nat.zero_add _))

end Go.Proofs.YteimloiaipiadaaDoor
end

section
set_option linter.unusedVariables false
set_option linter.unusedSimpArgs false
set_option maxRecDepth 100000
namespace Go.Proofs.YteimloiaipiadaaDoor
open Go Go.AX

def valsC (l : List (List ByteArray)) : List AV := l.map fun v => .sl none v.length (strsC v) .no
theorem valsC_len (l : List (List ByteArray)) : (valsC l).length = l.length := by simp [valsC]
theorem valsC_app (l : List (List ByteArray)) (v : List ByteArray) : valsC (l ++ [v]) = valsC l ++ [.sl none v.length (strsC v) .no] := by simp [valsC]
def stRm (p : Pth) (l : List Flt) (N A : List Nm) (V : List (List ByteArray)) (T : List ByteArray) (i : Nat) : AS := ⟨[(2, .ptr 2 0), (3, .sl none l.length (fltsC l) .no), (4, .ptr 4 0), (5, .int .i64 i)], [(1, .var true (pthL p)), (2, .var true [.sl (some true) 0 [] .clip, .sl (some true) 0 [] .clip, .sl (some true) 0 [] .clip, .sl (some true) 0 [] .clip]), (4, .var true [.sl none N.length (nmsC N) .no, .sl none A.length (nmsC A) .no, .sl none V.length (valsC V) (.own 1), .sl none T.length (strsC T) .no])], [(1, ⟨V.length, 64, 1, none⟩)]⟩

theorem rm_h (p : Pth) (l : List Flt) (N A : List Nm) (V R : List (List ByteArray)) (T : List ByteArray) (i : Nat) (hi : i < A.length) (hA : A.length ≤ 1000000) (hl : l.length ≤ 1000000) (hV : V.length ≤ i) (k : HT Tryd.prog Tryd.f32.ntmps (pt Tryd.f32 0) (stRm p l N A (V ++ [valuesF 6 (A.getD i nm0) l]) T (i + 1)) (EndsA Γ (.pure [] (.agg [.sl none N.length (nmsC N) .no, .sl none A.length (nmsC A) .no, .sl none R.length (valsC R) .no, .sl none T.length (strsC T) .no])) Tryd.f32)) : HT Tryd.prog Tryd.f32.ntmps (pt Tryd.f32 0) (stRm p l N A V T i) (EndsA Γ (.pure [] (.agg [.sl none N.length (nmsC N) .no, .sl none A.length (nmsC A) .no, .sl none R.length (valsC R) .no, .sl none T.length (strsC T) .no])) Tryd.f32) :=
  HT.walk Γ_ok mo_ok (⟨([(30, .val (.agg (nmC (A.getD i nm0)))), (31, .call [] (.sl none (valuesF 6 (A.getD i nm0) l).length (strsC (valuesF 6 (A.getD i nm0) l)) .no))] ++ []), sp32, hd32 [] [(false, 4, 2, 1, 64, 1)] [] [1], [], .pure [] (.agg [.sl none N.length (nmsC N) .no, .sl none A.length (nmsC A) .no, .sl none R.length (valsC R) .no, .sl none T.length (strsC T) .no])⟩ : Wk) 4000 (T := .split (decide ((↑i : Int) < (↑A.length : Int))) (.ob ((0 : Int) ≤ (↑i : Int) ∧ (↑i : Int) < (↑A.length : Int) ∧ (↑i : Int).toNat * (2 : Nat) < (nmsC A).length) (.ob (List.take (2 : Nat) (List.drop ((↑i : Int).toNat * (2 : Nat)) (nmsC A)) = [AV.str (A.getD i nm0).sp, AV.str (A.getD i nm0).lo]) (.ob (Ctr Tryd.prog 54 [AV.sl none l.length (fltsC l) .no, AV.int .i64 (6 : Int), AV.agg [AV.str (A.getD i nm0).sp, AV.str (A.getD i nm0).lo]] (AV.sl none (valuesF (6 : Int) (A.getD i nm0) l).length (strsC (valuesF (6 : Int) (A.getD i nm0) l)) .no)) (.ob (V.length = V.length) (.ob ((valsC V).length = V.length * ((0 : Nat) + (1 : Nat)) ∧ (splice (repL (List.map zn [AV.sl (some true) (0 : Nat) [] .clip]) (1 : Nat)) ((0 : Nat) * (1 : Nat)) (cellsOf (AV.sl none (valuesF (6 : Int) (A.getD i nm0) l).length (strsC (valuesF (6 : Int) (A.getD i nm0) l)) .no))).length = (1 : Nat) * ((0 : Nat) + (1 : Nat)) ∧ (V.length + (1 : Nat)) * ((23 : Nat) + (1 : Nat)) ≤ (140737488355328 : Nat)) (.head (pt Tryd.f32 0) ({ tmps := [(2, AV.ptr 2 0), (3, AV.sl none l.length (fltsC l) .no), (4, AV.ptr 4 0), (5, AV.int .i64 (IntKind.i64.wrap ((↑i : Int) + (1 : Int))))], heap := [(1, .var true (pthL p)), (2, .var true [AV.sl (some true) (0 : Nat) [] .clip, AV.sl (some true) (0 : Nat) [] .clip, AV.sl (some true) (0 : Nat) [] .clip, AV.sl (some true) (0 : Nat) [] .clip]), (4, .var true [AV.sl none N.length (nmsC N) .no, AV.sl none A.length (nmsC A) .no, AV.sl none (V.length + (1 : Nat)) (valsC V ++ splice (repL (List.map zn [AV.sl (some true) (0 : Nat) [] .clip]) (1 : Nat)) ((0 : Nat) * (1 : Nat)) (cellsOf (AV.sl none (valuesF (6 : Int) (A.getD i nm0) l).length (strsC (valuesF (6 : Int) (A.getD i nm0) l)) .no))) (.own (1 : Nat)), AV.sl none T.length (strsC T) .no])], tags := [(1, { n := V.length + (1 : Nat), e := (64 : Nat), sz := (1 : Nat) })] }))))))) (.ob ((4 : Nat) ≤ (4 : Nat)) (.ob (N.length = N.length) (.ob (nmsC N = nmsC N) (.ob (A.length = A.length) (.ob (nmsC A = nmsC A) (.ob (V.length = R.length) (.ob (valsC V = valsC R) (.ob (T.length = T.length) (.ob (strsC T = strsC T) (.tt))))))))))) (by kernel_rfl) (by
    have w2 : IntKind.i64.wrap ((i : Int) + 1) = ((i + 1 : Nat) : Int) := by rw [i64_wrap (by omega) (by omega)]; rfl
    have h0 : decide ((i : Int) < A.length) = true := by simp; omega
    simp only [PT.holds, w2, h0, Int.toNat_natCast, nmsC_len, valsC_len, true_implies, Bool.false_eq_true, Bool.true_eq_false, false_implies, true_and, and_true]
    refine ⟨by omega, by rw [nms_take0 _ _ _ hi (by decide)]; rfl, values_ctr l 6 _ hl, ⟨by omega, rfl, by omega⟩, head_eq k ?_⟩
    simp [stRm, pthL, valsC_app, splice, repL, cellsOf])
theorem rm_e (p : Pth) (l : List Flt) (N A : List Nm) (V : List (List ByteArray)) (T : List ByteArray) (i : Nat) (hi : i = A.length) : HT Tryd.prog Tryd.f32.ntmps (pt Tryd.f32 0) (stRm p l N A V T i) (EndsA Γ (.pure [] (.agg [.sl none N.length (nmsC N) .no, .sl none A.length (nmsC A) .no, .sl none V.length (valsC V) .no, .sl none T.length (strsC T) .no])) Tryd.f32) :=
  HT.walk Γ_ok mo_ok (⟨([(30, .val (.agg (nmC nm0))), (31, .call [] (.sl none T.length (strsC T) .no))] ++ []), sp32, hd32 [] [(false, 4, 2, 1, 64, 1)] [] [1], [], .pure [] (.agg [.sl none N.length (nmsC N) .no, .sl none A.length (nmsC A) .no, .sl none V.length (valsC V) .no, .sl none T.length (strsC T) .no])⟩ : Wk) 4000 (T := .split (decide ((↑i : Int) < (↑A.length : Int))) (.ob ((0 : Int) ≤ (↑i : Int) ∧ (↑i : Int) < (↑A.length : Int) ∧ (↑i : Int).toNat * (2 : Nat) < (nmsC A).length) (.ob (List.take (2 : Nat) (List.drop ((↑i : Int).toNat * (2 : Nat)) (nmsC A)) = [AV.str nm0.sp, AV.str nm0.lo]) (.ob (Ctr Tryd.prog 54 [AV.sl none l.length (fltsC l) .no, AV.int .i64 (6 : Int), AV.agg [AV.str nm0.sp, AV.str nm0.lo]] (AV.sl none T.length (strsC T) .no)) (.ob (V.length = V.length) (.ob ((valsC V).length = V.length * ((0 : Nat) + (1 : Nat)) ∧ (splice (repL (List.map zn [AV.sl (some true) (0 : Nat) [] .clip]) (1 : Nat)) ((0 : Nat) * (1 : Nat)) (cellsOf (AV.sl none T.length (strsC T) .no))).length = (1 : Nat) * ((0 : Nat) + (1 : Nat)) ∧ (V.length + (1 : Nat)) * ((23 : Nat) + (1 : Nat)) ≤ (140737488355328 : Nat)) (.head (pt Tryd.f32 0) ({ tmps := [(2, AV.ptr 2 0), (3, AV.sl none l.length (fltsC l) .no), (4, AV.ptr 4 0), (5, AV.int .i64 (IntKind.i64.wrap ((↑i : Int) + (1 : Int))))], heap := [(1, .var true (pthL p)), (2, .var true [AV.sl (some true) (0 : Nat) [] .clip, AV.sl (some true) (0 : Nat) [] .clip, AV.sl (some true) (0 : Nat) [] .clip, AV.sl (some true) (0 : Nat) [] .clip]), (4, .var true [AV.sl none N.length (nmsC N) .no, AV.sl none A.length (nmsC A) .no, AV.sl none (V.length + (1 : Nat)) (valsC V ++ splice (repL (List.map zn [AV.sl (some true) (0 : Nat) [] .clip]) (1 : Nat)) ((0 : Nat) * (1 : Nat)) (cellsOf (AV.sl none T.length (strsC T) .no))) (.own (1 : Nat)), AV.sl none T.length (strsC T) .no])], tags := [(1, { n := V.length + (1 : Nat), e := (64 : Nat), sz := (1 : Nat) })] }))))))) (.ob ((4 : Nat) ≤ (4 : Nat)) (.ob (N.length = N.length) (.ob (nmsC N = nmsC N) (.ob (A.length = A.length) (.ob (nmsC A = nmsC A) (.ob (V.length = V.length) (.ob (valsC V = valsC V) (.ob (T.length = T.length) (.ob (strsC T = strsC T) (.tt))))))))))) (by kernel_rfl) (by
    have h0 : decide ((i : Int) < A.length) = false := by simp; omega
    simp only [PT.holds, h0, true_implies, Bool.false_eq_true, Bool.true_eq_false, false_implies, true_and, and_true]
    (try omega))
theorem rm_p (p : Pth) (R : List (List ByteArray)) (l : List Flt) (N A : List Nm) (T : List ByteArray) (hN : N = namesF 4 4 l) (hA : A = namesF 5 6 l) (hT : T = valuesF 7 nm0 l) (hl : l.length ≤ 1000000) (hc : Ctr Tryd.prog 18 [.agg (pthL p)] (.sl none l.length (fltsC l) .no)) (k : HT Tryd.prog Tryd.f32.ntmps (pt Tryd.f32 0) (stRm p l N A [] T 0) (EndsA Γ (.pure [] (.agg [.sl none N.length (nmsC N) .no, .sl none A.length (nmsC A) .no, .sl none R.length (valsC R) .no, .sl none T.length (strsC T) .no])) Tryd.f32)) : Ctr Tryd.prog 32 [.agg (pthL p)] (.agg [.sl none N.length (nmsC N) .no, .sl none A.length (nmsC A) .no, .sl none R.length (valsC R) .no, .sl none T.length (strsC T) .no]) :=
  Ctr.mk Γ_ok Tryd.func32 (by kernel_rfl) Tryd.call32 [] (by kernel_rfl) (HT.walk Γ_ok mo_ok (⟨([(7, .call [] (.sl none l.length (fltsC l) .no)), (9, .call [] (.sl none N.length (nmsC N) .no)), (11, .call [] (.sl none A.length (nmsC A) .no)), (14, .call [] (.sl none T.length (strsC T) .no))] ++ []), sp32, hd32 [] [(false, 4, 2, 1, 64, 1)] [] [1], [], .pure [] (.agg [.sl none N.length (nmsC N) .no, .sl none A.length (nmsC A) .no, .sl none R.length (valsC R) .no, .sl none T.length (strsC T) .no])⟩ : Wk) 4000 (T := .ob ((3 : Nat) ≤ (3 : Nat)) (.ob (Ctr Tryd.prog 18 [AV.agg (pthL p)] (AV.sl none l.length (fltsC l) .no)) (.ob (Ctr Tryd.prog 53 [AV.sl none l.length (fltsC l) .no, AV.int .i64 (4 : Int), AV.int .i64 (4 : Int)] (AV.sl none N.length (nmsC N) .no)) (.ob (Ctr Tryd.prog 53 [AV.sl none l.length (fltsC l) .no, AV.int .i64 (5 : Int), AV.int .i64 (6 : Int)] (AV.sl none A.length (nmsC A) .no)) (.ob (Ctr Tryd.prog 54 [AV.sl none l.length (fltsC l) .no, AV.int .i64 (7 : Int), AV.agg [AV.str (ByteArray.mk #[]), AV.str (ByteArray.mk #[])]] (AV.sl none T.length (strsC T) .no)) (.head (pt Tryd.f32 0) ({ tmps := [(2, AV.ptr 2 0), (3, AV.sl none l.length (fltsC l) .no), (4, AV.ptr 4 0), (5, AV.int .i64 (0 : Int))], heap := [(1, .var true (pthL p)), (2, .var true [AV.sl (some true) (0 : Nat) [] .clip, AV.sl (some true) (0 : Nat) [] .clip, AV.sl (some true) (0 : Nat) [] .clip, AV.sl (some true) (0 : Nat) [] .clip]), (4, .var true [AV.sl none N.length (nmsC N) .no, AV.sl none A.length (nmsC A) .no, AV.sl none (0 : Nat) [] (.own (1 : Nat)), AV.sl none T.length (strsC T) .no])], tags := [(1, { n := (0 : Nat), e := (64 : Nat), sz := (1 : Nat) })] }))))))) (by kernel_rfl) (by
    simp only [PT.holds, true_implies, Bool.false_eq_true, Bool.true_eq_false, false_implies, true_and, and_true]
    have c1 := names_ctr l 4 4 hl
    have c2 := names_ctr l 5 6 hl
    have c3 := values_ctr l 7 nm0 hl
    rw [← hN] at c1
    rw [← hA] at c2
    rw [← hT] at c3
    exact ⟨by omega, hc, c1, c2, c3, head_eq k (by simp [stRm, pthL, valsC])⟩))
def valsF (l : List Flt) (A : List Nm) : List (List ByteArray) := A.map fun n => valuesF 6 n l
def spkC (N A : List Nm) (V : List (List ByteArray)) (T : List ByteArray) : List AV := [.sl none N.length (nmsC N) .no, .sl none A.length (nmsC A) .no, .sl none V.length (valsC V) .no, .sl none T.length (strsC T) .no]
theorem rm_l (p : Pth) (l : List Flt) (N A : List Nm) (T : List ByteArray) (hA : A.length ≤ 1000000) (hl : l.length ≤ 1000000) : ∀ d i V, i + d = A.length → V.length ≤ i → HT Tryd.prog Tryd.f32.ntmps (pt Tryd.f32 0) (stRm p l N A V T i) (EndsA Γ (.pure [] (.agg (spkC N A (V ++ valsF l (A.drop i)) T))) Tryd.f32) := by
  intro d
  induction d with
  | zero =>
    intro i V h hV
    rw [List.drop_of_length_le (by omega)]
    simp only [valsF, List.map_nil, List.append_nil]
    exact rm_e p l N A V T i (by omega)
  | succ d ih =>
    intro i V h hV
    have hlt : i < A.length := by omega
    have := ih (i + 1) (V ++ [valuesF 6 (A.getD i nm0) l]) (by omega) (by simp; omega)
    rw [drop_cons A i nm0 hlt]
    have e : V ++ valsF l (A.getD i nm0 :: A.drop (i + 1)) = V ++ [valuesF 6 (A.getD i nm0) l] ++ valsF l (A.drop (i + 1)) := by simp [valsF]
    rw [e]
    exact rm_h p l N A V _ T i hlt hA hl hV this
theorem names_len (a b : Int) : ∀ (l : List Flt) (out : List Nm), (l.foldl (stepN a b) out).length ≤ out.length + l.length
  | [], out => by simp
  | f :: r, out => by
    have h1 := stepN_len a b out f
    have h2 := names_len a b r (stepN a b out f)
    simp only [List.foldl_cons, List.length_cons]
    omega
/-- What a query speaks of, by the document's answer. -/
theorem make_ctr (p : Pth) (hok : p.ok) (hl : (filtersP p).length ≤ 1000000) : Ctr Tryd.prog 32 [.agg (pthL p)] (.agg (spkC (namesF 4 4 (filtersP p)) (namesF 5 6 (filtersP p)) (valsF (filtersP p) (namesF 5 6 (filtersP p))) (valuesF 7 nm0 (filtersP p)))) := by
  have hA := names_len 5 6 (filtersP p) []
  have k := rm_l p (filtersP p) (namesF 4 4 (filtersP p)) (namesF 5 6 (filtersP p)) (valuesF 7 nm0 (filtersP p)) (by unfold namesF; simp at hA; omega) hl (namesF 5 6 (filtersP p)).length 0 [] (Nat.zero_add _) (Nat.le_refl _)
  rw [List.drop_zero, List.nil_append] at k
  exact rm_p p _ (filtersP p) _ _ _ rfl rfl rfl hl (filters_ctr p hok hl) k

end Go.Proofs.YteimloiaipiadaaDoor
end

section
set_option linter.unusedVariables false
set_option linter.unusedSimpArgs false
set_option maxRecDepth 100000
namespace Go.Proofs.YteimloiaipiadaaDoor
open Go Go.AX

def bZ : ByteArray := ByteArray.mk #[122]
def nmZ (n : Nat) : Nm := if n = 0 then ⟨⟨#[]⟩, bZ⟩ else ⟨⟨#[]⟩, bZ ++ digN n⟩
def stOt (l : List Nm) (n : Nat) : AS := ⟨[(0, .sl none l.length (nmsC l) .no), (2, .ptr 2 0), (3, .int .i64 n)], [(2, .var true [.str ⟨#[]⟩, .str ⟨#[]⟩])], []⟩
def stOi (l : List Nm) (n : Nat) (b : Bool) (i : Nat) : AS := ⟨[(0, .sl none l.length (nmsC l) .no), (2, .ptr 2 0), (3, .int .i64 n), (4, .ptr 4 0), (5, .bool b), (6, .int .i64 i)], [(2, .var true [.str ⟨#[]⟩, .str ⟨#[]⟩]), (4, .var true (nmC (nmZ n)))], []⟩

theorem ot_h (l : List Nm) (n : Nat) (R : Nm) (hn : n ≤ 900000) (k : HT Tryd.prog Tryd.f33.ntmps (pt Tryd.f33 1) (stOi l n false 0) (EndsA Γ (.pure [] (.agg (nmC R))) Tryd.f33)) : HT Tryd.prog Tryd.f33.ntmps (pt Tryd.f33 0) (stOt l n) (EndsA Γ (.pure [] (.agg (nmC R))) Tryd.f33) :=
  HT.walk Γ_ok mo_ok (⟨[(11, .call [] (.str (digN n)))], sp33, hd33 [] [] [] [], dsp33, .pure [] (.agg (nmC R))⟩ : Wk) 4000 (T := .split (decide ((0 : Int) < (↑n : Int))) (.ob (Ctr Tryd.prog 55 [AV.int .i64 (↑n : Int)] (AV.str (digN n))) (.ob ((ByteArray.mk #[(122 : UInt8)]).size + (digN n).size ≤ (9223372036854775807 : Nat)) (.head (pt Tryd.f33 1) ({ tmps := [(0, AV.sl none l.length (nmsC l) .no), (2, AV.ptr 2 0), (3, AV.int .i64 (↑n : Int)), (4, AV.ptr 4 0), (5, AV.bool false), (6, AV.int .i64 (0 : Int))], heap := [(2, .var true [AV.str (ByteArray.mk #[]), AV.str (ByteArray.mk #[])]), (4, .var true [AV.str (ByteArray.mk #[]), AV.str ((ByteArray.mk #[(122 : UInt8)]) ++ digN n)])], tags := [] })))) (.head (pt Tryd.f33 1) ({ tmps := [(0, AV.sl none l.length (nmsC l) .no), (2, AV.ptr 2 0), (3, AV.int .i64 (↑n : Int)), (4, AV.ptr 4 0), (5, AV.bool false), (6, AV.int .i64 (0 : Int))], heap := [(2, .var true [AV.str (ByteArray.mk #[]), AV.str (ByteArray.mk #[])]), (4, .var true [AV.str (ByteArray.mk #[]), AV.str (ByteArray.mk #[(122 : UInt8)])])], tags := [] }))) (by kernel_rfl) (by
    simp only [PT.holds, true_implies, Bool.false_eq_true, Bool.true_eq_false, false_implies, true_and, and_true]
    have hsz : (digN n).size ≤ n + 1 := digN_size n
    have hz : bZ.size = 1 := rfl
    refine ⟨fun h => ⟨dig_ctr n (by omega), by show bZ.size + _ ≤ _; omega, head_eq k ?_⟩, fun h => head_eq k ?_⟩
    · have hn0 : n ≠ 0 := fun e => by subst e; simp at h
      simp [stOi, nmZ, nmC, hn0, bZ]
    · have hn0 : n = 0 := by simp at h; omega
      subst hn0
      simp [stOi, nmZ, nmC, bZ])
theorem oi_t (l : List Nm) (n : Nat) (i : Nat) (R : Nm) (hi : i < l.length) (hl : l.length ≤ 800000) (k : HT Tryd.prog Tryd.f33.ntmps (pt Tryd.f33 1) (stOi l n true (i + 1)) (EndsA Γ (.pure [] (.agg (nmC R))) Tryd.f33)) : HT Tryd.prog Tryd.f33.ntmps (pt Tryd.f33 1) (stOi l n true i) (EndsA Γ (.pure [] (.agg (nmC R))) Tryd.f33) :=
  HT.walk Γ_ok mo_ok (⟨[(17, .val (.bool true)), (25, .val (.agg (nmC (l.getD i nm0))))], (sp33).filter (fun x => !Nat.beq x 17), hd33 [] [] [] [], dsp33, .pure [] (.agg (nmC R))⟩ : Wk) 4000 (T := .ob (decide ((↑i : Int) < (↑l.length : Int)) = true) (.head (pt Tryd.f33 1) ({ tmps := [(0, AV.sl none l.length (nmsC l) .no), (2, AV.ptr 2 0), (3, AV.int .i64 (↑n : Int)), (4, AV.ptr 4 0), (5, AV.bool true), (6, AV.int .i64 (IntKind.i64.wrap ((↑i : Int) + (1 : Int))))], heap := [(2, .var true [AV.str (ByteArray.mk #[]), AV.str (ByteArray.mk #[])]), (4, .var true [AV.str (nmZ n).sp, AV.str (nmZ n).lo])], tags := [] }))) (by kernel_rfl) (by
    have w2 : IntKind.i64.wrap ((i : Int) + 1) = ((i + 1 : Nat) : Int) := by rw [i64_wrap (by omega) (by omega)]; rfl
    have h0 : decide ((i : Int) < l.length) = true := by simp; omega
    simp only [PT.holds, w2, h0, nm_eq, Int.toNat_natCast, nmsC_len, true_implies, Bool.false_eq_true, Bool.true_eq_false, false_implies, true_and, and_true]
    exact head_eq k (by simp [stOi, nmC]))
theorem oi_f (l : List Nm) (n : Nat) (i : Nat) (R : Nm) (hi : i < l.length) (hl : l.length ≤ 800000) (k : HT Tryd.prog Tryd.f33.ntmps (pt Tryd.f33 1) (stOi l n (decide (l.getD i nm0 = nmZ n)) (i + 1)) (EndsA Γ (.pure [] (.agg (nmC R))) Tryd.f33)) : HT Tryd.prog Tryd.f33.ntmps (pt Tryd.f33 1) (stOi l n false i) (EndsA Γ (.pure [] (.agg (nmC R))) Tryd.f33) :=
  HT.walk Γ_ok mo_ok (⟨[(17, .val (.bool true)), (25, .val (.agg (nmC (l.getD i nm0))))], (sp33).filter (fun x => !Nat.beq x 17), hd33 [] [] [] [], dsp33, .pure [] (.agg (nmC R))⟩ : Wk) 4000 (T := .ob (decide ((↑i : Int) < (↑l.length : Int)) = true) (.ob ((0 : Int) ≤ (↑i : Int) ∧ (↑i : Int) < (↑l.length : Int) ∧ (↑i : Int).toNat * (2 : Nat) < (nmsC l).length) (.ob (List.take (2 : Nat) (List.drop ((↑i : Int).toNat * (2 : Nat)) (nmsC l)) = [AV.str (l.getD i nm0).sp, AV.str (l.getD i nm0).lo]) (.ob ((2 : Nat) ≤ (2 : Nat)) (.head (pt Tryd.f33 1) ({ tmps := [(0, AV.sl none l.length (nmsC l) .no), (2, AV.ptr 2 0), (3, AV.int .i64 (↑n : Int)), (4, AV.ptr 4 0), (5, AV.bool (decide ((l.getD i nm0).sp = (nmZ n).sp) && (decide ((l.getD i nm0).lo = (nmZ n).lo) && true))), (6, AV.int .i64 (IntKind.i64.wrap ((↑i : Int) + (1 : Int))))], heap := [(2, .var true [AV.str (ByteArray.mk #[]), AV.str (ByteArray.mk #[])]), (4, .var true [AV.str (nmZ n).sp, AV.str (nmZ n).lo])], tags := [] })))))) (by kernel_rfl) (by
    have w2 : IntKind.i64.wrap ((i : Int) + 1) = ((i + 1 : Nat) : Int) := by rw [i64_wrap (by omega) (by omega)]; rfl
    have h0 : decide ((i : Int) < l.length) = true := by simp; omega
    simp only [PT.holds, w2, h0, nm_eq, Int.toNat_natCast, nmsC_len, true_implies, Bool.false_eq_true, Bool.true_eq_false, false_implies, true_and, and_true]
    exact ⟨by omega, by rw [nms_take0 _ _ _ hi (by decide)]; rfl, by omega, head_eq k (by simp [stOi, nmC])⟩)
theorem oi_et (l : List Nm) (n : Nat) (i : Nat) (R : Nm) (hi : i = l.length) (hn : n ≤ 900000) (k : HT Tryd.prog Tryd.f33.ntmps (pt Tryd.f33 0) (stOt l (n + 1)) (EndsA Γ (.pure [] (.agg (nmC R))) Tryd.f33)) : HT Tryd.prog Tryd.f33.ntmps (pt Tryd.f33 1) (stOi l n true i) (EndsA Γ (.pure [] (.agg (nmC R))) Tryd.f33) :=
  HT.walk Γ_ok mo_ok (⟨[(17, .val (.bool false)), (25, .val (.agg (nmC (l.getD i nm0))))], (sp33).filter (fun x => !Nat.beq x 17), hd33 [] [] [] [], dsp33, .pure [] (.agg (nmC R))⟩ : Wk) 4000 (T := .ob (decide ((↑i : Int) < (↑l.length : Int)) = false) (.split (true) (.head (pt Tryd.f33 0) ({ tmps := [(0, AV.sl none l.length (nmsC l) .no), (2, AV.ptr 2 0), (3, AV.int .i64 (IntKind.i64.wrap ((↑n : Int) + (1 : Int))))], heap := [(2, .var true [AV.str (ByteArray.mk #[]), AV.str (ByteArray.mk #[])])], tags := [] })) (.ob ((2 : Nat) ≤ (2 : Nat)) (.ob ((nmZ n).sp = R.sp) (.ob ((nmZ n).lo = R.lo) (.tt)))))) (by kernel_rfl) (by
    have w2 : IntKind.i64.wrap ((n : Int) + 1) = ((n + 1 : Nat) : Int) := by rw [i64_wrap (by omega) (by omega)]; rfl
    have h0 : decide ((i : Int) < l.length) = false := by simp; omega
    simp only [PT.holds, w2, h0, true_implies, Bool.false_eq_true, Bool.true_eq_false, false_implies, true_and, and_true]
    exact head_eq k (by simp [stOt]))
theorem oi_ef (l : List Nm) (n : Nat) (i : Nat) (R : Nm) (hi : i = l.length) (hn : n ≤ 900000) (k : R = nmZ n) : HT Tryd.prog Tryd.f33.ntmps (pt Tryd.f33 1) (stOi l n false i) (EndsA Γ (.pure [] (.agg (nmC R))) Tryd.f33) :=
  HT.walk Γ_ok mo_ok (⟨[(17, .val (.bool false)), (25, .val (.agg (nmC (l.getD i nm0))))], (sp33).filter (fun x => !Nat.beq x 17), hd33 [] [] [] [], dsp33, .pure [] (.agg (nmC R))⟩ : Wk) 4000 (T := .ob (decide ((↑i : Int) < (↑l.length : Int)) = false) (.split (false) (.head (pt Tryd.f33 0) ({ tmps := [(0, AV.sl none l.length (nmsC l) .no), (2, AV.ptr 2 0), (3, AV.int .i64 (IntKind.i64.wrap ((↑n : Int) + (1 : Int))))], heap := [(2, .var true [AV.str (ByteArray.mk #[]), AV.str (ByteArray.mk #[])])], tags := [] })) (.ob ((2 : Nat) ≤ (2 : Nat)) (.ob ((nmZ n).sp = R.sp) (.ob ((nmZ n).lo = R.lo) (.tt)))))) (by kernel_rfl) (by
    have w2 : IntKind.i64.wrap ((n : Int) + 1) = ((n + 1 : Nat) : Int) := by rw [i64_wrap (by omega) (by omega)]; rfl
    have h0 : decide ((i : Int) < l.length) = false := by simp; omega
    simp only [PT.holds, w2, h0, true_implies, Bool.false_eq_true, Bool.true_eq_false, false_implies, true_and, and_true]
    rw [k]; exact ⟨Nat.le_refl _, rfl, rfl⟩)
theorem ot_p (l : List Nm) (R : Nm) (k : HT Tryd.prog Tryd.f33.ntmps (pt Tryd.f33 0) (stOt l 0) (EndsA Γ (.pure [] (.agg (nmC R))) Tryd.f33)) : Ctr Tryd.prog 33 [.sl none l.length (nmsC l) .no] (.agg (nmC R)) :=
  Ctr.mk Γ_ok Tryd.func33 (by kernel_rfl) Tryd.call33 [] (by kernel_rfl) (HT.walk Γ_ok mo_ok (⟨[], sp33, hd33 [] [] [] [], dsp33, .pure [] (.agg (nmC R))⟩ : Wk) 4000 (T := .head (pt Tryd.f33 0) ({ tmps := [(0, AV.sl none l.length (nmsC l) .no), (2, AV.ptr 2 0), (3, AV.int .i64 (0 : Int))], heap := [(2, .var true [AV.str (ByteArray.mk #[]), AV.str (ByteArray.mk #[])])], tags := [] })) (by kernel_rfl) (by
    simp only [PT.holds]
    exact head_eq k (by simp [stOt])))
theorem nmZ_inj {a b : Nat} (h : nmZ a = nmZ b) : a = b := by
  have hz : ∀ n, 0 < (digN n).size := fun n => by
    induction n using Nat.strongRecOn with
    | ind n ih =>
      rw [digN]
      split
      · simp [ByteArray.size]
      · rename_i hh
        rw [ByteArray.size_append]
        have := ih (n / 10) (by omega)
        omega
  have hs : ∀ n, (nmZ n).lo.size = if n = 0 then 1 else 1 + (digN n).size := fun n => by
    unfold nmZ
    split
    · rfl
    · rw [ByteArray.size_append]; rfl
  have e1 := congrArg (fun x : Nm => x.lo.size) h
  simp only [hs] at e1
  by_cases ha : a = 0 <;> by_cases hb : b = 0
  · omega
  · rw [if_pos ha, if_neg hb] at e1; have := hz b; omega
  · rw [if_neg ha, if_pos hb] at e1; have := hz a; omega
  · have e2 := congrArg (fun x : Nm => x.lo.data.toList) h
    simp only [nmZ, if_neg ha, if_neg hb, ByteArray.data_append, Array.toList_append] at e2
    have e3 := List.append_cancel_left e2
    rw [← digN_val a, e3, digN_val b]
theorem nmZ_sp (n : Nat) : (nmZ n).sp = ⟨#[]⟩ := by
  unfold nmZ
  split <;> rfl
/-- The first such name that is not there. -/
structure FirstZ (l : List Nm) (k : Nat) : Prop where
  le : k ≤ l.length
  out : nmZ k ∉ l
  low : ∀ j, j < k → nmZ j ∈ l
theorem firstZ_ex (l : List Nm) : ∃ k, FirstZ l k := by
  have hex : ∃ k, k ≤ l.length ∧ nmZ k ∉ l := by
    rcases Classical.em (∃ k, k ≤ l.length ∧ nmZ k ∉ l) with h | h
    · exact h
    · exfalso
      have hall : ∀ k, k ≤ l.length → nmZ k ∈ l := fun k hk => Classical.byContradiction fun hc => h ⟨k, hk, hc⟩
      have := nodupB_le ((List.range (l.length + 1)).map fun k => (nmZ k).lo) (l.map (·.lo)) (by
        rw [List.Nodup, List.pairwise_map]
        refine (List.nodup_range).imp fun {a b} hab e => hab (nmZ_inj ?_)
        have h1 := nmZ_sp a
        have h2 := nmZ_sp b
        generalize nmZ a = x at e h1
        generalize nmZ b = y at e h2
        cases x; cases y
        simp only at e h1 h2
        subst e; subst h1; subst h2
        rfl) (fun v hv => by
        obtain ⟨k, hk, rfl⟩ := List.mem_map.1 hv
        exact List.mem_map.2 ⟨nmZ k, hall k (by have := List.mem_range.1 hk; omega), rfl⟩)
      simp at this
      omega
  obtain ⟨k, hk, ho⟩ := hex
  induction k using Nat.strongRecOn with
  | ind k ih =>
    by_cases h : ∃ j, j < k ∧ nmZ j ∉ l
    · obtain ⟨j, hj, hjo⟩ := h
      exact ih j hj (by omega) hjo
    · exact ⟨k, hk, ho, fun j hj => Classical.byContradiction fun hc => h ⟨j, hj, hc⟩⟩
theorem oi_lt (l : List Nm) (hl : l.length ≤ 800000) (n : Nat) (hn : n ≤ 900000) (R : Nm) (k : HT Tryd.prog Tryd.f33.ntmps (pt Tryd.f33 0) (stOt l (n + 1)) (EndsA Γ (.pure [] (.agg (nmC R))) Tryd.f33)) : ∀ d i, i + d = l.length → HT Tryd.prog Tryd.f33.ntmps (pt Tryd.f33 1) (stOi l n true i) (EndsA Γ (.pure [] (.agg (nmC R))) Tryd.f33) := by
  intro d
  induction d with
  | zero => intro i h; exact oi_et l n i R (by omega) hn k
  | succ d ih => intro i h; exact oi_t l n i R (by omega) hl (ih (i + 1) (by omega))
theorem oi_lf (l : List Nm) (hl : l.length ≤ 800000) (n : Nat) (hn : n ≤ 900000) (R : Nm) (k1 : nmZ n ∈ l → HT Tryd.prog Tryd.f33.ntmps (pt Tryd.f33 0) (stOt l (n + 1)) (EndsA Γ (.pure [] (.agg (nmC R))) Tryd.f33)) (k2 : nmZ n ∉ l → R = nmZ n) : ∀ d i, i + d = l.length → (∀ j, j < i → l.getD j nm0 ≠ nmZ n) → HT Tryd.prog Tryd.f33.ntmps (pt Tryd.f33 1) (stOi l n false i) (EndsA Γ (.pure [] (.agg (nmC R))) Tryd.f33) := by
  intro d
  induction d with
  | zero =>
    intro i h hno
    refine oi_ef l n i R (by omega) hn (k2 fun hm => ?_)
    obtain ⟨j, hj, e⟩ := List.mem_iff_getElem.1 hm
    exact hno j (by omega) (by rw [List.getD_eq_getElem?_getD, List.getElem?_eq_getElem hj]; exact e)
  | succ d ih =>
    intro i h hno
    refine oi_f l n i R (by omega) hl ?_
    by_cases e : l.getD i nm0 = nmZ n
    · rw [decide_eq_true e]
      refine oi_lt l hl n hn R (k1 ?_) d (i + 1) (by omega)
      rw [← e, List.getD_eq_getElem?_getD, List.getElem?_eq_getElem (by omega)]
      exact List.getElem_mem _
    · rw [decide_eq_false e]
      refine ih (i + 1) (by omega) fun j hj => ?_
      rcases Nat.lt_or_ge j i with h1 | h1
      · exact hno j h1
      · have : j = i := by omega
        subst this
        exact e
theorem ot_l (l : List Nm) (hl : l.length ≤ 800000) (k : Nat) (hk : FirstZ l k) : ∀ d i, i + d = k → HT Tryd.prog Tryd.f33.ntmps (pt Tryd.f33 0) (stOt l i) (EndsA Γ (.pure [] (.agg (nmC (nmZ k)))) Tryd.f33) := by
  have hle := hk.le
  intro d
  induction d with
  | zero =>
    intro i h
    have hi : i = k := by omega
    subst hi
    exact ot_h l i _ (by omega) (oi_lf l hl i (by omega) _ (fun hm => absurd hm hk.out) (fun _ => rfl) l.length 0 (Nat.zero_add _) (fun j hj => by omega))
  | succ d ih =>
    intro i h
    exact ot_h l i _ (by omega) (oi_lf l hl i (by omega) _ (fun _ => ih (i + 1) (by omega)) (fun hm => absurd (hk.low i (by omega)) hm) l.length 0 (Nat.zero_add _) (fun j hj => by omega))
/-- A name that is not spoken of. -/
theorem otherR_ctr (l : List Nm) (hl : l.length ≤ 800000) (k : Nat) (hk : FirstZ l k) : Ctr Tryd.prog 33 [.sl none l.length (nmsC l) .no] (.agg (nmC (nmZ k))) := ot_p l _ (ot_l l hl k hk k 0 (Nat.zero_add _))

end Go.Proofs.YteimloiaipiadaaDoor
end

section
set_option linter.unusedVariables false
set_option linter.unusedSimpArgs false
set_option maxRecDepth 100000
namespace Go.Proofs.YteimloiaipiadaaDoor
open Go Go.AX

def stIn (l : List Nm) (n : Nm) (i : Nat) : AS := ⟨[(0, .sl none l.length (nmsC l) .no), (3, .ptr 3 0), (7, .int .i64 l.length), (8, .int .i64 i)], [(3, .var true (nmC n))], []⟩
def stIs (l : List ByteArray) (s : ByteArray) (i : Nat) : AS := ⟨[(0, .sl none l.length (strsC l) .no), (1, .str s), (7, .int .i64 l.length), (8, .int .i64 i)], [], []⟩
def ixG {α : Type} [DecidableEq α] (n : α) : List α → Nat → Int
  | [], _ => -1
  | a :: r, i => if a = n then (i : Int) else ixG n r (i + 1)
theorem ixG_spec {α : Type} [DecidableEq α] (n d : α) : ∀ (l : List α) (i : Nat), (n ∉ l ∧ ixG n l i = -1) ∨ ∃ j, j < l.length ∧ l.getD j d = n ∧ ixG n l i = ((i + j : Nat) : Int)
  | [], i => .inl ⟨by simp, rfl⟩
  | a :: r, i => by
    simp only [ixG]
    by_cases h : a = n
    · exact .inr ⟨0, by simp, by simpa using h, by simp [h]⟩
    · rw [if_neg h]
      rcases ixG_spec n d r (i + 1) with ⟨h1, h2⟩ | ⟨j, h1, h2, h3⟩
      · exact .inl ⟨fun hm => (List.mem_cons.1 hm).elim (fun e => h e.symm) h1, h2⟩
      · exact .inr ⟨j + 1, by simpa using h1, by simpa using h2, by rw [h3]; congr 1; omega⟩
theorem ixG_ge {α : Type} [DecidableEq α] (n d : α) (l : List α) : decide (0 ≤ ixG n l 0) = true ↔ n ∈ l := by
  rw [decide_eq_true_eq]
  rcases ixG_spec n d l 0 with ⟨h1, h2⟩ | ⟨j, h1, h2, h3⟩
  · rw [h2]
    exact ⟨fun h => by omega, fun h => absurd h h1⟩
  · rw [h3]
    refine ⟨fun _ => ?_, fun _ => by omega⟩
    rw [← h2, List.getD_eq_getElem?_getD, List.getElem?_eq_getElem h1]
    exact List.getElem_mem _

theorem in_h (l : List Nm) (n : Nm) (i : Nat) (R : Int) (hi : i < l.length) (hl : l.length ≤ 1000000) (k : l.getD i nm0 ≠ n → HT Tryd.prog Tryd.f83.ntmps (pt Tryd.f83 0) (stIn l n (i + 1)) (EndsA Γ (.pure [] (.int .i64 R)) Tryd.f83)) (hr : l.getD i nm0 = n → R = i) : HT Tryd.prog Tryd.f83.ntmps (pt Tryd.f83 0) (stIn l n i) (EndsA Γ (.pure [] (.int .i64 R)) Tryd.f83) :=
  HT.walk Γ_ok mo_ok (⟨[(9, .val (.bool true)), (15, .val (.agg (nmC (l.getD i nm0))))], (sp83).filter (fun x => !Nat.beq x 9), hd83 [] [] [] [], dsp83, .pure [] (.int .i64 R)⟩ : Wk) 4000 (T := .ob (decide ((↑i : Int) < (↑l.length : Int)) = true) (.or (.ob ((2 : Nat) ≤ (2 : Nat)) (.ob ((0 : Int) ≤ (↑i : Int) ∧ (↑i : Int) < (↑l.length : Int) ∧ (↑i : Int).toNat * (2 : Nat) < (nmsC l).length) (.ob (List.take (2 : Nat) (List.drop ((↑i : Int).toNat * (2 : Nat)) (nmsC l)) = [AV.str (l.getD i nm0).sp, AV.str (l.getD i nm0).lo]) (.ob ((decide (n.sp = (l.getD i nm0).sp) && (decide (n.lo = (l.getD i nm0).lo) && true)) = true) (.ob ((↑i : Int) = R) (.tt)))))) (.ob ((2 : Nat) ≤ (2 : Nat)) (.ob ((0 : Int) ≤ (↑i : Int) ∧ (↑i : Int) < (↑l.length : Int) ∧ (↑i : Int).toNat * (2 : Nat) < (nmsC l).length) (.ob (List.take (2 : Nat) (List.drop ((↑i : Int).toNat * (2 : Nat)) (nmsC l)) = [AV.str (l.getD i nm0).sp, AV.str (l.getD i nm0).lo]) (.ob ((decide (n.sp = (l.getD i nm0).sp) && (decide (n.lo = (l.getD i nm0).lo) && true)) = false) (.head (pt Tryd.f83 0) ({ tmps := [(0, AV.sl none l.length (nmsC l) .no), (3, AV.ptr 3 0), (7, AV.int .i64 (↑l.length : Int)), (8, AV.int .i64 (IntKind.i64.wrap ((↑i : Int) + (1 : Int))))], heap := [(3, .var true [AV.str n.sp, AV.str n.lo])], tags := [] })))))))) (by kernel_rfl) (by
    have w2 : IntKind.i64.wrap ((i : Int) + 1) = ((i + 1 : Nat) : Int) := by rw [i64_wrap (by omega) (by omega)]; rfl
    have h0 : decide ((i : Int) < l.length) = true := by simp; omega
    simp only [PT.holds, w2, h0, nm_eq, Int.toNat_natCast, nmsC_len, true_implies, Bool.false_eq_true, Bool.true_eq_false, false_implies, true_and, and_true]
    by_cases h : l.getD i nm0 = n
    · exact .inl ⟨by omega, by omega, by rw [nms_take0 _ _ _ hi (by decide)]; rfl, decide_eq_true h.symm, (hr h).symm⟩
    · exact .inr ⟨by omega, by omega, by rw [nms_take0 _ _ _ hi (by decide)]; rfl, decide_eq_false (fun e => h e.symm), head_eq (k h) (by simp [stIn, nmC])⟩)
theorem is_h (l : List ByteArray) (n : ByteArray) (i : Nat) (R : Int) (hi : i < l.length) (hl : l.length ≤ 1000000) (k : l.getD i ⟨#[]⟩ ≠ n → HT Tryd.prog Tryd.f68.ntmps (pt Tryd.f68 0) (stIs l n (i + 1)) (EndsA Γ (.pure [] (.int .i64 R)) Tryd.f68)) (hr : l.getD i ⟨#[]⟩ = n → R = i) : HT Tryd.prog Tryd.f68.ntmps (pt Tryd.f68 0) (stIs l n i) (EndsA Γ (.pure [] (.int .i64 R)) Tryd.f68) :=
  HT.walk Γ_ok mo_ok (⟨[(9, .val (.bool true)), (15, .val (.str (l.getD i ⟨#[]⟩)))], (sp68).filter (fun x => !Nat.beq x 9), hd68 [] [] [] [], [], .pure [] (.int .i64 R)⟩ : Wk) 4000 (T := .ob (decide ((↑i : Int) < (↑l.length : Int)) = true) (.ob ((0 : Int) ≤ (↑i : Int) ∧ (↑i : Int) < (↑l.length : Int) ∧ (↑i : Int).toNat * (1 : Nat) < (strsC l).length) (.ob ((strsC l)[(↑i : Int).toNat * (1 : Nat)]? = some (AV.str (l.getD i (ByteArray.mk #[])))) (.split (decide (n = l.getD i (ByteArray.mk #[]))) (.ob ((↑i : Int) = R) (.tt)) (.head (pt Tryd.f68 0) ({ tmps := [(0, AV.sl none l.length (strsC l) .no), (1, AV.str n), (7, AV.int .i64 (↑l.length : Int)), (8, AV.int .i64 (IntKind.i64.wrap ((↑i : Int) + (1 : Int))))], heap := [], tags := [] })))))) (by kernel_rfl) (by
    have w2 : IntKind.i64.wrap ((i : Int) + 1) = ((i + 1 : Nat) : Int) := by rw [i64_wrap (by omega) (by omega)]; rfl
    have h0 : decide ((i : Int) < l.length) = true := by simp; omega
    simp only [PT.holds, w2, h0, Int.toNat_natCast, Nat.mul_one, strsC_len, strs_nth l i hi, decide_eq_true_eq, decide_eq_false_iff_not, true_implies, Bool.false_eq_true, Bool.true_eq_false, false_implies, true_and, and_true]
    exact ⟨by omega, fun h => (hr h.symm).symm, fun h => head_eq (k (fun e => h e.symm)) (by simp [stIs])⟩)
theorem in_e (l : List Nm) (n : Nm) (i : Nat) (hi : i = l.length) : HT Tryd.prog Tryd.f83.ntmps (pt Tryd.f83 0) (stIn l n i) (EndsA Γ (.pure [] (.int .i64 (-1))) Tryd.f83) :=
  HT.walk Γ_ok mo_ok (⟨[(9, .val (.bool false)), (15, .val (.agg (nmC (l.getD i nm0))))], (sp83).filter (fun x => !Nat.beq x 9), hd83 [] [] [] [], dsp83, .pure [] (.int .i64 (-1))⟩ : Wk) 4000 (T := .ob (decide ((↑i : Int) < (↑l.length : Int)) = false) (.ob ((-1 : Int) = (-1 : Int)) (.tt))) (by kernel_rfl) (by
    have h0 : decide ((i : Int) < l.length) = false := by simp; omega
    simp only [PT.holds, h0, true_implies, Bool.false_eq_true, Bool.true_eq_false, false_implies, true_and, and_true]
    try trivial)
theorem is_e (l : List ByteArray) (n : ByteArray) (i : Nat) (hi : i = l.length) : HT Tryd.prog Tryd.f68.ntmps (pt Tryd.f68 0) (stIs l n i) (EndsA Γ (.pure [] (.int .i64 (-1))) Tryd.f68) :=
  HT.walk Γ_ok mo_ok (⟨[(9, .val (.bool false)), (15, .val (.str (l.getD i ⟨#[]⟩)))], (sp68).filter (fun x => !Nat.beq x 9), hd68 [] [] [] [], [], .pure [] (.int .i64 (-1))⟩ : Wk) 4000 (T := .ob (decide ((↑i : Int) < (↑l.length : Int)) = false) (.ob ((-1 : Int) = (-1 : Int)) (.tt))) (by kernel_rfl) (by
    have h0 : decide ((i : Int) < l.length) = false := by simp; omega
    simp only [PT.holds, h0, true_implies, Bool.false_eq_true, Bool.true_eq_false, false_implies, true_and, and_true]
    try trivial)
theorem in_l (l : List Nm) (n : Nm) (hl : l.length ≤ 1000000) : ∀ d i, i + d = l.length → HT Tryd.prog Tryd.f83.ntmps (pt Tryd.f83 0) (stIn l n i) (EndsA Γ (.pure [] (.int .i64 (ixG n (l.drop i) i))) Tryd.f83) := by
  intro d
  induction d with
  | zero =>
    intro i h
    rw [List.drop_of_length_le (by omega)]
    exact in_e l n i (by omega)
  | succ d ih =>
    intro i h
    rw [drop_cons l i nm0 (by omega)]
    simp only [ixG]
    refine in_h l n i _ (by omega) hl (fun hne => ?_) (fun he => by rw [if_pos he])
    rw [if_neg hne]
    exact ih (i + 1) (by omega)
theorem is_l (l : List ByteArray) (n : ByteArray) (hl : l.length ≤ 1000000) : ∀ d i, i + d = l.length → HT Tryd.prog Tryd.f68.ntmps (pt Tryd.f68 0) (stIs l n i) (EndsA Γ (.pure [] (.int .i64 (ixG n (l.drop i) i))) Tryd.f68) := by
  intro d
  induction d with
  | zero =>
    intro i h
    rw [List.drop_of_length_le (by omega)]
    exact is_e l n i (by omega)
  | succ d ih =>
    intro i h
    rw [drop_cons l i ⟨#[]⟩ (by omega)]
    simp only [ixG]
    refine is_h l n i _ (by omega) hl (fun hne => ?_) (fun he => by rw [if_pos he])
    rw [if_neg hne]
    exact ih (i + 1) (by omega)

theorem ixN_ctr (l : List Nm) (n : Nm) (hl : l.length ≤ 1000000) : Ctr Tryd.prog 83 [.sl none l.length (nmsC l) .no, .agg (nmC n)] (.int .i64 (ixG n l 0)) :=
  Ctr.mk Γ_ok Tryd.func83 (by kernel_rfl) Tryd.call83 [] (by kernel_rfl) (HT.walk Γ_ok mo_ok (⟨[], sp83, hd83 [] [] [] [], dsp83, .pure [] (.int .i64 (ixG n l 0))⟩ : Wk) 4000 (T := .head (pt Tryd.f83 0) ({ tmps := [(0, AV.sl none l.length (nmsC l) .no), (3, AV.ptr 3 0), (7, AV.int .i64 (↑l.length : Int)), (8, AV.int .i64 (0 : Int))], heap := [(3, .var true [AV.str n.sp, AV.str n.lo])], tags := [] })) (by kernel_rfl) (by
    simp only [PT.holds]
    exact head_eq (in_l l n hl l.length 0 (Nat.zero_add _)) (by simp [stIn, nmC])))
theorem ixB_ctr (l : List ByteArray) (n : ByteArray) (hl : l.length ≤ 1000000) : Ctr Tryd.prog 68 [.sl none l.length (strsC l) .no, .str n] (.int .i64 (ixG n l 0)) :=
  Ctr.mk Γ_ok Tryd.func68 (by kernel_rfl) Tryd.call68 [] (by kernel_rfl) (HT.walk Γ_ok mo_ok (⟨[], sp68, hd68 [] [] [] [], [], .pure [] (.int .i64 (ixG n l 0))⟩ : Wk) 4000 (T := .head (pt Tryd.f68 0) ({ tmps := [(0, AV.sl none l.length (strsC l) .no), (1, AV.str n), (7, AV.int .i64 (↑l.length : Int)), (8, AV.int .i64 (0 : Int))], heap := [], tags := [] })) (by kernel_rfl) (by
    simp only [PT.holds]
    exact head_eq (is_l l n hl l.length 0 (Nat.zero_add _)) (by simp [stIs])))
theorem ctN_ctr (l : List Nm) (n : Nm) (hl : l.length ≤ 1000000) : Ctr Tryd.prog 71 [.sl none l.length (nmsC l) .no, .agg (nmC n)] (.bool (decide (0 ≤ ixG n l 0))) :=
  Ctr.mk Γ_ok Tryd.func71 (by kernel_rfl) Tryd.call71 [] (by kernel_rfl) (HT.walk Γ_ok mo_ok (⟨[(7, .call [] (.int .i64 (ixG n l 0)))], sp71, [], [], .pure [] (.bool (decide (0 ≤ ixG n l 0)))⟩ : Wk) 4000 (T := .ob ((2 : Nat) ≤ (2 : Nat)) (.ob (Ctr Tryd.prog 83 [AV.sl none l.length (nmsC l) .no, AV.agg [AV.str n.sp, AV.str n.lo]] (AV.int .i64 (ixG n l (0 : Nat)))) (.ob (decide ((0 : Int) ≤ ixG n l (0 : Nat)) = decide ((0 : Int) ≤ ixG n l (0 : Nat))) (.tt)))) (by kernel_rfl) (by
    simp only [PT.holds]
    exact ⟨by omega, ixN_ctr l n hl, trivial, trivial⟩))
theorem ctB_ctr (l : List ByteArray) (n : ByteArray) (hl : l.length ≤ 1000000) : Ctr Tryd.prog 51 [.sl none l.length (strsC l) .no, .str n] (.bool (decide (0 ≤ ixG n l 0))) :=
  Ctr.mk Γ_ok Tryd.func51 (by kernel_rfl) Tryd.call51 [] (by kernel_rfl) (HT.walk Γ_ok mo_ok (⟨[(7, .call [] (.int .i64 (ixG n l 0)))], sp51, [], [], .pure [] (.bool (decide (0 ≤ ixG n l 0)))⟩ : Wk) 4000 (T := .ob (Ctr Tryd.prog 68 [AV.sl none l.length (strsC l) .no, AV.str n] (AV.int .i64 (ixG n l (0 : Nat)))) (.ob (decide ((0 : Int) ≤ ixG n l (0 : Nat)) = decide ((0 : Int) ≤ ixG n l (0 : Nat))) (.tt))) (by kernel_rfl) (by
    simp only [PT.holds]
    exact ⟨ixB_ctr l n hl, trivial, trivial⟩))
def addG {α : Type} [DecidableEq α] (l : List α) (n : α) : List α := if 0 ≤ ixG n l 0 then l else l ++ [n]

theorem addBT_ctr (l : List ByteArray) (n : ByteArray) (hl : l.length ≤ 1000000) : CtrM Tryd.prog 81 ⟨[], [(1000014, ⟨l.length, 9, 1, some (false, strsC l)⟩)]⟩ [.vec 1000014 l.length, .str n] ⟨[], [(1000014, ⟨(addG l n).length, 9, 1, some (false, strsC (addG l n))⟩)]⟩ (.vec 1000014 (addG l n).length) :=
  CtrM.mk Γ_ok Tryd.func81 (by kernel_rfl) Tryd.call81 [] (by kernel_rfl) (by kernel_rfl) (by kernel_rfl) (HT.walk Γ_ok mo_ok (⟨[(7, .call [] (.bool (decide (0 ≤ ixG n l 0))))], sp81, [], [], .mem [] ⟨[], [(1000014, ⟨(addG l n).length, 9, 1, some (false, strsC (addG l n))⟩)]⟩ (.vec 1000014 (addG l n).length)⟩ : Wk) 4000 (T := .ob (l.length = l.length) (.ob (Ctr Tryd.prog 51 [AV.sl none l.length (strsC l) .no, AV.str n] (AV.bool (decide ((0 : Int) ≤ ixG n l (0 : Nat))))) (.split (decide ((0 : Int) ≤ ixG n l (0 : Nat))) (.ob (l.length = (addG l n).length) (.ob (l.length = (addG l n).length) (.ob (strsC l = strsC (addG l n)) (.tt)))) (.ob (l.length = l.length ∧ (splice (repL (List.map zn [AV.str (ByteArray.mk #[])]) (1 : Nat)) ((0 : Nat) * (1 : Nat)) (cellsOf (AV.str n))).length = (1 : Nat) * ((0 : Nat) + (1 : Nat)) ∧ (l.length + (1 : Nat)) * ((15 : Nat) + (1 : Nat)) ≤ (140737488355328 : Nat)) (.ob (l.length + (1 : Nat) = (addG l n).length) (.ob (l.length + (1 : Nat) = (addG l n).length) (.ob (strsC l ++ splice (repL (List.map zn [AV.str (ByteArray.mk #[])]) (1 : Nat)) ((0 : Nat) * (1 : Nat)) (cellsOf (AV.str n)) = strsC (addG l n)) (.tt)))))))) (by kernel_rfl) (by
    simp only [PT.holds]
    refine ⟨trivial, ctB_ctr l n hl, fun h => ?_, fun h => ?_⟩
    · have e : addG l n = l := by simp only [addG]; rw [if_pos (of_decide_eq_true h)]
      rw [e]; exact ⟨rfl, rfl, rfl, trivial⟩
    · have e : addG l n = l ++ [n] := by simp only [addG]; rw [if_neg (of_decide_eq_false h)]
      rw [e]; refine ⟨⟨trivial, rfl, by omega⟩, by simp, by simp, by rw [strsC_app]; rfl, trivial⟩))
theorem addBK_ctr (l : List ByteArray) (n : ByteArray) (hl : l.length ≤ 1000000) : CtrM Tryd.prog 81 ⟨[], [(1000020, ⟨l.length, 9, 1, some (false, strsC l)⟩)]⟩ [.vec 1000020 l.length, .str n] ⟨[], [(1000020, ⟨(addG l n).length, 9, 1, some (false, strsC (addG l n))⟩)]⟩ (.vec 1000020 (addG l n).length) :=
  CtrM.mk Γ_ok Tryd.func81 (by kernel_rfl) Tryd.call81 [] (by kernel_rfl) (by kernel_rfl) (by kernel_rfl) (HT.walk Γ_ok mo_ok (⟨[(7, .call [] (.bool (decide (0 ≤ ixG n l 0))))], sp81, [], [], .mem [] ⟨[], [(1000020, ⟨(addG l n).length, 9, 1, some (false, strsC (addG l n))⟩)]⟩ (.vec 1000020 (addG l n).length)⟩ : Wk) 4000 (T := .ob (l.length = l.length) (.ob (Ctr Tryd.prog 51 [AV.sl none l.length (strsC l) .no, AV.str n] (AV.bool (decide ((0 : Int) ≤ ixG n l (0 : Nat))))) (.split (decide ((0 : Int) ≤ ixG n l (0 : Nat))) (.ob (l.length = (addG l n).length) (.ob (l.length = (addG l n).length) (.ob (strsC l = strsC (addG l n)) (.tt)))) (.ob (l.length = l.length ∧ (splice (repL (List.map zn [AV.str (ByteArray.mk #[])]) (1 : Nat)) ((0 : Nat) * (1 : Nat)) (cellsOf (AV.str n))).length = (1 : Nat) * ((0 : Nat) + (1 : Nat)) ∧ (l.length + (1 : Nat)) * ((15 : Nat) + (1 : Nat)) ≤ (140737488355328 : Nat)) (.ob (l.length + (1 : Nat) = (addG l n).length) (.ob (l.length + (1 : Nat) = (addG l n).length) (.ob (strsC l ++ splice (repL (List.map zn [AV.str (ByteArray.mk #[])]) (1 : Nat)) ((0 : Nat) * (1 : Nat)) (cellsOf (AV.str n)) = strsC (addG l n)) (.tt)))))))) (by kernel_rfl) (by
    simp only [PT.holds]
    refine ⟨trivial, ctB_ctr l n hl, fun h => ?_, fun h => ?_⟩
    · have e : addG l n = l := by simp only [addG]; rw [if_pos (of_decide_eq_true h)]
      rw [e]; exact ⟨rfl, rfl, rfl, trivial⟩
    · have e : addG l n = l ++ [n] := by simp only [addG]; rw [if_neg (of_decide_eq_false h)]
      rw [e]; refine ⟨⟨trivial, rfl, by omega⟩, by simp, by simp, by rw [strsC_app]; rfl, trivial⟩))
theorem addN_ctr (l : List Nm) (n : Nm) (hl : l.length ≤ 1000000) : CtrM Tryd.prog 79 ⟨[], [(1000010, ⟨l.length, 36, 2, some (false, nmsC l)⟩)]⟩ [.vec 1000010 l.length, .agg (nmC n)] ⟨[], [(1000010, ⟨(addG l n).length, 36, 2, some (false, nmsC (addG l n))⟩)]⟩ (.vec 1000010 (addG l n).length) :=
  CtrM.mk Γ_ok Tryd.func79 (by kernel_rfl) Tryd.call79 [] (by kernel_rfl) (by kernel_rfl) (by kernel_rfl) (HT.walk Γ_ok mo_ok (⟨[(7, .call [] (.bool (decide (0 ≤ ixG n l 0))))], sp79, [], [], .mem [] ⟨[], [(1000010, ⟨(addG l n).length, 36, 2, some (false, nmsC (addG l n))⟩)]⟩ (.vec 1000010 (addG l n).length)⟩ : Wk) 4000 (T := .ob ((2 : Nat) ≤ (2 : Nat)) (.ob (l.length = l.length) (.ob (Ctr Tryd.prog 71 [AV.sl none l.length (nmsC l) .no, AV.agg [AV.str n.sp, AV.str n.lo]] (AV.bool (decide ((0 : Int) ≤ ixG n l (0 : Nat))))) (.split (decide ((0 : Int) ≤ ixG n l (0 : Nat))) (.ob (l.length = (addG l n).length) (.ob (l.length = (addG l n).length) (.ob (nmsC l = nmsC (addG l n)) (.tt)))) (.ob ((2 : Nat) ≤ (2 : Nat)) (.ob (l.length = l.length ∧ (splice (repL (List.map zn [AV.str (ByteArray.mk #[]), AV.str (ByteArray.mk #[])]) (1 : Nat)) ((0 : Nat) * (2 : Nat)) (cellsOf (AV.agg [AV.str n.sp, AV.str n.lo]))).length = (1 : Nat) * ((1 : Nat) + (1 : Nat)) ∧ (l.length + (1 : Nat)) * ((31 : Nat) + (1 : Nat)) ≤ (140737488355328 : Nat)) (.ob (l.length + (1 : Nat) = (addG l n).length) (.ob (l.length + (1 : Nat) = (addG l n).length) (.ob (nmsC l ++ splice (repL (List.map zn [AV.str (ByteArray.mk #[]), AV.str (ByteArray.mk #[])]) (1 : Nat)) ((0 : Nat) * (2 : Nat)) (cellsOf (AV.agg [AV.str n.sp, AV.str n.lo])) = nmsC (addG l n)) (.tt)))))))))) (by kernel_rfl) (by
    simp only [PT.holds]
    refine ⟨by omega, trivial, ctN_ctr l n hl, fun h => ?_, fun h => ?_⟩
    · have e : addG l n = l := by simp only [addG]; rw [if_pos (of_decide_eq_true h)]
      rw [e]; exact ⟨rfl, rfl, rfl, trivial⟩
    · have e : addG l n = l ++ [n] := by simp only [addG]; rw [if_neg (of_decide_eq_false h)]
      rw [e]; refine ⟨by omega, ⟨trivial, rfl, by omega⟩, by simp, by simp, by rw [nmsC_app]; rfl, trivial⟩))
end Go.Proofs.YteimloiaipiadaaDoor
end

section
set_option linter.unusedVariables false
set_option linter.unusedSimpArgs false
set_option maxRecDepth 100000
namespace Go.Proofs.YteimloiaipiadaaDoor
open Go Go.AX

/-! What is gathered: names, attributes, their values, texts. -/
structure Wd where
  N : List Nm
  A : List Nm
  V : List (List ByteArray)
  T : List ByteArray
def gatC (W : Wd) : List AV := [.vec 1000010 W.N.length, .vec 1000011 W.A.length, .vec 1000777 W.V.length, .vec 1000014 W.T.length]
def gatT (b : Bool) (W : Wd) : List (Nat × Tag) := [(1000010, ⟨W.N.length, 36, 2, some (false, nmsC W.N)⟩), (1000011, ⟨W.A.length, 36, 2, some (false, nmsC W.A)⟩), (1000777, ⟨W.V.length, 64, 1, some (b, valsC W.V)⟩), (1000014, ⟨W.T.length, 9, 1, some (false, strsC W.T)⟩)]
def gatM (W : Wd) : MemS := ⟨[(1000003, .var true (gatC W))], gatT true W⟩
/-- An attribute is spoken of. -/
def attW (W : Wd) (n : Nm) : Wd := if 0 ≤ ixG n W.A 0 then W else ⟨W.N, W.A ++ [n], W.V ++ [[]], W.T⟩
def attI (W : Wd) (n : Nm) : Int := if 0 ≤ ixG n W.A 0 then ixG n W.A 0 else W.A.length

theorem attr_ctr (W : Wd) (n : Nm) (hA : W.A.length ≤ 1000000) (hV : W.V.length ≤ 1000000) : CtrM Tryd.prog 80 (gatM W) [.ptr 1000003 0, .agg (nmC n)] (gatM (attW W n)) (.int .i64 (attI W n)) :=
  CtrM.mk Γ_ok Tryd.func80 (by kernel_rfl) Tryd.call80 [] (by kernel_rfl) (by kernel_rfl) (by kernel_rfl) (HT.walk Γ_ok mo_ok (⟨([(12, .call [] (.int .i64 (ixG n W.A 0))), (31, .val (.bool true))] ++ []), sp80, [], [], .mem [] (gatM (attW W n)) (.int .i64 (attI W n))⟩ : Wk) 4000 (T := .ob ((2 : Nat) ≤ (2 : Nat)) (.ob (W.A.length = W.A.length) (.ob (Ctr Tryd.prog 83 [AV.sl none W.A.length (nmsC W.A) .no, AV.agg [AV.str n.sp, AV.str n.lo]] (AV.int .i64 (ixG n W.A (0 : Nat)))) (.split (decide ((0 : Int) ≤ ixG n W.A (0 : Nat))) (.ob (ixG n W.A (0 : Nat) = attI W n) (.ob (W.N.length = (attW W n).N.length) (.ob (W.A.length = (attW W n).A.length) (.ob (W.V.length = (attW W n).V.length) (.ob (W.T.length = (attW W n).T.length) (.ob (W.N.length = (attW W n).N.length) (.ob (nmsC W.N = nmsC (attW W n).N) (.ob (W.A.length = (attW W n).A.length) (.ob (nmsC W.A = nmsC (attW W n).A) (.ob (W.V.length = (attW W n).V.length) (.ob (valsC W.V = valsC (attW W n).V) (.ob (W.T.length = (attW W n).T.length) (.ob (strsC W.T = strsC (attW W n).T) (.tt)))))))))))))) (.ob ((2 : Nat) ≤ (2 : Nat)) (.ob (W.A.length = W.A.length ∧ (splice (repL (List.map zn [AV.str (ByteArray.mk #[]), AV.str (ByteArray.mk #[])]) (1 : Nat)) ((0 : Nat) * (2 : Nat)) (cellsOf (AV.agg [AV.str n.sp, AV.str n.lo]))).length = (1 : Nat) * ((1 : Nat) + (1 : Nat)) ∧ (W.A.length + (1 : Nat)) * ((31 : Nat) + (1 : Nat)) ≤ (140737488355328 : Nat)) (.ob (W.V.length = W.V.length ∧ (splice (repL (List.map zn [AV.sl (some true) (0 : Nat) [] .clip]) (1 : Nat)) ((0 : Nat) * (1 : Nat)) (cellsOf (AV.sl (some true) (0 : Nat) [] .clip))).length = (1 : Nat) * ((0 : Nat) + (1 : Nat)) ∧ (W.V.length + (1 : Nat)) * ((23 : Nat) + (1 : Nat)) ≤ (140737488355328 : Nat)) (.ob (W.A.length + (1 : Nat) = W.A.length + (1 : Nat)) (.ob (IntKind.i64.wrap ((↑(W.A.length + (1 : Nat)) : Int) - (1 : Int)) = attI W n) (.ob (W.N.length = (attW W n).N.length) (.ob (W.A.length + (1 : Nat) = (attW W n).A.length) (.ob (W.V.length + (1 : Nat) = (attW W n).V.length) (.ob (W.T.length = (attW W n).T.length) (.ob (W.N.length = (attW W n).N.length) (.ob (nmsC W.N = nmsC (attW W n).N) (.ob (W.A.length + (1 : Nat) = (attW W n).A.length) (.ob (nmsC W.A ++ splice (repL (List.map zn [AV.str (ByteArray.mk #[]), AV.str (ByteArray.mk #[])]) (1 : Nat)) ((0 : Nat) * (2 : Nat)) (cellsOf (AV.agg [AV.str n.sp, AV.str n.lo])) = nmsC (attW W n).A) (.ob (W.V.length + (1 : Nat) = (attW W n).V.length) (.ob (valsC W.V ++ [AV.sl none (0 : Nat) [] .no] = valsC (attW W n).V) (.ob (W.T.length = (attW W n).T.length) (.ob (strsC W.T = strsC (attW W n).T) (.tt)))))))))))))))))))))) (by kernel_rfl) (by
    simp only [PT.holds]
    refine ⟨by omega, trivial, ixN_ctr _ _ hA, fun h => ?_, fun h => ?_⟩
    · have e : attW W n = W := by simp only [attW]; rw [if_pos (of_decide_eq_true h)]
      have e2 : attI W n = ixG n W.A 0 := by simp only [attI]; rw [if_pos (of_decide_eq_true h)]
      rw [e, e2]
      exact ⟨rfl, rfl, rfl, rfl, rfl, rfl, rfl, rfl, rfl, rfl, rfl, rfl, rfl, trivial⟩
    · have e : attW W n = ⟨W.N, W.A ++ [n], W.V ++ [[]], W.T⟩ := by simp only [attW]; rw [if_neg (of_decide_eq_false h)]
      have e2 : attI W n = W.A.length := by simp only [attI]; rw [if_neg (of_decide_eq_false h)]
      have w3 : IntKind.i64.wrap (((W.A.length + 1 : Nat) : Int) - 1) = W.A.length := by rw [i64_wrap (by omega) (by omega)]; omega
      rw [e, e2, w3]
      exact ⟨by omega, ⟨trivial, rfl, by omega⟩, ⟨trivial, rfl, by omega⟩, trivial, rfl, rfl, by simp, by simp, rfl, rfl, rfl, by simp, by rw [nmsC_app]; rfl, by simp, by rw [valsC_app]; rfl, rfl, rfl, trivial⟩))
end Go.Proofs.YteimloiaipiadaaDoor
end

section
set_option linter.unusedVariables false
set_option linter.unusedSimpArgs false
set_option maxRecDepth 100000
namespace Go.Proofs.YteimloiaipiadaaDoor
open Go Go.AX

def gstep (W : Wd) (f : Flt) : Wd :=
  if f.op = 4 then ⟨addG W.N f.nm, W.A, W.V, W.T⟩ else if f.op = 5 then attW W f.nm
  else if f.op = 6 then ⟨(attW W f.nm).N, (attW W f.nm).A, (attW W f.nm).V.set (attI W f.nm).toNat (addG ((attW W f.nm).V.getD (attI W f.nm).toNat []) f.val), (attW W f.nm).T⟩
  else if f.op = 7 then ⟨W.N, W.A, W.V, addG W.T f.val⟩ else W
theorem attW_eq (W : Wd) (n : Nm) (h : W.V.length = W.A.length) : (attW W n).V.length = (attW W n).A.length := by
  unfold attW
  split
  · exact h
  · simp [h]
theorem attI_in (W : Wd) (n : Nm) (h : W.V.length = W.A.length) : 0 ≤ attI W n ∧ attI W n < ((attW W n).V.length : Int) := by
  unfold attI attW
  split
  · rename_i h0
    refine ⟨h0, ?_⟩
    rcases ixG_spec n nm0 W.A 0 with ⟨_, h2⟩ | ⟨j, h1, _, h3⟩
    · omega
    · rw [h3, h]; omega
  · simp [h]
    omega
theorem attV_mem (W : Wd) (n : Nm) (v : List ByteArray) (h : v ∈ (attW W n).V) : v ∈ W.V ∨ v = [] := by
  unfold attW at h
  split at h
  · exact .inl h
  · simpa using h
theorem vals_set (V : List (List ByteArray)) (i : Nat) (x : List ByteArray) : setAt ((valsC V).set i .undef) i [.sl none x.length (strsC x) .no] = valsC (V.set i x) := by
  simp [setAt, valsC, List.map_set]
theorem vals_nth (V : List (List ByteArray)) (i : Nat) (h : i < V.length) : (valsC V)[i]? = some (.sl none (V.getD i []).length (strsC (V.getD i [])) .no) := by
  simp [valsC, List.getD_eq_getElem?_getD, h]
def stGf (f : Flt) (W : Wd) : AS := ⟨[(0, .ptr 1000003 0), (3, .ptr 3 0)], [(3, .var true (fltL f)), (1000003, .var true (gatC W))], gatT true W⟩
def stGfK (f : Flt) (W : Wd) (j : Nat) : AS := ⟨[(0, .ptr 1000003 0), (3, .ptr 3 0)], [(3, .var true (fltL f)), (1000003, .var true (gatC W))], gatT true W ++ [(1000020, ⟨j, 9, 1, none⟩)]⟩

theorem gf_p (f : Flt) (W R : Wd) (hN : W.N.length ≤ 1000000) (hA : W.A.length ≤ 1000000) (hV : W.V.length ≤ 1000000) (hT : W.T.length ≤ 1000000) (hAV : W.V.length = W.A.length) (hVs : ∀ v ∈ W.V, v.length ≤ 1000000) (k : f.op ≠ 6 → HT Tryd.prog Tryd.f67.ntmps (pr Tryd.f67 11) (stGf f (gstep W f)) (EndsA Γ (.mem [] (gatM R) (.tup [])) Tryd.f67)) (k6 : f.op = 6 → ∀ j, HT Tryd.prog Tryd.f67.ntmps (pr Tryd.f67 11) (stGfK f (gstep W f) j) (EndsA Γ (.mem [] (gatM R) (.tup [])) Tryd.f67)) : CtrM Tryd.prog 67 (gatM W) [.ptr 1000003 0, .agg (fltL f)] (gatM R) (.tup []) :=
  CtrM.mk Γ_ok Tryd.func67 (by kernel_rfl) Tryd.call67 [] (by kernel_rfl) (by kernel_rfl) (by kernel_rfl) (HT.walk Γ_ok mo_ok (⟨([(21, .callM [] [] [] [1000010] [] [(1000010, ⟨(addG W.N f.nm).length, 36, 2, some (false, nmsC (addG W.N f.nm))⟩)] (.vec 1000010 (addG W.N f.nm).length)), (30, .callM [] [] [1000003] [1000010, 1000011, 1000777, 1000014] (gatM (attW W f.nm)).heap (gatM (attW W f.nm)).tags (.int .i64 (attI W f.nm))), (36, .callM [] [] [1000003] [1000010, 1000011, 1000777, 1000014] (gatM (attW W f.nm)).heap (gatM (attW W f.nm)).tags (.int .i64 (attI W f.nm))), (50, .val (.tup [.vec 1000020 ((attW W f.nm).V.getD (attI W f.nm).toNat []).length, .agg (strsC ((attW W f.nm).V.getD (attI W f.nm).toNat []))])), (53, .callM [] [] [] [1000020] [] [(1000020, ⟨(addG ((attW W f.nm).V.getD (attI W f.nm).toNat []) f.val).length, 9, 1, some (false, strsC (addG ((attW W f.nm).V.getD (attI W f.nm).toNat []) f.val))⟩)] (.vec 1000020 (addG ((attW W f.nm).V.getD (attI W f.nm).toNat []) f.val).length)), (65, .callM [] [] [] [1000014] [] [(1000014, ⟨(addG W.T f.val).length, 9, 1, some (false, strsC (addG W.T f.val))⟩)] (.vec 1000014 (addG W.T f.val).length))] ++ []), sp67, (hd67 [] [] [1000003] [1000010, 1000011, 1000777, 1000014, 1000020] ++ [(7000011, ⟨[0, 3], [3, 1000003], [1000010, 1000011, 1000777, 1000014, 1000020], [], []⟩)]), [], .mem [] (gatM R) (.tup [])⟩ : Wk) 4000 (T := .split (decide (f.op = (4 : Int))) (.ob ((3 : Nat) ≤ (6 : Nat)) (.ob (CtrM Tryd.prog (79 : Nat) { heap := [], tags := [(1000010, { n := W.N.length, e := (36 : Nat), sz := (2 : Nat), cs := some (false, nmsC W.N) })] } [AV.vec (1000010 : Nat) W.N.length, AV.agg [AV.str f.nm.sp, AV.str f.nm.lo]] { heap := [], tags := [(1000010, { n := (addG W.N f.nm).length, e := (36 : Nat), sz := (2 : Nat), cs := some (false, nmsC (addG W.N f.nm)) })] } (AV.vec (1000010 : Nat) (addG W.N f.nm).length)) (.head (pr Tryd.f67 11) ({ tmps := [(0, AV.ptr 1000003 0), (3, AV.ptr 3 0)], heap := [(3, .var true (fltL f)), (1000003, .var true [AV.vec (1000010 : Nat) (addG W.N f.nm).length, AV.vec (1000011 : Nat) W.A.length, AV.vec (1000777 : Nat) W.V.length, AV.vec (1000014 : Nat) W.T.length])], tags := [(1000010, { n := (addG W.N f.nm).length, e := (36 : Nat), sz := (2 : Nat), cs := some (false, nmsC (addG W.N f.nm)) }), (1000011, { n := W.A.length, e := (36 : Nat), sz := (2 : Nat), cs := some (false, nmsC W.A) }), (1000777, { n := W.V.length, e := (64 : Nat), sz := (1 : Nat), cs := some (true, valsC W.V) }), (1000014, { n := W.T.length, e := (9 : Nat), sz := (1 : Nat), cs := some (false, strsC W.T) })] })))) (.split (decide (f.op = (5 : Int))) (.ob ((3 : Nat) ≤ (6 : Nat)) (.ob (CtrM Tryd.prog (80 : Nat) { heap := [(1000003, .var true [AV.vec (1000010 : Nat) W.N.length, AV.vec (1000011 : Nat) W.A.length, AV.vec (1000777 : Nat) W.V.length, AV.vec (1000014 : Nat) W.T.length])], tags := [(1000010, { n := W.N.length, e := (36 : Nat), sz := (2 : Nat), cs := some (false, nmsC W.N) }), (1000011, { n := W.A.length, e := (36 : Nat), sz := (2 : Nat), cs := some (false, nmsC W.A) }), (1000777, { n := W.V.length, e := (64 : Nat), sz := (1 : Nat), cs := some (true, valsC W.V) }), (1000014, { n := W.T.length, e := (9 : Nat), sz := (1 : Nat), cs := some (false, strsC W.T) })] } [AV.ptr 1000003 0, AV.agg [AV.str f.nm.sp, AV.str f.nm.lo]] { heap := [(1000003, .var true [AV.vec (1000010 : Nat) (attW W f.nm).N.length, AV.vec (1000011 : Nat) (attW W f.nm).A.length, AV.vec (1000777 : Nat) (attW W f.nm).V.length, AV.vec (1000014 : Nat) (attW W f.nm).T.length])], tags := [(1000010, { n := (attW W f.nm).N.length, e := (36 : Nat), sz := (2 : Nat), cs := some (false, nmsC (attW W f.nm).N) }), (1000011, { n := (attW W f.nm).A.length, e := (36 : Nat), sz := (2 : Nat), cs := some (false, nmsC (attW W f.nm).A) }), (1000777, { n := (attW W f.nm).V.length, e := (64 : Nat), sz := (1 : Nat), cs := some (true, valsC (attW W f.nm).V) }), (1000014, { n := (attW W f.nm).T.length, e := (9 : Nat), sz := (1 : Nat), cs := some (false, strsC (attW W f.nm).T) })] } (AV.int .i64 (attI W f.nm))) (.head (pr Tryd.f67 11) ({ tmps := [(0, AV.ptr 1000003 0), (3, AV.ptr 3 0)], heap := [(3, .var true (fltL f)), (1000003, .var true [AV.vec (1000010 : Nat) (attW W f.nm).N.length, AV.vec (1000011 : Nat) (attW W f.nm).A.length, AV.vec (1000777 : Nat) (attW W f.nm).V.length, AV.vec (1000014 : Nat) (attW W f.nm).T.length])], tags := [(1000010, { n := (attW W f.nm).N.length, e := (36 : Nat), sz := (2 : Nat), cs := some (false, nmsC (attW W f.nm).N) }), (1000011, { n := (attW W f.nm).A.length, e := (36 : Nat), sz := (2 : Nat), cs := some (false, nmsC (attW W f.nm).A) }), (1000777, { n := (attW W f.nm).V.length, e := (64 : Nat), sz := (1 : Nat), cs := some (true, valsC (attW W f.nm).V) }), (1000014, { n := (attW W f.nm).T.length, e := (9 : Nat), sz := (1 : Nat), cs := some (false, strsC (attW W f.nm).T) })] })))) (.split (decide (f.op = (6 : Int))) (.ob ((3 : Nat) ≤ (6 : Nat)) (.ob (CtrM Tryd.prog (80 : Nat) { heap := [(1000003, .var true [AV.vec (1000010 : Nat) W.N.length, AV.vec (1000011 : Nat) W.A.length, AV.vec (1000777 : Nat) W.V.length, AV.vec (1000014 : Nat) W.T.length])], tags := [(1000010, { n := W.N.length, e := (36 : Nat), sz := (2 : Nat), cs := some (false, nmsC W.N) }), (1000011, { n := W.A.length, e := (36 : Nat), sz := (2 : Nat), cs := some (false, nmsC W.A) }), (1000777, { n := W.V.length, e := (64 : Nat), sz := (1 : Nat), cs := some (true, valsC W.V) }), (1000014, { n := W.T.length, e := (9 : Nat), sz := (1 : Nat), cs := some (false, strsC W.T) })] } [AV.ptr 1000003 0, AV.agg [AV.str f.nm.sp, AV.str f.nm.lo]] { heap := [(1000003, .var true [AV.vec (1000010 : Nat) (attW W f.nm).N.length, AV.vec (1000011 : Nat) (attW W f.nm).A.length, AV.vec (1000777 : Nat) (attW W f.nm).V.length, AV.vec (1000014 : Nat) (attW W f.nm).T.length])], tags := [(1000010, { n := (attW W f.nm).N.length, e := (36 : Nat), sz := (2 : Nat), cs := some (false, nmsC (attW W f.nm).N) }), (1000011, { n := (attW W f.nm).A.length, e := (36 : Nat), sz := (2 : Nat), cs := some (false, nmsC (attW W f.nm).A) }), (1000777, { n := (attW W f.nm).V.length, e := (64 : Nat), sz := (1 : Nat), cs := some (true, valsC (attW W f.nm).V) }), (1000014, { n := (attW W f.nm).T.length, e := (9 : Nat), sz := (1 : Nat), cs := some (false, strsC (attW W f.nm).T) })] } (AV.int .i64 (attI W f.nm))) (.ob ((0 : Int) ≤ attI W f.nm ∧ attI W f.nm < (↑(attW W f.nm).V.length : Int) ∧ (attW W f.nm).V.length = (attW W f.nm).V.length) (.ob ((attW W f.nm).V.length = (attW W f.nm).V.length ∧ (valsC (attW W f.nm).V)[(attI W f.nm).toNat * (1 : Nat)]? = some (AV.sl none ((attW W f.nm).V.getD (attI W f.nm).toNat []).length (strsC ((attW W f.nm).V.getD (attI W f.nm).toNat [])) .no) ∧ (strsC ((attW W f.nm).V.getD (attI W f.nm).toNat [])).length = ((attW W f.nm).V.getD (attI W f.nm).toNat []).length) (.ob (CtrM Tryd.prog (81 : Nat) { heap := [], tags := [(1000020, { n := ((attW W f.nm).V.getD (attI W f.nm).toNat []).length, e := (9 : Nat), sz := (1 : Nat), cs := some (false, strsC ((attW W f.nm).V.getD (attI W f.nm).toNat [])) })] } [AV.vec (1000020 : Nat) ((attW W f.nm).V.getD (attI W f.nm).toNat []).length, AV.str f.val] { heap := [], tags := [(1000020, { n := (addG ((attW W f.nm).V.getD (attI W f.nm).toNat []) f.val).length, e := (9 : Nat), sz := (1 : Nat), cs := some (false, strsC (addG ((attW W f.nm).V.getD (attI W f.nm).toNat []) f.val)) })] } (AV.vec (1000020 : Nat) (addG ((attW W f.nm).V.getD (attI W f.nm).toNat []) f.val).length)) (.ob ((0 : Int) ≤ attI W f.nm ∧ attI W f.nm < (↑(attW W f.nm).V.length : Int) ∧ (attW W f.nm).V.length = (attW W f.nm).V.length) (.ob ((attW W f.nm).V.length = (attW W f.nm).V.length ∧ (attI W f.nm).toNat * (1 : Nat) + (1 : Nat) ≤ ((valsC (attW W f.nm).V).set ((attI W f.nm).toNat * (1 : Nat)) AV.undef).length ∧ (addG ((attW W f.nm).V.getD (attI W f.nm).toNat []) f.val).length = (addG ((attW W f.nm).V.getD (attI W f.nm).toNat []) f.val).length) (.head (pr Tryd.f67 11) ({ tmps := [(0, AV.ptr 1000003 0), (3, AV.ptr 3 0)], heap := [(3, .var true (fltL f)), (1000003, .var true [AV.vec (1000010 : Nat) (attW W f.nm).N.length, AV.vec (1000011 : Nat) (attW W f.nm).A.length, AV.vec (1000777 : Nat) (attW W f.nm).V.length, AV.vec (1000014 : Nat) (attW W f.nm).T.length])], tags := [(1000010, { n := (attW W f.nm).N.length, e := (36 : Nat), sz := (2 : Nat), cs := some (false, nmsC (attW W f.nm).N) }), (1000011, { n := (attW W f.nm).A.length, e := (36 : Nat), sz := (2 : Nat), cs := some (false, nmsC (attW W f.nm).A) }), (1000777, { n := (attW W f.nm).V.length, e := (64 : Nat), sz := (1 : Nat), cs := some (true, setAt ((valsC (attW W f.nm).V).set ((attI W f.nm).toNat * (1 : Nat)) AV.undef) ((attI W f.nm).toNat * (1 : Nat)) [AV.sl none (addG ((attW W f.nm).V.getD (attI W f.nm).toNat []) f.val).length (strsC (addG ((attW W f.nm).V.getD (attI W f.nm).toNat []) f.val)) .no]) }), (1000014, { n := (attW W f.nm).T.length, e := (9 : Nat), sz := (1 : Nat), cs := some (false, strsC (attW W f.nm).T) }), (1000020, { n := (addG ((attW W f.nm).V.getD (attI W f.nm).toNat []) f.val).length + (1 : Nat), e := (9 : Nat), sz := (1 : Nat) })] }))))))))) (.split (decide (f.op = (7 : Int))) (.ob (CtrM Tryd.prog (81 : Nat) { heap := [], tags := [(1000014, { n := W.T.length, e := (9 : Nat), sz := (1 : Nat), cs := some (false, strsC W.T) })] } [AV.vec (1000014 : Nat) W.T.length, AV.str f.val] { heap := [], tags := [(1000014, { n := (addG W.T f.val).length, e := (9 : Nat), sz := (1 : Nat), cs := some (false, strsC (addG W.T f.val)) })] } (AV.vec (1000014 : Nat) (addG W.T f.val).length)) (.head (pr Tryd.f67 11) ({ tmps := [(0, AV.ptr 1000003 0), (3, AV.ptr 3 0)], heap := [(3, .var true (fltL f)), (1000003, .var true [AV.vec (1000010 : Nat) W.N.length, AV.vec (1000011 : Nat) W.A.length, AV.vec (1000777 : Nat) W.V.length, AV.vec (1000014 : Nat) (addG W.T f.val).length])], tags := [(1000010, { n := W.N.length, e := (36 : Nat), sz := (2 : Nat), cs := some (false, nmsC W.N) }), (1000011, { n := W.A.length, e := (36 : Nat), sz := (2 : Nat), cs := some (false, nmsC W.A) }), (1000777, { n := W.V.length, e := (64 : Nat), sz := (1 : Nat), cs := some (true, valsC W.V) }), (1000014, { n := (addG W.T f.val).length, e := (9 : Nat), sz := (1 : Nat), cs := some (false, strsC (addG W.T f.val)) })] }))) (.head (pr Tryd.f67 11) ({ tmps := [(0, AV.ptr 1000003 0), (3, AV.ptr 3 0)], heap := [(3, .var true (fltL f)), (1000003, .var true [AV.vec (1000010 : Nat) W.N.length, AV.vec (1000011 : Nat) W.A.length, AV.vec (1000777 : Nat) W.V.length, AV.vec (1000014 : Nat) W.T.length])], tags := [(1000010, { n := W.N.length, e := (36 : Nat), sz := (2 : Nat), cs := some (false, nmsC W.N) }), (1000011, { n := W.A.length, e := (36 : Nat), sz := (2 : Nat), cs := some (false, nmsC W.A) }), (1000777, { n := W.V.length, e := (64 : Nat), sz := (1 : Nat), cs := some (true, valsC W.V) }), (1000014, { n := W.T.length, e := (9 : Nat), sz := (1 : Nat), cs := some (false, strsC W.T) })] })))))) (by kernel_rfl) (by
    simp only [PT.holds]
    have hI := attI_in W f.nm hAV
    have hV0 : ((attW W f.nm).V.getD (attI W f.nm).toNat []).length ≤ 1000000 := by
      have hm := getD_mem (attW W f.nm).V (attI W f.nm).toNat [] (by omega)
      rcases attV_mem W f.nm _ hm with h | h
      · exact hVs _ h
      · rw [h]; simp
    refine ⟨fun h => ?_, fun h4 => ⟨fun h => ?_, fun h5 => ⟨fun h => ?_, fun h6 => ⟨fun h => ?_, fun h7 => ?_⟩⟩⟩⟩
    · have e := of_decide_eq_true h
      refine ⟨by omega, addN_ctr _ _ hN, head_eq (k (by omega)) ?_⟩
      simp [stGf, gstep, e, gatC, gatT, fltL]
    · have e := of_decide_eq_true h
      refine ⟨by omega, attr_ctr W f.nm hA hV, head_eq (k (by omega)) ?_⟩
      simp [stGf, gstep, e, gatC, gatT, fltL]
    · have e := of_decide_eq_true h
      refine ⟨by omega, attr_ctr W f.nm hA hV, ⟨hI.1, hI.2, trivial⟩, ⟨trivial, by rw [Nat.mul_one]; exact vals_nth _ _ (by omega), strsC_len _⟩, addBK_ctr _ _ hV0, ⟨hI.1, hI.2, trivial⟩, ⟨trivial, by rw [List.length_set, valsC_len]; omega, trivial⟩, head_eq (k6 e ((addG ((attW W f.nm).V.getD (attI W f.nm).toNat []) f.val).length + 1)) ?_⟩
      simp only [stGfK, gstep, e, gatC, gatT, fltL, Nat.mul_one, vals_set, List.length_set]
      simp
    · have e := of_decide_eq_true h
      refine ⟨addBT_ctr _ _ hT, head_eq (k (by omega)) ?_⟩
      simp [stGf, gstep, e, gatC, gatT, fltL]
    · have e4 := of_decide_eq_false h4
      have e5 := of_decide_eq_false h5
      have e6 := of_decide_eq_false h6
      have e7 := of_decide_eq_false h7
      refine head_eq (k e6) ?_
      simp [stGf, gstep, e4, e5, e6, e7, gatC, gatT, fltL]))
end Go.Proofs.YteimloiaipiadaaDoor
end
