import Derived.Test.YteimloiaipiadaaDoorP10
section
set_option linter.unusedVariables false
set_option linter.unusedSimpArgs false
set_option maxRecDepth 100000
namespace Go.Proofs.YteimloiaipiadaaDoor
open Go Go.AX

def lkA1 (a b : Ev) (n : Nm) (v : List ByteArray) : Bool := decide ((atV a.attrs n).2 = (atV b.attrs n).2) && alG v (atV a.attrs n).1 (atV b.attrs n).1
def lkA (a b : Ev) : List Nm → List (List ByteArray) → Bool
  | n :: A, v :: V => lkA1 a b n v && lkA a b A V
  | _, _ => true
/-- Are two events alike? -/
def likW (W : Wd) (a b : Ev) : Bool := decide (a.kind = b.kind) && (alG W.N a.nm b.nm && (alG W.T a.text b.text && lkA a b W.A W.V))
def stLk (W : Wd) (a b : Ev) (i : Nat) : AS := ⟨[(3, .ptr 3 0), (4, .ptr 4 0), (5, .ptr 5 0), (39, .sl none W.A.length (nmsC W.A) .no), (40, .int .i64 W.A.length), (41, .int .i64 i)], [(3, .var true (spkC W.N W.A W.V W.T)), (4, .var true (evC a)), (5, .var true (evC b))], []⟩

theorem lk_h (W : Wd) (a b : Ev) (i : Nat) (R : Bool) (hi : i < W.A.length) (hN : W.N.length ≤ 1000000) (hT : W.T.length ≤ 1000000) (hA : W.A.length ≤ 1000000) (hVl : W.V.length = W.A.length) (hVs : ∀ v ∈ W.V, v.length ≤ 1000000) (ha : a.attrs.length ≤ 1048600) (hb : b.attrs.length ≤ 1048600) (k : lkA1 a b (W.A.getD i nm0) (W.V.getD i []) = true → HT Tryd.prog Tryd.f40.ntmps (pt Tryd.f40 0) (stLk W a b (i + 1)) (EndsA Γ (.pure [] (.bool R)) Tryd.f40)) (hr : lkA1 a b (W.A.getD i nm0) (W.V.getD i []) = false → R = false) : HT Tryd.prog Tryd.f40.ntmps (pt Tryd.f40 0) (stLk W a b i) (EndsA Γ (.pure [] (.bool R)) Tryd.f40) :=
  HT.walk Γ_ok mo_ok (⟨([(25, .call [] (.bool (alG W.N a.nm b.nm))), (35, .call [] (.bool (alG W.T a.text b.text))), (45, .val (.agg (nmC (W.A.getD i nm0)))), (49, .call [] (.tup [.str (atV a.attrs (W.A.getD i nm0)).1, .bool (atV a.attrs (W.A.getD i nm0)).2])), (55, .call [] (.tup [.str (atV b.attrs (W.A.getD i nm0)).1, .bool (atV b.attrs (W.A.getD i nm0)).2])), (66, .val (.sl none (W.V.getD i []).length (strsC (W.V.getD i [])) .no)), (69, .call [] (.bool (alG (W.V.getD i []) (atV a.attrs (W.A.getD i nm0)).1 (atV b.attrs (W.A.getD i nm0)).1)))] ++ []), sp40, hd40 [] [] [] [], [], .pure [] (.bool R)⟩ : Wk) 4000 (T := .split (decide ((↑i : Int) < (↑W.A.length : Int))) (.ob ((0 : Int) ≤ (↑i : Int) ∧ (↑i : Int) < (↑W.A.length : Int) ∧ (↑i : Int).toNat * (2 : Nat) < (nmsC W.A).length) (.ob (List.take (2 : Nat) (List.drop ((↑i : Int).toNat * (2 : Nat)) (nmsC W.A)) = [AV.str (W.A.getD i nm0).sp, AV.str (W.A.getD i nm0).lo]) (.ob ((5 : Nat) ≤ (5 : Nat)) (.ob ((2 : Nat) ≤ (2 : Nat)) (.ob (Ctr Tryd.prog 58 [AV.agg (evC a), AV.agg [AV.str (W.A.getD i nm0).sp, AV.str (W.A.getD i nm0).lo]] (AV.tup [AV.str (atV a.attrs (W.A.getD i nm0)).fst, AV.bool (atV a.attrs (W.A.getD i nm0)).snd])) (.ob ((5 : Nat) ≤ (5 : Nat)) (.ob ((2 : Nat) ≤ (2 : Nat)) (.ob (Ctr Tryd.prog 58 [AV.agg (evC b), AV.agg [AV.str (W.A.getD i nm0).sp, AV.str (W.A.getD i nm0).lo]] (AV.tup [AV.str (atV b.attrs (W.A.getD i nm0)).fst, AV.bool (atV b.attrs (W.A.getD i nm0)).snd])) (.split (!(atV a.attrs (W.A.getD i nm0)).snd == (atV b.attrs (W.A.getD i nm0)).snd) (.ob (false = R) (.tt)) (.ob ((0 : Int) ≤ (↑i : Int) ∧ (↑i : Int) < (↑W.V.length : Int) ∧ (↑i : Int).toNat * (1 : Nat) < (valsC W.V).length) (.ob ((valsC W.V)[(↑i : Int).toNat * (1 : Nat)]? = some (AV.sl none (W.V.getD i []).length (strsC (W.V.getD i [])) .no)) (.ob (Ctr Tryd.prog 57 [AV.sl none (W.V.getD i []).length (strsC (W.V.getD i [])) .no, AV.str (atV a.attrs (W.A.getD i nm0)).fst, AV.str (atV b.attrs (W.A.getD i nm0)).fst] (AV.bool (alG (W.V.getD i []) (atV a.attrs (W.A.getD i nm0)).fst (atV b.attrs (W.A.getD i nm0)).fst))) (.split (alG (W.V.getD i []) (atV a.attrs (W.A.getD i nm0)).fst (atV b.attrs (W.A.getD i nm0)).fst) (.head (pt Tryd.f40 0) ({ tmps := [(3, AV.ptr 3 0), (4, AV.ptr 4 0), (5, AV.ptr 5 0), (39, AV.sl none W.A.length (nmsC W.A) .no), (40, AV.int .i64 (↑W.A.length : Int)), (41, AV.int .i64 (IntKind.i64.wrap ((↑i : Int) + (1 : Int))))], heap := [(3, .var true [AV.sl none W.N.length (nmsC W.N) .no, AV.sl none W.A.length (nmsC W.A) .no, AV.sl none W.V.length (valsC W.V) .no, AV.sl none W.T.length (strsC W.T) .no]), (4, .var true (evC a)), (5, .var true (evC b))], tags := [] })) (.ob (false = R) (.tt))))))))))))))) (.ob (true = R) (.tt))) (by kernel_rfl) (by
    have w2 : IntKind.i64.wrap ((i : Int) + 1) = ((i + 1 : Nat) : Int) := by rw [i64_wrap (by omega) (by omega)]; rfl
    have h0 : decide ((i : Int) < W.A.length) = true := by simp; omega
    simp only [PT.holds, w2, h0, nm_eq, Int.toNat_natCast, nmsC_len, valsC_len, true_implies, Bool.false_eq_true, Bool.true_eq_false, false_implies, true_and, and_true]
    have hv : (W.V.getD i []).length ≤ 1000000 := hVs _ (getD_mem _ _ _ (by omega))
    refine ⟨by omega, by rw [nms_take0 _ _ _ hi (by decide)]; rfl, by omega, by omega, at_ctr a _ ha, by omega, by omega, at_ctr b _ hb, fun h => ?_, fun h => ⟨by omega, by rw [Nat.mul_one]; exact vals_nth _ _ (by omega), alB_ctr _ _ _ hv, fun h2 => head_eq (k ?_) (by simp [stLk, spkC, evC]), fun h2 => ?_⟩⟩
    · refine (hr ?_).symm
      unfold lkA1
      rw [decide_eq_false (by simpa using h)]
      rfl
    · unfold lkA1
      rw [h2, decide_eq_true (by simpa using h)]
      rfl
    · refine (hr ?_).symm
      unfold lkA1
      rw [h2, Bool.and_false])
theorem lk_e (W : Wd) (a b : Ev) (i : Nat) (hi : i = W.A.length) : HT Tryd.prog Tryd.f40.ntmps (pt Tryd.f40 0) (stLk W a b i) (EndsA Γ (.pure [] (.bool true)) Tryd.f40) :=
  HT.walk Γ_ok mo_ok (⟨([(25, .call [] (.bool (alG W.N a.nm b.nm))), (35, .call [] (.bool (alG W.T a.text b.text))), (45, .val (.agg (nmC (W.A.getD i nm0)))), (49, .call [] (.tup [.str (atV a.attrs (W.A.getD i nm0)).1, .bool (atV a.attrs (W.A.getD i nm0)).2])), (55, .call [] (.tup [.str (atV b.attrs (W.A.getD i nm0)).1, .bool (atV b.attrs (W.A.getD i nm0)).2])), (66, .val (.sl none (W.V.getD i []).length (strsC (W.V.getD i [])) .no)), (69, .call [] (.bool (alG (W.V.getD i []) (atV a.attrs (W.A.getD i nm0)).1 (atV b.attrs (W.A.getD i nm0)).1)))] ++ []), sp40, hd40 [] [] [] [], [], .pure [] (.bool true)⟩ : Wk) 4000 (T := .split (decide ((↑i : Int) < (↑W.A.length : Int))) (.ob ((0 : Int) ≤ (↑i : Int) ∧ (↑i : Int) < (↑W.A.length : Int) ∧ (↑i : Int).toNat * (2 : Nat) < (nmsC W.A).length) (.ob (List.take (2 : Nat) (List.drop ((↑i : Int).toNat * (2 : Nat)) (nmsC W.A)) = [AV.str (W.A.getD i nm0).sp, AV.str (W.A.getD i nm0).lo]) (.ob ((5 : Nat) ≤ (5 : Nat)) (.ob ((2 : Nat) ≤ (2 : Nat)) (.ob (Ctr Tryd.prog 58 [AV.agg (evC a), AV.agg [AV.str (W.A.getD i nm0).sp, AV.str (W.A.getD i nm0).lo]] (AV.tup [AV.str (atV a.attrs (W.A.getD i nm0)).fst, AV.bool (atV a.attrs (W.A.getD i nm0)).snd])) (.ob ((5 : Nat) ≤ (5 : Nat)) (.ob ((2 : Nat) ≤ (2 : Nat)) (.ob (Ctr Tryd.prog 58 [AV.agg (evC b), AV.agg [AV.str (W.A.getD i nm0).sp, AV.str (W.A.getD i nm0).lo]] (AV.tup [AV.str (atV b.attrs (W.A.getD i nm0)).fst, AV.bool (atV b.attrs (W.A.getD i nm0)).snd])) (.split (!(atV a.attrs (W.A.getD i nm0)).snd == (atV b.attrs (W.A.getD i nm0)).snd) (.ob (false = true) (.tt)) (.ob ((0 : Int) ≤ (↑i : Int) ∧ (↑i : Int) < (↑W.V.length : Int) ∧ (↑i : Int).toNat * (1 : Nat) < (valsC W.V).length) (.ob ((valsC W.V)[(↑i : Int).toNat * (1 : Nat)]? = some (AV.sl none (W.V.getD i []).length (strsC (W.V.getD i [])) .no)) (.ob (Ctr Tryd.prog 57 [AV.sl none (W.V.getD i []).length (strsC (W.V.getD i [])) .no, AV.str (atV a.attrs (W.A.getD i nm0)).fst, AV.str (atV b.attrs (W.A.getD i nm0)).fst] (AV.bool (alG (W.V.getD i []) (atV a.attrs (W.A.getD i nm0)).fst (atV b.attrs (W.A.getD i nm0)).fst))) (.split (alG (W.V.getD i []) (atV a.attrs (W.A.getD i nm0)).fst (atV b.attrs (W.A.getD i nm0)).fst) (.head (pt Tryd.f40 0) ({ tmps := [(3, AV.ptr 3 0), (4, AV.ptr 4 0), (5, AV.ptr 5 0), (39, AV.sl none W.A.length (nmsC W.A) .no), (40, AV.int .i64 (↑W.A.length : Int)), (41, AV.int .i64 (IntKind.i64.wrap ((↑i : Int) + (1 : Int))))], heap := [(3, .var true [AV.sl none W.N.length (nmsC W.N) .no, AV.sl none W.A.length (nmsC W.A) .no, AV.sl none W.V.length (valsC W.V) .no, AV.sl none W.T.length (strsC W.T) .no]), (4, .var true (evC a)), (5, .var true (evC b))], tags := [] })) (.ob (false = true) (.tt))))))))))))))) (.ob (true = true) (.tt))) (by kernel_rfl) (by
    have h0 : decide ((i : Int) < W.A.length) = false := by simp; omega
    simp only [PT.holds, h0, true_implies, Bool.false_eq_true, Bool.true_eq_false, false_implies, true_and, and_true]
    try trivial)
theorem lk_p (W : Wd) (a b : Ev) (i : Nat) (R : Bool) (hN : W.N.length ≤ 1000000) (hT : W.T.length ≤ 1000000) (hA : W.A.length ≤ 1000000) (hVl : W.V.length = W.A.length) (hVs : ∀ v ∈ W.V, v.length ≤ 1000000) (ha : a.attrs.length ≤ 1048600) (hb : b.attrs.length ≤ 1048600) (k : a.kind = b.kind → alG W.N a.nm b.nm = true → alG W.T a.text b.text = true → HT Tryd.prog Tryd.f40.ntmps (pt Tryd.f40 0) (stLk W a b 0) (EndsA Γ (.pure [] (.bool R)) Tryd.f40)) (hr : (decide (a.kind = b.kind) && (alG W.N a.nm b.nm && alG W.T a.text b.text)) = false → R = false) : Ctr Tryd.prog 40 [.agg (spkC W.N W.A W.V W.T), .agg (evC a), .agg (evC b)] (.bool R) :=
  Ctr.mk Γ_ok Tryd.func40 (by kernel_rfl) Tryd.call40 [] (by kernel_rfl) (HT.walk Γ_ok mo_ok (⟨([(25, .call [] (.bool (alG W.N a.nm b.nm))), (35, .call [] (.bool (alG W.T a.text b.text))), (45, .val (.agg (nmC (W.A.getD i nm0)))), (49, .call [] (.tup [.str (atV a.attrs (W.A.getD i nm0)).1, .bool (atV a.attrs (W.A.getD i nm0)).2])), (55, .call [] (.tup [.str (atV b.attrs (W.A.getD i nm0)).1, .bool (atV b.attrs (W.A.getD i nm0)).2])), (66, .val (.sl none (W.V.getD i []).length (strsC (W.V.getD i [])) .no)), (69, .call [] (.bool (alG (W.V.getD i []) (atV a.attrs (W.A.getD i nm0)).1 (atV b.attrs (W.A.getD i nm0)).1)))] ++ []), sp40, hd40 [] [] [] [], [], .pure [] (.bool R)⟩ : Wk) 4000 (T := .split (!decide (a.kind = b.kind)) (.ob (false = R) (.tt)) (.ob ((3 : Nat) ≤ (5 : Nat)) (.ob ((3 : Nat) ≤ (5 : Nat)) (.ob (Ctr Tryd.prog 56 [AV.sl none W.N.length (nmsC W.N) .no, AV.agg [AV.str a.nm.sp, AV.str a.nm.lo], AV.agg [AV.str b.nm.sp, AV.str b.nm.lo]] (AV.bool (alG W.N a.nm b.nm))) (.split (alG W.N a.nm b.nm) (.ob (Ctr Tryd.prog 57 [AV.sl none W.T.length (strsC W.T) .no, AV.str a.text, AV.str b.text] (AV.bool (alG W.T a.text b.text))) (.split (alG W.T a.text b.text) (.head (pt Tryd.f40 0) ({ tmps := [(3, AV.ptr 3 0), (4, AV.ptr 4 0), (5, AV.ptr 5 0), (39, AV.sl none W.A.length (nmsC W.A) .no), (40, AV.int .i64 (↑W.A.length : Int)), (41, AV.int .i64 (0 : Int))], heap := [(3, .var true [AV.sl none W.N.length (nmsC W.N) .no, AV.sl none W.A.length (nmsC W.A) .no, AV.sl none W.V.length (valsC W.V) .no, AV.sl none W.T.length (strsC W.T) .no]), (4, .var true (evC a)), (5, .var true (evC b))], tags := [] })) (.ob (false = R) (.tt)))) (.ob (false = R) (.tt))))))) (by kernel_rfl) (by
    simp only [PT.holds, nm_eq, true_implies, Bool.false_eq_true, Bool.true_eq_false, false_implies, true_and, and_true]
    refine ⟨fun h => ?_, fun h => ⟨by omega, by omega, alN_ctr _ _ _ hN, fun h2 => ⟨alB_ctr _ _ _ hT, fun h3 => head_eq (k (by simpa using h) h2 h3) (by simp [stLk, spkC, evC]), fun h3 => ?_⟩, fun h2 => ?_⟩⟩
    · refine (hr ?_).symm
      rw [decide_eq_false (by simpa using h)]
      rfl
    · refine (hr ?_).symm
      rw [h3, Bool.and_false, Bool.and_false]
    · refine (hr ?_).symm
      rw [h2, Bool.false_and, Bool.and_false]))
theorem lk_l (W : Wd) (a b : Ev) (hN : W.N.length ≤ 1000000) (hT : W.T.length ≤ 1000000) (hA : W.A.length ≤ 1000000) (hVl : W.V.length = W.A.length) (hVs : ∀ v ∈ W.V, v.length ≤ 1000000) (ha : a.attrs.length ≤ 1048600) (hb : b.attrs.length ≤ 1048600) : ∀ d i, i + d = W.A.length → HT Tryd.prog Tryd.f40.ntmps (pt Tryd.f40 0) (stLk W a b i) (EndsA Γ (.pure [] (.bool (lkA a b (W.A.drop i) (W.V.drop i)))) Tryd.f40) := by
  intro d
  induction d with
  | zero =>
    intro i h
    have e : lkA a b (W.A.drop i) (W.V.drop i) = true := by rw [List.drop_of_length_le (by omega)]; simp [lkA]
    rw [e]
    exact lk_e W a b i (by omega)
  | succ d ih =>
    intro i h
    rw [drop_cons W.A i nm0 (by omega), drop_cons W.V i [] (by omega)]
    simp only [lkA]
    refine lk_h W a b i _ (by omega) hN hT hA hVl hVs ha hb (fun h1 => ?_) (fun h1 => ?_)
    · rw [h1, Bool.true_and]
      exact ih (i + 1) (by omega)
    · rw [h1, Bool.false_and]
theorem like_ctr (W : Wd) (a b : Ev) (hN : W.N.length ≤ 1000000) (hT : W.T.length ≤ 1000000) (hA : W.A.length ≤ 1000000) (hVl : W.V.length = W.A.length) (hVs : ∀ v ∈ W.V, v.length ≤ 1000000) (ha : a.attrs.length ≤ 1048600) (hb : b.attrs.length ≤ 1048600) : Ctr Tryd.prog 40 [.agg (spkC W.N W.A W.V W.T), .agg (evC a), .agg (evC b)] (.bool (likW W a b)) := by
  refine lk_p W a b 0 _ hN hT hA hVl hVs ha hb (fun h1 h2 h3 => ?_) (fun h => ?_)
  · unfold likW
    rw [h2, h3, decide_eq_true h1, Bool.true_and, Bool.true_and, Bool.true_and]
    have := lk_l W a b hN hT hA hVl hVs ha hb W.A.length 0 (Nat.zero_add _)
    rwa [List.drop_zero, List.drop_zero] at this
  · unfold likW
    revert h
    cases decide (a.kind = b.kind) <;> cases alG W.N a.nm b.nm <;> cases alG W.T a.text b.text <;> simp

end Go.Proofs.YteimloiaipiadaaDoor
end

section
set_option linter.unusedVariables false
set_option linter.unusedSimpArgs false
set_option maxRecDepth 100000
namespace Go.Proofs.YteimloiaipiadaaDoor
open Go Go.AX

theorem Like_p (p : Pth) (a b : Ev) (R : Bool) (hc : CtrM Tryd.prog 25 ⟨[], []⟩ [.sl (some false) 1 (pthL p) .clip] ⟨[], gatT false (spkW p)⟩ (.agg (gatC (spkW p)))) (hk : Ctr Tryd.prog 40 [.agg (spkC (spkW p).N (spkW p).A (spkW p).V (spkW p).T), .agg (evC a), .agg (evC b)] (.bool R)) : Ctr Tryd.prog 21 [.agg (pthL p), .agg (evC a), .agg (evC b)] (.bool R) :=
  Ctr.mk Γ_ok Tryd.func21 (by kernel_rfl) Tryd.call21 [] (by kernel_rfl) (HT.walk Γ_ok mo_ok (⟨([(9, .callM [] [] [] [] [] (gatT false (spkW p)) (.agg (gatC (spkW p)))), (12, .call [] (.bool R))] ++ []), sp21, [], [], .pure [] (.bool R)⟩ : Wk) 4000 (T := .ob ((3 : Nat) ≤ (3 : Nat)) (.ob (CtrM Tryd.prog (25 : Nat) { heap := [], tags := [] } [AV.sl (some false) (1 : Nat) (pthL p) .clip] { heap := [], tags := [(1000010, { n := (spkW p).N.length, e := (36 : Nat), sz := (2 : Nat), cs := some (false, nmsC (spkW p).N) }), (1000011, { n := (spkW p).A.length, e := (36 : Nat), sz := (2 : Nat), cs := some (false, nmsC (spkW p).A) }), (1000777, { n := (spkW p).V.length, e := (64 : Nat), sz := (1 : Nat), cs := some (false, valsC (spkW p).V) }), (1000014, { n := (spkW p).T.length, e := (9 : Nat), sz := (1 : Nat), cs := some (false, strsC (spkW p).T) })] } (AV.agg [AV.vec (1000010 : Nat) (spkW p).N.length, AV.vec (1000011 : Nat) (spkW p).A.length, AV.vec (1000777 : Nat) (spkW p).V.length, AV.vec (1000014 : Nat) (spkW p).T.length])) (.ob ((5 : Nat) ≤ (5 : Nat)) (.ob ((5 : Nat) ≤ (5 : Nat)) (.ob ((spkW p).N.length = (spkW p).N.length) (.ob ((spkW p).A.length = (spkW p).A.length) (.ob ((spkW p).V.length = (spkW p).V.length) (.ob ((spkW p).T.length = (spkW p).T.length) (.ob (Ctr Tryd.prog 40 [AV.agg [AV.sl none (spkW p).N.length (nmsC (spkW p).N) .no, AV.sl none (spkW p).A.length (nmsC (spkW p).A) .no, AV.sl none (spkW p).V.length (valsC (spkW p).V) .no, AV.sl none (spkW p).T.length (strsC (spkW p).T) .no], AV.agg (evC a), AV.agg (evC b)] (AV.bool R)) (.ob (R = R) (.tt))))))))))) (by kernel_rfl) (by
    simp only [PT.holds, true_implies, Bool.false_eq_true, Bool.true_eq_false, false_implies, true_and, and_true]
    exact ⟨by omega, hc, by omega, by omega, hk⟩))
theorem Class1_ctr (W : Wd) (x e : Ev) (hk : Ctr Tryd.prog 40 [.agg (spkC W.N W.A W.V W.T), .agg (evC x), .agg (evC e)] (.bool (likW W x e))) : Ctr Tryd.prog 39 [.agg (evC x), .rop (spkC W.N W.A W.V W.T) 0, .rop (evC e) 0] (.bool (likW W x e)) :=
  Ctr.mk Γ_ok Tryd.func39 (by kernel_rfl) Tryd.call39 [] (by kernel_rfl) (HT.walk Γ_ok mo_ok (⟨([(8, .call [] (.bool (likW W x e)))] ++ []), sp39, [], [], .pure [] (.bool (likW W x e))⟩ : Wk) 4000 (T := .ob ((4 : Nat) ≤ (4 : Nat)) (.ob ((5 : Nat) ≤ (5 : Nat)) (.ob ((5 : Nat) ≤ (5 : Nat)) (.ob (Ctr Tryd.prog 40 [AV.agg [AV.sl none W.N.length (nmsC W.N) .no, AV.sl none W.A.length (nmsC W.A) .no, AV.sl none W.V.length (valsC W.V) .no, AV.sl none W.T.length (strsC W.T) .no], AV.agg (evC x), AV.agg (evC e)] (AV.bool (likW W x e))) (.ob (likW W x e = likW W x e) (.tt)))))) (by kernel_rfl) (by
    simp only [PT.holds, true_implies, Bool.false_eq_true, Bool.true_eq_false, false_implies, true_and, and_true]
    exact ⟨by omega, by omega, by omega, hk⟩))
def stIf (W : Wd) (l : List Ev) (e : Ev) (i : Nat) : AS := ⟨[(0, .sl none l.length (evsC l) .no), (1, (.fn 39 [.rop (spkC W.N W.A W.V W.T) 0, .rop (evC e) 0])), (7, .int .i64 l.length), (8, .int .i64 i)], [], []⟩
/-- The place of the first that is alike. -/
def clsR (W : Wd) (e : Ev) : List Ev → Nat → Int
  | [], _ => -1
  | x :: r, i => if likW W x e then (i : Int) else clsR W e r (i + 1)

theorem if_h (W : Wd) (l : List Ev) (e : Ev) (i : Nat) (R : Int) (hi : i < l.length) (hl : l.length ≤ 1000000) (hc : Ctr Tryd.prog 39 [.agg (evC (l.getD i ev0)), .rop (spkC W.N W.A W.V W.T) 0, .rop (evC e) 0] (.bool (likW W (l.getD i ev0) e))) (k : likW W (l.getD i ev0) e = false → HT Tryd.prog Tryd.f38.ntmps (pt Tryd.f38 0) (stIf W l e (i + 1)) (EndsA Γ (.pure [] (.int .i64 R)) Tryd.f38)) (hr : likW W (l.getD i ev0) e = true → R = i) : HT Tryd.prog Tryd.f38.ntmps (pt Tryd.f38 0) (stIf W l e i) (EndsA Γ (.pure [] (.int .i64 R)) Tryd.f38) :=
  HT.walk Γ_ok mo_ok (⟨([(15, .val (.agg (evC (l.getD i ev0)))), (16, .call [] (.bool (likW W (l.getD i ev0) e)))] ++ []), sp38, hd38 [] [] [] [], [], .pure [] (.int .i64 R)⟩ : Wk) 4000 (T := .split (decide ((↑i : Int) < (↑l.length : Int))) (.ob ((0 : Int) ≤ (↑i : Int) ∧ (↑i : Int) < (↑l.length : Int) ∧ (↑i : Int).toNat * (5 : Nat) < (evsC l).length) (.ob (List.take (5 : Nat) (List.drop ((↑i : Int).toNat * (5 : Nat)) (evsC l)) = (evC (l.getD i ev0))) (.ob (Ctr Tryd.prog 39 [AV.agg (evC (l.getD i ev0)), AV.rop [AV.sl none W.N.length (nmsC W.N) .no, AV.sl none W.A.length (nmsC W.A) .no, AV.sl none W.V.length (valsC W.V) .no, AV.sl none W.T.length (strsC W.T) .no] (0 : Nat), AV.rop (evC e) (0 : Nat)] (AV.bool (likW W (l.getD i ev0) e))) (.split (likW W (l.getD i ev0) e) (.ob ((↑i : Int) = R) (.tt)) (.head (pt Tryd.f38 0) ({ tmps := [(0, AV.sl none l.length (evsC l) .no), (1, AV.fn (39 : Nat) [AV.rop [AV.sl none W.N.length (nmsC W.N) .no, AV.sl none W.A.length (nmsC W.A) .no, AV.sl none W.V.length (valsC W.V) .no, AV.sl none W.T.length (strsC W.T) .no] (0 : Nat), AV.rop (evC e) (0 : Nat)]), (7, AV.int .i64 (↑l.length : Int)), (8, AV.int .i64 (IntKind.i64.wrap ((↑i : Int) + (1 : Int))))], heap := [], tags := [] })))))) (.ob ((-1 : Int) = R) (.tt))) (by kernel_rfl) (by
    have w2 : IntKind.i64.wrap ((i : Int) + 1) = ((i + 1 : Nat) : Int) := by rw [i64_wrap (by omega) (by omega)]; rfl
    have h0 : decide ((i : Int) < l.length) = true := by simp; omega
    simp only [PT.holds, w2, h0, Int.toNat_natCast, evsC_len, true_implies, Bool.false_eq_true, Bool.true_eq_false, false_implies, true_and, and_true]
    exact ⟨by omega, by ((try simp only [Nat.add_assoc, Nat.reduceAdd, Nat.add_zero]) <;> first | (rw [ats_take _ _ _ _ hi (by decide)]; rfl) | (rw [ats_nth _ _ _ hi (by decide)]; rfl) | (rw [evs_take _ _ _ _ hi (by decide)]; rfl) | (rw [evs_nth _ _ _ hi (by decide)]; rfl) | (rw [trs_take _ _ _ _ hi (by decide)]; rfl) | (rw [trs_nth _ _ _ hi (by decide)]; rfl) | (rw [pths_take _ _ _ _ hi (by decide)]; rfl) | (rw [pths_nth _ _ _ hi (by decide)]; rfl) | (rw [flts_take _ _ _ _ hi (by decide)]; rfl) | (rw [flts_nth _ _ _ hi (by decide)]; rfl) | (rw [ats_take0 _ _ _ hi (by decide)]; rfl) | (rw [ats_nth0 _ _ hi]; rfl) | (rw [evs_take0 _ _ _ hi (by decide)]; rfl) | (rw [evs_nth0 _ _ hi]; rfl) | (rw [trs_take0 _ _ _ hi (by decide)]; rfl) | (rw [trs_nth0 _ _ hi]; rfl) | (rw [pths_take0 _ _ _ hi (by decide)]; rfl) | (rw [pths_nth0 _ _ hi]; rfl) | (rw [flts_take0 _ _ _ hi (by decide)]; rfl) | (rw [flts_nth0 _ _ hi]; rfl)), hc, fun h => (hr h).symm, fun h => head_eq (k h) (by simp [stIf, spkC, evC])⟩)
theorem if_e (W : Wd) (l : List Ev) (e : Ev) (i : Nat) (hi : i = l.length) : HT Tryd.prog Tryd.f38.ntmps (pt Tryd.f38 0) (stIf W l e i) (EndsA Γ (.pure [] (.int .i64 (-1))) Tryd.f38) :=
  HT.walk Γ_ok mo_ok (⟨([(15, .val (.agg (evC (l.getD i ev0)))), (16, .call [] (.bool (likW W (l.getD i ev0) e)))] ++ []), sp38, hd38 [] [] [] [], [], .pure [] (.int .i64 (-1))⟩ : Wk) 4000 (T := .split (decide ((↑i : Int) < (↑l.length : Int))) (.ob ((0 : Int) ≤ (↑i : Int) ∧ (↑i : Int) < (↑l.length : Int) ∧ (↑i : Int).toNat * (5 : Nat) < (evsC l).length) (.ob (List.take (5 : Nat) (List.drop ((↑i : Int).toNat * (5 : Nat)) (evsC l)) = (evC (l.getD i ev0))) (.ob (Ctr Tryd.prog 39 [AV.agg (evC (l.getD i ev0)), AV.rop [AV.sl none W.N.length (nmsC W.N) .no, AV.sl none W.A.length (nmsC W.A) .no, AV.sl none W.V.length (valsC W.V) .no, AV.sl none W.T.length (strsC W.T) .no] (0 : Nat), AV.rop (evC e) (0 : Nat)] (AV.bool (likW W (l.getD i ev0) e))) (.split (likW W (l.getD i ev0) e) (.ob ((↑i : Int) = (-1 : Int)) (.tt)) (.head (pt Tryd.f38 0) ({ tmps := [(0, AV.sl none l.length (evsC l) .no), (1, AV.fn (39 : Nat) [AV.rop [AV.sl none W.N.length (nmsC W.N) .no, AV.sl none W.A.length (nmsC W.A) .no, AV.sl none W.V.length (valsC W.V) .no, AV.sl none W.T.length (strsC W.T) .no] (0 : Nat), AV.rop (evC e) (0 : Nat)]), (7, AV.int .i64 (↑l.length : Int)), (8, AV.int .i64 (IntKind.i64.wrap ((↑i : Int) + (1 : Int))))], heap := [], tags := [] })))))) (.ob ((-1 : Int) = (-1 : Int)) (.tt))) (by kernel_rfl) (by
    have h0 : decide ((i : Int) < l.length) = false := by simp; omega
    simp only [PT.holds, h0, true_implies, Bool.false_eq_true, Bool.true_eq_false, false_implies, true_and, and_true]
    try trivial)
theorem if_p (W : Wd) (l : List Ev) (e : Ev) (R : Int) (k : HT Tryd.prog Tryd.f38.ntmps (pt Tryd.f38 0) (stIf W l e 0) (EndsA Γ (.pure [] (.int .i64 R)) Tryd.f38)) : Ctr Tryd.prog 38 [.sl none l.length (evsC l) .no, (.fn 39 [.rop (spkC W.N W.A W.V W.T) 0, .rop (evC e) 0])] (.int .i64 R) :=
  Ctr.mk Γ_ok Tryd.func38 (by kernel_rfl) Tryd.call38 [] (by kernel_rfl) (HT.walk Γ_ok mo_ok (⟨[], sp38, hd38 [] [] [] [], [], .pure [] (.int .i64 R)⟩ : Wk) 4000 (T := .head (pt Tryd.f38 0) ({ tmps := [(0, AV.sl none l.length (evsC l) .no), (1, AV.fn (39 : Nat) [AV.rop [AV.sl none W.N.length (nmsC W.N) .no, AV.sl none W.A.length (nmsC W.A) .no, AV.sl none W.V.length (valsC W.V) .no, AV.sl none W.T.length (strsC W.T) .no] (0 : Nat), AV.rop (evC e) (0 : Nat)]), (7, AV.int .i64 (↑l.length : Int)), (8, AV.int .i64 (0 : Int))], heap := [], tags := [] })) (by kernel_rfl) (by
    simp only [PT.holds, true_implies, Bool.false_eq_true, Bool.true_eq_false, false_implies, true_and, and_true]
    exact head_eq k (by simp [stIf, spkC, evC])))
theorem Class_p (p : Pth) (l : List Ev) (e : Ev) (R : Int) (hc : CtrM Tryd.prog 25 ⟨[], []⟩ [.sl (some false) 1 (pthL p) .clip] ⟨[], gatT false (spkW p)⟩ (.agg (gatC (spkW p)))) (hk : Ctr Tryd.prog 38 [.sl none l.length (evsC l) .no, .fn 39 [.rop (spkC (spkW p).N (spkW p).A (spkW p).V (spkW p).T) 0, .rop (evC e) 0]] (.int .i64 R)) : Ctr Tryd.prog 15 [.agg (pthL p), .sl none l.length (evsC l) .no, .agg (evC e)] (.int .i64 R) :=
  Ctr.mk Γ_ok Tryd.func15 (by kernel_rfl) Tryd.call15 [] (by kernel_rfl) (HT.walk Γ_ok mo_ok (⟨([(10, .callM [] [] [] [] [] (gatT false (spkW p)) (.agg (gatC (spkW p)))), (13, .call [7, 5] (.int .i64 R))] ++ []), sp15, [], [], .pure [] (.int .i64 R)⟩ : Wk) 4000 (T := .ob ((3 : Nat) ≤ (3 : Nat)) (.ob (CtrM Tryd.prog (25 : Nat) { heap := [], tags := [] } [AV.sl (some false) (1 : Nat) (pthL p) .clip] { heap := [], tags := [(1000010, { n := (spkW p).N.length, e := (36 : Nat), sz := (2 : Nat), cs := some (false, nmsC (spkW p).N) }), (1000011, { n := (spkW p).A.length, e := (36 : Nat), sz := (2 : Nat), cs := some (false, nmsC (spkW p).A) }), (1000777, { n := (spkW p).V.length, e := (64 : Nat), sz := (1 : Nat), cs := some (false, valsC (spkW p).V) }), (1000014, { n := (spkW p).T.length, e := (9 : Nat), sz := (1 : Nat), cs := some (false, strsC (spkW p).T) })] } (AV.agg [AV.vec (1000010 : Nat) (spkW p).N.length, AV.vec (1000011 : Nat) (spkW p).A.length, AV.vec (1000777 : Nat) (spkW p).V.length, AV.vec (1000014 : Nat) (spkW p).T.length])) (.ob ((spkW p).N.length = (spkW p).N.length) (.ob ((spkW p).A.length = (spkW p).A.length) (.ob ((spkW p).V.length = (spkW p).V.length) (.ob ((spkW p).T.length = (spkW p).T.length) (.ob (Ctr Tryd.prog 38 [AV.sl none l.length (evsC l) .no, AV.fn (39 : Nat) [AV.rop [AV.sl none (spkW p).N.length (nmsC (spkW p).N) .no, AV.sl none (spkW p).A.length (nmsC (spkW p).A) .no, AV.sl none (spkW p).V.length (valsC (spkW p).V) .no, AV.sl none (spkW p).T.length (strsC (spkW p).T) .no] (0 : Nat), AV.rop (evC e) (0 : Nat)]] (AV.int .i64 R)) (.ob (R = R) (.tt))))))))) (by kernel_rfl) (by
    simp only [PT.holds, true_implies, Bool.false_eq_true, Bool.true_eq_false, false_implies, true_and, and_true]
    exact ⟨by omega, hc, hk⟩))
/-! A slice of which less is known. -/
def weakA (x y : AV) : Prop := x = y ∨ ∃ nl n cells o, x = .sl nl n cells o ∧ y = .sl none n cells .no
theorem weakA.rep {x y : AV} (h : weakA x y) {w : World} {G : Env} {l : Bool} {v : Value} (hr : Rep w G l x v) : Rep w G l y v := by
  rcases h with rfl | ⟨nl, n, cells, o, rfl, rfl⟩
  · exact hr
  · cases hr with
    | sl _ _ _ _ _ A c vs hnl hpos hc hcell hrep hclip hown =>
      exact .sl _ _ _ _ _ A c vs (fun b hb => by cases hb) hpos hc hcell hrep (fun e => by cases e) (fun t e => by cases e)
theorem ctr_weak {P : Program} {f : FuncId} {xs ys : List AV} {r : AV} (h : Ctr P f ys r) (hl : xs.length = ys.length) (hw : ∀ (i : Nat) (x : AV), xs[i]? = some x → ∃ y : AV, ys[i]? = some y ∧ weakA x y) : Ctr P f xs r := by
  refine ⟨h.1, fun w F vs hF ha => h.2 w F vs hF ⟨ha.1.trans hl, fun i c v hc hv => ?_⟩⟩
  have hi : i < xs.length := by rw [hl]; exact (List.getElem?_eq_some_iff.1 hc).1
  obtain ⟨y, hy, hxy⟩ := hw i xs[i] (List.getElem?_eq_getElem hi)
  rw [hc] at hy
  cases hy
  exact hxy.rep (ha.2 i _ v (List.getElem?_eq_getElem hi) hv)
theorem speaks_len (p : Pth) (hl : (filtersP p).length ≤ 1000000) : (spkW p).N.length ≤ 1000000 ∧ (spkW p).T.length ≤ 1000000 ∧ (spkW p).A.length ≤ 1000000 ∧ (spkW p).V.length = (spkW p).A.length ∧ ∀ v ∈ (spkW p).V, v.length ≤ 1000000 := by
  have h := spkW_ok p
  exact ⟨Nat.le_trans h.N hl, Nat.le_trans h.T hl, Nat.le_trans h.A hl, h.V, fun v hv => Nat.le_trans (h.vs v hv) hl⟩
/-- Does a query not tell two events apart? -/
theorem Like_ctr (p : Pth) (hok : p.ok) (hl : (filtersP p).length ≤ 1000000) (a b : Ev) (ha : a.attrs.length ≤ 1048600) (hb : b.attrs.length ≤ 1048600) : Ctr Tryd.prog 21 [.agg (pthL p), .agg (evC a), .agg (evC b)] (.bool (likW (spkW p) a b)) := by
  obtain ⟨h1, h2, h3, h4, h5⟩ := speaks_len p hl
  exact Like_p p a b _ (speaks_ctr p hok hl) (like_ctr (spkW p) a b h1 h2 h3 h4 h5 ha hb)
theorem if_l (W : Wd) (l : List Ev) (e : Ev) (hl : l.length ≤ 1000000) (hc : ∀ x ∈ l, Ctr Tryd.prog 39 [.agg (evC x), .rop (spkC W.N W.A W.V W.T) 0, .rop (evC e) 0] (.bool (likW W x e))) : ∀ d i, i + d = l.length → HT Tryd.prog Tryd.f38.ntmps (pt Tryd.f38 0) (stIf W l e i) (EndsA Γ (.pure [] (.int .i64 (clsR W e (l.drop i) i))) Tryd.f38) := by
  intro d
  induction d with
  | zero =>
    intro i h
    rw [List.drop_of_length_le (by omega)]
    exact if_e W l e i (by omega)
  | succ d ih =>
    intro i h
    rw [drop_cons l i ev0 (by omega)]
    refine if_h W l e i _ (by omega) hl (hc _ (getD_mem _ _ _ (by omega))) (fun hm => ?_) (fun hm => by simp only [clsR]; rw [if_pos hm])
    simp only [clsR]
    rw [if_neg (by rw [hm]; decide)]
    exact ih (i + 1) (by omega)
/-- The place of the first that is like an event. -/
theorem Class_ctr (p : Pth) (hok : p.ok) (hl : (filtersP p).length ≤ 1000000) (l : List Ev) (e : Ev) (hll : l.length ≤ 1000000) (hla : ∀ x ∈ l, x.attrs.length ≤ 1048600) (he : e.attrs.length ≤ 1048600) : Ctr Tryd.prog 15 [.agg (pthL p), .sl none l.length (evsC l) .no, .agg (evC e)] (.int .i64 (clsR (spkW p) e l 0)) := by
  obtain ⟨h1, h2, h3, h4, h5⟩ := speaks_len p hl
  refine Class_p p l e _ (speaks_ctr p hok hl) (if_p (spkW p) l e _ ?_)
  have := if_l (spkW p) l e hll (fun x hx => Class1_ctr (spkW p) x e (like_ctr (spkW p) x e h1 h2 h3 h4 h5 (hla x hx) he)) l.length 0 (Nat.zero_add _)
  rwa [List.drop_zero] at this
theorem Class_ctr_w (p : Pth) (hok : p.ok) (hl : (filtersP p).length ≤ 1000000) (l : List Ev) (e : Ev) (hll : l.length ≤ 1000000) (hla : ∀ x ∈ l, x.attrs.length ≤ 1048600) (he : e.attrs.length ≤ 1048600) (nl : Option Bool) (o : Own) : Ctr Tryd.prog 15 [.agg (pthL p), .sl nl l.length (evsC l) o, .agg (evC e)] (.int .i64 (clsR (spkW p) e l 0)) := by
  refine ctr_weak (Class_ctr p hok hl l e hll hla he) rfl (fun i x hx => ?_)
  match i, hx with
  | 0, hx => exact ⟨_, rfl, .inl (by simpa using hx.symm)⟩
  | 1, hx => exact ⟨_, rfl, .inr ⟨nl, _, _, o, by simpa using hx.symm, rfl⟩⟩
  | 2, hx => exact ⟨_, rfl, .inl (by simpa using hx.symm)⟩
  | i + 3, hx => simp at hx

end Go.Proofs.YteimloiaipiadaaDoor
end

section
set_option linter.unusedVariables false
set_option linter.unusedSimpArgs false
set_option maxRecDepth 100000
namespace Go.Proofs.YteimloiaipiadaaDoor
open Go Go.AX

def cntS (n : Nat) (v : List ByteArray) : Nat := if 25 < n * (v.length + 2) then 25 else n * (v.length + 2)
def cntW (W : Wd) : Nat := W.V.foldl cntS (W.N.length + 1) + W.T.length + 1
def stCt (W : Wd) (n i : Nat) : AS := ⟨[(1, .ptr 1 0), (3, .int .i64 n), (11, .sl none W.V.length (valsC W.V) .no), (12, .int .i64 W.V.length), (13, .int .i64 i)], [(1, .var true (spkC W.N W.A W.V W.T))], []⟩

theorem ct_h (W : Wd) (n i : Nat) (R : Int) (hi : i < W.V.length) (hn : n ≤ 1000001) (hT : W.T.length ≤ 1000000) (hV : W.V.length ≤ 1000000) (hVs : ∀ v ∈ W.V, v.length ≤ 1000000) (k : HT Tryd.prog Tryd.f26.ntmps (pt Tryd.f26 0) (stCt W (cntS n (W.V.getD i [])) (i + 1)) (EndsA Γ (.pure [] (.int .i64 R)) Tryd.f26)) : HT Tryd.prog Tryd.f26.ntmps (pt Tryd.f26 0) (stCt W n i) (EndsA Γ (.pure [] (.int .i64 R)) Tryd.f26) :=
  HT.walk Γ_ok mo_ok (⟨([(16, .val (.sl none (W.V.getD i []).length (strsC (W.V.getD i [])) .no))] ++ []), sp26, hd26 [] [] [] [], [], .pure [] (.int .i64 R)⟩ : Wk) 4000 (T := .split (decide ((↑i : Int) < (↑W.V.length : Int))) (.ob ((0 : Int) ≤ (↑i : Int) ∧ (↑i : Int) < (↑W.V.length : Int) ∧ (↑i : Int).toNat * (1 : Nat) < (valsC W.V).length) (.ob ((valsC W.V)[(↑i : Int).toNat * (1 : Nat)]? = some (AV.sl none (W.V.getD i []).length (strsC (W.V.getD i [])) .no)) (.head (pt Tryd.f26 0) ({ tmps := [(1, AV.ptr 1 0), (3, AV.int .i64 (if (25 : Int) < IntKind.i64.wrap ((↑n : Int) * IntKind.i64.wrap ((↑(W.V.getD i []).length : Int) + (2 : Int))) then (25 : Int) else IntKind.i64.wrap ((↑n : Int) * IntKind.i64.wrap ((↑(W.V.getD i []).length : Int) + (2 : Int))))), (11, AV.sl none W.V.length (valsC W.V) .no), (12, AV.int .i64 (↑W.V.length : Int)), (13, AV.int .i64 (IntKind.i64.wrap ((↑i : Int) + (1 : Int))))], heap := [(1, .var true [AV.sl none W.N.length (nmsC W.N) .no, AV.sl none W.A.length (nmsC W.A) .no, AV.sl none W.V.length (valsC W.V) .no, AV.sl none W.T.length (strsC W.T) .no])], tags := [] })))) (.ob (IntKind.i64.wrap (IntKind.i64.wrap ((↑n : Int) + (↑W.T.length : Int)) + (1 : Int)) = R) (.tt))) (by kernel_rfl) (by
    have w2 : IntKind.i64.wrap ((i : Int) + 1) = ((i + 1 : Nat) : Int) := by rw [i64_wrap (by omega) (by omega)]; rfl
    have h0 : decide ((i : Int) < W.V.length) = true := by simp; omega
    simp only [PT.holds, w2, h0, Int.toNat_natCast, valsC_len, Nat.mul_one, true_implies, Bool.false_eq_true, Bool.true_eq_false, false_implies, true_and, and_true]
    have hv : (W.V.getD i []).length ≤ 1000000 := hVs _ (getD_mem _ _ _ (by omega))
    have hm : n * ((W.V.getD i []).length + 2) ≤ 1000001 * 1000002 := Nat.mul_le_mul hn (by omega)
    have w3 : IntKind.i64.wrap (((W.V.getD i []).length : Int) + 2) = (((W.V.getD i []).length + 2 : Nat) : Int) := by rw [i64_wrap (by omega) (by omega)]; rfl
    have w4 : IntKind.i64.wrap ((n : Int) * (((W.V.getD i []).length + 2 : Nat) : Int)) = ((n * ((W.V.getD i []).length + 2) : Nat) : Int) := by rw [← Int.natCast_mul, i64_wrap (by omega) (by omega)]
    have w5 : (if (25 : Int) < ((n * ((W.V.getD i []).length + 2) : Nat) : Int) then (25 : Int) else ((n * ((W.V.getD i []).length + 2) : Nat) : Int)) = ((cntS n (W.V.getD i []) : Nat) : Int) := by
      unfold cntS
      split <;> split <;> omega
    rw [w3, w4, w5]
    exact ⟨by omega, vals_nth _ _ (by omega), head_eq k (by simp [stCt, spkC])⟩)
theorem ct_e (W : Wd) (n i : Nat) (hi : i = W.V.length) (hn : n ≤ 1000001) (hT : W.T.length ≤ 1000000) : HT Tryd.prog Tryd.f26.ntmps (pt Tryd.f26 0) (stCt W n i) (EndsA Γ (.pure [] (.int .i64 (n + W.T.length + 1 : Nat))) Tryd.f26) :=
  HT.walk Γ_ok mo_ok (⟨([(16, .val (.sl none (W.V.getD i []).length (strsC (W.V.getD i [])) .no))] ++ []), sp26, hd26 [] [] [] [], [], .pure [] (.int .i64 (n + W.T.length + 1 : Nat))⟩ : Wk) 4000 (T := .split (decide ((↑i : Int) < (↑W.V.length : Int))) (.ob ((0 : Int) ≤ (↑i : Int) ∧ (↑i : Int) < (↑W.V.length : Int) ∧ (↑i : Int).toNat * (1 : Nat) < (valsC W.V).length) (.ob ((valsC W.V)[(↑i : Int).toNat * (1 : Nat)]? = some (AV.sl none (W.V.getD i []).length (strsC (W.V.getD i [])) .no)) (.head (pt Tryd.f26 0) ({ tmps := [(1, AV.ptr 1 0), (3, AV.int .i64 (if (25 : Int) < IntKind.i64.wrap ((↑n : Int) * IntKind.i64.wrap ((↑(W.V.getD i []).length : Int) + (2 : Int))) then (25 : Int) else IntKind.i64.wrap ((↑n : Int) * IntKind.i64.wrap ((↑(W.V.getD i []).length : Int) + (2 : Int))))), (11, AV.sl none W.V.length (valsC W.V) .no), (12, AV.int .i64 (↑W.V.length : Int)), (13, AV.int .i64 (IntKind.i64.wrap ((↑i : Int) + (1 : Int))))], heap := [(1, .var true [AV.sl none W.N.length (nmsC W.N) .no, AV.sl none W.A.length (nmsC W.A) .no, AV.sl none W.V.length (valsC W.V) .no, AV.sl none W.T.length (strsC W.T) .no])], tags := [] })))) (.ob (IntKind.i64.wrap (IntKind.i64.wrap ((↑n : Int) + (↑W.T.length : Int)) + (1 : Int)) = (↑(n + W.T.length + (1 : Nat)) : Int)) (.tt))) (by kernel_rfl) (by
    have h0 : decide ((i : Int) < W.V.length) = false := by simp; omega
    simp only [PT.holds, h0, true_implies, Bool.false_eq_true, Bool.true_eq_false, false_implies, true_and, and_true]
    have w3 : IntKind.i64.wrap ((n : Int) + (W.T.length : Int)) = ((n + W.T.length : Nat) : Int) := by rw [i64_wrap (by omega) (by omega)]; rfl
    have w4 : IntKind.i64.wrap (((n + W.T.length : Nat) : Int) + 1) = ((n + W.T.length + 1 : Nat) : Int) := by rw [i64_wrap (by omega) (by omega)]; rfl
    rw [w3, w4])
theorem ct_p (W : Wd) (R : Int) (hN : W.N.length ≤ 1000000) (k : HT Tryd.prog Tryd.f26.ntmps (pt Tryd.f26 0) (stCt W (W.N.length + 1) 0) (EndsA Γ (.pure [] (.int .i64 R)) Tryd.f26)) : Ctr Tryd.prog 26 [.agg (spkC W.N W.A W.V W.T)] (.int .i64 R) :=
  Ctr.mk Γ_ok Tryd.func26 (by kernel_rfl) Tryd.call26 [] (by kernel_rfl) (HT.walk Γ_ok mo_ok (⟨([] ++ []), sp26, hd26 [] [] [] [], [], .pure [] (.int .i64 R)⟩ : Wk) 4000 (T := .head (pt Tryd.f26 0) ({ tmps := [(1, AV.ptr 1 0), (3, AV.int .i64 (IntKind.i64.wrap ((↑W.N.length : Int) + (1 : Int)))), (11, AV.sl none W.V.length (valsC W.V) .no), (12, AV.int .i64 (↑W.V.length : Int)), (13, AV.int .i64 (0 : Int))], heap := [(1, .var true [AV.sl none W.N.length (nmsC W.N) .no, AV.sl none W.A.length (nmsC W.A) .no, AV.sl none W.V.length (valsC W.V) .no, AV.sl none W.T.length (strsC W.T) .no])], tags := [] })) (by kernel_rfl) (by
    simp only [PT.holds, true_implies, Bool.false_eq_true, Bool.true_eq_false, false_implies, true_and, and_true]
    have w3 : IntKind.i64.wrap ((W.N.length : Int) + 1) = ((W.N.length + 1 : Nat) : Int) := by rw [i64_wrap (by omega) (by omega)]; rfl
    rw [w3]
    exact head_eq k (by simp [stCt, spkC])))
theorem ct_l (W : Wd) (hT : W.T.length ≤ 1000000) (hV : W.V.length ≤ 1000000) (hVs : ∀ v ∈ W.V, v.length ≤ 1000000) : ∀ d n i, i + d = W.V.length → n ≤ 1000001 → HT Tryd.prog Tryd.f26.ntmps (pt Tryd.f26 0) (stCt W n i) (EndsA Γ (.pure [] (.int .i64 ((W.V.drop i).foldl cntS n + W.T.length + 1 : Nat))) Tryd.f26) := by
  intro d
  induction d with
  | zero =>
    intro n i h hn
    rw [List.drop_of_length_le (by omega)]
    exact ct_e W n i (by omega) hn hT
  | succ d ih =>
    intro n i h hn
    rw [drop_cons W.V i [] (by omega), List.foldl_cons]
    exact ct_h W n i _ (by omega) hn hT hV hVs (ih _ (i + 1) (by omega) (by unfold cntS; split <;> omega))
/-- How many labels there are; above the limit: some number above it. -/
theorem count_ctr (W : Wd) (hN : W.N.length ≤ 1000000) (hT : W.T.length ≤ 1000000) (hV : W.V.length ≤ 1000000) (hVs : ∀ v ∈ W.V, v.length ≤ 1000000) : Ctr Tryd.prog 26 [.agg (spkC W.N W.A W.V W.T)] (.int .i64 (cntW W : Nat)) := by
  have := ct_l W hT hV hVs W.V.length (W.N.length + 1) 0 (Nat.zero_add _) (by omega)
  rw [List.drop_zero] at this
  exact ct_p W _ hN this

end Go.Proofs.YteimloiaipiadaaDoor
end

section
set_option linter.unusedVariables false
set_option linter.unusedSimpArgs false
set_option maxRecDepth 100000
namespace Go.Proofs.YteimloiaipiadaaDoor
open Go Go.AX

theorem clB_n (l : List ByteArray) (h : l.length = 0) (hl : l = []) : Ctr Tryd.prog 28 [.sl (some true) l.length (strsC l) .no] (.sl none l.length (strsC l) (.fresh 9 1)) :=
  Ctr.mk Γ_ok Tryd.func28 (by kernel_rfl) Tryd.call28 [] (by kernel_rfl) (HT.walk Γ_ok mo_ok (⟨[], sp28, [], [], .pure [] (.sl none l.length (strsC l) (.fresh 9 1))⟩ : Wk) 4000 (T := .split (true) (.ob ((0 : Nat) = l.length) (.ob (([] : List AV) = strsC l) (.tt))) (.ob ((repL (List.map zn [AV.str (ByteArray.mk #[])]) (0 : Nat)).length = (0 : Nat) * ((0 : Nat) + (1 : Nat)) ∧ (strsC l).length = l.length * ((0 : Nat) + (1 : Nat)) ∧ ((0 : Nat) + l.length) * ((15 : Nat) + (1 : Nat)) ≤ (140737488355328 : Nat)) (.ob ((0 : Nat) + l.length = l.length) (.ob (repL (List.map zn [AV.str (ByteArray.mk #[])]) (0 : Nat) ++ strsC l = strsC l) (.ob ((0 : Nat) + l.length = (0 : Nat) + l.length) (.tt)))))) (by kernel_rfl) (by
    simp only [PT.holds, true_implies, Bool.false_eq_true, Bool.true_eq_false, false_implies, true_and, and_true]
    subst hl
    exact ⟨rfl, rfl⟩))
theorem clB_f (l : List ByteArray) (hl : l.length ≤ 1000000) : Ctr Tryd.prog 28 [.sl (some false) l.length (strsC l) .no] (.sl none l.length (strsC l) (.fresh 9 1)) :=
  Ctr.mk Γ_ok Tryd.func28 (by kernel_rfl) Tryd.call28 [] (by kernel_rfl) (HT.walk Γ_ok mo_ok (⟨[], sp28, [], [], .pure [] (.sl none l.length (strsC l) (.fresh 9 1))⟩ : Wk) 4000 (T := .split (false) (.ob ((0 : Nat) = l.length) (.ob (([] : List AV) = strsC l) (.tt))) (.ob ((repL (List.map zn [AV.str (ByteArray.mk #[])]) (0 : Nat)).length = (0 : Nat) * ((0 : Nat) + (1 : Nat)) ∧ (strsC l).length = l.length * ((0 : Nat) + (1 : Nat)) ∧ ((0 : Nat) + l.length) * ((15 : Nat) + (1 : Nat)) ≤ (140737488355328 : Nat)) (.ob ((0 : Nat) + l.length = l.length) (.ob (repL (List.map zn [AV.str (ByteArray.mk #[])]) (0 : Nat) ++ strsC l = strsC l) (.ob ((0 : Nat) + l.length = (0 : Nat) + l.length) (.tt)))))) (by kernel_rfl) (by
    simp only [PT.holds, true_implies, Bool.false_eq_true, Bool.true_eq_false, false_implies, true_and, and_true]
    exact ⟨⟨by simp [repL], by rw [strsC_len]; omega, by omega⟩, by omega, by simp [repL]⟩))
theorem clA_n (l : List Atr) (h : l.length = 0) (hl : l = []) : Ctr Tryd.prog 30 [.sl (some true) l.length (atsC l) .no] (.sl none l.length (atsC l) (.fresh 58 3)) :=
  Ctr.mk Γ_ok Tryd.func30 (by kernel_rfl) Tryd.call30 [] (by kernel_rfl) (HT.walk Γ_ok mo_ok (⟨[], sp30, [], [], .pure [] (.sl none l.length (atsC l) (.fresh 58 3))⟩ : Wk) 4000 (T := .split (true) (.ob ((0 : Nat) = l.length) (.ob (([] : List AV) = atsC l) (.tt))) (.ob ((repL (List.map zn [AV.str (ByteArray.mk #[]), AV.str (ByteArray.mk #[]), AV.str (ByteArray.mk #[])]) (0 : Nat)).length = (0 : Nat) * ((2 : Nat) + (1 : Nat)) ∧ (atsC l).length = l.length * ((2 : Nat) + (1 : Nat)) ∧ ((0 : Nat) + l.length) * ((47 : Nat) + (1 : Nat)) ≤ (140737488355328 : Nat)) (.ob ((0 : Nat) + l.length = l.length) (.ob (repL (List.map zn [AV.str (ByteArray.mk #[]), AV.str (ByteArray.mk #[]), AV.str (ByteArray.mk #[])]) (0 : Nat) ++ atsC l = atsC l) (.ob ((0 : Nat) + l.length = (0 : Nat) + l.length) (.tt)))))) (by kernel_rfl) (by
    simp only [PT.holds, true_implies, Bool.false_eq_true, Bool.true_eq_false, false_implies, true_and, and_true]
    subst hl
    exact ⟨rfl, rfl⟩))
theorem clA_f (l : List Atr) (hl : l.length ≤ 1000000) : Ctr Tryd.prog 30 [.sl (some false) l.length (atsC l) .no] (.sl none l.length (atsC l) (.fresh 58 3)) :=
  Ctr.mk Γ_ok Tryd.func30 (by kernel_rfl) Tryd.call30 [] (by kernel_rfl) (HT.walk Γ_ok mo_ok (⟨[], sp30, [], [], .pure [] (.sl none l.length (atsC l) (.fresh 58 3))⟩ : Wk) 4000 (T := .split (false) (.ob ((0 : Nat) = l.length) (.ob (([] : List AV) = atsC l) (.tt))) (.ob ((repL (List.map zn [AV.str (ByteArray.mk #[]), AV.str (ByteArray.mk #[]), AV.str (ByteArray.mk #[])]) (0 : Nat)).length = (0 : Nat) * ((2 : Nat) + (1 : Nat)) ∧ (atsC l).length = l.length * ((2 : Nat) + (1 : Nat)) ∧ ((0 : Nat) + l.length) * ((47 : Nat) + (1 : Nat)) ≤ (140737488355328 : Nat)) (.ob ((0 : Nat) + l.length = l.length) (.ob (repL (List.map zn [AV.str (ByteArray.mk #[]), AV.str (ByteArray.mk #[]), AV.str (ByteArray.mk #[])]) (0 : Nat) ++ atsC l = atsC l) (.ob ((0 : Nat) + l.length = (0 : Nat) + l.length) (.tt)))))) (by kernel_rfl) (by
    simp only [PT.holds, true_implies, Bool.false_eq_true, Bool.true_eq_false, false_implies, true_and, and_true]
    exact ⟨⟨by simp [repL], by rw [atsC_len], by omega⟩, by omega, by simp [repL]⟩))
theorem ctr_nil {P : Program} {f : FuncId} {n : Nat} {cells r : List AV} {res : AV} (hf : Ctr P f (.sl (some false) n cells .no :: r) res) (hn : n = 0 → Ctr P f (.sl (some true) n cells .no :: r) res) : Ctr P f (.sl none n cells .no :: r) res := by
  refine ⟨hf.1, fun w F vs hF ha => ?_⟩
  have h0 : 0 < vs.size := by rw [ha.1]; simp
  have hr := ha.2 0 _ vs[0] rfl (Array.getElem?_eq_getElem h0)
  generalize hv : vs[0] = v0 at hr
  cases hr with
  | sl _ _ _ _ _ A c us hnl hpos hc hcell hrep hclip hown =>
    have hb : ∀ b : Bool, A.isNone = b → Rep w (envF F) false (.sl (some b) n cells .no) (.slice A n c) := fun b e => .sl _ _ _ _ _ A c us (fun b' hb' => by cases hb'; exact e) hpos hc hcell hrep hclip hown
    have ha' : ∀ b : Bool, A.isNone = b → Args w F (.sl (some b) n cells .no :: r) vs := fun b e => by
      refine ⟨by simpa using ha.1, fun i x u hx hu => ?_⟩
      match i, hx with
      | 0, hx =>
        simp at hx
        subst hx
        rw [Array.getElem?_eq_getElem h0, hv] at hu
        cases hu
        exact hb b e
      | i + 1, hx => exact ha.2 (i + 1) x u hx hu
    cases A with
    | none =>
      have : n = 0 := by
        rcases Nat.eq_zero_or_pos n with h | h
        · exact h
        · obtain ⟨ad, e, _⟩ := hpos h
          cases e
      exact (hn this).2 w F vs hF (ha' true rfl)
    | some ad => exact hf.2 w F vs hF (ha' false rfl)
theorem cloneB_ctr (l : List ByteArray) (hl : l.length ≤ 1000000) : Ctr Tryd.prog 28 [.sl none l.length (strsC l) .no] (.sl none l.length (strsC l) (.fresh 9 1)) :=
  ctr_nil (clB_f l hl) (fun h => clB_n l h (List.eq_nil_of_length_eq_zero h))
theorem cloneA_ctr (l : List Atr) (hl : l.length ≤ 1000000) : Ctr Tryd.prog 30 [.sl none l.length (atsC l) .no] (.sl none l.length (atsC l) (.fresh 58 3)) :=
  ctr_nil (clA_f l hl) (fun h => clA_n l h (List.eq_nil_of_length_eq_zero h))

end Go.Proofs.YteimloiaipiadaaDoor
end

section
set_option linter.unusedVariables false
set_option linter.unusedSimpArgs false
set_option maxRecDepth 100000
namespace Go.Proofs.YteimloiaipiadaaDoor
open Go Go.AX

/-- The memory that the closure is lent: what is spoken of, what was made, itself. -/
def labM (W : Wd) (X : List Nm) (n : Nat) (out : List Ev) : MemS := ⟨[(1000004, .var true [.vec 1000010 n, .vec 1000011 W.A.length, .vec 1000777 W.V.length, .vec 1000014 W.T.length]), (1000005, .var true [.vec 1000028 out.length]), (1000006, .var true [.fn 27 [.ptr 1000004 0, .ptr 1000005 0, .ptr 1000006 0]])], [(1000010, ⟨X.length, 36, 2, some (false, nmsC X)⟩), (1000011, ⟨W.A.length, 36, 2, some (false, nmsC W.A)⟩), (1000777, ⟨W.V.length, 64, 1, some (false, valsC W.V)⟩), (1000014, ⟨W.T.length, 9, 1, some (false, strsC W.T)⟩), (1000028, ⟨out.length, 39, 5, some (true, evsC out)⟩)]⟩
def addA (e : Ev) (n : Nm) (v : ByteArray) : Ev := ⟨e.kind, e.nm, e.attrs ++ [⟨n, v⟩], e.text⟩
def stLb (W : Wd) (X : List Nm) (n : Nat) (out : List Ev) (e : Ev) (i : Nat) (vs : List ByteArray) (j : Nat) : AS := ⟨[(1, .int .i64 i), (2, .ptr 1000004 0), (4, .ptr 1000006 0), (5, .ptr 5 0), (40, .sl none vs.length (strsC vs) (.own 30)), (41, .int .i64 vs.length), (42, .int .i64 j)], [(5, .var true (evC e))] ++ (labM W X n out).heap, [(30, ⟨vs.length, 9, 1, none⟩)] ++ (labM W X n out).tags⟩

theorem lb_1 (W : Wd) (X : List Nm) (n : Nat) (out : List Ev) (e : Ev) (i : Nat) (hi : i = W.A.length) (ho : out.length ≤ 1000000) (hA : W.A.length ≤ 1000000) : CtrM Tryd.prog 27 (labM W X n out) [.agg (evC e), .int .i64 i, .ptr 1000004 0, .ptr 1000005 0, .ptr 1000006 0] (labM W X n (out ++ [e])) (.tup []) :=
  CtrM.mk Γ_ok Tryd.func27 (by kernel_rfl) Tryd.call27 [] (by kernel_rfl) (by kernel_rfl) (by kernel_rfl) (HT.walk Γ_ok mo_ok (⟨([] ++ []), 15 :: sp27, hd27 [] [] [1000004, 1000005, 1000006] [1000010, 1000011, 1000777, 1000014, 1000028], [], .mem [] (labM W X n (out ++ [e])) (.tup [])⟩ : Wk) 4000 (T := .ob (W.A.length = W.A.length) (.split (decide ((↑i : Int) = (↑W.A.length : Int))) (.ob ((5 : Nat) ≤ (5 : Nat)) (.ob (out.length = out.length ∧ (splice (repL (List.map zn [AV.int .i64 (0 : Int), AV.str (ByteArray.mk #[]), AV.str (ByteArray.mk #[]), AV.sl (some true) (0 : Nat) [] .clip, AV.str (ByteArray.mk #[])]) (1 : Nat)) ((0 : Nat) * (5 : Nat)) (cellsOf (AV.agg (evC e)))).length = (1 : Nat) * ((4 : Nat) + (1 : Nat)) ∧ (out.length + (1 : Nat)) * ((79 : Nat) + (1 : Nat)) ≤ (140737488355328 : Nat)) (.ob (n = n) (.ob (W.A.length = W.A.length) (.ob (W.V.length = W.V.length) (.ob (W.T.length = W.T.length) (.ob (out.length + (1 : Nat) = (out ++ [e]).length) (.ob ((0 : Nat) = (0 : Nat)) (.ob ((0 : Nat) = (0 : Nat)) (.ob ((0 : Nat) = (0 : Nat)) (.ob (X.length = X.length) (.ob (nmsC X = nmsC X) (.ob (W.A.length = W.A.length) (.ob (nmsC W.A = nmsC W.A) (.ob (W.V.length = W.V.length) (.ob (valsC W.V = valsC W.V) (.ob (W.T.length = W.T.length) (.ob (strsC W.T = strsC W.T) (.ob (out.length + (1 : Nat) = (out ++ [e]).length) (.ob (evsC out ++ splice (repL (List.map zn [AV.int .i64 (0 : Int), AV.str (ByteArray.mk #[]), AV.str (ByteArray.mk #[]), AV.sl (some true) (0 : Nat) [] .clip, AV.str (ByteArray.mk #[])]) (1 : Nat)) ((0 : Nat) * (5 : Nat)) (cellsOf (AV.agg (evC e))) = evsC (out ++ [e])) (.tt))))))))))))))))))))) (.ob ((5 : Nat) ≤ (5 : Nat)) ((.bad (2 : Nat) (24 : Nat)))))) (by kernel_rfl) (by
    have h0 : decide ((i : Int) = W.A.length) = true := by simp; omega
    simp only [PT.holds, h0, true_implies, Bool.false_eq_true, Bool.true_eq_false, false_implies, true_and, and_true]
    repeat' (with_reducible apply And.intro)
    all_goals first | rfl | omega | (simp; done) | (simp [evsC, splice, repL, cellsOf, evC]; done)))
theorem lb_2 (W : Wd) (X : List Nm) (n : Nat) (out out1 out2 : List Ev) (e : Ev) (i : Nat) (s : ByteArray) (hi : i < W.A.length) (hA : W.A.length ≤ 1000000) (hV : W.V.length = W.A.length) (hv : (W.V.getD i []).length ≤ 100000) (hc : CtrM Tryd.prog 27 (labM W X n out) [.agg (evC e), .int .i64 (i + 1 : Nat), .ptr 1000004 0, .ptr 1000005 0, .ptr 1000006 0] (labM W X n out1) (.tup [])) (hf : Ctr Tryd.prog 29 [.sl none (W.V.getD i []).length (strsC (W.V.getD i [])) .no, .str ⟨#[]⟩, .sl (some false) 1 (strsC [⟨#[]⟩]) .clip] (.str s)) (k : HT Tryd.prog Tryd.f27.ntmps (pt Tryd.f27 0) (stLb W X n out1 e i ((W.V.getD i []) ++ [s]) 0) (EndsA Γ (.mem [] (labM W X n out2) (.tup [])) Tryd.f27)) : CtrM Tryd.prog 27 (labM W X n out) [.agg (evC e), .int .i64 i, .ptr 1000004 0, .ptr 1000005 0, .ptr 1000006 0] (labM W X n out2) (.tup []) :=
  CtrM.mk Γ_ok Tryd.func27 (by kernel_rfl) Tryd.call27 [] (by kernel_rfl) (by kernel_rfl) (by kernel_rfl) (HT.walk Γ_ok mo_ok (⟨([(24, .callM [] [] [1000004, 1000005, 1000006] [1000010, 1000011, 1000777, 1000014, 1000028] (labM W X n out1).heap (labM W X n out1).tags (.tup [])), (29, .val (.sl none (W.V.getD i []).length (strsC (W.V.getD i [])) .no)), (30, .call [] (.sl none (W.V.getD i []).length (strsC (W.V.getD i [])) (.fresh 9 1))), (35, .val (.sl none (W.V.getD i []).length (strsC (W.V.getD i [])) .no)), (37, .call [] (.str s))] ++ []), sp27, hd27 [] [] [1000004, 1000005, 1000006] [1000010, 1000011, 1000777, 1000014, 1000028], [], .mem [] (labM W X n out2) (.tup [])⟩ : Wk) 4000 (T := .ob (W.A.length = W.A.length) (.split (decide ((↑i : Int) = (↑W.A.length : Int))) (.ob ((5 : Nat) ≤ (5 : Nat)) (.ob (out.length = out.length ∧ (splice (repL (List.map zn [AV.int .i64 (0 : Int), AV.str (ByteArray.mk #[]), AV.str (ByteArray.mk #[]), AV.sl (some true) (0 : Nat) [] .clip, AV.str (ByteArray.mk #[])]) (1 : Nat)) ((0 : Nat) * (5 : Nat)) (cellsOf (AV.agg (evC e)))).length = (1 : Nat) * ((4 : Nat) + (1 : Nat)) ∧ (out.length + (1 : Nat)) * ((79 : Nat) + (1 : Nat)) ≤ (140737488355328 : Nat)) (.ob (n = n) (.ob (W.A.length = W.A.length) (.ob (W.V.length = W.V.length) (.ob (W.T.length = W.T.length) (.ob (out.length + (1 : Nat) = out2.length) (.ob ((0 : Nat) = (0 : Nat)) (.ob ((0 : Nat) = (0 : Nat)) (.ob ((0 : Nat) = (0 : Nat)) (.ob (X.length = X.length) (.ob (nmsC X = nmsC X) (.ob (W.A.length = W.A.length) (.ob (nmsC W.A = nmsC W.A) (.ob (W.V.length = W.V.length) (.ob (valsC W.V = valsC W.V) (.ob (W.T.length = W.T.length) (.ob (strsC W.T = strsC W.T) (.ob (out.length + (1 : Nat) = out2.length) (.ob (evsC out ++ splice (repL (List.map zn [AV.int .i64 (0 : Int), AV.str (ByteArray.mk #[]), AV.str (ByteArray.mk #[]), AV.sl (some true) (0 : Nat) [] .clip, AV.str (ByteArray.mk #[])]) (1 : Nat)) ((0 : Nat) * (5 : Nat)) (cellsOf (AV.agg (evC e))) = evsC out2) (.tt))))))))))))))))))))) (.ob ((5 : Nat) ≤ (5 : Nat)) (.ob (CtrM Tryd.prog (27 : Nat) { heap := [(1000004, .var true [AV.vec (1000010 : Nat) n, AV.vec (1000011 : Nat) W.A.length, AV.vec (1000777 : Nat) W.V.length, AV.vec (1000014 : Nat) W.T.length]), (1000005, .var true [AV.vec (1000028 : Nat) out.length]), (1000006, .var true [AV.fn (27 : Nat) [AV.ptr 1000004 0, AV.ptr 1000005 0, AV.ptr 1000006 0]])], tags := [(1000010, { n := X.length, e := (36 : Nat), sz := (2 : Nat), cs := some (false, nmsC X) }), (1000011, { n := W.A.length, e := (36 : Nat), sz := (2 : Nat), cs := some (false, nmsC W.A) }), (1000777, { n := W.V.length, e := (64 : Nat), sz := (1 : Nat), cs := some (false, valsC W.V) }), (1000014, { n := W.T.length, e := (9 : Nat), sz := (1 : Nat), cs := some (false, strsC W.T) }), (1000028, { n := out.length, e := (39 : Nat), sz := (5 : Nat), cs := some (true, evsC out) })] } [AV.agg (evC e), AV.int .i64 (IntKind.i64.wrap ((↑i : Int) + (1 : Int))), AV.ptr 1000004 0, AV.ptr 1000005 0, AV.ptr 1000006 0] { heap := [(1000004, .var true [AV.vec (1000010 : Nat) n, AV.vec (1000011 : Nat) W.A.length, AV.vec (1000777 : Nat) W.V.length, AV.vec (1000014 : Nat) W.T.length]), (1000005, .var true [AV.vec (1000028 : Nat) out1.length]), (1000006, .var true [AV.fn (27 : Nat) [AV.ptr 1000004 0, AV.ptr 1000005 0, AV.ptr 1000006 0]])], tags := [(1000010, { n := X.length, e := (36 : Nat), sz := (2 : Nat), cs := some (false, nmsC X) }), (1000011, { n := W.A.length, e := (36 : Nat), sz := (2 : Nat), cs := some (false, nmsC W.A) }), (1000777, { n := W.V.length, e := (64 : Nat), sz := (1 : Nat), cs := some (false, valsC W.V) }), (1000014, { n := W.T.length, e := (9 : Nat), sz := (1 : Nat), cs := some (false, strsC W.T) }), (1000028, { n := out1.length, e := (39 : Nat), sz := (5 : Nat), cs := some (true, evsC out1) })] } (AV.tup [])) (.ob ((0 : Int) ≤ (↑i : Int) ∧ (↑i : Int) < (↑W.V.length : Int) ∧ W.V.length = W.V.length) (.ob (W.V.length = W.V.length) (.ob ((valsC W.V)[(↑i : Int).toNat * (1 : Nat)]? = some (AV.sl none (W.V.getD i []).length (strsC (W.V.getD i [])) .no)) (.ob (Ctr Tryd.prog 28 [AV.sl none (W.V.getD i []).length (strsC (W.V.getD i [])) .no] (AV.sl none (W.V.getD i []).length (strsC (W.V.getD i [])) (Own.fresh (9 : Nat) (1 : Nat)))) (.ob ((0 : Int) ≤ (↑i : Int) ∧ (↑i : Int) < (↑W.V.length : Int) ∧ W.V.length = W.V.length) (.ob (W.V.length = W.V.length) (.ob ((valsC W.V)[(↑i : Int).toNat * (1 : Nat)]? = some (AV.sl none (W.V.getD i []).length (strsC (W.V.getD i [])) .no)) (.ob (Ctr Tryd.prog 29 [AV.sl none (W.V.getD i []).length (strsC (W.V.getD i [])) .no, AV.str (ByteArray.mk #[]), AV.sl (some false) (1 : Nat) [AV.str (ByteArray.mk #[])] .clip] (AV.str s)) (.ob ((W.V.getD i []).length = (W.V.getD i []).length) (.ob ((strsC (W.V.getD i [])).length = (W.V.getD i []).length * ((0 : Nat) + (1 : Nat)) ∧ (splice (repL (List.map zn [AV.str (ByteArray.mk #[])]) (1 : Nat)) ((0 : Nat) * (1 : Nat)) (cellsOf (AV.str s))).length = (1 : Nat) * ((0 : Nat) + (1 : Nat)) ∧ ((W.V.getD i []).length + (1 : Nat)) * ((15 : Nat) + (1 : Nat)) ≤ (140737488355328 : Nat)) (.head (pt Tryd.f27 0) ({ tmps := [(1, AV.int .i64 (↑i : Int)), (2, AV.ptr 1000004 0), (4, AV.ptr 1000006 0), (5, AV.ptr 5 0), (40, AV.sl none ((W.V.getD i []).length + (1 : Nat)) (strsC (W.V.getD i []) ++ splice (repL (List.map zn [AV.str (ByteArray.mk #[])]) (1 : Nat)) ((0 : Nat) * (1 : Nat)) (cellsOf (AV.str s))) (.own (30 : Nat))), (41, AV.int .i64 (↑((W.V.getD i []).length + (1 : Nat)) : Int)), (42, AV.int .i64 (0 : Int))], heap := [(5, .var true (evC e)), (1000004, .var true [AV.vec (1000010 : Nat) n, AV.vec (1000011 : Nat) W.A.length, AV.vec (1000777 : Nat) W.V.length, AV.vec (1000014 : Nat) W.T.length]), (1000005, .var true [AV.vec (1000028 : Nat) out1.length]), (1000006, .var true [AV.fn (27 : Nat) [AV.ptr 1000004 0, AV.ptr 1000005 0, AV.ptr 1000006 0]])], tags := [(30, { n := (W.V.getD i []).length + (1 : Nat), e := (9 : Nat), sz := (1 : Nat) }), (1000010, { n := X.length, e := (36 : Nat), sz := (2 : Nat), cs := some (false, nmsC X) }), (1000011, { n := W.A.length, e := (36 : Nat), sz := (2 : Nat), cs := some (false, nmsC W.A) }), (1000777, { n := W.V.length, e := (64 : Nat), sz := (1 : Nat), cs := some (false, valsC W.V) }), (1000014, { n := W.T.length, e := (9 : Nat), sz := (1 : Nat), cs := some (false, strsC W.T) }), (1000028, { n := out1.length, e := (39 : Nat), sz := (5 : Nat), cs := some (true, evsC out1) })] })))))))))))))))) (by kernel_rfl) (by
    have h0 : decide ((i : Int) = W.A.length) = false := by simp; omega
    simp only [PT.holds, h0, true_implies, Bool.false_eq_true, Bool.true_eq_false, false_implies, true_and, and_true]
    have w3 : IntKind.i64.wrap ((i : Int) + 1) = ((i + 1 : Nat) : Int) := by rw [i64_wrap (by omega) (by omega)]; rfl
    simp only [w3]
    repeat' (with_reducible apply And.intro)
    all_goals first | exact hc | exact cloneB_ctr _ (by omega) | exact hf | omega | rfl | (rw [Nat.mul_one, Int.toNat_natCast]; exact vals_nth _ _ (by omega)) | (rw [strsC_len]; omega) | exact head_eq k (by simp [stLb, labM, evC, strsC_app, splice, repL, cellsOf])))
theorem lb_h (W : Wd) (X : List Nm) (n : Nat) (out out1 out2 : List Ev) (e : Ev) (i : Nat) (vs : List ByteArray) (j : Nat) (hi : i < W.A.length) (hA : W.A.length ≤ 1000000) (hj : j < vs.length) (hvl : vs.length ≤ 1000000) (he : e.attrs.length ≤ 100000) (hc : CtrM Tryd.prog 27 (labM W X n out) [.agg (evC (addA e (W.A.getD i nm0) (vs.getD j ⟨#[]⟩))), .int .i64 (i + 1 : Nat), .ptr 1000004 0, .ptr 1000005 0, .ptr 1000006 0] (labM W X n out1) (.tup [])) (k : HT Tryd.prog Tryd.f27.ntmps (pt Tryd.f27 0) (stLb W X n out1 e i vs (j + 1)) (EndsA Γ (.mem [] (labM W X n out2) (.tup [])) Tryd.f27)) : HT Tryd.prog Tryd.f27.ntmps (pt Tryd.f27 0) (stLb W X n out e i vs j) (EndsA Γ (.mem [] (labM W X n out2) (.tup [])) Tryd.f27) :=
  HT.walk Γ_ok mo_ok (⟨([(45, .val (.str (vs.getD j ⟨#[]⟩))), (49, .call [] (.sl none e.attrs.length (atsC e.attrs) (.fresh 58 3))), (54, .val (.agg (nmC (W.A.getD i nm0)))), (64, .callM [] [] [1000004, 1000005, 1000006] [1000010, 1000011, 1000777, 1000014, 1000028] (labM W X n out1).heap (labM W X n out1).tags (.tup []))] ++ []), sp27, hd27 [] [] [1000004, 1000005, 1000006] [1000010, 1000011, 1000777, 1000014, 1000028], [], .mem [] (labM W X n out2) (.tup [])⟩ : Wk) 4000 (T := .split (decide ((↑j : Int) < (↑vs.length : Int))) (.ob ((0 : Int) ≤ (↑j : Int) ∧ (↑j : Int) < (↑vs.length : Int) ∧ (↑j : Int).toNat * (1 : Nat) < (strsC vs).length) (.ob ((strsC vs)[(↑j : Int).toNat * (1 : Nat)]? = some (AV.str (vs.getD j (ByteArray.mk #[])))) (.ob ((5 : Nat) ≤ (5 : Nat)) (.ob (Ctr Tryd.prog 30 [AV.sl none e.attrs.length (atsC e.attrs) .no] (AV.sl none e.attrs.length (atsC e.attrs) (Own.fresh (58 : Nat) (3 : Nat)))) (.ob ((0 : Int) ≤ (↑i : Int) ∧ (↑i : Int) < (↑W.A.length : Int) ∧ W.A.length = W.A.length) (.ob (W.A.length = W.A.length) (.ob (List.take (2 : Nat) (List.drop ((↑i : Int).toNat * (2 : Nat)) (nmsC W.A)) = [AV.str (W.A.getD i nm0).sp, AV.str (W.A.getD i nm0).lo]) (.ob (e.attrs.length = e.attrs.length) (.ob ((atsC e.attrs).length = e.attrs.length * ((2 : Nat) + (1 : Nat)) ∧ (splice (repL (List.map zn [AV.str (ByteArray.mk #[]), AV.str (ByteArray.mk #[]), AV.str (ByteArray.mk #[])]) (1 : Nat)) ((0 : Nat) * (3 : Nat)) (cellsOf (AV.agg [AV.str (W.A.getD i nm0).sp, AV.str (W.A.getD i nm0).lo, AV.str (vs.getD j (ByteArray.mk #[]))]))).length = (1 : Nat) * ((2 : Nat) + (1 : Nat)) ∧ (e.attrs.length + (1 : Nat)) * ((47 : Nat) + (1 : Nat)) ≤ (140737488355328 : Nat)) (.ob ((5 : Nat) ≤ (5 : Nat)) (.ob (CtrM Tryd.prog (27 : Nat) { heap := [(1000004, .var true [AV.vec (1000010 : Nat) n, AV.vec (1000011 : Nat) W.A.length, AV.vec (1000777 : Nat) W.V.length, AV.vec (1000014 : Nat) W.T.length]), (1000005, .var true [AV.vec (1000028 : Nat) out.length]), (1000006, .var true [AV.fn (27 : Nat) [AV.ptr 1000004 0, AV.ptr 1000005 0, AV.ptr 1000006 0]])], tags := [(1000010, { n := X.length, e := (36 : Nat), sz := (2 : Nat), cs := some (false, nmsC X) }), (1000011, { n := W.A.length, e := (36 : Nat), sz := (2 : Nat), cs := some (false, nmsC W.A) }), (1000777, { n := W.V.length, e := (64 : Nat), sz := (1 : Nat), cs := some (false, valsC W.V) }), (1000014, { n := W.T.length, e := (9 : Nat), sz := (1 : Nat), cs := some (false, strsC W.T) }), (1000028, { n := out.length, e := (39 : Nat), sz := (5 : Nat), cs := some (true, evsC out) })] } [AV.agg [AV.int .i64 e.kind, AV.str e.nm.sp, AV.str e.nm.lo, AV.sl none (e.attrs.length + (1 : Nat)) (atsC e.attrs ++ splice (repL (List.map zn [AV.str (ByteArray.mk #[]), AV.str (ByteArray.mk #[]), AV.str (ByteArray.mk #[])]) (1 : Nat)) ((0 : Nat) * (3 : Nat)) (cellsOf (AV.agg [AV.str (W.A.getD i nm0).sp, AV.str (W.A.getD i nm0).lo, AV.str (vs.getD j (ByteArray.mk #[]))]))) .no, AV.str e.text], AV.int .i64 (IntKind.i64.wrap ((↑i : Int) + (1 : Int))), AV.ptr 1000004 0, AV.ptr 1000005 0, AV.ptr 1000006 0] { heap := [(1000004, .var true [AV.vec (1000010 : Nat) n, AV.vec (1000011 : Nat) W.A.length, AV.vec (1000777 : Nat) W.V.length, AV.vec (1000014 : Nat) W.T.length]), (1000005, .var true [AV.vec (1000028 : Nat) out1.length]), (1000006, .var true [AV.fn (27 : Nat) [AV.ptr 1000004 0, AV.ptr 1000005 0, AV.ptr 1000006 0]])], tags := [(1000010, { n := X.length, e := (36 : Nat), sz := (2 : Nat), cs := some (false, nmsC X) }), (1000011, { n := W.A.length, e := (36 : Nat), sz := (2 : Nat), cs := some (false, nmsC W.A) }), (1000777, { n := W.V.length, e := (64 : Nat), sz := (1 : Nat), cs := some (false, valsC W.V) }), (1000014, { n := W.T.length, e := (9 : Nat), sz := (1 : Nat), cs := some (false, strsC W.T) }), (1000028, { n := out1.length, e := (39 : Nat), sz := (5 : Nat), cs := some (true, evsC out1) })] } (AV.tup [])) (.head (pt Tryd.f27 0) ({ tmps := [(1, AV.int .i64 (↑i : Int)), (2, AV.ptr 1000004 0), (4, AV.ptr 1000006 0), (5, AV.ptr 5 0), (40, AV.sl none vs.length (strsC vs) (.own (30 : Nat))), (41, AV.int .i64 (↑vs.length : Int)), (42, AV.int .i64 (IntKind.i64.wrap ((↑j : Int) + (1 : Int))))], heap := [(5, .var true (evC e)), (1000004, .var true [AV.vec (1000010 : Nat) n, AV.vec (1000011 : Nat) W.A.length, AV.vec (1000777 : Nat) W.V.length, AV.vec (1000014 : Nat) W.T.length]), (1000005, .var true [AV.vec (1000028 : Nat) out1.length]), (1000006, .var true [AV.fn (27 : Nat) [AV.ptr 1000004 0, AV.ptr 1000005 0, AV.ptr 1000006 0]])], tags := [(30, { n := vs.length, e := (9 : Nat), sz := (1 : Nat) }), (1000010, { n := X.length, e := (36 : Nat), sz := (2 : Nat), cs := some (false, nmsC X) }), (1000011, { n := W.A.length, e := (36 : Nat), sz := (2 : Nat), cs := some (false, nmsC W.A) }), (1000777, { n := W.V.length, e := (64 : Nat), sz := (1 : Nat), cs := some (false, valsC W.V) }), (1000014, { n := W.T.length, e := (9 : Nat), sz := (1 : Nat), cs := some (false, strsC W.T) }), (1000028, { n := out1.length, e := (39 : Nat), sz := (5 : Nat), cs := some (true, evsC out1) })] }))))))))))))) (.ob (n = n) (.ob (W.A.length = W.A.length) (.ob (W.V.length = W.V.length) (.ob (W.T.length = W.T.length) (.ob (out.length = out2.length) (.ob ((0 : Nat) = (0 : Nat)) (.ob ((0 : Nat) = (0 : Nat)) (.ob ((0 : Nat) = (0 : Nat)) (.ob (X.length = X.length) (.ob (nmsC X = nmsC X) (.ob (W.A.length = W.A.length) (.ob (nmsC W.A = nmsC W.A) (.ob (W.V.length = W.V.length) (.ob (valsC W.V = valsC W.V) (.ob (W.T.length = W.T.length) (.ob (strsC W.T = strsC W.T) (.ob (out.length = out2.length) (.ob (evsC out = evsC out2) (.tt)))))))))))))))))))) (by kernel_rfl) (by
    have h0 : decide ((j : Int) < vs.length) = true := by simp; omega
    have w2 : IntKind.i64.wrap ((j : Int) + 1) = ((j + 1 : Nat) : Int) := by rw [i64_wrap (by omega) (by omega)]; rfl
    simp only [PT.holds, w2, h0, true_implies, Bool.false_eq_true, Bool.true_eq_false, false_implies, true_and, and_true]
    have w3 : IntKind.i64.wrap ((i : Int) + 1) = ((i + 1 : Nat) : Int) := by rw [i64_wrap (by omega) (by omega)]; rfl
    simp only [w3]
    have e1 : evC (addA e (W.A.getD i nm0) (vs.getD j ⟨#[]⟩)) = [.int .i64 e.kind, .str e.nm.sp, .str e.nm.lo, .sl none (e.attrs.length + 1) (atsC e.attrs ++ [.str (W.A.getD i nm0).sp, .str (W.A.getD i nm0).lo, .str (vs.getD j ⟨#[]⟩)]) .no, .str e.text] := by
      simp [addA, evC, atsC, atC]
    rw [e1] at hc
    repeat' (with_reducible apply And.intro)
    all_goals first | exact hc | exact cloneA_ctr _ (by omega) | omega | rfl | (rw [Nat.mul_one, Int.toNat_natCast]; exact strs_nth _ _ (by omega)) | (rw [strsC_len]; omega) | (rw [Int.toNat_natCast, nms_take0 _ _ _ (by omega) (by decide)]; rfl) | (rw [atsC_len]) | exact head_eq k (by simp [stLb, labM, evC]))
theorem lb_e (W : Wd) (X : List Nm) (n : Nat) (out : List Ev) (e : Ev) (i : Nat) (vs : List ByteArray) (j : Nat) (hj : j = vs.length) : HT Tryd.prog Tryd.f27.ntmps (pt Tryd.f27 0) (stLb W X n out e i vs j) (EndsA Γ (.mem [] (labM W X n out) (.tup [])) Tryd.f27) :=
  HT.walk Γ_ok mo_ok (⟨([(45, .val (.str (vs.getD j ⟨#[]⟩))), (49, .call [] (.sl none e.attrs.length (atsC e.attrs) (.fresh 58 3))), (54, .val (.agg (nmC (W.A.getD i nm0)))), (64, .callM [] [] [1000004, 1000005, 1000006] [1000010, 1000011, 1000777, 1000014, 1000028] (labM W X n out).heap (labM W X n out).tags (.tup []))] ++ []), sp27, hd27 [] [] [1000004, 1000005, 1000006] [1000010, 1000011, 1000777, 1000014, 1000028], [], .mem [] (labM W X n out) (.tup [])⟩ : Wk) 4000 (T := .split (decide ((↑j : Int) < (↑vs.length : Int))) (.ob ((0 : Int) ≤ (↑j : Int) ∧ (↑j : Int) < (↑vs.length : Int) ∧ (↑j : Int).toNat * (1 : Nat) < (strsC vs).length) (.ob ((strsC vs)[(↑j : Int).toNat * (1 : Nat)]? = some (AV.str (vs.getD j (ByteArray.mk #[])))) (.ob ((5 : Nat) ≤ (5 : Nat)) (.ob (Ctr Tryd.prog 30 [AV.sl none e.attrs.length (atsC e.attrs) .no] (AV.sl none e.attrs.length (atsC e.attrs) (Own.fresh (58 : Nat) (3 : Nat)))) (.ob ((0 : Int) ≤ (↑i : Int) ∧ (↑i : Int) < (↑W.A.length : Int) ∧ W.A.length = W.A.length) (.ob (W.A.length = W.A.length) (.ob (List.take (2 : Nat) (List.drop ((↑i : Int).toNat * (2 : Nat)) (nmsC W.A)) = [AV.str (W.A.getD i nm0).sp, AV.str (W.A.getD i nm0).lo]) (.ob (e.attrs.length = e.attrs.length) (.ob ((atsC e.attrs).length = e.attrs.length * ((2 : Nat) + (1 : Nat)) ∧ (splice (repL (List.map zn [AV.str (ByteArray.mk #[]), AV.str (ByteArray.mk #[]), AV.str (ByteArray.mk #[])]) (1 : Nat)) ((0 : Nat) * (3 : Nat)) (cellsOf (AV.agg [AV.str (W.A.getD i nm0).sp, AV.str (W.A.getD i nm0).lo, AV.str (vs.getD j (ByteArray.mk #[]))]))).length = (1 : Nat) * ((2 : Nat) + (1 : Nat)) ∧ (e.attrs.length + (1 : Nat)) * ((47 : Nat) + (1 : Nat)) ≤ (140737488355328 : Nat)) (.ob ((5 : Nat) ≤ (5 : Nat)) (.ob (CtrM Tryd.prog (27 : Nat) { heap := [(1000004, .var true [AV.vec (1000010 : Nat) n, AV.vec (1000011 : Nat) W.A.length, AV.vec (1000777 : Nat) W.V.length, AV.vec (1000014 : Nat) W.T.length]), (1000005, .var true [AV.vec (1000028 : Nat) out.length]), (1000006, .var true [AV.fn (27 : Nat) [AV.ptr 1000004 0, AV.ptr 1000005 0, AV.ptr 1000006 0]])], tags := [(1000010, { n := X.length, e := (36 : Nat), sz := (2 : Nat), cs := some (false, nmsC X) }), (1000011, { n := W.A.length, e := (36 : Nat), sz := (2 : Nat), cs := some (false, nmsC W.A) }), (1000777, { n := W.V.length, e := (64 : Nat), sz := (1 : Nat), cs := some (false, valsC W.V) }), (1000014, { n := W.T.length, e := (9 : Nat), sz := (1 : Nat), cs := some (false, strsC W.T) }), (1000028, { n := out.length, e := (39 : Nat), sz := (5 : Nat), cs := some (true, evsC out) })] } [AV.agg [AV.int .i64 e.kind, AV.str e.nm.sp, AV.str e.nm.lo, AV.sl none (e.attrs.length + (1 : Nat)) (atsC e.attrs ++ splice (repL (List.map zn [AV.str (ByteArray.mk #[]), AV.str (ByteArray.mk #[]), AV.str (ByteArray.mk #[])]) (1 : Nat)) ((0 : Nat) * (3 : Nat)) (cellsOf (AV.agg [AV.str (W.A.getD i nm0).sp, AV.str (W.A.getD i nm0).lo, AV.str (vs.getD j (ByteArray.mk #[]))]))) .no, AV.str e.text], AV.int .i64 (IntKind.i64.wrap ((↑i : Int) + (1 : Int))), AV.ptr 1000004 0, AV.ptr 1000005 0, AV.ptr 1000006 0] { heap := [(1000004, .var true [AV.vec (1000010 : Nat) n, AV.vec (1000011 : Nat) W.A.length, AV.vec (1000777 : Nat) W.V.length, AV.vec (1000014 : Nat) W.T.length]), (1000005, .var true [AV.vec (1000028 : Nat) out.length]), (1000006, .var true [AV.fn (27 : Nat) [AV.ptr 1000004 0, AV.ptr 1000005 0, AV.ptr 1000006 0]])], tags := [(1000010, { n := X.length, e := (36 : Nat), sz := (2 : Nat), cs := some (false, nmsC X) }), (1000011, { n := W.A.length, e := (36 : Nat), sz := (2 : Nat), cs := some (false, nmsC W.A) }), (1000777, { n := W.V.length, e := (64 : Nat), sz := (1 : Nat), cs := some (false, valsC W.V) }), (1000014, { n := W.T.length, e := (9 : Nat), sz := (1 : Nat), cs := some (false, strsC W.T) }), (1000028, { n := out.length, e := (39 : Nat), sz := (5 : Nat), cs := some (true, evsC out) })] } (AV.tup [])) (.head (pt Tryd.f27 0) ({ tmps := [(1, AV.int .i64 (↑i : Int)), (2, AV.ptr 1000004 0), (4, AV.ptr 1000006 0), (5, AV.ptr 5 0), (40, AV.sl none vs.length (strsC vs) (.own (30 : Nat))), (41, AV.int .i64 (↑vs.length : Int)), (42, AV.int .i64 (IntKind.i64.wrap ((↑j : Int) + (1 : Int))))], heap := [(5, .var true (evC e)), (1000004, .var true [AV.vec (1000010 : Nat) n, AV.vec (1000011 : Nat) W.A.length, AV.vec (1000777 : Nat) W.V.length, AV.vec (1000014 : Nat) W.T.length]), (1000005, .var true [AV.vec (1000028 : Nat) out.length]), (1000006, .var true [AV.fn (27 : Nat) [AV.ptr 1000004 0, AV.ptr 1000005 0, AV.ptr 1000006 0]])], tags := [(30, { n := vs.length, e := (9 : Nat), sz := (1 : Nat) }), (1000010, { n := X.length, e := (36 : Nat), sz := (2 : Nat), cs := some (false, nmsC X) }), (1000011, { n := W.A.length, e := (36 : Nat), sz := (2 : Nat), cs := some (false, nmsC W.A) }), (1000777, { n := W.V.length, e := (64 : Nat), sz := (1 : Nat), cs := some (false, valsC W.V) }), (1000014, { n := W.T.length, e := (9 : Nat), sz := (1 : Nat), cs := some (false, strsC W.T) }), (1000028, { n := out.length, e := (39 : Nat), sz := (5 : Nat), cs := some (true, evsC out) })] }))))))))))))) (.ob (n = n) (.ob (W.A.length = W.A.length) (.ob (W.V.length = W.V.length) (.ob (W.T.length = W.T.length) (.ob (out.length = out.length) (.ob ((0 : Nat) = (0 : Nat)) (.ob ((0 : Nat) = (0 : Nat)) (.ob ((0 : Nat) = (0 : Nat)) (.ob (X.length = X.length) (.ob (nmsC X = nmsC X) (.ob (W.A.length = W.A.length) (.ob (nmsC W.A = nmsC W.A) (.ob (W.V.length = W.V.length) (.ob (valsC W.V = valsC W.V) (.ob (W.T.length = W.T.length) (.ob (strsC W.T = strsC W.T) (.ob (out.length = out.length) (.ob (evsC out = evsC out) (.tt)))))))))))))))))))) (by kernel_rfl) (by
    have h0 : decide ((j : Int) < vs.length) = false := by simp; omega
    simp only [PT.holds, h0, true_implies, Bool.false_eq_true, Bool.true_eq_false, false_implies, true_and, and_true]
    try trivial)
end Go.Proofs.YteimloiaipiadaaDoor
end

section
set_option linter.unusedVariables false
set_option linter.unusedSimpArgs false
set_option maxRecDepth 100000
namespace Go.Proofs.YteimloiaipiadaaDoor
open Go Go.AX

theorem first_lt (pre : ByteArray) (l : List ByteArray) : ∃ k, First pre l k := first_ex pre l
noncomputable def kOf (pre : ByteArray) (l : List ByteArray) : Nat := (first_ex pre l).choose
theorem kOf_first (pre : ByteArray) (l : List ByteArray) : First pre l (kOf pre l) := (first_ex pre l).choose_spec
/-- Another value. -/
noncomputable def anoB (v : List ByteArray) : ByteArray := frR v ⟨#[]⟩ (kOf ⟨#[]⟩ v) [⟨#[]⟩]
/-- The ways to have attributes. -/
noncomputable def labF : List Nm → List (List ByteArray) → Ev → List Ev
  | n :: A, v :: V, e => labF A V e ++ (v ++ [anoB v]).flatMap (fun x => labF A V (addA e n x))
  | _, _, e => [e]
theorem lb_l (W : Wd) (X : List Nm) (n : Nat) (e : Ev) (i : Nat) (vs : List ByteArray) (hi : i < W.A.length) (hA : W.A.length ≤ 1000000) (hvl : vs.length ≤ 1000000) (he : e.attrs.length ≤ 100000)
    (F : ByteArray → List Ev) (hc : ∀ x out, out.length + (F x).length ≤ 1000000 → CtrM Tryd.prog 27 (labM W X n out) [.agg (evC (addA e (W.A.getD i nm0) x)), .int .i64 (i + 1 : Nat), .ptr 1000004 0, .ptr 1000005 0, .ptr 1000006 0] (labM W X n (out ++ F x)) (.tup [])) :
    ∀ d j out out2, j + d = vs.length → out2 = out ++ (vs.drop j).flatMap F → out2.length ≤ 1000000 → HT Tryd.prog Tryd.f27.ntmps (pt Tryd.f27 0) (stLb W X n out e i vs j) (EndsA Γ (.mem [] (labM W X n out2) (.tup [])) Tryd.f27) := by
  intro d
  induction d with
  | zero =>
    intro j out out2 h e2 hl
    rw [List.drop_of_length_le (by omega), List.flatMap_nil, List.append_nil] at e2
    subst e2
    exact lb_e W X n out2 e i vs j (by omega)
  | succ d ih =>
    intro j out out2 h e2 hl
    rw [drop_cons vs j ⟨#[]⟩ (by omega), List.flatMap_cons, ← List.append_assoc] at e2
    have hlen : out.length + (F (vs.getD j ⟨#[]⟩)).length ≤ 1000000 := by
      have := congrArg List.length e2
      simp only [List.length_append] at this
      omega
    exact lb_h W X n out (out ++ F (vs.getD j ⟨#[]⟩)) out2 e i vs j hi hA (by omega) hvl he (hc _ out hlen) (ih (j + 1) _ _ (by omega) e2 hl)
theorem lab_ctr (W : Wd) (X : List Nm) (n : Nat) (hA : W.A.length ≤ 50000) (hV : W.V.length = W.A.length) (hVs : ∀ v ∈ W.V, v.length < 100) : ∀ d i, i + d = W.A.length → ∀ (e : Ev) (out : List Ev), e.attrs.length + d ≤ 100000 → out.length + (labF (W.A.drop i) (W.V.drop i) e).length ≤ 1000000 → CtrM Tryd.prog 27 (labM W X n out) [.agg (evC e), .int .i64 i, .ptr 1000004 0, .ptr 1000005 0, .ptr 1000006 0] (labM W X n (out ++ labF (W.A.drop i) (W.V.drop i) e)) (.tup []) := by
  intro d
  induction d with
  | zero =>
    intro i h e out he hl
    have e1 : labF (W.A.drop i) (W.V.drop i) e = [e] := by rw [List.drop_of_length_le (by omega)]; simp [labF]
    rw [e1] at hl ⊢
    exact lb_1 W X n out e i (by omega) (by simp at hl; omega) (by omega)
  | succ d ih =>
    intro i h e out he hl
    have hv : (W.V.getD i []).length < 100 := hVs _ (getD_mem _ _ _ (by omega))
    have hk := kOf_first ⟨#[]⟩ (W.V.getD i [])
    have hkl := hk.le
    rw [drop_cons W.A i nm0 (by omega), drop_cons W.V i [] (by omega)] at hl ⊢
    simp only [labF] at hl ⊢
    rw [List.length_append, ← Nat.add_assoc] at hl
    rw [← List.append_assoc]
    refine lb_2 W X n out (out ++ labF (W.A.drop (i + 1)) (W.V.drop (i + 1)) e) _ e i (anoB (W.V.getD i [])) (by omega) (by omega) hV (by omega) (ih (i + 1) (by omega) e out (by omega) (by omega)) ?_ ?_
    · exact fresh_ctr (W.V.getD i []) ⟨#[]⟩ (some false) [⟨#[]⟩] (by simp) (by omega) (by decide) _ hk (by omega)
    · refine lb_l W X n e i (W.V.getD i [] ++ [anoB (W.V.getD i [])]) (by omega) (by omega) (by rw [List.length_append, List.length_singleton]; omega) (by omega) (fun x => labF (W.A.drop (i + 1)) (W.V.drop (i + 1)) (addA e (W.A.getD i nm0) x)) (fun x out hl => ?_) _ 0 _ _ (Nat.zero_add _) (by rw [List.drop_zero]) (by rw [List.length_append, List.length_append]; exact hl)
      exact ih (i + 1) (by omega) _ out (by simp [addA]; omega) hl

end Go.Proofs.YteimloiaipiadaaDoor
end

section
set_option linter.unusedVariables false
set_option linter.unusedSimpArgs false
set_option maxRecDepth 100000
namespace Go.Proofs.YteimloiaipiadaaDoor
open Go Go.AX

def stL1 (p : Pth) (W : Wd) (X : List Nm) (out : List Ev) (i : Nat) : AS := ⟨[(4, .ptr 1000004 0), (5, .ptr 1000005 0), (6, .ptr 1000006 0), (24, .vec 1000010 X.length), (25, .int .i64 X.length), (26, .int .i64 i)], [(1, .var true (pthL p))] ++ (labM W X W.N.length out).heap, (labM W X W.N.length out).tags⟩
def stL2 (p : Pth) (W : Wd) (X : List Nm) (Y : List ByteArray) (out : List Ev) (i : Nat) : AS := ⟨[(5, .ptr 1000005 0), (41, .vec 1000014 Y.length), (42, .int .i64 Y.length), (43, .int .i64 i)], [(1, .var true (pthL p))] ++ (labM W X W.N.length out).heap, [(1000010, ⟨X.length, 36, 2, some (false, nmsC X)⟩), (1000011, ⟨W.A.length, 36, 2, some (false, nmsC W.A)⟩), (1000777, ⟨W.V.length, 64, 1, some (false, valsC W.V)⟩), (1000014, ⟨Y.length, 9, 1, some (false, strsC Y)⟩), (1000028, ⟨out.length, 39, 5, some (true, evsC out)⟩)]⟩
theorem ctrM_ev {P : Program} {f : FuncId} {M M' : MemS} {k : Int} {a b t : ByteArray} {r : List AV} {res : AV} (h : CtrM P f M (.agg (evC ⟨k, ⟨a, b⟩, [], t⟩) :: r) M' res) : CtrM P f M (.agg [.int .i64 k, .str a, .str b, .sl (some true) 0 [] .clip, .str t] :: r) M' res := by
  refine ⟨h.1, fun C vs hst hl ha => h.2 C vs hst (by simpa using hl) fun i c v hc hv => ?_⟩
  match i, hc with
  | 0, hc =>
    simp at hc
    subst hc
    have h1 := ha 0 _ v rfl hv
    cases h1 with
    | agg _ _ us hl2 h2 h3 =>
      refine .agg _ _ us hl2 (fun i c v hc hv => ?_) h3
      match i, hc with
      | 0, hc => exact h2 0 c v hc hv
      | 1, hc => exact h2 1 c v hc hv
      | 2, hc => exact h2 2 c v hc hv
      | 3, hc =>
        have h4 := h2 3 _ v rfl hv
        simp [evC, atsC] at hc
        subst hc
        exact weakA.rep (.inr ⟨_, _, _, _, rfl, rfl⟩) h4
      | 4, hc => exact h2 4 c v hc hv
  | i + 1, hc => exact ha (i + 1) c v hc hv

theorem L_p (p : Pth) (W : Wd) (o : Nm) (R : List Ev) (c : Nat) (hc : CtrM Tryd.prog 25 ⟨[], []⟩ [.sl (some false) 1 (pthL p) .clip] ⟨[], gatT false W⟩ (.agg (gatC W))) (hk : Ctr Tryd.prog 26 [.agg (spkC W.N W.A W.V W.T)] (.int .i64 (c : Int))) (ho : Ctr Tryd.prog 31 [.sl none W.N.length (nmsC W.N) .no] (.agg (nmC o))) (hN : W.N.length ≤ 1000000) (hc24 : c ≤ 24) (k : HT Tryd.prog Tryd.f11.ntmps (pt Tryd.f11 0) (stL1 p W (W.N ++ [o]) [] 0) (EndsA Γ (.pure [6000028] (.tup [.sl none R.length (evsC R) .no, .int .i64 0])) Tryd.f11)) : Ctr Tryd.prog 11 [.agg (pthL p)] (.tup [.sl none R.length (evsC R) .no, .int .i64 0]) :=
  Ctr.mk Γ_ok Tryd.func11 (by kernel_rfl) Tryd.call11 [6000028] (by kernel_rfl) (HT.walk Γ_ok mo_ok (⟨([(13, .callM [] [] [] [] [] (gatT false W) (.agg (gatC W))), (4, .id 1000004), (5, .id 1000005), (6, .id 1000006), (15, .call [] (.int .i64 (c : Int))), (22, .call [] (.agg (nmC o)))] ++ []), sp11, hd11 [] [(true, 1000005, 0, 1000028, 39, 5)] [1000004, 1000005, 1000006] [1000010, 1000011, 1000777, 1000014, 1000028], [], .pure [6000028] (.tup [.sl none R.length (evsC R) .no, .int .i64 0])⟩ : Wk) 4000 (T := .ob ((3 : Nat) ≤ (3 : Nat)) (.ob (CtrM Tryd.prog (25 : Nat) { heap := [], tags := [] } [AV.sl (some false) (1 : Nat) (pthL p) .clip] { heap := [], tags := [(1000010, { n := W.N.length, e := (36 : Nat), sz := (2 : Nat), cs := some (false, nmsC W.N) }), (1000011, { n := W.A.length, e := (36 : Nat), sz := (2 : Nat), cs := some (false, nmsC W.A) }), (1000777, { n := W.V.length, e := (64 : Nat), sz := (1 : Nat), cs := some (false, valsC W.V) }), (1000014, { n := W.T.length, e := (9 : Nat), sz := (1 : Nat), cs := some (false, strsC W.T) })] } (AV.agg [AV.vec (1000010 : Nat) W.N.length, AV.vec (1000011 : Nat) W.A.length, AV.vec (1000777 : Nat) W.V.length, AV.vec (1000014 : Nat) W.T.length])) (.ob ((4 : Nat) ≤ (4 : Nat)) (.ob (W.N.length = W.N.length) (.ob (W.A.length = W.A.length) (.ob (W.V.length = W.V.length) (.ob (W.T.length = W.T.length) (.ob (Ctr Tryd.prog 26 [AV.agg [AV.sl none W.N.length (nmsC W.N) .no, AV.sl none W.A.length (nmsC W.A) .no, AV.sl none W.V.length (valsC W.V) .no, AV.sl none W.T.length (strsC W.T) .no]] (AV.int .i64 (↑c : Int))) (.split (decide ((24 : Int) < (↑c : Int))) ((.bad (4 : Nat) (0 : Nat))) (.ob (W.N.length = W.N.length) (.ob (Ctr Tryd.prog 31 [AV.sl none W.N.length (nmsC W.N) .no] (AV.agg [AV.str o.sp, AV.str o.lo])) (.ob (W.N.length = W.N.length ∧ (splice (repL (List.map zn [AV.str (ByteArray.mk #[]), AV.str (ByteArray.mk #[])]) (1 : Nat)) ((0 : Nat) * (2 : Nat)) (cellsOf (AV.agg [AV.str o.sp, AV.str o.lo]))).length = (1 : Nat) * ((1 : Nat) + (1 : Nat)) ∧ (W.N.length + (1 : Nat)) * ((31 : Nat) + (1 : Nat)) ≤ (140737488355328 : Nat)) (.ob (W.N.length + (1 : Nat) = W.N.length + (1 : Nat)) (.head (pt Tryd.f11 0) ({ tmps := [(4, AV.ptr 1000004 0), (5, AV.ptr 1000005 0), (6, AV.ptr 1000006 0), (24, AV.vec (1000010 : Nat) (W.N.length + (1 : Nat))), (25, AV.int .i64 (↑(W.N.length + (1 : Nat)) : Int)), (26, AV.int .i64 (0 : Int))], heap := [(1, .var true (pthL p)), (1000004, .var true [AV.vec (1000010 : Nat) W.N.length, AV.vec (1000011 : Nat) W.A.length, AV.vec (1000777 : Nat) W.V.length, AV.vec (1000014 : Nat) W.T.length]), (1000005, .var true [AV.vec (1000028 : Nat) (0 : Nat)]), (1000006, .var true [AV.fn (27 : Nat) [AV.ptr 1000004 0, AV.ptr 1000005 0, AV.ptr 1000006 0]])], tags := [(1000010, { n := W.N.length + (1 : Nat), e := (36 : Nat), sz := (2 : Nat), cs := some (false, nmsC W.N ++ splice (repL (List.map zn [AV.str (ByteArray.mk #[]), AV.str (ByteArray.mk #[])]) (1 : Nat)) ((0 : Nat) * (2 : Nat)) (cellsOf (AV.agg [AV.str o.sp, AV.str o.lo]))) }), (1000011, { n := W.A.length, e := (36 : Nat), sz := (2 : Nat), cs := some (false, nmsC W.A) }), (1000777, { n := W.V.length, e := (64 : Nat), sz := (1 : Nat), cs := some (false, valsC W.V) }), (1000014, { n := W.T.length, e := (9 : Nat), sz := (1 : Nat), cs := some (false, strsC W.T) }), (1000028, { n := (0 : Nat), e := (39 : Nat), sz := (5 : Nat), cs := some (true, []) })] }))))))))))))))) (by kernel_rfl) (by
    simp only [PT.holds, true_implies, Bool.false_eq_true, Bool.true_eq_false, false_implies, true_and, and_true]
    have h24 : decide ((24 : Int) < (c : Int)) = false := by simp; omega
    simp only [h24, true_implies, Bool.false_eq_true, Bool.true_eq_false, false_implies, true_and, and_true]
    repeat' (with_reducible apply And.intro)
    all_goals first | exact hc | exact hk | exact ho | omega | rfl | exact head_eq k (by simp [stL1, labM, pthL, evsC, nmsC_app, splice, repL, cellsOf])))
theorem L_f (p : Pth) (W : Wd) (o : Nm) (c : Nat) (hc : CtrM Tryd.prog 25 ⟨[], []⟩ [.sl (some false) 1 (pthL p) .clip] ⟨[], gatT false W⟩ (.agg (gatC W))) (hk : Ctr Tryd.prog 26 [.agg (spkC W.N W.A W.V W.T)] (.int .i64 (c : Int))) (hc24 : 24 < c) : Ctr Tryd.prog 11 [.agg (pthL p)] (.tup [.sl none ([] : List Ev).length (evsC ([] : List Ev)) .no, .int .i64 13]) :=
  Ctr.mk Γ_ok Tryd.func11 (by kernel_rfl) Tryd.call11 [] (by kernel_rfl) (HT.walk Γ_ok mo_ok (⟨([(13, .callM [] [] [] [] [] (gatT false W) (.agg (gatC W))), (4, .id 1000004), (5, .id 1000005), (6, .id 1000006), (15, .call [] (.int .i64 (c : Int))), (22, .call [] (.agg (nmC o)))] ++ []), sp11, hd11 [] [(true, 1000005, 0, 1000028, 39, 5)] [1000004, 1000005, 1000006] [1000010, 1000011, 1000777, 1000014, 1000028], [], .pure [] (.tup [.sl none ([] : List Ev).length (evsC ([] : List Ev)) .no, .int .i64 13])⟩ : Wk) 4000 (T := .ob ((3 : Nat) ≤ (3 : Nat)) (.ob (CtrM Tryd.prog (25 : Nat) { heap := [], tags := [] } [AV.sl (some false) (1 : Nat) (pthL p) .clip] { heap := [], tags := [(1000010, { n := W.N.length, e := (36 : Nat), sz := (2 : Nat), cs := some (false, nmsC W.N) }), (1000011, { n := W.A.length, e := (36 : Nat), sz := (2 : Nat), cs := some (false, nmsC W.A) }), (1000777, { n := W.V.length, e := (64 : Nat), sz := (1 : Nat), cs := some (false, valsC W.V) }), (1000014, { n := W.T.length, e := (9 : Nat), sz := (1 : Nat), cs := some (false, strsC W.T) })] } (AV.agg [AV.vec (1000010 : Nat) W.N.length, AV.vec (1000011 : Nat) W.A.length, AV.vec (1000777 : Nat) W.V.length, AV.vec (1000014 : Nat) W.T.length])) (.ob ((4 : Nat) ≤ (4 : Nat)) (.ob (W.N.length = W.N.length) (.ob (W.A.length = W.A.length) (.ob (W.V.length = W.V.length) (.ob (W.T.length = W.T.length) (.ob (Ctr Tryd.prog 26 [AV.agg [AV.sl none W.N.length (nmsC W.N) .no, AV.sl none W.A.length (nmsC W.A) .no, AV.sl none W.V.length (valsC W.V) .no, AV.sl none W.T.length (strsC W.T) .no]] (AV.int .i64 (↑c : Int))) (.split (decide ((24 : Int) < (↑c : Int))) (.ob ((0 : Nat) = (0 : Nat)) (.ob (([] : List AV) = []) (.ob ((13 : Int) = (13 : Int)) (.tt)))) (.ob (W.N.length = W.N.length) (.ob (Ctr Tryd.prog 31 [AV.sl none W.N.length (nmsC W.N) .no] (AV.agg [AV.str o.sp, AV.str o.lo])) (.ob (W.N.length = W.N.length ∧ (splice (repL (List.map zn [AV.str (ByteArray.mk #[]), AV.str (ByteArray.mk #[])]) (1 : Nat)) ((0 : Nat) * (2 : Nat)) (cellsOf (AV.agg [AV.str o.sp, AV.str o.lo]))).length = (1 : Nat) * ((1 : Nat) + (1 : Nat)) ∧ (W.N.length + (1 : Nat)) * ((31 : Nat) + (1 : Nat)) ≤ (140737488355328 : Nat)) (.ob (W.N.length + (1 : Nat) = W.N.length + (1 : Nat)) (.head (pt Tryd.f11 0) ({ tmps := [(4, AV.ptr 1000004 0), (5, AV.ptr 1000005 0), (6, AV.ptr 1000006 0), (24, AV.vec (1000010 : Nat) (W.N.length + (1 : Nat))), (25, AV.int .i64 (↑(W.N.length + (1 : Nat)) : Int)), (26, AV.int .i64 (0 : Int))], heap := [(1, .var true (pthL p)), (1000004, .var true [AV.vec (1000010 : Nat) W.N.length, AV.vec (1000011 : Nat) W.A.length, AV.vec (1000777 : Nat) W.V.length, AV.vec (1000014 : Nat) W.T.length]), (1000005, .var true [AV.vec (1000028 : Nat) (0 : Nat)]), (1000006, .var true [AV.fn (27 : Nat) [AV.ptr 1000004 0, AV.ptr 1000005 0, AV.ptr 1000006 0]])], tags := [(1000010, { n := W.N.length + (1 : Nat), e := (36 : Nat), sz := (2 : Nat), cs := some (false, nmsC W.N ++ splice (repL (List.map zn [AV.str (ByteArray.mk #[]), AV.str (ByteArray.mk #[])]) (1 : Nat)) ((0 : Nat) * (2 : Nat)) (cellsOf (AV.agg [AV.str o.sp, AV.str o.lo]))) }), (1000011, { n := W.A.length, e := (36 : Nat), sz := (2 : Nat), cs := some (false, nmsC W.A) }), (1000777, { n := W.V.length, e := (64 : Nat), sz := (1 : Nat), cs := some (false, valsC W.V) }), (1000014, { n := W.T.length, e := (9 : Nat), sz := (1 : Nat), cs := some (false, strsC W.T) }), (1000028, { n := (0 : Nat), e := (39 : Nat), sz := (5 : Nat), cs := some (true, []) })] }))))))))))))))) (by kernel_rfl) (by
    simp only [PT.holds, true_implies, Bool.false_eq_true, Bool.true_eq_false, false_implies, true_and, and_true]
    have h24 : decide ((24 : Int) < (c : Int)) = true := by simp; omega
    simp only [h24, true_implies, Bool.false_eq_true, Bool.true_eq_false, false_implies, true_and, and_true]
    repeat' (with_reducible apply And.intro)
    all_goals first | exact hc | exact hk | omega | rfl))
theorem L1_h (p : Pth) (W : Wd) (X : List Nm) (out out1 R : List Ev) (i : Nat) (hi : i < X.length) (hX : X.length ≤ 1000001) (hc : CtrM Tryd.prog 27 (labM W X W.N.length out) [.agg (evC (⟨1, (X.getD i nm0), [], ⟨#[]⟩⟩ : Ev)), .int .i64 0, .ptr 1000004 0, .ptr 1000005 0, .ptr 1000006 0] (labM W X W.N.length out1) (.tup [])) (k : HT Tryd.prog Tryd.f11.ntmps (pt Tryd.f11 0) (stL1 p W X out1 (i + 1)) (EndsA Γ (.pure [6000028] (.tup [.sl none R.length (evsC R) .no, .int .i64 0])) Tryd.f11)) : HT Tryd.prog Tryd.f11.ntmps (pt Tryd.f11 0) (stL1 p W X out i) (EndsA Γ (.pure [6000028] (.tup [.sl none R.length (evsC R) .no, .int .i64 0])) Tryd.f11) :=
  HT.walk Γ_ok mo_ok (⟨([(29, .val (.agg (nmC (X.getD i nm0)))), (33, .callM [] [] [1000004, 1000005, 1000006] [1000010, 1000011, 1000777, 1000014, 1000028] (labM W X W.N.length out1).heap (labM W X W.N.length out1).tags (.tup [])), (39, .call [] (.str ⟨#[]⟩))] ++ []), sp11, hd11 [] [(true, 1000005, 0, 1000028, 39, 5)] [1000004, 1000005, 1000006] [1000010, 1000011, 1000777, 1000014, 1000028], [], .pure [6000028] (.tup [.sl none R.length (evsC R) .no, .int .i64 0])⟩ : Wk) 4000 (T := .split (decide ((↑i : Int) < (↑X.length : Int))) (.ob ((0 : Int) ≤ (↑i : Int) ∧ (↑i : Int) < (↑X.length : Int) ∧ X.length = X.length) (.ob (X.length = X.length) (.ob (List.take (2 : Nat) (List.drop ((↑i : Int).toNat * (2 : Nat)) (nmsC X)) = [AV.str (X.getD i nm0).sp, AV.str (X.getD i nm0).lo]) (.ob ((2 : Nat) ≤ (2 : Nat)) (.ob (CtrM Tryd.prog (27 : Nat) { heap := [(1000004, .var true [AV.vec (1000010 : Nat) W.N.length, AV.vec (1000011 : Nat) W.A.length, AV.vec (1000777 : Nat) W.V.length, AV.vec (1000014 : Nat) W.T.length]), (1000005, .var true [AV.vec (1000028 : Nat) out.length]), (1000006, .var true [AV.fn (27 : Nat) [AV.ptr 1000004 0, AV.ptr 1000005 0, AV.ptr 1000006 0]])], tags := [(1000010, { n := X.length, e := (36 : Nat), sz := (2 : Nat), cs := some (false, nmsC X) }), (1000011, { n := W.A.length, e := (36 : Nat), sz := (2 : Nat), cs := some (false, nmsC W.A) }), (1000777, { n := W.V.length, e := (64 : Nat), sz := (1 : Nat), cs := some (false, valsC W.V) }), (1000014, { n := W.T.length, e := (9 : Nat), sz := (1 : Nat), cs := some (false, strsC W.T) }), (1000028, { n := out.length, e := (39 : Nat), sz := (5 : Nat), cs := some (true, evsC out) })] } [AV.agg [AV.int .i64 (1 : Int), AV.str (X.getD i nm0).sp, AV.str (X.getD i nm0).lo, AV.sl (some true) (0 : Nat) [] .clip, AV.str (ByteArray.mk #[])], AV.int .i64 (0 : Int), AV.ptr 1000004 0, AV.ptr 1000005 0, AV.ptr 1000006 0] { heap := [(1000004, .var true [AV.vec (1000010 : Nat) W.N.length, AV.vec (1000011 : Nat) W.A.length, AV.vec (1000777 : Nat) W.V.length, AV.vec (1000014 : Nat) W.T.length]), (1000005, .var true [AV.vec (1000028 : Nat) out1.length]), (1000006, .var true [AV.fn (27 : Nat) [AV.ptr 1000004 0, AV.ptr 1000005 0, AV.ptr 1000006 0]])], tags := [(1000010, { n := X.length, e := (36 : Nat), sz := (2 : Nat), cs := some (false, nmsC X) }), (1000011, { n := W.A.length, e := (36 : Nat), sz := (2 : Nat), cs := some (false, nmsC W.A) }), (1000777, { n := W.V.length, e := (64 : Nat), sz := (1 : Nat), cs := some (false, valsC W.V) }), (1000014, { n := W.T.length, e := (9 : Nat), sz := (1 : Nat), cs := some (false, strsC W.T) }), (1000028, { n := out1.length, e := (39 : Nat), sz := (5 : Nat), cs := some (true, evsC out1) })] } (AV.tup [])) (.head (pt Tryd.f11 0) ({ tmps := [(4, AV.ptr 1000004 0), (5, AV.ptr 1000005 0), (6, AV.ptr 1000006 0), (24, AV.vec (1000010 : Nat) X.length), (25, AV.int .i64 (↑X.length : Int)), (26, AV.int .i64 (IntKind.i64.wrap ((↑i : Int) + (1 : Int))))], heap := [(1, .var true (pthL p)), (1000004, .var true [AV.vec (1000010 : Nat) W.N.length, AV.vec (1000011 : Nat) W.A.length, AV.vec (1000777 : Nat) W.V.length, AV.vec (1000014 : Nat) W.T.length]), (1000005, .var true [AV.vec (1000028 : Nat) out1.length]), (1000006, .var true [AV.fn (27 : Nat) [AV.ptr 1000004 0, AV.ptr 1000005 0, AV.ptr 1000006 0]])], tags := [(1000010, { n := X.length, e := (36 : Nat), sz := (2 : Nat), cs := some (false, nmsC X) }), (1000011, { n := W.A.length, e := (36 : Nat), sz := (2 : Nat), cs := some (false, nmsC W.A) }), (1000777, { n := W.V.length, e := (64 : Nat), sz := (1 : Nat), cs := some (false, valsC W.V) }), (1000014, { n := W.T.length, e := (9 : Nat), sz := (1 : Nat), cs := some (false, strsC W.T) }), (1000028, { n := out1.length, e := (39 : Nat), sz := (5 : Nat), cs := some (true, evsC out1) })] }))))))) (.ob (W.T.length = W.T.length) (.ob (Ctr Tryd.prog 29 [AV.sl none W.T.length (strsC W.T) .no, AV.str (ByteArray.mk #[]), AV.sl (some true) (0 : Nat) [] .clip] (AV.str (ByteArray.mk #[]))) (.ob (W.T.length = W.T.length ∧ (splice (repL (List.map zn [AV.str (ByteArray.mk #[])]) (1 : Nat)) ((0 : Nat) * (1 : Nat)) (cellsOf (AV.str (ByteArray.mk #[])))).length = (1 : Nat) * ((0 : Nat) + (1 : Nat)) ∧ (W.T.length + (1 : Nat)) * ((15 : Nat) + (1 : Nat)) ≤ (140737488355328 : Nat)) (.ob (W.T.length + (1 : Nat) = W.T.length + (1 : Nat)) (.head (pt Tryd.f11 1) ({ tmps := [(5, AV.ptr 1000005 0), (41, AV.vec (1000014 : Nat) (W.T.length + (1 : Nat))), (42, AV.int .i64 (↑(W.T.length + (1 : Nat)) : Int)), (43, AV.int .i64 (0 : Int))], heap := [(1, .var true (pthL p)), (1000004, .var true [AV.vec (1000010 : Nat) W.N.length, AV.vec (1000011 : Nat) W.A.length, AV.vec (1000777 : Nat) W.V.length, AV.vec (1000014 : Nat) W.T.length]), (1000005, .var true [AV.vec (1000028 : Nat) out.length]), (1000006, .var true [AV.fn (27 : Nat) [AV.ptr 1000004 0, AV.ptr 1000005 0, AV.ptr 1000006 0]])], tags := [(1000010, { n := X.length, e := (36 : Nat), sz := (2 : Nat), cs := some (false, nmsC X) }), (1000011, { n := W.A.length, e := (36 : Nat), sz := (2 : Nat), cs := some (false, nmsC W.A) }), (1000777, { n := W.V.length, e := (64 : Nat), sz := (1 : Nat), cs := some (false, valsC W.V) }), (1000014, { n := W.T.length + (1 : Nat), e := (9 : Nat), sz := (1 : Nat), cs := some (false, strsC W.T ++ splice (repL (List.map zn [AV.str (ByteArray.mk #[])]) (1 : Nat)) ((0 : Nat) * (1 : Nat)) (cellsOf (AV.str (ByteArray.mk #[])))) }), (1000028, { n := out.length, e := (39 : Nat), sz := (5 : Nat), cs := some (true, evsC out) })] }))))))) (by kernel_rfl) (by
    have w2 : IntKind.i64.wrap ((i : Int) + 1) = ((i + 1 : Nat) : Int) := by rw [i64_wrap (by omega) (by omega)]; rfl
    have h0 : decide ((i : Int) < X.length) = true := by simp; omega
    simp only [PT.holds, w2, h0, true_implies, Bool.false_eq_true, Bool.true_eq_false, false_implies, true_and, and_true]
    repeat' (with_reducible apply And.intro)
    all_goals first | exact ctrM_ev hc | (rw [Int.toNat_natCast, nms_take0 _ _ _ (by omega) (by decide)]; rfl) | omega | rfl | exact head_eq k (by simp [stL1, labM, pthL]))
theorem L1_e (p : Pth) (W : Wd) (X : List Nm) (out R : List Ev) (s : ByteArray) (i : Nat) (hi : i = X.length) (hT : W.T.length ≤ 1000000) (hc : Ctr Tryd.prog 29 [.sl none W.T.length (strsC W.T) .no, .str ⟨#[]⟩, .sl (some true) 0 (strsC []) .clip] (.str s)) (k : HT Tryd.prog Tryd.f11.ntmps (pt Tryd.f11 1) (stL2 p W X (W.T ++ [s]) out 0) (EndsA Γ (.pure [6000028] (.tup [.sl none R.length (evsC R) .no, .int .i64 0])) Tryd.f11)) : HT Tryd.prog Tryd.f11.ntmps (pt Tryd.f11 0) (stL1 p W X out i) (EndsA Γ (.pure [6000028] (.tup [.sl none R.length (evsC R) .no, .int .i64 0])) Tryd.f11) :=
  HT.walk Γ_ok mo_ok (⟨([(29, .val (.agg (nmC nm0))), (33, .callM [] [] [1000004, 1000005, 1000006] [1000010, 1000011, 1000777, 1000014, 1000028] (labM W X W.N.length out).heap (labM W X W.N.length out).tags (.tup [])), (39, .call [] (.str s))] ++ []), sp11, hd11 [] [(true, 1000005, 0, 1000028, 39, 5)] [1000004, 1000005, 1000006] [1000010, 1000011, 1000777, 1000014, 1000028], [], .pure [6000028] (.tup [.sl none R.length (evsC R) .no, .int .i64 0])⟩ : Wk) 4000 (T := .split (decide ((↑i : Int) < (↑X.length : Int))) (.ob ((0 : Int) ≤ (↑i : Int) ∧ (↑i : Int) < (↑X.length : Int) ∧ X.length = X.length) (.ob (X.length = X.length) (.ob (List.take (2 : Nat) (List.drop ((↑i : Int).toNat * (2 : Nat)) (nmsC X)) = [AV.str nm0.sp, AV.str nm0.lo]) (.ob ((2 : Nat) ≤ (2 : Nat)) (.ob (CtrM Tryd.prog (27 : Nat) { heap := [(1000004, .var true [AV.vec (1000010 : Nat) W.N.length, AV.vec (1000011 : Nat) W.A.length, AV.vec (1000777 : Nat) W.V.length, AV.vec (1000014 : Nat) W.T.length]), (1000005, .var true [AV.vec (1000028 : Nat) out.length]), (1000006, .var true [AV.fn (27 : Nat) [AV.ptr 1000004 0, AV.ptr 1000005 0, AV.ptr 1000006 0]])], tags := [(1000010, { n := X.length, e := (36 : Nat), sz := (2 : Nat), cs := some (false, nmsC X) }), (1000011, { n := W.A.length, e := (36 : Nat), sz := (2 : Nat), cs := some (false, nmsC W.A) }), (1000777, { n := W.V.length, e := (64 : Nat), sz := (1 : Nat), cs := some (false, valsC W.V) }), (1000014, { n := W.T.length, e := (9 : Nat), sz := (1 : Nat), cs := some (false, strsC W.T) }), (1000028, { n := out.length, e := (39 : Nat), sz := (5 : Nat), cs := some (true, evsC out) })] } [AV.agg [AV.int .i64 (1 : Int), AV.str nm0.sp, AV.str nm0.lo, AV.sl (some true) (0 : Nat) [] .clip, AV.str (ByteArray.mk #[])], AV.int .i64 (0 : Int), AV.ptr 1000004 0, AV.ptr 1000005 0, AV.ptr 1000006 0] { heap := [(1000004, .var true [AV.vec (1000010 : Nat) W.N.length, AV.vec (1000011 : Nat) W.A.length, AV.vec (1000777 : Nat) W.V.length, AV.vec (1000014 : Nat) W.T.length]), (1000005, .var true [AV.vec (1000028 : Nat) out.length]), (1000006, .var true [AV.fn (27 : Nat) [AV.ptr 1000004 0, AV.ptr 1000005 0, AV.ptr 1000006 0]])], tags := [(1000010, { n := X.length, e := (36 : Nat), sz := (2 : Nat), cs := some (false, nmsC X) }), (1000011, { n := W.A.length, e := (36 : Nat), sz := (2 : Nat), cs := some (false, nmsC W.A) }), (1000777, { n := W.V.length, e := (64 : Nat), sz := (1 : Nat), cs := some (false, valsC W.V) }), (1000014, { n := W.T.length, e := (9 : Nat), sz := (1 : Nat), cs := some (false, strsC W.T) }), (1000028, { n := out.length, e := (39 : Nat), sz := (5 : Nat), cs := some (true, evsC out) })] } (AV.tup [])) (.head (pt Tryd.f11 0) ({ tmps := [(4, AV.ptr 1000004 0), (5, AV.ptr 1000005 0), (6, AV.ptr 1000006 0), (24, AV.vec (1000010 : Nat) X.length), (25, AV.int .i64 (↑X.length : Int)), (26, AV.int .i64 (IntKind.i64.wrap ((↑i : Int) + (1 : Int))))], heap := [(1, .var true (pthL p)), (1000004, .var true [AV.vec (1000010 : Nat) W.N.length, AV.vec (1000011 : Nat) W.A.length, AV.vec (1000777 : Nat) W.V.length, AV.vec (1000014 : Nat) W.T.length]), (1000005, .var true [AV.vec (1000028 : Nat) out.length]), (1000006, .var true [AV.fn (27 : Nat) [AV.ptr 1000004 0, AV.ptr 1000005 0, AV.ptr 1000006 0]])], tags := [(1000010, { n := X.length, e := (36 : Nat), sz := (2 : Nat), cs := some (false, nmsC X) }), (1000011, { n := W.A.length, e := (36 : Nat), sz := (2 : Nat), cs := some (false, nmsC W.A) }), (1000777, { n := W.V.length, e := (64 : Nat), sz := (1 : Nat), cs := some (false, valsC W.V) }), (1000014, { n := W.T.length, e := (9 : Nat), sz := (1 : Nat), cs := some (false, strsC W.T) }), (1000028, { n := out.length, e := (39 : Nat), sz := (5 : Nat), cs := some (true, evsC out) })] }))))))) (.ob (W.T.length = W.T.length) (.ob (Ctr Tryd.prog 29 [AV.sl none W.T.length (strsC W.T) .no, AV.str (ByteArray.mk #[]), AV.sl (some true) (0 : Nat) [] .clip] (AV.str s)) (.ob (W.T.length = W.T.length ∧ (splice (repL (List.map zn [AV.str (ByteArray.mk #[])]) (1 : Nat)) ((0 : Nat) * (1 : Nat)) (cellsOf (AV.str s))).length = (1 : Nat) * ((0 : Nat) + (1 : Nat)) ∧ (W.T.length + (1 : Nat)) * ((15 : Nat) + (1 : Nat)) ≤ (140737488355328 : Nat)) (.ob (W.T.length + (1 : Nat) = W.T.length + (1 : Nat)) (.head (pt Tryd.f11 1) ({ tmps := [(5, AV.ptr 1000005 0), (41, AV.vec (1000014 : Nat) (W.T.length + (1 : Nat))), (42, AV.int .i64 (↑(W.T.length + (1 : Nat)) : Int)), (43, AV.int .i64 (0 : Int))], heap := [(1, .var true (pthL p)), (1000004, .var true [AV.vec (1000010 : Nat) W.N.length, AV.vec (1000011 : Nat) W.A.length, AV.vec (1000777 : Nat) W.V.length, AV.vec (1000014 : Nat) W.T.length]), (1000005, .var true [AV.vec (1000028 : Nat) out.length]), (1000006, .var true [AV.fn (27 : Nat) [AV.ptr 1000004 0, AV.ptr 1000005 0, AV.ptr 1000006 0]])], tags := [(1000010, { n := X.length, e := (36 : Nat), sz := (2 : Nat), cs := some (false, nmsC X) }), (1000011, { n := W.A.length, e := (36 : Nat), sz := (2 : Nat), cs := some (false, nmsC W.A) }), (1000777, { n := W.V.length, e := (64 : Nat), sz := (1 : Nat), cs := some (false, valsC W.V) }), (1000014, { n := W.T.length + (1 : Nat), e := (9 : Nat), sz := (1 : Nat), cs := some (false, strsC W.T ++ splice (repL (List.map zn [AV.str (ByteArray.mk #[])]) (1 : Nat)) ((0 : Nat) * (1 : Nat)) (cellsOf (AV.str s))) }), (1000028, { n := out.length, e := (39 : Nat), sz := (5 : Nat), cs := some (true, evsC out) })] }))))))) (by kernel_rfl) (by
    have h0 : decide ((i : Int) < X.length) = false := by simp; omega
    simp only [PT.holds, h0, true_implies, Bool.false_eq_true, Bool.true_eq_false, false_implies, true_and, and_true]
    repeat' (with_reducible apply And.intro)
    all_goals first | exact hc | omega | rfl | (rw [strsC_len]; omega) | exact head_eq k (by simp [stL2, labM, pthL, strsC_app, splice, repL, cellsOf]))
theorem L2_h (p : Pth) (W : Wd) (X : List Nm) (Y : List ByteArray) (out R : List Ev) (i : Nat) (hi : i < Y.length) (hY : Y.length ≤ 1000001) (ho : out.length ≤ 1000000) (k : HT Tryd.prog Tryd.f11.ntmps (pt Tryd.f11 1) (stL2 p W X Y (out ++ [(⟨2, nm0, [], (Y.getD i ⟨#[]⟩)⟩ : Ev)]) (i + 1)) (EndsA Γ (.pure [6000028] (.tup [.sl none R.length (evsC R) .no, .int .i64 0])) Tryd.f11)) : HT Tryd.prog Tryd.f11.ntmps (pt Tryd.f11 1) (stL2 p W X Y out i) (EndsA Γ (.pure [6000028] (.tup [.sl none R.length (evsC R) .no, .int .i64 0])) Tryd.f11) :=
  HT.walk Γ_ok mo_ok (⟨([(46, .val (.str (Y.getD i ⟨#[]⟩)))] ++ []), sp11, hd11 [] [(true, 1000005, 0, 1000028, 39, 5)] [1000004, 1000005, 1000006] [1000010, 1000011, 1000777, 1000014, 1000028], [], .pure [6000028] (.tup [.sl none R.length (evsC R) .no, .int .i64 0])⟩ : Wk) 4000 (T := .split (decide ((↑i : Int) < (↑Y.length : Int))) (.ob ((0 : Int) ≤ (↑i : Int) ∧ (↑i : Int) < (↑Y.length : Int) ∧ Y.length = Y.length) (.ob (Y.length = Y.length) (.ob ((strsC Y)[(↑i : Int).toNat * (1 : Nat)]? = some (AV.str (Y.getD i (ByteArray.mk #[])))) (.ob (out.length = out.length ∧ (splice (repL (List.map zn [AV.int .i64 (0 : Int), AV.str (ByteArray.mk #[]), AV.str (ByteArray.mk #[]), AV.sl (some true) (0 : Nat) [] .clip, AV.str (ByteArray.mk #[])]) (1 : Nat)) ((0 : Nat) * (5 : Nat)) (cellsOf (AV.agg [AV.int .i64 (2 : Int), AV.str (ByteArray.mk #[]), AV.str (ByteArray.mk #[]), AV.sl none (0 : Nat) [] .no, AV.str (Y.getD i (ByteArray.mk #[]))]))).length = (1 : Nat) * ((4 : Nat) + (1 : Nat)) ∧ (out.length + (1 : Nat)) * ((79 : Nat) + (1 : Nat)) ≤ (140737488355328 : Nat)) (.head (pt Tryd.f11 1) ({ tmps := [(5, AV.ptr 1000005 0), (41, AV.vec (1000014 : Nat) Y.length), (42, AV.int .i64 (↑Y.length : Int)), (43, AV.int .i64 (IntKind.i64.wrap ((↑i : Int) + (1 : Int))))], heap := [(1, .var true (pthL p)), (1000004, .var true [AV.vec (1000010 : Nat) W.N.length, AV.vec (1000011 : Nat) W.A.length, AV.vec (1000777 : Nat) W.V.length, AV.vec (1000014 : Nat) W.T.length]), (1000005, .var true [AV.vec (1000028 : Nat) (out.length + (1 : Nat))]), (1000006, .var true [AV.fn (27 : Nat) [AV.ptr 1000004 0, AV.ptr 1000005 0, AV.ptr 1000006 0]])], tags := [(1000010, { n := X.length, e := (36 : Nat), sz := (2 : Nat), cs := some (false, nmsC X) }), (1000011, { n := W.A.length, e := (36 : Nat), sz := (2 : Nat), cs := some (false, nmsC W.A) }), (1000777, { n := W.V.length, e := (64 : Nat), sz := (1 : Nat), cs := some (false, valsC W.V) }), (1000014, { n := Y.length, e := (9 : Nat), sz := (1 : Nat), cs := some (false, strsC Y) }), (1000028, { n := out.length + (1 : Nat), e := (39 : Nat), sz := (5 : Nat), cs := some (true, evsC out ++ splice (repL (List.map zn [AV.int .i64 (0 : Int), AV.str (ByteArray.mk #[]), AV.str (ByteArray.mk #[]), AV.sl (some true) (0 : Nat) [] .clip, AV.str (ByteArray.mk #[])]) (1 : Nat)) ((0 : Nat) * (5 : Nat)) (cellsOf (AV.agg [AV.int .i64 (2 : Int), AV.str (ByteArray.mk #[]), AV.str (ByteArray.mk #[]), AV.sl none (0 : Nat) [] .no, AV.str (Y.getD i (ByteArray.mk #[]))]))) })] })))))) (.ob (out.length = out.length) (.ob (out.length = R.length) (.ob (evsC out = evsC R) (.ob ((0 : Int) = (0 : Int)) (.tt)))))) (by kernel_rfl) (by
    have w2 : IntKind.i64.wrap ((i : Int) + 1) = ((i + 1 : Nat) : Int) := by rw [i64_wrap (by omega) (by omega)]; rfl
    have h0 : decide ((i : Int) < Y.length) = true := by simp; omega
    simp only [PT.holds, w2, h0, true_implies, Bool.false_eq_true, Bool.true_eq_false, false_implies, true_and, and_true]
    repeat' (with_reducible apply And.intro)
    all_goals first | omega | rfl | (rw [Nat.mul_one, Int.toNat_natCast]; exact strs_nth _ _ (by omega)) | exact head_eq k (by simp [stL2, labM, pthL, evsC, evC, atsC, nm0, splice, repL, cellsOf]))
theorem L2_e (p : Pth) (W : Wd) (X : List Nm) (Y : List ByteArray) (out : List Ev) (i : Nat) (hi : i = Y.length) : HT Tryd.prog Tryd.f11.ntmps (pt Tryd.f11 1) (stL2 p W X Y out i) (EndsA Γ (.pure [6000028] (.tup [.sl none out.length (evsC out) .no, .int .i64 0])) Tryd.f11) :=
  HT.walk Γ_ok mo_ok (⟨([(46, .val (.str ⟨#[]⟩))] ++ []), sp11, hd11 [] [(true, 1000005, 0, 1000028, 39, 5)] [1000004, 1000005, 1000006] [1000010, 1000011, 1000777, 1000014, 1000028], [], .pure [6000028] (.tup [.sl none out.length (evsC out) .no, .int .i64 0])⟩ : Wk) 4000 (T := .split (decide ((↑i : Int) < (↑Y.length : Int))) (.ob ((0 : Int) ≤ (↑i : Int) ∧ (↑i : Int) < (↑Y.length : Int) ∧ Y.length = Y.length) (.ob (Y.length = Y.length) (.ob ((strsC Y)[(↑i : Int).toNat * (1 : Nat)]? = some (AV.str (ByteArray.mk #[]))) (.ob (out.length = out.length ∧ (splice (repL (List.map zn [AV.int .i64 (0 : Int), AV.str (ByteArray.mk #[]), AV.str (ByteArray.mk #[]), AV.sl (some true) (0 : Nat) [] .clip, AV.str (ByteArray.mk #[])]) (1 : Nat)) ((0 : Nat) * (5 : Nat)) (cellsOf (AV.agg [AV.int .i64 (2 : Int), AV.str (ByteArray.mk #[]), AV.str (ByteArray.mk #[]), AV.sl none (0 : Nat) [] .no, AV.str (ByteArray.mk #[])]))).length = (1 : Nat) * ((4 : Nat) + (1 : Nat)) ∧ (out.length + (1 : Nat)) * ((79 : Nat) + (1 : Nat)) ≤ (140737488355328 : Nat)) (.head (pt Tryd.f11 1) ({ tmps := [(5, AV.ptr 1000005 0), (41, AV.vec (1000014 : Nat) Y.length), (42, AV.int .i64 (↑Y.length : Int)), (43, AV.int .i64 (IntKind.i64.wrap ((↑i : Int) + (1 : Int))))], heap := [(1, .var true (pthL p)), (1000004, .var true [AV.vec (1000010 : Nat) W.N.length, AV.vec (1000011 : Nat) W.A.length, AV.vec (1000777 : Nat) W.V.length, AV.vec (1000014 : Nat) W.T.length]), (1000005, .var true [AV.vec (1000028 : Nat) (out.length + (1 : Nat))]), (1000006, .var true [AV.fn (27 : Nat) [AV.ptr 1000004 0, AV.ptr 1000005 0, AV.ptr 1000006 0]])], tags := [(1000010, { n := X.length, e := (36 : Nat), sz := (2 : Nat), cs := some (false, nmsC X) }), (1000011, { n := W.A.length, e := (36 : Nat), sz := (2 : Nat), cs := some (false, nmsC W.A) }), (1000777, { n := W.V.length, e := (64 : Nat), sz := (1 : Nat), cs := some (false, valsC W.V) }), (1000014, { n := Y.length, e := (9 : Nat), sz := (1 : Nat), cs := some (false, strsC Y) }), (1000028, { n := out.length + (1 : Nat), e := (39 : Nat), sz := (5 : Nat), cs := some (true, evsC out ++ splice (repL (List.map zn [AV.int .i64 (0 : Int), AV.str (ByteArray.mk #[]), AV.str (ByteArray.mk #[]), AV.sl (some true) (0 : Nat) [] .clip, AV.str (ByteArray.mk #[])]) (1 : Nat)) ((0 : Nat) * (5 : Nat)) (cellsOf (AV.agg [AV.int .i64 (2 : Int), AV.str (ByteArray.mk #[]), AV.str (ByteArray.mk #[]), AV.sl none (0 : Nat) [] .no, AV.str (ByteArray.mk #[])]))) })] })))))) (.ob (out.length = out.length) (.ob (out.length = out.length) (.ob (evsC out = evsC out) (.ob ((0 : Int) = (0 : Int)) (.tt)))))) (by kernel_rfl) (by
    have h0 : decide ((i : Int) < Y.length) = false := by simp; omega
    simp only [PT.holds, h0, true_implies, Bool.false_eq_true, Bool.true_eq_false, false_implies, true_and, and_true]
    try trivial)
end Go.Proofs.YteimloiaipiadaaDoor
end

section
set_option linter.unusedVariables false
set_option linter.unusedSimpArgs false
set_option maxRecDepth 100000
namespace Go.Proofs.YteimloiaipiadaaDoor
open Go Go.AX

/-- Another name. -/
noncomputable def othN (l : List Nm) : Nm := ⟨⟨#[]⟩, frR (localsF l ++ [bZ0]) bZ (kOf bZ (localsF l ++ [bZ0])) [bZ]⟩
/-- Another text. -/
noncomputable def anoT (l : List ByteArray) : ByteArray := frR l ⟨#[]⟩ (kOf ⟨#[]⟩ l) []
noncomputable def opnW (W : Wd) (N : List Nm) : List Ev := N.flatMap fun n => labF W.A W.V ⟨1, n, [], ⟨#[]⟩⟩
def txtW (T : List ByteArray) : List Ev := T.map fun s => ⟨2, nm0, [], s⟩
/-- The labels. -/
noncomputable def labsW (W : Wd) : List Ev := opnW W (W.N ++ [othN W.N]) ++ txtW (W.T ++ [anoT W.T])
def prodV : List (List ByteArray) → Nat
  | [] => 1
  | v :: V => (v.length + 2) * prodV V
theorem flatMap_const {α β : Type} (f : α → List β) (m : Nat) (h : ∀ x, (f x).length = m) : ∀ l : List α, (l.flatMap f).length = l.length * m
  | [] => by simp
  | x :: l => by rw [List.flatMap_cons, List.length_append, h, flatMap_const f m h l, List.length_cons, Nat.add_mul, Nat.one_mul, Nat.add_comm]
theorem labF_len : ∀ (A : List Nm) (V : List (List ByteArray)) (e : Ev), V.length = A.length → (labF A V e).length = prodV V
  | [], V, e, h => by
    obtain rfl := List.eq_nil_of_length_eq_zero h
    simp [labF, prodV]
  | n :: A, [], e, h => by simp at h
  | n :: A, v :: V, e, h => by
    have h' : V.length = A.length := by simpa using h
    simp only [labF, prodV]
    rw [List.length_append, labF_len A V e h', flatMap_const _ (prodV V) (fun x => labF_len A V _ h'), List.length_append, List.length_singleton, show v.length + 2 = (v.length + 1) + 1 by omega, Nat.add_mul (v.length + 1) 1, Nat.one_mul, Nat.add_comm]
theorem prodV_pos : ∀ V, 0 < prodV V
  | [] => by simp [prodV]
  | v :: V => by simp only [prodV]; exact Nat.mul_pos (by omega) (prodV_pos V)
theorem opnW_len (W : Wd) (hV : W.V.length = W.A.length) (N : List Nm) : (opnW W N).length = N.length * prodV W.V := flatMap_const _ _ (fun n => labF_len _ _ _ hV) N
theorem labsW_len (W : Wd) (hV : W.V.length = W.A.length) : (labsW W).length = (W.N.length + 1) * prodV W.V + W.T.length + 1 := by
  unfold labsW
  rw [List.length_append, opnW_len W hV]
  simp [txtW]
  omega
theorem cnt_ge : ∀ (V : List (List ByteArray)) (n : Nat), 25 ≤ n → 25 ≤ V.foldl cntS n
  | [], n, h => h
  | v :: V, n, h => by
    rw [List.foldl_cons]
    refine cnt_ge V _ ?_
    unfold cntS
    split
    · omega
    · have : 25 * 1 ≤ n * (v.length + 2) := Nat.mul_le_mul h (by omega)
      omega
theorem cnt_eq : ∀ (V : List (List ByteArray)) (n : Nat), V.foldl cntS n ≤ 24 → V.foldl cntS n = n * prodV V
  | [], n, h => by simp [prodV]
  | v :: V, n, h => by
    rw [List.foldl_cons] at h ⊢
    have h1 : cntS n v = n * (v.length + 2) := by
      have h2 : cntS n v < 25 := by
        rcases Nat.lt_or_ge (cntS n v) 25 with h3 | h3
        · exact h3
        · have := cnt_ge V _ h3; omega
      unfold cntS at h2 ⊢
      split
      · rename_i h3; rw [if_pos h3] at h2; omega
      · rfl
    rw [cnt_eq V _ h, h1, prodV, Nat.mul_assoc]
theorem cnt_le : ∀ (V : List (List ByteArray)) (n : Nat), V.foldl cntS n ≤ n * prodV V
  | [], n => by simp [prodV]
  | v :: V, n => by
    rw [List.foldl_cons, prodV, ← Nat.mul_assoc]
    refine Nat.le_trans (cnt_le V _) (Nat.mul_le_mul_right _ ?_)
    unfold cntS
    split <;> omega
/-- The count tells whether there are too many. -/
theorem cntW_iff (W : Wd) (hV : W.V.length = W.A.length) : cntW W ≤ 24 ↔ (labsW W).length ≤ 24 := by
  rw [labsW_len W hV]
  unfold cntW
  constructor
  · intro h
    have := cnt_eq W.V (W.N.length + 1) (by omega)
    omega
  · intro h
    have := cnt_le W.V (W.N.length + 1)
    omega
theorem txtW_app (a b : List ByteArray) : txtW (a ++ b) = txtW a ++ txtW b := by simp [txtW]
theorem L2_l (p : Pth) (W : Wd) (X : List Nm) (Y : List ByteArray) (hY : Y.length ≤ 1000001) : ∀ d i out R, i + d = Y.length → R = out ++ txtW (Y.drop i) → R.length ≤ 1000000 → HT Tryd.prog Tryd.f11.ntmps (pt Tryd.f11 1) (stL2 p W X Y out i) (EndsA Γ (.pure [6000028] (.tup [.sl none R.length (evsC R) .no, .int .i64 0])) Tryd.f11) := by
  intro d
  induction d with
  | zero =>
    intro i out R h e hl
    rw [List.drop_of_length_le (by omega)] at e
    simp only [txtW, List.map_nil, List.append_nil] at e
    subst e
    exact L2_e p W X Y R i (by omega)
  | succ d ih =>
    intro i out R h e hl
    rw [drop_cons Y i ⟨#[]⟩ (by omega)] at e
    have e2 : R = out ++ [⟨2, nm0, [], Y.getD i ⟨#[]⟩⟩] ++ txtW (Y.drop (i + 1)) := by rw [e]; simp [txtW]
    have hlen := congrArg List.length e2
    simp only [List.length_append, List.length_singleton] at hlen
    exact L2_h p W X Y out R i (by omega) hY (by omega) (ih (i + 1) _ _ (by omega) e2 hl)
theorem L1_l (p : Pth) (W : Wd) (X : List Nm) (hX : X.length ≤ 1000001) (s : ByteArray) (hA : W.A.length ≤ 50000) (hV : W.V.length = W.A.length) (hVs : ∀ v ∈ W.V, v.length < 100) (hT : W.T.length ≤ 1000000) (hc : Ctr Tryd.prog 29 [.sl none W.T.length (strsC W.T) .no, .str ⟨#[]⟩, .sl (some true) 0 (strsC []) .clip] (.str s)) : ∀ d i out R, i + d = X.length → R = out ++ opnW W (X.drop i) ++ txtW (W.T ++ [s]) → R.length ≤ 1000000 → HT Tryd.prog Tryd.f11.ntmps (pt Tryd.f11 0) (stL1 p W X out i) (EndsA Γ (.pure [6000028] (.tup [.sl none R.length (evsC R) .no, .int .i64 0])) Tryd.f11) := by
  intro d
  induction d with
  | zero =>
    intro i out R h e hl
    rw [List.drop_of_length_le (by omega)] at e
    simp only [opnW, List.flatMap_nil, List.append_nil] at e
    exact L1_e p W X out R s i (by omega) hT hc (L2_l p W X _ (by rw [List.length_append, List.length_singleton]; omega) (W.T ++ [s]).length 0 out R (Nat.zero_add _) (by rw [List.drop_zero]; exact e) hl)
  | succ d ih =>
    intro i out R h e hl
    rw [drop_cons X i nm0 (by omega)] at e
    have e2 : R = (out ++ labF W.A W.V ⟨1, X.getD i nm0, [], ⟨#[]⟩⟩) ++ opnW W (X.drop (i + 1)) ++ txtW (W.T ++ [s]) := by rw [e]; simp [opnW]
    have hlen := congrArg List.length e2
    simp only [List.length_append] at hlen
    have k := lab_ctr W X W.N.length hA hV hVs W.A.length 0 (Nat.zero_add _) ⟨1, X.getD i nm0, [], ⟨#[]⟩⟩ out (by simp; omega) (by rw [List.drop_zero, List.drop_zero]; omega)
    rw [List.drop_zero, List.drop_zero] at k
    exact L1_h p W X out _ R i (by omega) hX k (ih (i + 1) _ _ (by omega) e2 hl)
theorem speaks_small (p : Pth) (hl : (filtersP p).length ≤ 64) : (spkW p).N.length ≤ 64 ∧ (spkW p).T.length ≤ 64 ∧ (spkW p).A.length ≤ 64 ∧ (spkW p).V.length = (spkW p).A.length ∧ ∀ v ∈ (spkW p).V, v.length ≤ 64 := by
  have h := spkW_ok p
  exact ⟨Nat.le_trans h.N hl, Nat.le_trans h.T hl, Nat.le_trans h.A hl, h.V, fun v hv => Nat.le_trans (h.vs v hv) hl⟩
theorem oth_ctr (W : Wd) (hN : W.N.length ≤ 64) : Ctr Tryd.prog 31 [.sl none W.N.length (nmsC W.N) .no] (.agg (nmC (othN W.N))) := by
  have hk := kOf_first bZ (localsF W.N ++ [bZ0])
  have h1 := localsF_len W.N []
  have h2 := hk.le
  unfold localsF at h2
  rw [List.length_append, List.length_singleton] at h2
  simp only [List.length_nil] at h1
  exact otherP_ctr W.N (by omega) _ hk (by unfold localsF; omega)
/-- The labels, or that there are too many. -/
theorem Labels_ctr (p : Pth) (hok : p.ok) (hl : (filtersP p).length ≤ 64) (h24 : (labsW (spkW p)).length ≤ 24) : Ctr Tryd.prog 11 [.agg (pthL p)] (.tup [.sl none (labsW (spkW p)).length (evsC (labsW (spkW p))) .no, .int .i64 0]) := by
  obtain ⟨h1, h2, h3, h4, h5⟩ := speaks_small p hl
  have hk := kOf_first ⟨#[]⟩ (spkW p).T
  have hkl := hk.le
  refine L_p p (spkW p) (othN (spkW p).N) _ (cntW (spkW p)) (speaks_ctr p hok (by omega)) (count_ctr _ (by omega) (by omega) (by omega) (fun v hv => by have := h5 v hv; omega)) (oth_ctr _ h1) (by omega) ((cntW_iff _ h4).2 h24) ?_
  refine L1_l p (spkW p) _ (by rw [List.length_append, List.length_singleton]; omega) (anoT (spkW p).T) (by omega) h4 (fun v hv => by have := h5 v hv; omega) (by omega) ?_ _ 0 [] _ (Nat.zero_add _) (by rw [List.drop_zero, List.nil_append]; rfl) (by omega)
  exact fresh_ctr (spkW p).T ⟨#[]⟩ (some true) [] (by simp) (by omega) (by decide) _ hk (by omega)
theorem Labels_ctr_f (p : Pth) (hok : p.ok) (hl : (filtersP p).length ≤ 64) (h24 : 24 < (labsW (spkW p)).length) : Ctr Tryd.prog 11 [.agg (pthL p)] (.tup [.sl none ([] : List Ev).length (evsC ([] : List Ev)) .no, .int .i64 13]) := by
  obtain ⟨h1, h2, h3, h4, h5⟩ := speaks_small p hl
  refine L_f p (spkW p) nm0 (cntW (spkW p)) (speaks_ctr p hok (by omega)) (count_ctr _ (by omega) (by omega) (by omega) (fun v hv => by have := h5 v hv; omega)) ?_
  rcases Nat.lt_or_ge 24 (cntW (spkW p)) with h | h
  · exact h
  · have := (cntW_iff _ h4).1 h; omega

end Go.Proofs.YteimloiaipiadaaDoor
end

section
set_option linter.unusedVariables false
set_option linter.unusedSimpArgs false
set_option maxRecDepth 100000
namespace Go.Proofs.YteimloiaipiadaaDoor
open Go Go.AX

def stSe (e : Ev) (i : Nat) : AS := ⟨[(2, .ptr 2 0), (3, .ptr 3 0), (5, .int .i64 i)], [(2, .var true (evC e)), (3, .var true (evC e))], []⟩
def stSa (l : List Ev) (i : Nat) : AS := ⟨[(0, .sl none l.length (evsC l) .no), (1, .sl none l.length (evsC l) .no), (5, .int .i64 i)], [], []⟩

theorem se_h (e : Ev) (i : Nat) (hi : i < e.attrs.length) (hl : e.attrs.length ≤ 1048600) (k : HT Tryd.prog Tryd.f36.ntmps (pt Tryd.f36 0) (stSe e (i + 1)) (EndsA Γ (.pure [] (.bool true)) Tryd.f36)) : HT Tryd.prog Tryd.f36.ntmps (pt Tryd.f36 0) (stSe e i) (EndsA Γ (.pure [] (.bool true)) Tryd.f36) :=
  HT.walk Γ_ok mo_ok (⟨([(45, .val (.agg (atC (e.attrs.getD i atr0)))), (50, .val (.agg (atC (e.attrs.getD i atr0))))] ++ []), sp36, hd36 [] [] [] [], dsp36, .pure [] (.bool true)⟩ : Wk) 4000 (T := .split (decide ((↑i : Int) < (↑e.attrs.length : Int))) (.or (.ob ((0 : Int) ≤ (↑i : Int) ∧ (↑i : Int) < (↑e.attrs.length : Int) ∧ (↑i : Int).toNat * (3 : Nat) < (atsC e.attrs).length) (.ob (List.take (3 : Nat) (List.drop ((↑i : Int).toNat * (3 : Nat)) (atsC e.attrs)) = [AV.str (e.attrs.getD i atr0).nm.sp, AV.str (e.attrs.getD i atr0).nm.lo, AV.str (e.attrs.getD i atr0).v]) (.ob ((0 : Int) ≤ (↑i : Int) ∧ (↑i : Int) < (↑e.attrs.length : Int) ∧ (↑i : Int).toNat * (3 : Nat) < (atsC e.attrs).length) (.ob (List.take (3 : Nat) (List.drop ((↑i : Int).toNat * (3 : Nat)) (atsC e.attrs)) = [AV.str (e.attrs.getD i atr0).nm.sp, AV.str (e.attrs.getD i atr0).nm.lo, AV.str (e.attrs.getD i atr0).v]) (.ob ((!(decide ((e.attrs.getD i atr0).nm.sp = (e.attrs.getD i atr0).nm.sp) && (decide ((e.attrs.getD i atr0).nm.lo = (e.attrs.getD i atr0).nm.lo) && (decide ((e.attrs.getD i atr0).v = (e.attrs.getD i atr0).v) && true)))) = true) (.ob (false = true) (.tt))))))) (.ob ((0 : Int) ≤ (↑i : Int) ∧ (↑i : Int) < (↑e.attrs.length : Int) ∧ (↑i : Int).toNat * (3 : Nat) < (atsC e.attrs).length) (.ob (List.take (3 : Nat) (List.drop ((↑i : Int).toNat * (3 : Nat)) (atsC e.attrs)) = [AV.str (e.attrs.getD i atr0).nm.sp, AV.str (e.attrs.getD i atr0).nm.lo, AV.str (e.attrs.getD i atr0).v]) (.ob ((0 : Int) ≤ (↑i : Int) ∧ (↑i : Int) < (↑e.attrs.length : Int) ∧ (↑i : Int).toNat * (3 : Nat) < (atsC e.attrs).length) (.ob (List.take (3 : Nat) (List.drop ((↑i : Int).toNat * (3 : Nat)) (atsC e.attrs)) = [AV.str (e.attrs.getD i atr0).nm.sp, AV.str (e.attrs.getD i atr0).nm.lo, AV.str (e.attrs.getD i atr0).v]) (.ob ((!(decide ((e.attrs.getD i atr0).nm.sp = (e.attrs.getD i atr0).nm.sp) && (decide ((e.attrs.getD i atr0).nm.lo = (e.attrs.getD i atr0).nm.lo) && (decide ((e.attrs.getD i atr0).v = (e.attrs.getD i atr0).v) && true)))) = false) (.head (pt Tryd.f36 0) ({ tmps := [(2, AV.ptr 2 0), (3, AV.ptr 3 0), (5, AV.int .i64 (IntKind.i64.wrap ((↑i : Int) + (1 : Int))))], heap := [(2, .var true (evC e)), (3, .var true (evC e))], tags := [] })))))))) (.ob (true = true) (.tt))) (by kernel_rfl) (by
    have w2 : IntKind.i64.wrap ((i : Int) + 1) = ((i + 1 : Nat) : Int) := by rw [i64_wrap (by omega) (by omega)]; rfl
    have h0 : decide ((i : Int) < e.attrs.length) = true := by simp; omega
    simp only [PT.holds, w2, h0, Int.toNat_natCast, atsC_len, true_implies, Bool.false_eq_true, Bool.true_eq_false, false_implies, true_and, and_true, decide_true, Bool.and_true, Bool.not_true, and_false, false_and, or_false, false_or, eq_self]
    exact ⟨by omega, by ((try simp only [Nat.add_assoc, Nat.reduceAdd, Nat.add_zero]) <;> first | (rw [ats_take _ _ _ _ hi (by decide)]; rfl) | (rw [ats_nth _ _ _ hi (by decide)]; rfl) | (rw [evs_take _ _ _ _ hi (by decide)]; rfl) | (rw [evs_nth _ _ _ hi (by decide)]; rfl) | (rw [trs_take _ _ _ _ hi (by decide)]; rfl) | (rw [trs_nth _ _ _ hi (by decide)]; rfl) | (rw [pths_take _ _ _ _ hi (by decide)]; rfl) | (rw [pths_nth _ _ _ hi (by decide)]; rfl) | (rw [flts_take _ _ _ _ hi (by decide)]; rfl) | (rw [flts_nth _ _ _ hi (by decide)]; rfl) | (rw [ats_take0 _ _ _ hi (by decide)]; rfl) | (rw [ats_nth0 _ _ hi]; rfl) | (rw [evs_take0 _ _ _ hi (by decide)]; rfl) | (rw [evs_nth0 _ _ hi]; rfl) | (rw [trs_take0 _ _ _ hi (by decide)]; rfl) | (rw [trs_nth0 _ _ hi]; rfl) | (rw [pths_take0 _ _ _ hi (by decide)]; rfl) | (rw [pths_nth0 _ _ hi]; rfl) | (rw [flts_take0 _ _ _ hi (by decide)]; rfl) | (rw [flts_nth0 _ _ hi]; rfl)), by omega, by ((try simp only [Nat.add_assoc, Nat.reduceAdd, Nat.add_zero]) <;> first | (rw [ats_take _ _ _ _ hi (by decide)]; rfl) | (rw [ats_nth _ _ _ hi (by decide)]; rfl) | (rw [evs_take _ _ _ _ hi (by decide)]; rfl) | (rw [evs_nth _ _ _ hi (by decide)]; rfl) | (rw [trs_take _ _ _ _ hi (by decide)]; rfl) | (rw [trs_nth _ _ _ hi (by decide)]; rfl) | (rw [pths_take _ _ _ _ hi (by decide)]; rfl) | (rw [pths_nth _ _ _ hi (by decide)]; rfl) | (rw [flts_take _ _ _ _ hi (by decide)]; rfl) | (rw [flts_nth _ _ _ hi (by decide)]; rfl) | (rw [ats_take0 _ _ _ hi (by decide)]; rfl) | (rw [ats_nth0 _ _ hi]; rfl) | (rw [evs_take0 _ _ _ hi (by decide)]; rfl) | (rw [evs_nth0 _ _ hi]; rfl) | (rw [trs_take0 _ _ _ hi (by decide)]; rfl) | (rw [trs_nth0 _ _ hi]; rfl) | (rw [pths_take0 _ _ _ hi (by decide)]; rfl) | (rw [pths_nth0 _ _ hi]; rfl) | (rw [flts_take0 _ _ _ hi (by decide)]; rfl) | (rw [flts_nth0 _ _ hi]; rfl)), head_eq k (by simp [stSe, evC])⟩)
theorem se_e (e : Ev) (i : Nat) (hi : i = e.attrs.length) : HT Tryd.prog Tryd.f36.ntmps (pt Tryd.f36 0) (stSe e i) (EndsA Γ (.pure [] (.bool true)) Tryd.f36) :=
  HT.walk Γ_ok mo_ok (⟨([(45, .val (.agg (atC (e.attrs.getD i atr0)))), (50, .val (.agg (atC (e.attrs.getD i atr0))))] ++ []), sp36, hd36 [] [] [] [], dsp36, .pure [] (.bool true)⟩ : Wk) 4000 (T := .split (decide ((↑i : Int) < (↑e.attrs.length : Int))) (.or (.ob ((0 : Int) ≤ (↑i : Int) ∧ (↑i : Int) < (↑e.attrs.length : Int) ∧ (↑i : Int).toNat * (3 : Nat) < (atsC e.attrs).length) (.ob (List.take (3 : Nat) (List.drop ((↑i : Int).toNat * (3 : Nat)) (atsC e.attrs)) = [AV.str (e.attrs.getD i atr0).nm.sp, AV.str (e.attrs.getD i atr0).nm.lo, AV.str (e.attrs.getD i atr0).v]) (.ob ((0 : Int) ≤ (↑i : Int) ∧ (↑i : Int) < (↑e.attrs.length : Int) ∧ (↑i : Int).toNat * (3 : Nat) < (atsC e.attrs).length) (.ob (List.take (3 : Nat) (List.drop ((↑i : Int).toNat * (3 : Nat)) (atsC e.attrs)) = [AV.str (e.attrs.getD i atr0).nm.sp, AV.str (e.attrs.getD i atr0).nm.lo, AV.str (e.attrs.getD i atr0).v]) (.ob ((!(decide ((e.attrs.getD i atr0).nm.sp = (e.attrs.getD i atr0).nm.sp) && (decide ((e.attrs.getD i atr0).nm.lo = (e.attrs.getD i atr0).nm.lo) && (decide ((e.attrs.getD i atr0).v = (e.attrs.getD i atr0).v) && true)))) = true) (.ob (false = true) (.tt))))))) (.ob ((0 : Int) ≤ (↑i : Int) ∧ (↑i : Int) < (↑e.attrs.length : Int) ∧ (↑i : Int).toNat * (3 : Nat) < (atsC e.attrs).length) (.ob (List.take (3 : Nat) (List.drop ((↑i : Int).toNat * (3 : Nat)) (atsC e.attrs)) = [AV.str (e.attrs.getD i atr0).nm.sp, AV.str (e.attrs.getD i atr0).nm.lo, AV.str (e.attrs.getD i atr0).v]) (.ob ((0 : Int) ≤ (↑i : Int) ∧ (↑i : Int) < (↑e.attrs.length : Int) ∧ (↑i : Int).toNat * (3 : Nat) < (atsC e.attrs).length) (.ob (List.take (3 : Nat) (List.drop ((↑i : Int).toNat * (3 : Nat)) (atsC e.attrs)) = [AV.str (e.attrs.getD i atr0).nm.sp, AV.str (e.attrs.getD i atr0).nm.lo, AV.str (e.attrs.getD i atr0).v]) (.ob ((!(decide ((e.attrs.getD i atr0).nm.sp = (e.attrs.getD i atr0).nm.sp) && (decide ((e.attrs.getD i atr0).nm.lo = (e.attrs.getD i atr0).nm.lo) && (decide ((e.attrs.getD i atr0).v = (e.attrs.getD i atr0).v) && true)))) = false) (.head (pt Tryd.f36 0) ({ tmps := [(2, AV.ptr 2 0), (3, AV.ptr 3 0), (5, AV.int .i64 (IntKind.i64.wrap ((↑i : Int) + (1 : Int))))], heap := [(2, .var true (evC e)), (3, .var true (evC e))], tags := [] })))))))) (.ob (true = true) (.tt))) (by kernel_rfl) (by
    have h0 : decide ((i : Int) < e.attrs.length) = false := by simp; omega
    simp only [PT.holds, h0, true_implies, Bool.false_eq_true, Bool.true_eq_false, false_implies, true_and, and_true, decide_true, Bool.and_true, Bool.not_true, and_false, false_and, or_false, false_or, eq_self]
    try trivial)
theorem se_p (e : Ev) (hl : e.attrs.length ≤ 1048600) (k : HT Tryd.prog Tryd.f36.ntmps (pt Tryd.f36 0) (stSe e 0) (EndsA Γ (.pure [] (.bool true)) Tryd.f36)) : Ctr Tryd.prog 36 [.agg (evC e), .agg (evC e)] (.bool true) :=
  Ctr.mk Γ_ok Tryd.func36 (by kernel_rfl) Tryd.call36 [] (by kernel_rfl) (HT.walk Γ_ok mo_ok (⟨[], sp36, hd36 [] [] [] [], dsp36, .pure [] (.bool true)⟩ : Wk) 4000 (T := .split (!decide (e.kind = e.kind)) (.ob (false = true) (.tt)) (.ob ((3 : Nat) ≤ (5 : Nat)) (.ob ((3 : Nat) ≤ (5 : Nat)) (.split (!(decide (e.nm.sp = e.nm.sp) && (decide (e.nm.lo = e.nm.lo) && true))) (.ob (false = true) (.tt)) (.split (!decide (e.text = e.text)) (.ob (false = true) (.tt)) (.split (!decide ((↑e.attrs.length : Int) = (↑e.attrs.length : Int))) (.ob (false = true) (.tt)) (.head (pt Tryd.f36 0) ({ tmps := [(2, AV.ptr 2 0), (3, AV.ptr 3 0), (5, AV.int .i64 (0 : Int))], heap := [(2, .var true (evC e)), (3, .var true (evC e))], tags := [] })))))))) (by kernel_rfl) (by
    simp only [PT.holds, true_implies, Bool.false_eq_true, Bool.true_eq_false, false_implies, true_and, and_true, decide_true, Bool.and_true, Bool.not_true, and_false, false_and, or_false, false_or, eq_self]
    exact ⟨by omega, by omega, head_eq k (by simp [stSe, evC])⟩))
theorem sa_h (l : List Ev) (i : Nat) (hi : i < l.length) (hl : l.length ≤ 1000000) (hc : Ctr Tryd.prog 36 [.agg (evC (l.getD i ev0)), .agg (evC (l.getD i ev0))] (.bool true)) (k : HT Tryd.prog Tryd.f13.ntmps (pt Tryd.f13 0) (stSa l (i + 1)) (EndsA Γ (.pure [] (.bool true)) Tryd.f13)) : HT Tryd.prog Tryd.f13.ntmps (pt Tryd.f13 0) (stSa l i) (EndsA Γ (.pure [] (.bool true)) Tryd.f13) :=
  HT.walk Γ_ok mo_ok (⟨([(20, .val (.agg (evC (l.getD i ev0)))), (24, .val (.agg (evC (l.getD i ev0)))), (25, .call [] (.bool true))] ++ []), sp13, hd13 [] [] [] [], dsp13, .pure [] (.bool true)⟩ : Wk) 4000 (T := .split (decide ((↑i : Int) < (↑l.length : Int))) (.or (.ob ((0 : Int) ≤ (↑i : Int) ∧ (↑i : Int) < (↑l.length : Int) ∧ (↑i : Int).toNat * (5 : Nat) < (evsC l).length) (.ob (List.take (5 : Nat) (List.drop ((↑i : Int).toNat * (5 : Nat)) (evsC l)) = (evC (l.getD i ev0))) (.ob ((0 : Int) ≤ (↑i : Int) ∧ (↑i : Int) < (↑l.length : Int) ∧ (↑i : Int).toNat * (5 : Nat) < (evsC l).length) (.ob (List.take (5 : Nat) (List.drop ((↑i : Int).toNat * (5 : Nat)) (evsC l)) = (evC (l.getD i ev0))) (.ob (Ctr Tryd.prog 36 [AV.agg (evC (l.getD i ev0)), AV.agg (evC (l.getD i ev0))] (AV.bool true)) (.ob (true = true) (.head (pt Tryd.f13 0) ({ tmps := [(0, AV.sl none l.length (evsC l) .no), (1, AV.sl none l.length (evsC l) .no), (5, AV.int .i64 (IntKind.i64.wrap ((↑i : Int) + (1 : Int))))], heap := [], tags := [] })))))))) (.ob ((0 : Int) ≤ (↑i : Int) ∧ (↑i : Int) < (↑l.length : Int) ∧ (↑i : Int).toNat * (5 : Nat) < (evsC l).length) (.ob (List.take (5 : Nat) (List.drop ((↑i : Int).toNat * (5 : Nat)) (evsC l)) = (evC (l.getD i ev0))) (.ob ((0 : Int) ≤ (↑i : Int) ∧ (↑i : Int) < (↑l.length : Int) ∧ (↑i : Int).toNat * (5 : Nat) < (evsC l).length) (.ob (List.take (5 : Nat) (List.drop ((↑i : Int).toNat * (5 : Nat)) (evsC l)) = (evC (l.getD i ev0))) (.ob (Ctr Tryd.prog 36 [AV.agg (evC (l.getD i ev0)), AV.agg (evC (l.getD i ev0))] (AV.bool true)) (.ob (true = false) (.ob (false = true) (.tt))))))))) (.ob (true = true) (.tt))) (by kernel_rfl) (by
    have w2 : IntKind.i64.wrap ((i : Int) + 1) = ((i + 1 : Nat) : Int) := by rw [i64_wrap (by omega) (by omega)]; rfl
    have h0 : decide ((i : Int) < l.length) = true := by simp; omega
    simp only [PT.holds, w2, h0, Int.toNat_natCast, evsC_len, true_implies, Bool.false_eq_true, Bool.true_eq_false, false_implies, true_and, and_true, decide_true, Bool.and_true, Bool.not_true, and_false, false_and, or_false, false_or, eq_self]
    exact ⟨by omega, by ((try simp only [Nat.add_assoc, Nat.reduceAdd, Nat.add_zero]) <;> first | (rw [ats_take _ _ _ _ hi (by decide)]; rfl) | (rw [ats_nth _ _ _ hi (by decide)]; rfl) | (rw [evs_take _ _ _ _ hi (by decide)]; rfl) | (rw [evs_nth _ _ _ hi (by decide)]; rfl) | (rw [trs_take _ _ _ _ hi (by decide)]; rfl) | (rw [trs_nth _ _ _ hi (by decide)]; rfl) | (rw [pths_take _ _ _ _ hi (by decide)]; rfl) | (rw [pths_nth _ _ _ hi (by decide)]; rfl) | (rw [flts_take _ _ _ _ hi (by decide)]; rfl) | (rw [flts_nth _ _ _ hi (by decide)]; rfl) | (rw [ats_take0 _ _ _ hi (by decide)]; rfl) | (rw [ats_nth0 _ _ hi]; rfl) | (rw [evs_take0 _ _ _ hi (by decide)]; rfl) | (rw [evs_nth0 _ _ hi]; rfl) | (rw [trs_take0 _ _ _ hi (by decide)]; rfl) | (rw [trs_nth0 _ _ hi]; rfl) | (rw [pths_take0 _ _ _ hi (by decide)]; rfl) | (rw [pths_nth0 _ _ hi]; rfl) | (rw [flts_take0 _ _ _ hi (by decide)]; rfl) | (rw [flts_nth0 _ _ hi]; rfl)), by omega, by ((try simp only [Nat.add_assoc, Nat.reduceAdd, Nat.add_zero]) <;> first | (rw [ats_take _ _ _ _ hi (by decide)]; rfl) | (rw [ats_nth _ _ _ hi (by decide)]; rfl) | (rw [evs_take _ _ _ _ hi (by decide)]; rfl) | (rw [evs_nth _ _ _ hi (by decide)]; rfl) | (rw [trs_take _ _ _ _ hi (by decide)]; rfl) | (rw [trs_nth _ _ _ hi (by decide)]; rfl) | (rw [pths_take _ _ _ _ hi (by decide)]; rfl) | (rw [pths_nth _ _ _ hi (by decide)]; rfl) | (rw [flts_take _ _ _ _ hi (by decide)]; rfl) | (rw [flts_nth _ _ _ hi (by decide)]; rfl) | (rw [ats_take0 _ _ _ hi (by decide)]; rfl) | (rw [ats_nth0 _ _ hi]; rfl) | (rw [evs_take0 _ _ _ hi (by decide)]; rfl) | (rw [evs_nth0 _ _ hi]; rfl) | (rw [trs_take0 _ _ _ hi (by decide)]; rfl) | (rw [trs_nth0 _ _ hi]; rfl) | (rw [pths_take0 _ _ _ hi (by decide)]; rfl) | (rw [pths_nth0 _ _ hi]; rfl) | (rw [flts_take0 _ _ _ hi (by decide)]; rfl) | (rw [flts_nth0 _ _ hi]; rfl)), hc, head_eq k (by simp [stSa, evC])⟩)
theorem sa_e (l : List Ev) (i : Nat) (hi : i = l.length) : HT Tryd.prog Tryd.f13.ntmps (pt Tryd.f13 0) (stSa l i) (EndsA Γ (.pure [] (.bool true)) Tryd.f13) :=
  HT.walk Γ_ok mo_ok (⟨([(20, .val (.agg (evC (l.getD i ev0)))), (24, .val (.agg (evC (l.getD i ev0)))), (25, .call [] (.bool true))] ++ []), sp13, hd13 [] [] [] [], dsp13, .pure [] (.bool true)⟩ : Wk) 4000 (T := .split (decide ((↑i : Int) < (↑l.length : Int))) (.or (.ob ((0 : Int) ≤ (↑i : Int) ∧ (↑i : Int) < (↑l.length : Int) ∧ (↑i : Int).toNat * (5 : Nat) < (evsC l).length) (.ob (List.take (5 : Nat) (List.drop ((↑i : Int).toNat * (5 : Nat)) (evsC l)) = (evC (l.getD i ev0))) (.ob ((0 : Int) ≤ (↑i : Int) ∧ (↑i : Int) < (↑l.length : Int) ∧ (↑i : Int).toNat * (5 : Nat) < (evsC l).length) (.ob (List.take (5 : Nat) (List.drop ((↑i : Int).toNat * (5 : Nat)) (evsC l)) = (evC (l.getD i ev0))) (.ob (Ctr Tryd.prog 36 [AV.agg (evC (l.getD i ev0)), AV.agg (evC (l.getD i ev0))] (AV.bool true)) (.ob (true = true) (.head (pt Tryd.f13 0) ({ tmps := [(0, AV.sl none l.length (evsC l) .no), (1, AV.sl none l.length (evsC l) .no), (5, AV.int .i64 (IntKind.i64.wrap ((↑i : Int) + (1 : Int))))], heap := [], tags := [] })))))))) (.ob ((0 : Int) ≤ (↑i : Int) ∧ (↑i : Int) < (↑l.length : Int) ∧ (↑i : Int).toNat * (5 : Nat) < (evsC l).length) (.ob (List.take (5 : Nat) (List.drop ((↑i : Int).toNat * (5 : Nat)) (evsC l)) = (evC (l.getD i ev0))) (.ob ((0 : Int) ≤ (↑i : Int) ∧ (↑i : Int) < (↑l.length : Int) ∧ (↑i : Int).toNat * (5 : Nat) < (evsC l).length) (.ob (List.take (5 : Nat) (List.drop ((↑i : Int).toNat * (5 : Nat)) (evsC l)) = (evC (l.getD i ev0))) (.ob (Ctr Tryd.prog 36 [AV.agg (evC (l.getD i ev0)), AV.agg (evC (l.getD i ev0))] (AV.bool true)) (.ob (true = false) (.ob (false = true) (.tt))))))))) (.ob (true = true) (.tt))) (by kernel_rfl) (by
    have h0 : decide ((i : Int) < l.length) = false := by simp; omega
    simp only [PT.holds, h0, true_implies, Bool.false_eq_true, Bool.true_eq_false, false_implies, true_and, and_true, decide_true, Bool.and_true, Bool.not_true, and_false, false_and, or_false, false_or, eq_self]
    try trivial)
theorem sa_p (l : List Ev) (hl : l.length ≤ 1000000) (k : HT Tryd.prog Tryd.f13.ntmps (pt Tryd.f13 0) (stSa l 0) (EndsA Γ (.pure [] (.bool true)) Tryd.f13)) : Ctr Tryd.prog 13 [.sl none l.length (evsC l) .no, .sl none l.length (evsC l) .no] (.bool true) :=
  Ctr.mk Γ_ok Tryd.func13 (by kernel_rfl) Tryd.call13 [] (by kernel_rfl) (HT.walk Γ_ok mo_ok (⟨[], sp13, hd13 [] [] [] [], dsp13, .pure [] (.bool true)⟩ : Wk) 4000 (T := .split (!decide ((↑l.length : Int) = (↑l.length : Int))) (.ob (false = true) (.tt)) (.head (pt Tryd.f13 0) ({ tmps := [(0, AV.sl none l.length (evsC l) .no), (1, AV.sl none l.length (evsC l) .no), (5, AV.int .i64 (0 : Int))], heap := [], tags := [] }))) (by kernel_rfl) (by
    simp only [PT.holds, true_implies, Bool.false_eq_true, Bool.true_eq_false, false_implies, true_and, and_true, decide_true, Bool.and_true, Bool.not_true, and_false, false_and, or_false, false_or, eq_self]
    exact head_eq k (by simp [stSa, evC])))
theorem se_l (e : Ev) (hl : e.attrs.length ≤ 1048600) : ∀ d i, i + d = e.attrs.length → HT Tryd.prog Tryd.f36.ntmps (pt Tryd.f36 0) (stSe e i) (EndsA Γ (.pure [] (.bool true)) Tryd.f36) := by
  intro d
  induction d with
  | zero => intro i h; exact se_e e i (by omega)
  | succ d ih => intro i h; exact se_h e i (by omega) hl (ih (i + 1) (by omega))
theorem sa_l (l : List Ev) (hl : l.length ≤ 1000000) (ha : ∀ e ∈ l, e.attrs.length ≤ 1048600) : ∀ d i, i + d = l.length → HT Tryd.prog Tryd.f13.ntmps (pt Tryd.f13 0) (stSa l i) (EndsA Γ (.pure [] (.bool true)) Tryd.f13) := by
  intro d
  induction d with
  | zero => intro i h; exact sa_e l i (by omega)
  | succ d ih =>
    intro i h
    have h1 := ha _ (getD_mem l i ev0 (by omega))
    exact sa_h l i (by omega) hl (se_p _ h1 (se_l _ h1 _ 0 (Nat.zero_add _))) (ih (i + 1) (by omega))
/-- The same events are the same. -/
theorem same_ctr (l : List Ev) (hl : l.length ≤ 1000000) (ha : ∀ e ∈ l, e.attrs.length ≤ 1048600) : Ctr Tryd.prog 13 [.sl none l.length (evsC l) .no, .sl none l.length (evsC l) .no] (.bool true) := sa_p l hl (sa_l l hl ha _ 0 (Nat.zero_add _))

end Go.Proofs.YteimloiaipiadaaDoor
end
