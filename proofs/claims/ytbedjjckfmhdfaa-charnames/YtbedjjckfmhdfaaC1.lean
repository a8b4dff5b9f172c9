import Derived.Test.YtbedjjckfmhdfaaIn
import Derived.Test.YtbedjjckfmhdfaaMeta
set_option linter.unusedVariables false
set_option linter.unusedSimpArgs false
set_option maxRecDepth 100000
namespace Go.Proofs.Ytbedjjckfmhdfaa
open Go Go.AX

def blankB (r : Int) : Bool := decide (r = 9) || decide (r = 10) || decide (r = 13) || decide (r = 32)
def charL : List (Int × Int) := [(32, 55295), (57344, 65533), (65536, 1114111)]
def startL : List (Int × Int) := [(65, 90), (97, 122), (95, 95), (192, 214), (216, 246), (248, 767), (880, 893), (895, 8191), (8204, 8205), (8304, 8591), (11264, 12271), (12289, 55295), (63744, 64975), (65008, 65533), (65536, 983039)]
def partL : List (Int × Int) := [(45, 46), (48, 57), (183, 183), (768, 879), (8255, 8256)]
def charB (r : Int) : Bool := blankB r || inL r charL
def startB (r : Int) : Bool := inL r startL
def partB (r : Int) : Bool := startB r || inL r partL
theorem startB_eq (r : Int) : startB r = decide (65 ≤ r ∧ r ≤ 90 ∨ 97 ≤ r ∧ r ≤ 122 ∨ 95 ≤ r ∧ r ≤ 95 ∨ 192 ≤ r ∧ r ≤ 214 ∨ 216 ≤ r ∧ r ≤ 246 ∨ 248 ≤ r ∧ r ≤ 767 ∨ 880 ≤ r ∧ r ≤ 893 ∨ 895 ≤ r ∧ r ≤ 8191 ∨ 8204 ≤ r ∧ r ≤ 8205 ∨ 8304 ≤ r ∧ r ≤ 8591 ∨
    11264 ≤ r ∧ r ≤ 12271 ∨ 12289 ≤ r ∧ r ≤ 55295 ∨ 63744 ≤ r ∧ r ≤ 64975 ∨ 65008 ≤ r ∧ r ≤ 65533 ∨ 65536 ≤ r ∧ r ≤ 983039) := by simp [startB, startL, inL]
theorem partB_eq (r : Int) : partB r = (startB r || decide (45 ≤ r ∧ r ≤ 46 ∨ 48 ≤ r ∧ r ≤ 57 ∨ 183 ≤ r ∧ r ≤ 183 ∨ 768 ≤ r ∧ r ≤ 879 ∨ 8255 ≤ r ∧ r ≤ 8256)) := by simp [partB, partL, inL]

theorem blank_ctr (r : Int) : Ctr Try.prog 11 [.int .i32 r] (.bool (blankB r)) :=
  Ctr.mk Γ_ok Try.func11 (by kernel_rfl) Try.call11 [] (by kernel_rfl) (HT.walk Γ_ok (⟨[(1000009, .callF [] (fun | [.int _ r] => .bool (charB r) | _ => .undef)), (1000011, .callF [] (fun | [.int _ r] => .bool (blankB r) | _ => .undef)),
  (1000013, .callF [] (fun | [.int _ r] => .bool (startB r) | _ => .undef)), (1000015, .callF [] (fun | [.int _ r] => .bool (partB r) | _ => .undef)),
  (1000010, .callF [] (fun | [.int _ r] => .bool (charB r) | _ => .undef)), (1000012, .callF [] (fun | [.int _ r] => .bool (blankB r) | _ => .undef)),
  (1000014, .callF [] (fun | [.int _ r] => .bool (startB r) | _ => .undef)), (1000016, .callF [] (fun | [.int _ r] => .bool (partB r) | _ => .undef))], sp11, hd11 [], [], .bool (blankB r)⟩ : Wk) 4000 (T := .split (decide (r = (9 : Int))) (.ob (true = blankB r) (.tt)) (.split (decide (r = (10 : Int))) (.ob (true = blankB r) (.tt)) (.split (decide (r = (13 : Int))) (.ob (true = blankB r) (.tt)) (.split (decide (r = (32 : Int))) (.ob (true = blankB r) (.tt)) (.ob (false = blankB r) (.tt)))))) (by kernel_rfl) (by
    simp only [PT.holds, and_true,  blankB, charB, charL, startB, startL, partB, partL, inL, decide_eq_true_eq, decide_eq_false_iff_not]
    grind))
theorem rblank_ctr (r : Int) : Ctr Try.prog 12 [.int .i64 r] (.bool (blankB r)) :=
  Ctr.mk Γ_ok Try.func12 (by kernel_rfl) Try.call12 [] (by kernel_rfl) (HT.walk Γ_ok (⟨[(1000009, .callF [] (fun | [.int _ r] => .bool (charB r) | _ => .undef)), (1000011, .callF [] (fun | [.int _ r] => .bool (blankB r) | _ => .undef)),
  (1000013, .callF [] (fun | [.int _ r] => .bool (startB r) | _ => .undef)), (1000015, .callF [] (fun | [.int _ r] => .bool (partB r) | _ => .undef)),
  (1000010, .callF [] (fun | [.int _ r] => .bool (charB r) | _ => .undef)), (1000012, .callF [] (fun | [.int _ r] => .bool (blankB r) | _ => .undef)),
  (1000014, .callF [] (fun | [.int _ r] => .bool (startB r) | _ => .undef)), (1000016, .callF [] (fun | [.int _ r] => .bool (partB r) | _ => .undef))], sp12, hd12 [], [], .bool (blankB r)⟩ : Wk) 4000 (T := .split (decide (r = (9 : Int))) (.ob (true = blankB r) (.tt)) (.split (decide (r = (10 : Int))) (.ob (true = blankB r) (.tt)) (.split (decide (r = (13 : Int))) (.ob (true = blankB r) (.tt)) (.ob (decide (r = (32 : Int)) = blankB r) (.tt))))) (by kernel_rfl) (by
    simp only [PT.holds, and_true,  blankB, charB, charL, startB, startL, partB, partL, inL, decide_eq_true_eq, decide_eq_false_iff_not]
    grind))
theorem char_ctr (r : Int) : Ctr Try.prog 9 [.int .i32 r] (.bool (charB r)) :=
  Ctr.mk Γ_ok Try.func9 (by kernel_rfl) Try.call9 [] (by kernel_rfl) (HT.walk Γ_ok (⟨([(11, .call [] (.bool (inL r charL)))] ++ [(1000009, .callF [] (fun | [.int _ r] => .bool (charB r) | _ => .undef)), (1000011, .callF [] (fun | [.int _ r] => .bool (blankB r) | _ => .undef)),
  (1000013, .callF [] (fun | [.int _ r] => .bool (startB r) | _ => .undef)), (1000015, .callF [] (fun | [.int _ r] => .bool (partB r) | _ => .undef)),
  (1000010, .callF [] (fun | [.int _ r] => .bool (charB r) | _ => .undef)), (1000012, .callF [] (fun | [.int _ r] => .bool (blankB r) | _ => .undef)),
  (1000014, .callF [] (fun | [.int _ r] => .bool (startB r) | _ => .undef)), (1000016, .callF [] (fun | [.int _ r] => .bool (partB r) | _ => .undef))]), sp9, hd9 [], [], .bool (charB r)⟩ : Wk) 4000 (T := .ob (Ctr Try.prog (11 : Nat) [AV.int IntKind.i32 r] (AV.bool (blankB r))) (.split (blankB r) (.ob (true = charB r) (.tt)) (.ob (Ctr Try.prog (18 : Nat) [AV.int IntKind.i32 r, AV.sl (some false) (3 : Nat) [AV.int IntKind.i32 (32 : Int), AV.int IntKind.i32 (55295 : Int), AV.int IntKind.i32 (57344 : Int), AV.int IntKind.i32 (65533 : Int), AV.int IntKind.i32 (65536 : Int), AV.int IntKind.i32 (1114111 : Int)] Own.clip] (AV.bool (inL r charL))) (.ob (inL r charL = charB r) (.tt))))) (by kernel_rfl) (by
    simp only [PT.holds, and_true]
    refine ⟨blank_ctr r, fun h => ?_, fun h => ⟨(in_pure r charL (by decide)).args rfl ⟨rfl, rfl, rfl⟩, ?_⟩⟩ <;> simp [charB, h]))
theorem start_ctr (r : Int) : Ctr Try.prog 13 [.int .i32 r] (.bool (startB r)) :=
  Ctr.mk Γ_ok Try.func13 (by kernel_rfl) Try.call13 [] (by kernel_rfl) (HT.walk Γ_ok (⟨([(20, .call [] (.bool (inL r startL)))] ++ [(1000009, .callF [] (fun | [.int _ r] => .bool (charB r) | _ => .undef)), (1000011, .callF [] (fun | [.int _ r] => .bool (blankB r) | _ => .undef)),
  (1000013, .callF [] (fun | [.int _ r] => .bool (startB r) | _ => .undef)), (1000015, .callF [] (fun | [.int _ r] => .bool (partB r) | _ => .undef)),
  (1000010, .callF [] (fun | [.int _ r] => .bool (charB r) | _ => .undef)), (1000012, .callF [] (fun | [.int _ r] => .bool (blankB r) | _ => .undef)),
  (1000014, .callF [] (fun | [.int _ r] => .bool (startB r) | _ => .undef)), (1000016, .callF [] (fun | [.int _ r] => .bool (partB r) | _ => .undef))]), sp13, hd13 [], [], .bool (startB r)⟩ : Wk) 4000 (T := .ob (Ctr Try.prog (18 : Nat) [AV.int IntKind.i32 r, AV.sl (some false) (15 : Nat) [AV.int IntKind.i32 (65 : Int), AV.int IntKind.i32 (90 : Int), AV.int IntKind.i32 (97 : Int), AV.int IntKind.i32 (122 : Int), AV.int IntKind.i32 (95 : Int), AV.int IntKind.i32 (95 : Int), AV.int IntKind.i32 (192 : Int), AV.int IntKind.i32 (214 : Int), AV.int IntKind.i32 (216 : Int), AV.int IntKind.i32 (246 : Int), AV.int IntKind.i32 (248 : Int), AV.int IntKind.i32 (767 : Int), AV.int IntKind.i32 (880 : Int), AV.int IntKind.i32 (893 : Int), AV.int IntKind.i32 (895 : Int), AV.int IntKind.i32 (8191 : Int), AV.int IntKind.i32 (8204 : Int), AV.int IntKind.i32 (8205 : Int), AV.int IntKind.i32 (8304 : Int), AV.int IntKind.i32 (8591 : Int), AV.int IntKind.i32 (11264 : Int), AV.int IntKind.i32 (12271 : Int), AV.int IntKind.i32 (12289 : Int), AV.int IntKind.i32 (55295 : Int), AV.int IntKind.i32 (63744 : Int), AV.int IntKind.i32 (64975 : Int), AV.int IntKind.i32 (65008 : Int), AV.int IntKind.i32 (65533 : Int), AV.int IntKind.i32 (65536 : Int), AV.int IntKind.i32 (983039 : Int)] Own.clip] (AV.bool (inL r startL))) (.ob (inL r startL = startB r) (.tt))) (by kernel_rfl) (by
    simp only [PT.holds, and_true]
    exact ⟨(in_pure r startL (by decide)).args rfl ⟨rfl, rfl, rfl⟩, rfl⟩))
theorem part_ctr (r : Int) : Ctr Try.prog 15 [.int .i32 r] (.bool (partB r)) :=
  Ctr.mk Γ_ok Try.func15 (by kernel_rfl) Try.call15 [] (by kernel_rfl) (HT.walk Γ_ok (⟨([(13, .call [] (.bool (inL r partL)))] ++ [(1000009, .callF [] (fun | [.int _ r] => .bool (charB r) | _ => .undef)), (1000011, .callF [] (fun | [.int _ r] => .bool (blankB r) | _ => .undef)),
  (1000013, .callF [] (fun | [.int _ r] => .bool (startB r) | _ => .undef)), (1000015, .callF [] (fun | [.int _ r] => .bool (partB r) | _ => .undef)),
  (1000010, .callF [] (fun | [.int _ r] => .bool (charB r) | _ => .undef)), (1000012, .callF [] (fun | [.int _ r] => .bool (blankB r) | _ => .undef)),
  (1000014, .callF [] (fun | [.int _ r] => .bool (startB r) | _ => .undef)), (1000016, .callF [] (fun | [.int _ r] => .bool (partB r) | _ => .undef))]), sp15, hd15 [], [], .bool (partB r)⟩ : Wk) 4000 (T := .ob (Ctr Try.prog (13 : Nat) [AV.int IntKind.i32 r] (AV.bool (startB r))) (.split (startB r) (.ob (true = partB r) (.tt)) (.ob (Ctr Try.prog (18 : Nat) [AV.int IntKind.i32 r, AV.sl (some false) (5 : Nat) [AV.int IntKind.i32 (45 : Int), AV.int IntKind.i32 (46 : Int), AV.int IntKind.i32 (48 : Int), AV.int IntKind.i32 (57 : Int), AV.int IntKind.i32 (183 : Int), AV.int IntKind.i32 (183 : Int), AV.int IntKind.i32 (768 : Int), AV.int IntKind.i32 (879 : Int), AV.int IntKind.i32 (8255 : Int), AV.int IntKind.i32 (8256 : Int)] Own.clip] (AV.bool (inL r partL))) (.ob (inL r partL = partB r) (.tt))))) (by kernel_rfl) (by
    simp only [PT.holds, and_true]
    refine ⟨start_ctr r, fun h => ?_, fun h => ⟨(in_pure r partL (by decide)).args rfl ⟨rfl, rfl, rfl⟩, ?_⟩⟩ <;> simp [partB, h]))
theorem rchar_ctr (r : Int) : Ctr Try.prog 10 [.int .i64 r] (.bool (charB r)) :=
  Ctr.mk Γ_ok Try.func10 (by kernel_rfl) Try.call10 [] (by kernel_rfl) (HT.walk Γ_ok (⟨[(1000009, .callF [] (fun | [.int _ r] => .bool (charB r) | _ => .undef)), (1000011, .callF [] (fun | [.int _ r] => .bool (blankB r) | _ => .undef)),
  (1000013, .callF [] (fun | [.int _ r] => .bool (startB r) | _ => .undef)), (1000015, .callF [] (fun | [.int _ r] => .bool (partB r) | _ => .undef)),
  (1000010, .callF [] (fun | [.int _ r] => .bool (charB r) | _ => .undef)), (1000012, .callF [] (fun | [.int _ r] => .bool (blankB r) | _ => .undef)),
  (1000014, .callF [] (fun | [.int _ r] => .bool (startB r) | _ => .undef)), (1000016, .callF [] (fun | [.int _ r] => .bool (partB r) | _ => .undef))], sp10, hd10 [], [], .bool (charB r)⟩ : Wk) 4000 (T := .split (decide (r < (32 : Int))) (.ob (Ctr Try.prog (12 : Nat) [AV.int IntKind.i64 r] (AV.bool (blankB r))) (.ob (blankB r = charB r) (.tt))) (.split (decide ((55296 : Int) ≤ r)) (.split (decide (r < (57344 : Int))) (.ob (false = charB r) (.tt)) (.split (decide (r = (65534 : Int))) (.ob (false = charB r) (.tt)) (.split (decide (r = (65535 : Int))) (.ob (false = charB r) (.tt)) (.ob (decide (r ≤ (1114111 : Int)) = charB r) (.tt))))) (.split (decide (r = (65534 : Int))) (.ob (false = charB r) (.tt)) (.split (decide (r = (65535 : Int))) (.ob (false = charB r) (.tt)) (.ob (decide (r ≤ (1114111 : Int)) = charB r) (.tt)))))) (by kernel_rfl) (by
    have hb := rblank_ctr r
    simp only [PT.holds, and_true, hb, true_and]
    simp only [PT.holds, and_true,  blankB, charB, charL, startB, startL, partB, partL, inL, decide_eq_true_eq, decide_eq_false_iff_not]
    grind))
theorem rstart_ctr (r : Int) : Ctr Try.prog 14 [.int .i64 r] (.bool (startB r)) :=
  Ctr.mk Γ_ok Try.func14 (by kernel_rfl) Try.call14 [] (by kernel_rfl) (HT.walk Γ_ok (⟨[(1000009, .callF [] (fun | [.int _ r] => .bool (charB r) | _ => .undef)), (1000011, .callF [] (fun | [.int _ r] => .bool (blankB r) | _ => .undef)),
  (1000013, .callF [] (fun | [.int _ r] => .bool (startB r) | _ => .undef)), (1000015, .callF [] (fun | [.int _ r] => .bool (partB r) | _ => .undef)),
  (1000010, .callF [] (fun | [.int _ r] => .bool (charB r) | _ => .undef)), (1000012, .callF [] (fun | [.int _ r] => .bool (blankB r) | _ => .undef)),
  (1000014, .callF [] (fun | [.int _ r] => .bool (startB r) | _ => .undef)), (1000016, .callF [] (fun | [.int _ r] => .bool (partB r) | _ => .undef))], sp14, hd14 [], [], .bool (startB r)⟩ : Wk) 4000 (T := .split (decide (r < (65 : Int))) (.ob (false = startB r) (.tt)) (.split (decide ((983039 : Int) < r)) (.ob (false = startB r) (.tt)) (.split (decide (r < (128 : Int))) (.split (decide (r ≤ (90 : Int))) (.ob (true = startB r) (.tt)) (.split (decide (r = (95 : Int))) (.ob (true = startB r) (.tt)) (.split (decide ((97 : Int) ≤ r)) (.ob (decide (r ≤ (122 : Int)) = startB r) (.tt)) (.ob (false = startB r) (.tt))))) (.split (decide (r < (192 : Int))) (.ob (false = startB r) (.tt)) (.split (decide (r = (215 : Int))) (.ob (false = startB r) (.tt)) (.split (decide (r = (247 : Int))) (.ob (false = startB r) (.tt)) (.split (decide (r < (768 : Int))) (.ob (true = startB r) (.tt)) (.split (decide (r < (880 : Int))) (.ob (false = startB r) (.tt)) (.split (decide (r = (894 : Int))) (.ob (false = startB r) (.tt)) (.split (decide (r < (8192 : Int))) (.ob (true = startB r) (.tt)) (.split (decide (r < (8304 : Int))) (.split (decide (r = (8204 : Int))) (.ob (true = startB r) (.tt)) (.ob (decide (r = (8205 : Int)) = startB r) (.tt))) (.split (decide (r < (8592 : Int))) (.ob (true = startB r) (.tt)) (.split (decide (r < (11264 : Int))) (.ob (false = startB r) (.tt)) (.split (decide (r < (12272 : Int))) (.ob (true = startB r) (.tt)) (.split (decide (r < (12289 : Int))) (.ob (false = startB r) (.tt)) (.split (decide (r < (55296 : Int))) (.ob (true = startB r) (.tt)) (.split (decide (r < (63744 : Int))) (.ob (false = startB r) (.tt)) (.split (decide (r < (64976 : Int))) (.ob (true = startB r) (.tt)) (.split (decide (r < (65008 : Int))) (.ob (false = startB r) (.tt)) (.split (decide (r ≤ (65533 : Int))) (.ob (true = startB r) (.tt)) (.ob (decide ((65536 : Int) ≤ r) = startB r) (.tt)))))))))))))))))))))) (by kernel_rfl) (by
    simp only [PT.holds, and_true, startB_eq, decide_eq_true_eq, decide_eq_false_iff_not]
    repeat' (first | apply And.intro | intro _)
    all_goals first | exact (decide_eq_true (by omega)).symm | exact (decide_eq_false (by omega)).symm | exact decide_eq_decide.2 (by omega)))
theorem rpart_ctr (r : Int) : Ctr Try.prog 16 [.int .i64 r] (.bool (partB r)) :=
  Ctr.mk Γ_ok Try.func16 (by kernel_rfl) Try.call16 [] (by kernel_rfl) (HT.walk Γ_ok (⟨[(1000009, .callF [] (fun | [.int _ r] => .bool (charB r) | _ => .undef)), (1000011, .callF [] (fun | [.int _ r] => .bool (blankB r) | _ => .undef)),
  (1000013, .callF [] (fun | [.int _ r] => .bool (startB r) | _ => .undef)), (1000015, .callF [] (fun | [.int _ r] => .bool (partB r) | _ => .undef)),
  (1000010, .callF [] (fun | [.int _ r] => .bool (charB r) | _ => .undef)), (1000012, .callF [] (fun | [.int _ r] => .bool (blankB r) | _ => .undef)),
  (1000014, .callF [] (fun | [.int _ r] => .bool (startB r) | _ => .undef)), (1000016, .callF [] (fun | [.int _ r] => .bool (partB r) | _ => .undef))], sp16, hd16 [], [], .bool (partB r)⟩ : Wk) 4000 (T := .ob (Ctr Try.prog (14 : Nat) [AV.int IntKind.i64 r] (AV.bool (startB r))) (.split (startB r) (.ob (true = partB r) (.tt)) (.split (decide (r = (45 : Int))) (.ob (true = partB r) (.tt)) (.split (decide (r = (46 : Int))) (.ob (true = partB r) (.tt)) (.split (decide ((48 : Int) ≤ r)) (.split (decide (r ≤ (57 : Int))) (.ob (true = partB r) (.tt)) (.split (decide (r = (183 : Int))) (.ob (true = partB r) (.tt)) (.split (decide ((768 : Int) ≤ r)) (.split (decide (r ≤ (879 : Int))) (.ob (true = partB r) (.tt)) (.split (decide (r = (8255 : Int))) (.ob (true = partB r) (.tt)) (.ob (decide (r = (8256 : Int)) = partB r) (.tt)))) (.split (decide (r = (8255 : Int))) (.ob (true = partB r) (.tt)) (.ob (decide (r = (8256 : Int)) = partB r) (.tt)))))) (.split (decide (r = (183 : Int))) (.ob (true = partB r) (.tt)) (.split (decide ((768 : Int) ≤ r)) (.split (decide (r ≤ (879 : Int))) (.ob (true = partB r) (.tt)) (.split (decide (r = (8255 : Int))) (.ob (true = partB r) (.tt)) (.ob (decide (r = (8256 : Int)) = partB r) (.tt)))) (.split (decide (r = (8255 : Int))) (.ob (true = partB r) (.tt)) (.ob (decide (r = (8256 : Int)) = partB r) (.tt)))))))))) (by kernel_rfl) (by
    have hb := rstart_ctr r
    simp only [PT.holds, and_true, hb, true_and, partB_eq]
    refine ⟨fun h => by simp [h], fun h => ?_⟩
    simp only [h, Bool.false_or, decide_eq_true_eq, decide_eq_false_iff_not]
    repeat' (first | apply And.intro | intro _)
    all_goals first | exact (decide_eq_true (by omega)).symm | exact (decide_eq_false (by omega)).symm | exact decide_eq_decide.2 (by omega)))
end Go.Proofs.Ytbedjjckfmhdfaa
