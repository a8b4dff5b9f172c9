import Derived.Laws.RangeAny
import Derived.Test.YtbedjjckfmhdfaaC1
set_option linter.unusedVariables false
set_option linter.unusedSimpArgs false
set_option maxRecDepth 100000
namespace Go.Proofs.Ytbedjjckfmhdfaa
open Go Go.AX

abbrev Cls := List (Nat × (Int → Bool))
def clC (cl : Cls) : List AV := cl.map fun c => .fn c.1 []
def stO (s : ByteArray) (cl : Cls) (pos : Nat) : AS := ⟨[(1, .sl none cl.length (clC cl) .no), (11, .ptr 11 0)], [(11, .iter s pos)], []⟩
def stI (s : ByteArray) (cl : Cls) (r : Int) (found : Bool) (k pos : Nat) : AS :=
  ⟨[(1, .sl none cl.length (clC cl) .no), (6, .int .i32 r), (7, .bool found), (11, .ptr 11 0), (15, .sl none cl.length (clC cl) .no), (16, .int .i64 cl.length), (17, .int .i64 k)], [(11, .iter s pos)], []⟩
def anyB (cl : Cls) (r : Int) : Bool := cl.any fun c => c.2 r
/-- Whether all runes from a place on are in a class. -/
def allR (cl : Cls) (l : List Int) : Bool := l.all (anyB cl)

theorem all_i0 (s : ByteArray) (cl : Cls) (R : Bool) (hcl : cl.length ≤ 1000) (f : Nat) (g : Int → Bool) (r : Int) (hf : Ctr Try.prog f [.int .i32 r] (.bool (g r))) (found : Bool) (k pos : Nat) (hk : k < cl.length) (hc : (clC cl)[k]? = some (.fn f [])) (hn : HT Try.prog Try.f17.ntmps (pt Try.f17 1) (stI s cl r (found || g r) (k + 1) pos) (EndsA Γ [] Try.f17 (.bool R))) : HT Try.prog Try.f17.ntmps (pt Try.f17 1) (stI s cl r found k pos) (EndsA Γ [] Try.f17 (.bool R)) :=
  HT.walk Γ_ok (⟨([(20, .val (.fn f [])), (25, .call [] (.bool (g r)))] ++ [(1000009, .callF [] (fun | [.int _ r] => .bool (charB r) | _ => .undef)), (1000011, .callF [] (fun | [.int _ r] => .bool (blankB r) | _ => .undef)),
  (1000013, .callF [] (fun | [.int _ r] => .bool (startB r) | _ => .undef)), (1000015, .callF [] (fun | [.int _ r] => .bool (partB r) | _ => .undef)),
  (1000010, .callF [] (fun | [.int _ r] => .bool (charB r) | _ => .undef)), (1000012, .callF [] (fun | [.int _ r] => .bool (blankB r) | _ => .undef)),
  (1000014, .callF [] (fun | [.int _ r] => .bool (startB r) | _ => .undef)), (1000016, .callF [] (fun | [.int _ r] => .bool (partB r) | _ => .undef))]), [18, 22, 28], hd17 [], [], .bool R⟩ : Wk) 4000 (T := .split (decide ((↑k : Int) < (↑(List.length cl) : Int))) (.ob ((0 : Int) ≤ (↑k : Int) ∧ (↑k : Int) < (↑(List.length cl) : Int) ∧ (↑k : Int).toNat * (1 : Nat) < (clC cl).length) (.ob ((clC cl)[(↑k : Int).toNat * (1 : Nat)]? = some (AV.fn f [])) (.split (found) (.head (pt Try.f17 1) ({ tmps := [((1 : Nat), AV.sl none (List.length cl) (clC cl) Own.no), ((6 : Nat), AV.int IntKind.i32 r), ((7 : Nat), AV.bool true), ((11 : Nat), AV.ptr (11 : Nat) (0 : Nat)), ((15 : Nat), AV.sl none (List.length cl) (clC cl) Own.no), ((16 : Nat), AV.int IntKind.i64 (↑(List.length cl) : Int)), ((17 : Nat), AV.int IntKind.i64 (IntKind.i64.wrap ((↑k : Int) + (1 : Int))))], heap := [((11 : Nat), Blk.iter s pos)], tags := [] })) (.ob (Ctr Try.prog f [AV.int IntKind.i32 r] (AV.bool (g r))) (.head (pt Try.f17 1) ({ tmps := [((1 : Nat), AV.sl none (List.length cl) (clC cl) Own.no), ((6 : Nat), AV.int IntKind.i32 r), ((7 : Nat), AV.bool (g r)), ((11 : Nat), AV.ptr (11 : Nat) (0 : Nat)), ((15 : Nat), AV.sl none (List.length cl) (clC cl) Own.no), ((16 : Nat), AV.int IntKind.i64 (↑(List.length cl) : Int)), ((17 : Nat), AV.int IntKind.i64 (IntKind.i64.wrap ((↑k : Int) + (1 : Int))))], heap := [((11 : Nat), Blk.iter s pos)], tags := [] })))))) (.split (found) (.head (pt Try.f17 0) ({ tmps := [((1 : Nat), AV.sl none (List.length cl) (clC cl) Own.no), ((11 : Nat), AV.ptr (11 : Nat) (0 : Nat))], heap := [((11 : Nat), Blk.iter s pos)], tags := [] })) (.ob (false = R) (.tt)))) (by kernel_rfl) (by
    simp only [PT.holds]
    have h4 : IntKind.i64.wrap ((k : Int) + 1) = ((k + 1 : Nat) : Int) := by rw [i64_wrap (by omega) (by omega)]; rfl
    have h5 : (clC cl).length = cl.length := by simp [clC]
    refine ⟨fun _ => ⟨by omega, ?_, fun hf => ?_, fun hf' => ⟨hf, ?_⟩⟩, fun h => ?_⟩
    · simpa using hc
    · subst hf; rw [h4]; exact hn
    · subst hf'; rw [h4]; rw [Bool.false_or] at hn; exact hn
    · simp at h; omega)
theorem all_ie (s : ByteArray) (cl : Cls) (R : Bool) (r : Int) (found : Bool) (pos : Nat) (hn : found = true → HT Try.prog Try.f17.ntmps (pt Try.f17 0) (stO s cl pos) (EndsA Γ [] Try.f17 (.bool R))) (hf : found = false → R = false) : HT Try.prog Try.f17.ntmps (pt Try.f17 1) (stI s cl r found cl.length pos) (EndsA Γ [] Try.f17 (.bool R)) :=
  HT.walk Γ_ok (⟨([(20, .val (.fn 0 [])), (25, .call [] (.bool false))] ++ [(1000009, .callF [] (fun | [.int _ r] => .bool (charB r) | _ => .undef)), (1000011, .callF [] (fun | [.int _ r] => .bool (blankB r) | _ => .undef)),
  (1000013, .callF [] (fun | [.int _ r] => .bool (startB r) | _ => .undef)), (1000015, .callF [] (fun | [.int _ r] => .bool (partB r) | _ => .undef)),
  (1000010, .callF [] (fun | [.int _ r] => .bool (charB r) | _ => .undef)), (1000012, .callF [] (fun | [.int _ r] => .bool (blankB r) | _ => .undef)),
  (1000014, .callF [] (fun | [.int _ r] => .bool (startB r) | _ => .undef)), (1000016, .callF [] (fun | [.int _ r] => .bool (partB r) | _ => .undef))]), [18, 22, 28], hd17 [], [], .bool R⟩ : Wk) 4000 (T := .split (decide ((↑(List.length cl) : Int) < (↑(List.length cl) : Int))) (.ob ((0 : Int) ≤ (↑(List.length cl) : Int) ∧ (↑(List.length cl) : Int) < (↑(List.length cl) : Int) ∧ (↑(List.length cl) : Int).toNat * (1 : Nat) < (clC cl).length) (.ob ((clC cl)[(↑(List.length cl) : Int).toNat * (1 : Nat)]? = some (AV.fn (0 : Nat) [])) (.split (found) (.head (pt Try.f17 1) ({ tmps := [((1 : Nat), AV.sl none (List.length cl) (clC cl) Own.no), ((6 : Nat), AV.int IntKind.i32 r), ((7 : Nat), AV.bool true), ((11 : Nat), AV.ptr (11 : Nat) (0 : Nat)), ((15 : Nat), AV.sl none (List.length cl) (clC cl) Own.no), ((16 : Nat), AV.int IntKind.i64 (↑(List.length cl) : Int)), ((17 : Nat), AV.int IntKind.i64 (IntKind.i64.wrap ((↑(List.length cl) : Int) + (1 : Int))))], heap := [((11 : Nat), Blk.iter s pos)], tags := [] })) (.ob (Ctr Try.prog (0 : Nat) [AV.int IntKind.i32 r] (AV.bool false)) (.head (pt Try.f17 1) ({ tmps := [((1 : Nat), AV.sl none (List.length cl) (clC cl) Own.no), ((6 : Nat), AV.int IntKind.i32 r), ((7 : Nat), AV.bool false), ((11 : Nat), AV.ptr (11 : Nat) (0 : Nat)), ((15 : Nat), AV.sl none (List.length cl) (clC cl) Own.no), ((16 : Nat), AV.int IntKind.i64 (↑(List.length cl) : Int)), ((17 : Nat), AV.int IntKind.i64 (IntKind.i64.wrap ((↑(List.length cl) : Int) + (1 : Int))))], heap := [((11 : Nat), Blk.iter s pos)], tags := [] })))))) (.split (found) (.head (pt Try.f17 0) ({ tmps := [((1 : Nat), AV.sl none (List.length cl) (clC cl) Own.no), ((11 : Nat), AV.ptr (11 : Nat) (0 : Nat))], heap := [((11 : Nat), Blk.iter s pos)], tags := [] })) (.ob (false = R) (.tt)))) (by kernel_rfl) (by
    simp only [PT.holds]
    refine ⟨fun h => ?_, fun _ => ⟨hn, fun h => ⟨(hf h).symm, trivial⟩⟩⟩
    simp at h)
theorem all_o1 (s : ByteArray) (cl : Cls) (pos : Nat) (R : Bool) (hp : pos < s.size) (hn : HT Try.prog Try.f17.ntmps (pt Try.f17 1) (stI s cl (Utf8.decode s pos).1 false 0 (pos + (Utf8.decode s pos).2)) (EndsA Γ [] Try.f17 (.bool R))) : HT Try.prog Try.f17.ntmps (pt Try.f17 0) (stO s cl pos) (EndsA Γ [] Try.f17 (.bool R)) :=
  HT.walk Γ_ok (⟨([(12, .val (.tup [.bool true, .undef]))] ++ [(1000009, .callF [] (fun | [.int _ r] => .bool (charB r) | _ => .undef)), (1000011, .callF [] (fun | [.int _ r] => .bool (blankB r) | _ => .undef)),
  (1000013, .callF [] (fun | [.int _ r] => .bool (startB r) | _ => .undef)), (1000015, .callF [] (fun | [.int _ r] => .bool (partB r) | _ => .undef)),
  (1000010, .callF [] (fun | [.int _ r] => .bool (charB r) | _ => .undef)), (1000012, .callF [] (fun | [.int _ r] => .bool (blankB r) | _ => .undef)),
  (1000014, .callF [] (fun | [.int _ r] => .bool (startB r) | _ => .undef)), (1000016, .callF [] (fun | [.int _ r] => .bool (partB r) | _ => .undef))]), [], hd17 [], [], .bool R⟩ : Wk) 4000 (T := .ob (pos < s.size) (.head (pt Try.f17 1) ({ tmps := [((1 : Nat), AV.sl none (List.length cl) (clC cl) Own.no), ((6 : Nat), AV.int IntKind.i32 (↑(Utf8.decode s pos).fst : Int)), ((7 : Nat), AV.bool false), ((11 : Nat), AV.ptr (11 : Nat) (0 : Nat)), ((15 : Nat), AV.sl none (List.length cl) (clC cl) Own.no), ((16 : Nat), AV.int IntKind.i64 (↑(List.length cl) : Int)), ((17 : Nat), AV.int IntKind.i64 (0 : Int))], heap := [((11 : Nat), Blk.iter s (pos + (Utf8.decode s pos).snd))], tags := [] }))) (by kernel_rfl) (by
    exact ⟨hp, hn⟩)
theorem all_o0 (s : ByteArray) (cl : Cls) (pos : Nat) (R : Bool) (hp : ¬ pos < s.size) (hR : R = true) : HT Try.prog Try.f17.ntmps (pt Try.f17 0) (stO s cl pos) (EndsA Γ [] Try.f17 (.bool R)) :=
  HT.walk Γ_ok (⟨([(12, .val (.tup [.bool false]))] ++ [(1000009, .callF [] (fun | [.int _ r] => .bool (charB r) | _ => .undef)), (1000011, .callF [] (fun | [.int _ r] => .bool (blankB r) | _ => .undef)),
  (1000013, .callF [] (fun | [.int _ r] => .bool (startB r) | _ => .undef)), (1000015, .callF [] (fun | [.int _ r] => .bool (partB r) | _ => .undef)),
  (1000010, .callF [] (fun | [.int _ r] => .bool (charB r) | _ => .undef)), (1000012, .callF [] (fun | [.int _ r] => .bool (blankB r) | _ => .undef)),
  (1000014, .callF [] (fun | [.int _ r] => .bool (startB r) | _ => .undef)), (1000016, .callF [] (fun | [.int _ r] => .bool (partB r) | _ => .undef))]), [], hd17 [], [], .bool R⟩ : Wk) 4000 (T := .ob (¬pos < s.size) (.ob (true = R) (.tt))) (by kernel_rfl) (by
    exact ⟨hp, hR.symm, trivial⟩)
theorem decode_pos (s : ByteArray) (pos : Nat) (h : pos < s.size) : 1 ≤ (Utf8.decode s pos).2 := by
  by_cases ha : 128 ≤ (s[pos]'h).toNat
  · exact (decode_high s pos h ha).2
  · rw [decode_ascii s pos h (by omega)]
    exact Nat.le_refl _
theorem all_in (s : ByteArray) (cl : Cls) (R : Bool) (hcl : cl.length ≤ 1000) (hctr : ∀ c ∈ cl, ∀ x, Ctr Try.prog c.1 [.int .i32 x] (.bool (c.2 x))) (r : Int) (pos : Nat) : ∀ d k found, k + d = cl.length →
    ((found || anyB (cl.drop k) r) = true → HT Try.prog Try.f17.ntmps (pt Try.f17 0) (stO s cl pos) (EndsA Γ [] Try.f17 (.bool R))) → ((found || anyB (cl.drop k) r) = false → R = false) →
    HT Try.prog Try.f17.ntmps (pt Try.f17 1) (stI s cl r found k pos) (EndsA Γ [] Try.f17 (.bool R)) := by
  intro d
  induction d with
  | zero =>
    intro k found hk h1 h2
    have hk : k = cl.length := by omega
    subst hk
    rw [List.drop_of_length_le (Nat.le_refl _)] at h1 h2
    simp only [anyB, List.any_nil, Bool.or_false] at h1 h2
    exact all_ie s cl R r found pos h1 h2
  | succ d ih =>
    intro k found hk h1 h2
    have hlt : k < cl.length := by omega
    have hd : cl.drop k = cl[k] :: cl.drop (k + 1) := List.drop_eq_getElem_cons hlt
    refine all_i0 s cl R hcl cl[k].1 cl[k].2 r (hctr _ (List.getElem_mem hlt) r) found k pos hlt (by simp [clC, hlt]) (ih (k + 1) _ (by omega) (fun h => h1 ?_) (fun h => h2 ?_))
    · rw [hd]; simp only [anyB, List.any_cons] at h ⊢; rw [← Bool.or_assoc]; exact h
    · rw [hd]; simp only [anyB, List.any_cons] at h ⊢; rw [← Bool.or_assoc]; exact h

theorem all_out (s : ByteArray) (cl : Cls) (hcl : cl.length ≤ 1000) (hctr : ∀ c ∈ cl, ∀ x, Ctr Try.prog c.1 [.int .i32 x] (.bool (c.2 x))) (R : Bool) : ∀ d pos, s.size ≤ pos + d → allR cl (runesL s d pos) = R → HT Try.prog Try.f17.ntmps (pt Try.f17 0) (stO s cl pos) (EndsA Γ [] Try.f17 (.bool R)) := by
  intro d
  induction d with
  | zero =>
    intro pos h hR
    exact all_o0 s cl pos R (by omega) (by rw [← hR]; rfl)
  | succ d ih =>
    intro pos h hR
    by_cases hp : pos < s.size
    · simp only [runesL, if_pos hp, allR, List.all_cons] at hR
      refine all_o1 s cl pos R hp (all_in s cl R hcl hctr _ _ cl.length 0 false (by omega) (fun h1 => ih _ ?_ ?_) (fun h1 => ?_))
      · have := decode_pos s pos hp; omega
      · simp only [List.drop_zero, Bool.false_or] at h1
        rw [h1, Bool.true_and] at hR
        exact hR
      · simp only [List.drop_zero, Bool.false_or] at h1
        rw [h1, Bool.false_and] at hR
        exact hR.symm
    · simp only [runesL, if_neg hp, allR, List.all_nil] at hR
      exact all_o0 s cl pos R hp hR.symm

theorem all_ctr (s : ByteArray) (cl : Cls) (hcl : cl.length ≤ 1000) (hctr : ∀ c ∈ cl, ∀ x, Ctr Try.prog c.1 [.int .i32 x] (.bool (c.2 x))) : Ctr Try.prog 17 [.str s, .sl none cl.length (clC cl) .no] (.bool (allR cl (runes s))) :=
  Ctr.mk Γ_ok Try.func17 (by kernel_rfl) Try.call17 [] (by kernel_rfl) (HT.walk Γ_ok (⟨[(1000009, .callF [] (fun | [.int _ r] => .bool (charB r) | _ => .undef)), (1000011, .callF [] (fun | [.int _ r] => .bool (blankB r) | _ => .undef)),
  (1000013, .callF [] (fun | [.int _ r] => .bool (startB r) | _ => .undef)), (1000015, .callF [] (fun | [.int _ r] => .bool (partB r) | _ => .undef)),
  (1000010, .callF [] (fun | [.int _ r] => .bool (charB r) | _ => .undef)), (1000012, .callF [] (fun | [.int _ r] => .bool (blankB r) | _ => .undef)),
  (1000014, .callF [] (fun | [.int _ r] => .bool (startB r) | _ => .undef)), (1000016, .callF [] (fun | [.int _ r] => .bool (partB r) | _ => .undef))], [], hd17 [], [], .bool (allR cl (runes s))⟩ : Wk) 4000 (T := .head (pt Try.f17 0) ({ tmps := [((1 : Nat), AV.sl none (List.length cl) (clC cl) Own.no), ((11 : Nat), AV.ptr (11 : Nat) (0 : Nat))], heap := [((11 : Nat), Blk.iter s (0 : Nat))], tags := [] })) (by kernel_rfl) (by
    exact all_out s cl hcl hctr _ s.size 0 (by omega) rfl))
end Go.Proofs.Ytbedjjckfmhdfaa
