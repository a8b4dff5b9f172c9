import Derived.Test.YtbedjjckfmhdfaaTy
import Derived.Test.YtbedjjckfmhdfaaAxS
set_option linter.unusedVariables false
set_option linter.unusedSimpArgs false
namespace Go.Proofs.Ytbedjjckfmhdfaa
open Go Go.AX

def spC : List (Int × Int) → List AV
  | [] => []
  | p :: r => .int .i32 p.1 :: .int .i32 p.2 :: spC r
theorem spC_length : ∀ l, (spC l).length = l.length * 2
  | [] => rfl
  | p :: r => by simp [spC, spC_length r]; omega
theorem spC_drop : ∀ (l : List (Int × Int)) (k : Nat), (spC l).drop (k * 2) = spC (l.drop k)
  | l, 0 => by simp
  | [], k + 1 => by simp [spC]
  | p :: r, k + 1 => by
    rw [show (k + 1) * 2 = k * 2 + 1 + 1 by omega]
    simp only [spC, List.drop_succ_cons]
    exact spC_drop r k
def inL (r : Int) : List (Int × Int) → Bool
  | [] => false
  | p :: t => (decide (p.1 ≤ r) && decide (r ≤ p.2)) || inL r t

def st18 (r : Int) (l : List (Int × Int)) (k : Nat) : AS := ⟨[(0, .int .i32 r), (7, .sl none l.length (spC l) .no), (8, .int .i64 l.length), (9, .int .i64 k)], [], []⟩
theorem in_loop (r : Int) (l : List (Int × Int)) (hl : l.length ≤ 1000) : ∀ d k, k + d = l.length → HT Try.prog Try.f18.ntmps (pt Try.f18 0) (st18 r l k) (EndsA Γ [] Try.f18 (.bool (inL r (l.drop k)))) := by
  intro d
  induction d with
  | zero =>
    intro k hk
    refine HT.fin Γ_ok [(10, .val (.bool false))] 200 (os := [decide ((k : Int) < l.length) = false, false = inL r (l.drop k)]) (by kernel_rfl) ⟨by simp; omega, ?_⟩
    rw [List.drop_of_length_le (by omega)]
    rfl
  | succ d ih =>
    intro k hk
    have hlt : k < l.length := by omega
    have hd : l.drop k = l[k] :: l.drop (k + 1) := List.drop_eq_getElem_cons hlt
    have h1 : decide ((k : Int) < l.length) = true := by simp; omega
    have h2 : 0 ≤ (k : Int) ∧ (k : Int) < l.length ∧ (k : Int).toNat * 2 < (spC l).length := by rw [spC_length]; omega
    have h3 : List.take 2 (List.drop ((k : Int).toNat * 2) (spC l)) = [AV.int .i32 l[k].1, AV.int .i32 l[k].2] := by
      rw [Int.toNat_natCast, spC_drop, hd]
      rfl
    have h4 : IntKind.i64.wrap ((k : Int) + 1) = ((k + 1 : Nat) : Int) := by rw [i64_wrap (by omega) (by omega)]; rfl
    by_cases ha : l[k].1 ≤ r
    · by_cases hb : r ≤ l[k].2
      · refine HT.fin Γ_ok [(10, .val (.bool true)), (12, .val (.agg [.int .i32 l[k].1, .int .i32 l[k].2])), (16, .val (.bool true)), (21, .val (.bool true))] 200
          (os := [decide ((k : Int) < l.length) = true, 0 ≤ (k : Int) ∧ (k : Int) < l.length ∧ (k : Int).toNat * 2 < (spC l).length, List.take 2 (List.drop ((k : Int).toNat * 2) (spC l)) = [AV.int .i32 l[k].1, AV.int .i32 l[k].2], decide (l[k].1 ≤ r) = true, decide (r ≤ l[k].2) = true, true = inL r (l.drop k)]) (by kernel_rfl)
          ⟨h1, h2, h3, by simpa using ha, by simpa using hb, by rw [hd]; simp [inL, ha, hb, All]⟩
      · refine HT.to Γ_ok [(10, .val (.bool true)), (12, .val (.agg [.int .i32 l[k].1, .int .i32 l[k].2])), (16, .val (.bool true)), (21, .val (.bool false))] 200 [9] 0 (st18 r l (k + 1))
          (os := [decide ((k : Int) < l.length) = true, 0 ≤ (k : Int) ∧ (k : Int) < l.length ∧ (k : Int).toNat * 2 < (spC l).length, List.take 2 (List.drop ((k : Int).toNat * 2) (spC l)) = [AV.int .i32 l[k].1, AV.int .i32 l[k].2], decide (l[k].1 ≤ r) = true, decide (r ≤ l[k].2) = false, IntKind.i64.wrap ((k : Int) + 1) = ((k + 1 : Nat) : Int)]) (by kernel_rfl) (by kernel_rfl)
          ⟨h1, h2, h3, by simpa using ha, by simpa using hb, h4⟩ ?_
        have := ih (k + 1) (by omega)
        rw [hd]
        simpa [inL, ha, hb] using this
    · refine HT.to Γ_ok [(10, .val (.bool true)), (12, .val (.agg [.int .i32 l[k].1, .int .i32 l[k].2])), (16, .val (.bool false))] 200 [9] 0 (st18 r l (k + 1))
        (os := [decide ((k : Int) < l.length) = true, 0 ≤ (k : Int) ∧ (k : Int) < l.length ∧ (k : Int).toNat * 2 < (spC l).length, List.take 2 (List.drop ((k : Int).toNat * 2) (spC l)) = [AV.int .i32 l[k].1, AV.int .i32 l[k].2], decide (l[k].1 ≤ r) = false, IntKind.i64.wrap ((k : Int) + 1) = ((k + 1 : Nat) : Int)]) (by kernel_rfl) (by kernel_rfl)
        ⟨h1, h2, h3, by simpa using ha, h4⟩ ?_
      have := ih (k + 1) (by omega)
      rw [hd]
      simpa [inL, ha] using this

theorem in_pure (r : Int) (l : List (Int × Int)) (hl : l.length ≤ 1000) : Ctr Try.prog 18 [.int .i32 r, .sl none l.length (spC l) .no] (.bool (inL r l)) :=
  Ctr.mk Γ_ok Try.func18 (by kernel_rfl) Try.call18 [] (by kernel_rfl) (HT.to Γ_ok [] 200 [9] 0 (st18 r l 0) (os := [(0 : Int) = ((0 : Nat) : Int)]) (by kernel_rfl) (by kernel_rfl) rfl (by simpa using in_loop r l hl l.length 0 (by omega)))
end Go.Proofs.Ytbedjjckfmhdfaa
