import Derived.Test.YtpffjbbolaehpaaP7
import Derived.OpenShut
import Derived.Test.YtpffjbbolaehpaaP4
import Derived.Test.YtpffjbbolaehpaaRows
import Derived.Test.YtpffjbbolaehpaaP5
section
set_option linter.unusedVariables false
set_option linter.unusedSimpArgs false
set_option maxRecDepth 100000
namespace Go.Proofs.Ytpffjbbolaehpaa
open Go Go.AX

def stD (l : List Ev) (n : Int) (i : Nat) : AS := ⟨[(0, .sl none l.length (evsC l) .no), (3, .int .i64 n), (4, .int .i64 i)], [], []⟩
def okEvs (l : List Ev) : Prop := ∀ e ∈ l, e.ok
theorem depth_h (l : List Ev) (n : Int) (i : Nat) (b : Bool) (hi : i < l.length) (hl : l.length ≤ 1048600) (hd : DocP l i) (hn : n = dep l i ∧ 0 ≤ n ∧ n ≤ 64) (hb : b = true → (l.getD i ev0).kind = 1 ∨ (l.getD i ev0).kind = 2 ∨ (l.getD i ev0).kind = 3) (hc : Ctr Try.prog 52 [.agg (evC (l.getD i ev0))] (.bool b)) (ih : DocP l (i + 1) → ∀ n', n' = dep l (i + 1) → 0 ≤ n' → n' ≤ 64 → ∃ x : Int, (x = 0 → DocP l l.length ∧ dep l l.length = 0) ∧ HT Try.prog Try.f37.ntmps (pt Try.f37 0) (stD l n' (i + 1)) (EndsA Γ (.pure [] (.int .i64 x)) Try.f37)) : ∃ x : Int, (x = 0 → DocP l l.length ∧ dep l l.length = 0) ∧ HT Try.prog Try.f37.ntmps (pt Try.f37 0) (stD l n i) (EndsA Γ (.pure [] (.int .i64 x)) Try.f37) := by
    have H : ∃ x : Int, (x = 0 → DocP l l.length ∧ dep l l.length = 0) ∧ PT.holds Try.prog Try.f37.ntmps (EndsA Γ (.pure [] (.int .i64 x)) Try.f37) (.split (decide ((↑i : Int) < (↑l.length : Int))) (.ob ((0 : Int) ≤ (↑i : Int) ∧ (↑i : Int) < (↑l.length : Int) ∧ (↑i : Int).toNat * (5 : Nat) < (evsC l).length) (.ob (List.take (5 : Nat) (List.drop ((↑i : Int).toNat * (5 : Nat)) (evsC l)) = [AV.int IntKind.i64 (l.getD i ev0).kind, AV.str (l.getD i ev0).nm.sp, AV.str (l.getD i ev0).nm.lo, AV.sl none (l.getD i ev0).attrs.length (atsC (l.getD i ev0).attrs) Own.no, AV.str (l.getD i ev0).text]) (.ob (Ctr Try.prog (52 : Nat) [AV.agg [AV.int IntKind.i64 (l.getD i ev0).kind, AV.str (l.getD i ev0).nm.sp, AV.str (l.getD i ev0).nm.lo, AV.sl none (l.getD i ev0).attrs.length (atsC (l.getD i ev0).attrs) Own.no, AV.str (l.getD i ev0).text]] (AV.bool b)) (.split (b) (.split (!decide (n = (0 : Int)) == decide ((↑i : Int) = (0 : Int))) (.ob ((-1 : Int) = x) (.tt)) (.split (decide ((↑i : Int) = (0 : Int))) (.ob ((0 : Int) ≤ (↑i : Int) ∧ (↑i : Int) < (↑l.length : Int) ∧ (↑i : Int).toNat * (5 : Nat) < (evsC l).length) (.ob ((evsC l)[(↑i : Int).toNat * (5 : Nat) + (0 : Nat)]? = some (AV.int IntKind.i64 (l.getD i ev0).kind)) (.split (!decide ((l.getD i ev0).kind = (1 : Int))) (.ob ((-1 : Int) = x) (.tt)) (.ob ((0 : Int) ≤ (↑i : Int) ∧ (↑i : Int) < (↑l.length : Int) ∧ (↑i : Int).toNat * (5 : Nat) < (evsC l).length) (.ob ((evsC l)[(↑i : Int).toNat * (5 : Nat) + (0 : Nat)]? = some (AV.int IntKind.i64 (l.getD i ev0).kind)) (.split (decide ((l.getD i ev0).kind = (2 : Int))) (.ob ((0 : Int) ≤ IntKind.i64.wrap ((↑i : Int) - (1 : Int)) ∧ IntKind.i64.wrap ((↑i : Int) - (1 : Int)) < (↑l.length : Int) ∧ (IntKind.i64.wrap ((↑i : Int) - (1 : Int))).toNat * (5 : Nat) < (evsC l).length) (.ob ((evsC l)[(IntKind.i64.wrap ((↑i : Int) - (1 : Int))).toNat * (5 : Nat) + (0 : Nat)]? = some (AV.int IntKind.i64 (l.getD (i - (1 : Nat)) ev0).kind)) (.split (decide ((l.getD (i - (1 : Nat)) ev0).kind = (2 : Int))) (.ob ((-1 : Int) = x) (.tt)) (.ob ((0 : Int) ≤ (↑i : Int) ∧ (↑i : Int) < (↑l.length : Int) ∧ (↑i : Int).toNat * (5 : Nat) < (evsC l).length) (.ob ((evsC l)[(↑i : Int).toNat * (5 : Nat) + (0 : Nat)]? = some (AV.int IntKind.i64 (l.getD i ev0).kind)) (.split (decide ((l.getD i ev0).kind = (1 : Int))) (.ob ((0 : Int) ≤ (↑i : Int) ∧ (↑i : Int) < (↑l.length : Int) ∧ (↑i : Int).toNat * (5 : Nat) < (evsC l).length) (.ob ((evsC l)[(↑i : Int).toNat * (5 : Nat) + (0 : Nat)]? = some (AV.int IntKind.i64 (l.getD i ev0).kind)) (.split (decide ((l.getD i ev0).kind = (3 : Int))) (.split (decide ((64 : Int) < IntKind.i64.wrap (IntKind.i64.wrap (n + (1 : Int)) - (1 : Int)))) (.ob ((-1 : Int) = x) (.tt)) (.head (pt Try.f37 0) ({ tmps := [((0 : Nat), AV.sl none l.length (evsC l) Own.no), ((3 : Nat), AV.int IntKind.i64 (IntKind.i64.wrap (IntKind.i64.wrap (n + (1 : Int)) - (1 : Int)))), ((4 : Nat), AV.int IntKind.i64 (IntKind.i64.wrap ((↑i : Int) + (1 : Int))))], heap := [], tags := [] }))) (.split (decide ((64 : Int) < IntKind.i64.wrap (n + (1 : Int)))) (.ob ((-1 : Int) = x) (.tt)) (.head (pt Try.f37 0) ({ tmps := [((0 : Nat), AV.sl none l.length (evsC l) Own.no), ((3 : Nat), AV.int IntKind.i64 (IntKind.i64.wrap (n + (1 : Int)))), ((4 : Nat), AV.int IntKind.i64 (IntKind.i64.wrap ((↑i : Int) + (1 : Int))))], heap := [], tags := [] })))))) (.ob ((0 : Int) ≤ (↑i : Int) ∧ (↑i : Int) < (↑l.length : Int) ∧ (↑i : Int).toNat * (5 : Nat) < (evsC l).length) (.ob ((evsC l)[(↑i : Int).toNat * (5 : Nat) + (0 : Nat)]? = some (AV.int IntKind.i64 (l.getD i ev0).kind)) (.split (decide ((l.getD i ev0).kind = (3 : Int))) (.split (decide ((64 : Int) < IntKind.i64.wrap (n - (1 : Int)))) (.ob ((-1 : Int) = x) (.tt)) (.head (pt Try.f37 0) ({ tmps := [((0 : Nat), AV.sl none l.length (evsC l) Own.no), ((3 : Nat), AV.int IntKind.i64 (IntKind.i64.wrap (n - (1 : Int)))), ((4 : Nat), AV.int IntKind.i64 (IntKind.i64.wrap ((↑i : Int) + (1 : Int))))], heap := [], tags := [] }))) (.split (decide ((64 : Int) < n)) (.ob ((-1 : Int) = x) (.tt)) (.head (pt Try.f37 0) ({ tmps := [((0 : Nat), AV.sl none l.length (evsC l) Own.no), ((3 : Nat), AV.int IntKind.i64 n), ((4 : Nat), AV.int IntKind.i64 (IntKind.i64.wrap ((↑i : Int) + (1 : Int))))], heap := [], tags := [] })))))))))))) (.ob ((0 : Int) ≤ (↑i : Int) ∧ (↑i : Int) < (↑l.length : Int) ∧ (↑i : Int).toNat * (5 : Nat) < (evsC l).length) (.ob ((evsC l)[(↑i : Int).toNat * (5 : Nat) + (0 : Nat)]? = some (AV.int IntKind.i64 (l.getD i ev0).kind)) (.split (decide ((l.getD i ev0).kind = (1 : Int))) (.ob ((0 : Int) ≤ (↑i : Int) ∧ (↑i : Int) < (↑l.length : Int) ∧ (↑i : Int).toNat * (5 : Nat) < (evsC l).length) (.ob ((evsC l)[(↑i : Int).toNat * (5 : Nat) + (0 : Nat)]? = some (AV.int IntKind.i64 (l.getD i ev0).kind)) (.split (decide ((l.getD i ev0).kind = (3 : Int))) (.split (decide ((64 : Int) < IntKind.i64.wrap (IntKind.i64.wrap (n + (1 : Int)) - (1 : Int)))) (.ob ((-1 : Int) = x) (.tt)) (.head (pt Try.f37 0) ({ tmps := [((0 : Nat), AV.sl none l.length (evsC l) Own.no), ((3 : Nat), AV.int IntKind.i64 (IntKind.i64.wrap (IntKind.i64.wrap (n + (1 : Int)) - (1 : Int)))), ((4 : Nat), AV.int IntKind.i64 (IntKind.i64.wrap ((↑i : Int) + (1 : Int))))], heap := [], tags := [] }))) (.split (decide ((64 : Int) < IntKind.i64.wrap (n + (1 : Int)))) (.ob ((-1 : Int) = x) (.tt)) (.head (pt Try.f37 0) ({ tmps := [((0 : Nat), AV.sl none l.length (evsC l) Own.no), ((3 : Nat), AV.int IntKind.i64 (IntKind.i64.wrap (n + (1 : Int)))), ((4 : Nat), AV.int IntKind.i64 (IntKind.i64.wrap ((↑i : Int) + (1 : Int))))], heap := [], tags := [] })))))) (.ob ((0 : Int) ≤ (↑i : Int) ∧ (↑i : Int) < (↑l.length : Int) ∧ (↑i : Int).toNat * (5 : Nat) < (evsC l).length) (.ob ((evsC l)[(↑i : Int).toNat * (5 : Nat) + (0 : Nat)]? = some (AV.int IntKind.i64 (l.getD i ev0).kind)) (.split (decide ((l.getD i ev0).kind = (3 : Int))) (.split (decide ((64 : Int) < IntKind.i64.wrap (n - (1 : Int)))) (.ob ((-1 : Int) = x) (.tt)) (.head (pt Try.f37 0) ({ tmps := [((0 : Nat), AV.sl none l.length (evsC l) Own.no), ((3 : Nat), AV.int IntKind.i64 (IntKind.i64.wrap (n - (1 : Int)))), ((4 : Nat), AV.int IntKind.i64 (IntKind.i64.wrap ((↑i : Int) + (1 : Int))))], heap := [], tags := [] }))) (.split (decide ((64 : Int) < n)) (.ob ((-1 : Int) = x) (.tt)) (.head (pt Try.f37 0) ({ tmps := [((0 : Nat), AV.sl none l.length (evsC l) Own.no), ((3 : Nat), AV.int IntKind.i64 n), ((4 : Nat), AV.int IntKind.i64 (IntKind.i64.wrap ((↑i : Int) + (1 : Int))))], heap := [], tags := [] }))))))))))))))) (.ob ((0 : Int) ≤ (↑i : Int) ∧ (↑i : Int) < (↑l.length : Int) ∧ (↑i : Int).toNat * (5 : Nat) < (evsC l).length) (.ob ((evsC l)[(↑i : Int).toNat * (5 : Nat) + (0 : Nat)]? = some (AV.int IntKind.i64 (l.getD i ev0).kind)) (.split (decide ((l.getD i ev0).kind = (2 : Int))) (.ob ((0 : Int) ≤ IntKind.i64.wrap ((↑i : Int) - (1 : Int)) ∧ IntKind.i64.wrap ((↑i : Int) - (1 : Int)) < (↑l.length : Int) ∧ (IntKind.i64.wrap ((↑i : Int) - (1 : Int))).toNat * (5 : Nat) < (evsC l).length) (.ob ((evsC l)[(IntKind.i64.wrap ((↑i : Int) - (1 : Int))).toNat * (5 : Nat) + (0 : Nat)]? = some (AV.int IntKind.i64 (l.getD (i - (1 : Nat)) ev0).kind)) (.split (decide ((l.getD (i - (1 : Nat)) ev0).kind = (2 : Int))) (.ob ((-1 : Int) = x) (.tt)) (.ob ((0 : Int) ≤ (↑i : Int) ∧ (↑i : Int) < (↑l.length : Int) ∧ (↑i : Int).toNat * (5 : Nat) < (evsC l).length) (.ob ((evsC l)[(↑i : Int).toNat * (5 : Nat) + (0 : Nat)]? = some (AV.int IntKind.i64 (l.getD i ev0).kind)) (.split (decide ((l.getD i ev0).kind = (1 : Int))) (.ob ((0 : Int) ≤ (↑i : Int) ∧ (↑i : Int) < (↑l.length : Int) ∧ (↑i : Int).toNat * (5 : Nat) < (evsC l).length) (.ob ((evsC l)[(↑i : Int).toNat * (5 : Nat) + (0 : Nat)]? = some (AV.int IntKind.i64 (l.getD i ev0).kind)) (.split (decide ((l.getD i ev0).kind = (3 : Int))) (.split (decide ((64 : Int) < IntKind.i64.wrap (IntKind.i64.wrap (n + (1 : Int)) - (1 : Int)))) (.ob ((-1 : Int) = x) (.tt)) (.head (pt Try.f37 0) ({ tmps := [((0 : Nat), AV.sl none l.length (evsC l) Own.no), ((3 : Nat), AV.int IntKind.i64 (IntKind.i64.wrap (IntKind.i64.wrap (n + (1 : Int)) - (1 : Int)))), ((4 : Nat), AV.int IntKind.i64 (IntKind.i64.wrap ((↑i : Int) + (1 : Int))))], heap := [], tags := [] }))) (.split (decide ((64 : Int) < IntKind.i64.wrap (n + (1 : Int)))) (.ob ((-1 : Int) = x) (.tt)) (.head (pt Try.f37 0) ({ tmps := [((0 : Nat), AV.sl none l.length (evsC l) Own.no), ((3 : Nat), AV.int IntKind.i64 (IntKind.i64.wrap (n + (1 : Int)))), ((4 : Nat), AV.int IntKind.i64 (IntKind.i64.wrap ((↑i : Int) + (1 : Int))))], heap := [], tags := [] })))))) (.ob ((0 : Int) ≤ (↑i : Int) ∧ (↑i : Int) < (↑l.length : Int) ∧ (↑i : Int).toNat * (5 : Nat) < (evsC l).length) (.ob ((evsC l)[(↑i : Int).toNat * (5 : Nat) + (0 : Nat)]? = some (AV.int IntKind.i64 (l.getD i ev0).kind)) (.split (decide ((l.getD i ev0).kind = (3 : Int))) (.split (decide ((64 : Int) < IntKind.i64.wrap (n - (1 : Int)))) (.ob ((-1 : Int) = x) (.tt)) (.head (pt Try.f37 0) ({ tmps := [((0 : Nat), AV.sl none l.length (evsC l) Own.no), ((3 : Nat), AV.int IntKind.i64 (IntKind.i64.wrap (n - (1 : Int)))), ((4 : Nat), AV.int IntKind.i64 (IntKind.i64.wrap ((↑i : Int) + (1 : Int))))], heap := [], tags := [] }))) (.split (decide ((64 : Int) < n)) (.ob ((-1 : Int) = x) (.tt)) (.head (pt Try.f37 0) ({ tmps := [((0 : Nat), AV.sl none l.length (evsC l) Own.no), ((3 : Nat), AV.int IntKind.i64 n), ((4 : Nat), AV.int IntKind.i64 (IntKind.i64.wrap ((↑i : Int) + (1 : Int))))], heap := [], tags := [] })))))))))))) (.ob ((0 : Int) ≤ (↑i : Int) ∧ (↑i : Int) < (↑l.length : Int) ∧ (↑i : Int).toNat * (5 : Nat) < (evsC l).length) (.ob ((evsC l)[(↑i : Int).toNat * (5 : Nat) + (0 : Nat)]? = some (AV.int IntKind.i64 (l.getD i ev0).kind)) (.split (decide ((l.getD i ev0).kind = (1 : Int))) (.ob ((0 : Int) ≤ (↑i : Int) ∧ (↑i : Int) < (↑l.length : Int) ∧ (↑i : Int).toNat * (5 : Nat) < (evsC l).length) (.ob ((evsC l)[(↑i : Int).toNat * (5 : Nat) + (0 : Nat)]? = some (AV.int IntKind.i64 (l.getD i ev0).kind)) (.split (decide ((l.getD i ev0).kind = (3 : Int))) (.split (decide ((64 : Int) < IntKind.i64.wrap (IntKind.i64.wrap (n + (1 : Int)) - (1 : Int)))) (.ob ((-1 : Int) = x) (.tt)) (.head (pt Try.f37 0) ({ tmps := [((0 : Nat), AV.sl none l.length (evsC l) Own.no), ((3 : Nat), AV.int IntKind.i64 (IntKind.i64.wrap (IntKind.i64.wrap (n + (1 : Int)) - (1 : Int)))), ((4 : Nat), AV.int IntKind.i64 (IntKind.i64.wrap ((↑i : Int) + (1 : Int))))], heap := [], tags := [] }))) (.split (decide ((64 : Int) < IntKind.i64.wrap (n + (1 : Int)))) (.ob ((-1 : Int) = x) (.tt)) (.head (pt Try.f37 0) ({ tmps := [((0 : Nat), AV.sl none l.length (evsC l) Own.no), ((3 : Nat), AV.int IntKind.i64 (IntKind.i64.wrap (n + (1 : Int)))), ((4 : Nat), AV.int IntKind.i64 (IntKind.i64.wrap ((↑i : Int) + (1 : Int))))], heap := [], tags := [] })))))) (.ob ((0 : Int) ≤ (↑i : Int) ∧ (↑i : Int) < (↑l.length : Int) ∧ (↑i : Int).toNat * (5 : Nat) < (evsC l).length) (.ob ((evsC l)[(↑i : Int).toNat * (5 : Nat) + (0 : Nat)]? = some (AV.int IntKind.i64 (l.getD i ev0).kind)) (.split (decide ((l.getD i ev0).kind = (3 : Int))) (.split (decide ((64 : Int) < IntKind.i64.wrap (n - (1 : Int)))) (.ob ((-1 : Int) = x) (.tt)) (.head (pt Try.f37 0) ({ tmps := [((0 : Nat), AV.sl none l.length (evsC l) Own.no), ((3 : Nat), AV.int IntKind.i64 (IntKind.i64.wrap (n - (1 : Int)))), ((4 : Nat), AV.int IntKind.i64 (IntKind.i64.wrap ((↑i : Int) + (1 : Int))))], heap := [], tags := [] }))) (.split (decide ((64 : Int) < n)) (.ob ((-1 : Int) = x) (.tt)) (.head (pt Try.f37 0) ({ tmps := [((0 : Nat), AV.sl none l.length (evsC l) Own.no), ((3 : Nat), AV.int IntKind.i64 n), ((4 : Nat), AV.int IntKind.i64 (IntKind.i64.wrap ((↑i : Int) + (1 : Int))))], heap := [], tags := [] })))))))))))))) (.ob ((-1 : Int) = x) (.tt)))))) (.ob (n = x) (.tt))) := by
      have w2 : IntKind.i64.wrap ((i : Int) + 1) = ((i + 1 : Nat) : Int) := by rw [i64_wrap (by omega) (by omega)]; rfl
      have w3 : IntKind.i64.wrap ((i : Int) - 1) = (i : Int) - 1 := i64_wrap (by omega) (by omega)
      have w4 : IntKind.i64.wrap (n + 1) = n + 1 := i64_wrap (by omega) (by omega)
      have w5 : IntKind.i64.wrap (n - 1) = n - 1 := i64_wrap (by omega) (by omega)
      have w6 : IntKind.i64.wrap (n + 1 - 1) = n + 1 - 1 := i64_wrap (by omega) (by omega)
      have w7 : ((i : Int) - 1).toNat = i - 1 := by omega
      have hst : dep l (i + 1) = dep l i + stepE (l.getD i ev0) := rfl
      have s1 : (l.getD i ev0).kind = 1 → stepE (l.getD i ev0) = 1 := stepE_1
      have s2 : (l.getD i ev0).kind = 2 → stepE (l.getD i ev0) = 0 := stepE_2
      have s3 : (l.getD i ev0).kind = 3 → stepE (l.getD i ev0) = -1 := stepE_3
      have hi1 : i - 1 < l.length := by omega
      simp only [PT.holds, w2, w3, w4, w5, w6, w7, Int.toNat_natCast, evsC_len]
      (repeat' first | exact ⟨_, triv, rfl, trivial⟩ | exact ⟨_, triv, rfl⟩ | refine ex_split (fun _ => ?_) (fun _ => ?_) | refine ex_ob ?_ ?_)
      all_goals first | exact hc | (first | exact ⟨_, (fun h => absurd h (by decide)), rfl, trivial⟩ | exact ⟨_, (fun h => absurd h (by decide)), rfl⟩) | omega | ((try simp only [Nat.add_assoc, Nat.reduceAdd, Nat.add_zero]) <;> first | (rw [ats_take _ _ _ _ hi (by decide)]; rfl) | (rw [ats_nth _ _ _ hi (by decide)]; rfl) | (rw [evs_take _ _ _ _ hi (by decide)]; rfl) | (rw [evs_nth _ _ _ hi (by decide)]; rfl) | (rw [trs_take _ _ _ _ hi (by decide)]; rfl) | (rw [trs_nth _ _ _ hi (by decide)]; rfl) | (rw [pths_take _ _ _ _ hi (by decide)]; rfl) | (rw [pths_nth _ _ _ hi (by decide)]; rfl) | (rw [flts_take _ _ _ _ hi (by decide)]; rfl) | (rw [flts_nth _ _ _ hi (by decide)]; rfl) | (rw [ats_take0 _ _ _ hi (by decide)]; rfl) | (rw [ats_nth0 _ _ hi]; rfl) | (rw [evs_take0 _ _ _ hi (by decide)]; rfl) | (rw [evs_nth0 _ _ hi]; rfl) | (rw [trs_take0 _ _ _ hi (by decide)]; rfl) | (rw [trs_nth0 _ _ hi]; rfl) | (rw [pths_take0 _ _ _ hi (by decide)]; rfl) | (rw [pths_nth0 _ _ hi]; rfl) | (rw [flts_take0 _ _ _ hi (by decide)]; rfl) | (rw [flts_nth0 _ _ hi]; rfl)) | ((try simp only [Nat.add_assoc, Nat.reduceAdd, Nat.add_zero]) <;> first | (rw [ats_take _ _ _ _ hi1 (by decide)]; rfl) | (rw [ats_nth _ _ _ hi1 (by decide)]; rfl) | (rw [evs_take _ _ _ _ hi1 (by decide)]; rfl) | (rw [evs_nth _ _ _ hi1 (by decide)]; rfl) | (rw [trs_take _ _ _ _ hi1 (by decide)]; rfl) | (rw [trs_nth _ _ _ hi1 (by decide)]; rfl) | (rw [pths_take _ _ _ _ hi1 (by decide)]; rfl) | (rw [pths_nth _ _ _ hi1 (by decide)]; rfl) | (rw [flts_take _ _ _ _ hi1 (by decide)]; rfl) | (rw [flts_nth _ _ _ hi1 (by decide)]; rfl) | (rw [ats_take0 _ _ _ hi1 (by decide)]; rfl) | (rw [ats_nth0 _ _ hi1]; rfl) | (rw [evs_take0 _ _ _ hi1 (by decide)]; rfl) | (rw [evs_nth0 _ _ hi1]; rfl) | (rw [trs_take0 _ _ _ hi1 (by decide)]; rfl) | (rw [trs_nth0 _ _ hi1]; rfl) | (rw [pths_take0 _ _ _ hi1 (by decide)]; rfl) | (rw [pths_nth0 _ _ hi1]; rfl) | (rw [flts_take0 _ _ _ hi1 (by decide)]; rfl) | (rw [flts_nth0 _ _ hi1]; rfl)) | (first | omega | (simp only [decide_eq_true_eq, decide_eq_false_iff_not, Bool.not_eq_true', Bool.not_eq_false', beq_iff_eq, beq_eq_false_iff_ne, decide_eq_decide, ne_eq, Bool.not_eq_eq_eq_not, Bool.not_true, Bool.not_false] at *; omega)) | (refine ih (hd.succ (hb (by assumption)) ?_ ?_) _ ?_ ?_ ?_ <;> first | (intro _; (first | omega | (simp only [decide_eq_true_eq, decide_eq_false_iff_not, Bool.not_eq_true', Bool.not_eq_false', beq_iff_eq, beq_eq_false_iff_ne, decide_eq_decide, ne_eq, Bool.not_eq_eq_eq_not, Bool.not_true, Bool.not_false] at *; omega))) | (first | omega | (simp only [decide_eq_true_eq, decide_eq_false_iff_not, Bool.not_eq_true', Bool.not_eq_false', beq_iff_eq, beq_eq_false_iff_ne, decide_eq_decide, ne_eq, Bool.not_eq_eq_eq_not, Bool.not_true, Bool.not_false] at *; omega))) | (exfalso; have hk := hb (by assumption); (first | omega | (simp only [decide_eq_true_eq, decide_eq_false_iff_not, Bool.not_eq_true', Bool.not_eq_false', beq_iff_eq, beq_eq_false_iff_ne, decide_eq_decide, ne_eq, Bool.not_eq_eq_eq_not, Bool.not_true, Bool.not_false] at *; omega)))
    obtain ⟨x, hR, hx⟩ := H
    exact ⟨x, hR, HT.walk Γ_ok mo_ok (⟨([(14, .val (.agg (evC (l.getD i ev0)))), (15, .call [] (.bool b)), (32, .val (.int .i64 (l.getD i ev0).kind)), (40, .val (.int .i64 (l.getD i ev0).kind)), (55, .val (.int .i64 (l.getD i ev0).kind)), (63, .val (.int .i64 (l.getD i ev0).kind)), (48, .val (.int .i64 (l.getD (i - 1) ev0).kind))] ++ annL), sp37, hd37 [] [] [] [], [], .pure [] (.int .i64 x)⟩ : Wk) 4000 (T := .split (decide ((↑i : Int) < (↑l.length : Int))) (.ob ((0 : Int) ≤ (↑i : Int) ∧ (↑i : Int) < (↑l.length : Int) ∧ (↑i : Int).toNat * (5 : Nat) < (evsC l).length) (.ob (List.take (5 : Nat) (List.drop ((↑i : Int).toNat * (5 : Nat)) (evsC l)) = [AV.int IntKind.i64 (l.getD i ev0).kind, AV.str (l.getD i ev0).nm.sp, AV.str (l.getD i ev0).nm.lo, AV.sl none (l.getD i ev0).attrs.length (atsC (l.getD i ev0).attrs) Own.no, AV.str (l.getD i ev0).text]) (.ob (Ctr Try.prog (52 : Nat) [AV.agg [AV.int IntKind.i64 (l.getD i ev0).kind, AV.str (l.getD i ev0).nm.sp, AV.str (l.getD i ev0).nm.lo, AV.sl none (l.getD i ev0).attrs.length (atsC (l.getD i ev0).attrs) Own.no, AV.str (l.getD i ev0).text]] (AV.bool b)) (.split (b) (.split (!decide (n = (0 : Int)) == decide ((↑i : Int) = (0 : Int))) (.ob ((-1 : Int) = x) (.tt)) (.split (decide ((↑i : Int) = (0 : Int))) (.ob ((0 : Int) ≤ (↑i : Int) ∧ (↑i : Int) < (↑l.length : Int) ∧ (↑i : Int).toNat * (5 : Nat) < (evsC l).length) (.ob ((evsC l)[(↑i : Int).toNat * (5 : Nat) + (0 : Nat)]? = some (AV.int IntKind.i64 (l.getD i ev0).kind)) (.split (!decide ((l.getD i ev0).kind = (1 : Int))) (.ob ((-1 : Int) = x) (.tt)) (.ob ((0 : Int) ≤ (↑i : Int) ∧ (↑i : Int) < (↑l.length : Int) ∧ (↑i : Int).toNat * (5 : Nat) < (evsC l).length) (.ob ((evsC l)[(↑i : Int).toNat * (5 : Nat) + (0 : Nat)]? = some (AV.int IntKind.i64 (l.getD i ev0).kind)) (.split (decide ((l.getD i ev0).kind = (2 : Int))) (.ob ((0 : Int) ≤ IntKind.i64.wrap ((↑i : Int) - (1 : Int)) ∧ IntKind.i64.wrap ((↑i : Int) - (1 : Int)) < (↑l.length : Int) ∧ (IntKind.i64.wrap ((↑i : Int) - (1 : Int))).toNat * (5 : Nat) < (evsC l).length) (.ob ((evsC l)[(IntKind.i64.wrap ((↑i : Int) - (1 : Int))).toNat * (5 : Nat) + (0 : Nat)]? = some (AV.int IntKind.i64 (l.getD (i - (1 : Nat)) ev0).kind)) (.split (decide ((l.getD (i - (1 : Nat)) ev0).kind = (2 : Int))) (.ob ((-1 : Int) = x) (.tt)) (.ob ((0 : Int) ≤ (↑i : Int) ∧ (↑i : Int) < (↑l.length : Int) ∧ (↑i : Int).toNat * (5 : Nat) < (evsC l).length) (.ob ((evsC l)[(↑i : Int).toNat * (5 : Nat) + (0 : Nat)]? = some (AV.int IntKind.i64 (l.getD i ev0).kind)) (.split (decide ((l.getD i ev0).kind = (1 : Int))) (.ob ((0 : Int) ≤ (↑i : Int) ∧ (↑i : Int) < (↑l.length : Int) ∧ (↑i : Int).toNat * (5 : Nat) < (evsC l).length) (.ob ((evsC l)[(↑i : Int).toNat * (5 : Nat) + (0 : Nat)]? = some (AV.int IntKind.i64 (l.getD i ev0).kind)) (.split (decide ((l.getD i ev0).kind = (3 : Int))) (.split (decide ((64 : Int) < IntKind.i64.wrap (IntKind.i64.wrap (n + (1 : Int)) - (1 : Int)))) (.ob ((-1 : Int) = x) (.tt)) (.head (pt Try.f37 0) ({ tmps := [((0 : Nat), AV.sl none l.length (evsC l) Own.no), ((3 : Nat), AV.int IntKind.i64 (IntKind.i64.wrap (IntKind.i64.wrap (n + (1 : Int)) - (1 : Int)))), ((4 : Nat), AV.int IntKind.i64 (IntKind.i64.wrap ((↑i : Int) + (1 : Int))))], heap := [], tags := [] }))) (.split (decide ((64 : Int) < IntKind.i64.wrap (n + (1 : Int)))) (.ob ((-1 : Int) = x) (.tt)) (.head (pt Try.f37 0) ({ tmps := [((0 : Nat), AV.sl none l.length (evsC l) Own.no), ((3 : Nat), AV.int IntKind.i64 (IntKind.i64.wrap (n + (1 : Int)))), ((4 : Nat), AV.int IntKind.i64 (IntKind.i64.wrap ((↑i : Int) + (1 : Int))))], heap := [], tags := [] })))))) (.ob ((0 : Int) ≤ (↑i : Int) ∧ (↑i : Int) < (↑l.length : Int) ∧ (↑i : Int).toNat * (5 : Nat) < (evsC l).length) (.ob ((evsC l)[(↑i : Int).toNat * (5 : Nat) + (0 : Nat)]? = some (AV.int IntKind.i64 (l.getD i ev0).kind)) (.split (decide ((l.getD i ev0).kind = (3 : Int))) (.split (decide ((64 : Int) < IntKind.i64.wrap (n - (1 : Int)))) (.ob ((-1 : Int) = x) (.tt)) (.head (pt Try.f37 0) ({ tmps := [((0 : Nat), AV.sl none l.length (evsC l) Own.no), ((3 : Nat), AV.int IntKind.i64 (IntKind.i64.wrap (n - (1 : Int)))), ((4 : Nat), AV.int IntKind.i64 (IntKind.i64.wrap ((↑i : Int) + (1 : Int))))], heap := [], tags := [] }))) (.split (decide ((64 : Int) < n)) (.ob ((-1 : Int) = x) (.tt)) (.head (pt Try.f37 0) ({ tmps := [((0 : Nat), AV.sl none l.length (evsC l) Own.no), ((3 : Nat), AV.int IntKind.i64 n), ((4 : Nat), AV.int IntKind.i64 (IntKind.i64.wrap ((↑i : Int) + (1 : Int))))], heap := [], tags := [] })))))))))))) (.ob ((0 : Int) ≤ (↑i : Int) ∧ (↑i : Int) < (↑l.length : Int) ∧ (↑i : Int).toNat * (5 : Nat) < (evsC l).length) (.ob ((evsC l)[(↑i : Int).toNat * (5 : Nat) + (0 : Nat)]? = some (AV.int IntKind.i64 (l.getD i ev0).kind)) (.split (decide ((l.getD i ev0).kind = (1 : Int))) (.ob ((0 : Int) ≤ (↑i : Int) ∧ (↑i : Int) < (↑l.length : Int) ∧ (↑i : Int).toNat * (5 : Nat) < (evsC l).length) (.ob ((evsC l)[(↑i : Int).toNat * (5 : Nat) + (0 : Nat)]? = some (AV.int IntKind.i64 (l.getD i ev0).kind)) (.split (decide ((l.getD i ev0).kind = (3 : Int))) (.split (decide ((64 : Int) < IntKind.i64.wrap (IntKind.i64.wrap (n + (1 : Int)) - (1 : Int)))) (.ob ((-1 : Int) = x) (.tt)) (.head (pt Try.f37 0) ({ tmps := [((0 : Nat), AV.sl none l.length (evsC l) Own.no), ((3 : Nat), AV.int IntKind.i64 (IntKind.i64.wrap (IntKind.i64.wrap (n + (1 : Int)) - (1 : Int)))), ((4 : Nat), AV.int IntKind.i64 (IntKind.i64.wrap ((↑i : Int) + (1 : Int))))], heap := [], tags := [] }))) (.split (decide ((64 : Int) < IntKind.i64.wrap (n + (1 : Int)))) (.ob ((-1 : Int) = x) (.tt)) (.head (pt Try.f37 0) ({ tmps := [((0 : Nat), AV.sl none l.length (evsC l) Own.no), ((3 : Nat), AV.int IntKind.i64 (IntKind.i64.wrap (n + (1 : Int)))), ((4 : Nat), AV.int IntKind.i64 (IntKind.i64.wrap ((↑i : Int) + (1 : Int))))], heap := [], tags := [] })))))) (.ob ((0 : Int) ≤ (↑i : Int) ∧ (↑i : Int) < (↑l.length : Int) ∧ (↑i : Int).toNat * (5 : Nat) < (evsC l).length) (.ob ((evsC l)[(↑i : Int).toNat * (5 : Nat) + (0 : Nat)]? = some (AV.int IntKind.i64 (l.getD i ev0).kind)) (.split (decide ((l.getD i ev0).kind = (3 : Int))) (.split (decide ((64 : Int) < IntKind.i64.wrap (n - (1 : Int)))) (.ob ((-1 : Int) = x) (.tt)) (.head (pt Try.f37 0) ({ tmps := [((0 : Nat), AV.sl none l.length (evsC l) Own.no), ((3 : Nat), AV.int IntKind.i64 (IntKind.i64.wrap (n - (1 : Int)))), ((4 : Nat), AV.int IntKind.i64 (IntKind.i64.wrap ((↑i : Int) + (1 : Int))))], heap := [], tags := [] }))) (.split (decide ((64 : Int) < n)) (.ob ((-1 : Int) = x) (.tt)) (.head (pt Try.f37 0) ({ tmps := [((0 : Nat), AV.sl none l.length (evsC l) Own.no), ((3 : Nat), AV.int IntKind.i64 n), ((4 : Nat), AV.int IntKind.i64 (IntKind.i64.wrap ((↑i : Int) + (1 : Int))))], heap := [], tags := [] }))))))))))))))) (.ob ((0 : Int) ≤ (↑i : Int) ∧ (↑i : Int) < (↑l.length : Int) ∧ (↑i : Int).toNat * (5 : Nat) < (evsC l).length) (.ob ((evsC l)[(↑i : Int).toNat * (5 : Nat) + (0 : Nat)]? = some (AV.int IntKind.i64 (l.getD i ev0).kind)) (.split (decide ((l.getD i ev0).kind = (2 : Int))) (.ob ((0 : Int) ≤ IntKind.i64.wrap ((↑i : Int) - (1 : Int)) ∧ IntKind.i64.wrap ((↑i : Int) - (1 : Int)) < (↑l.length : Int) ∧ (IntKind.i64.wrap ((↑i : Int) - (1 : Int))).toNat * (5 : Nat) < (evsC l).length) (.ob ((evsC l)[(IntKind.i64.wrap ((↑i : Int) - (1 : Int))).toNat * (5 : Nat) + (0 : Nat)]? = some (AV.int IntKind.i64 (l.getD (i - (1 : Nat)) ev0).kind)) (.split (decide ((l.getD (i - (1 : Nat)) ev0).kind = (2 : Int))) (.ob ((-1 : Int) = x) (.tt)) (.ob ((0 : Int) ≤ (↑i : Int) ∧ (↑i : Int) < (↑l.length : Int) ∧ (↑i : Int).toNat * (5 : Nat) < (evsC l).length) (.ob ((evsC l)[(↑i : Int).toNat * (5 : Nat) + (0 : Nat)]? = some (AV.int IntKind.i64 (l.getD i ev0).kind)) (.split (decide ((l.getD i ev0).kind = (1 : Int))) (.ob ((0 : Int) ≤ (↑i : Int) ∧ (↑i : Int) < (↑l.length : Int) ∧ (↑i : Int).toNat * (5 : Nat) < (evsC l).length) (.ob ((evsC l)[(↑i : Int).toNat * (5 : Nat) + (0 : Nat)]? = some (AV.int IntKind.i64 (l.getD i ev0).kind)) (.split (decide ((l.getD i ev0).kind = (3 : Int))) (.split (decide ((64 : Int) < IntKind.i64.wrap (IntKind.i64.wrap (n + (1 : Int)) - (1 : Int)))) (.ob ((-1 : Int) = x) (.tt)) (.head (pt Try.f37 0) ({ tmps := [((0 : Nat), AV.sl none l.length (evsC l) Own.no), ((3 : Nat), AV.int IntKind.i64 (IntKind.i64.wrap (IntKind.i64.wrap (n + (1 : Int)) - (1 : Int)))), ((4 : Nat), AV.int IntKind.i64 (IntKind.i64.wrap ((↑i : Int) + (1 : Int))))], heap := [], tags := [] }))) (.split (decide ((64 : Int) < IntKind.i64.wrap (n + (1 : Int)))) (.ob ((-1 : Int) = x) (.tt)) (.head (pt Try.f37 0) ({ tmps := [((0 : Nat), AV.sl none l.length (evsC l) Own.no), ((3 : Nat), AV.int IntKind.i64 (IntKind.i64.wrap (n + (1 : Int)))), ((4 : Nat), AV.int IntKind.i64 (IntKind.i64.wrap ((↑i : Int) + (1 : Int))))], heap := [], tags := [] })))))) (.ob ((0 : Int) ≤ (↑i : Int) ∧ (↑i : Int) < (↑l.length : Int) ∧ (↑i : Int).toNat * (5 : Nat) < (evsC l).length) (.ob ((evsC l)[(↑i : Int).toNat * (5 : Nat) + (0 : Nat)]? = some (AV.int IntKind.i64 (l.getD i ev0).kind)) (.split (decide ((l.getD i ev0).kind = (3 : Int))) (.split (decide ((64 : Int) < IntKind.i64.wrap (n - (1 : Int)))) (.ob ((-1 : Int) = x) (.tt)) (.head (pt Try.f37 0) ({ tmps := [((0 : Nat), AV.sl none l.length (evsC l) Own.no), ((3 : Nat), AV.int IntKind.i64 (IntKind.i64.wrap (n - (1 : Int)))), ((4 : Nat), AV.int IntKind.i64 (IntKind.i64.wrap ((↑i : Int) + (1 : Int))))], heap := [], tags := [] }))) (.split (decide ((64 : Int) < n)) (.ob ((-1 : Int) = x) (.tt)) (.head (pt Try.f37 0) ({ tmps := [((0 : Nat), AV.sl none l.length (evsC l) Own.no), ((3 : Nat), AV.int IntKind.i64 n), ((4 : Nat), AV.int IntKind.i64 (IntKind.i64.wrap ((↑i : Int) + (1 : Int))))], heap := [], tags := [] })))))))))))) (.ob ((0 : Int) ≤ (↑i : Int) ∧ (↑i : Int) < (↑l.length : Int) ∧ (↑i : Int).toNat * (5 : Nat) < (evsC l).length) (.ob ((evsC l)[(↑i : Int).toNat * (5 : Nat) + (0 : Nat)]? = some (AV.int IntKind.i64 (l.getD i ev0).kind)) (.split (decide ((l.getD i ev0).kind = (1 : Int))) (.ob ((0 : Int) ≤ (↑i : Int) ∧ (↑i : Int) < (↑l.length : Int) ∧ (↑i : Int).toNat * (5 : Nat) < (evsC l).length) (.ob ((evsC l)[(↑i : Int).toNat * (5 : Nat) + (0 : Nat)]? = some (AV.int IntKind.i64 (l.getD i ev0).kind)) (.split (decide ((l.getD i ev0).kind = (3 : Int))) (.split (decide ((64 : Int) < IntKind.i64.wrap (IntKind.i64.wrap (n + (1 : Int)) - (1 : Int)))) (.ob ((-1 : Int) = x) (.tt)) (.head (pt Try.f37 0) ({ tmps := [((0 : Nat), AV.sl none l.length (evsC l) Own.no), ((3 : Nat), AV.int IntKind.i64 (IntKind.i64.wrap (IntKind.i64.wrap (n + (1 : Int)) - (1 : Int)))), ((4 : Nat), AV.int IntKind.i64 (IntKind.i64.wrap ((↑i : Int) + (1 : Int))))], heap := [], tags := [] }))) (.split (decide ((64 : Int) < IntKind.i64.wrap (n + (1 : Int)))) (.ob ((-1 : Int) = x) (.tt)) (.head (pt Try.f37 0) ({ tmps := [((0 : Nat), AV.sl none l.length (evsC l) Own.no), ((3 : Nat), AV.int IntKind.i64 (IntKind.i64.wrap (n + (1 : Int)))), ((4 : Nat), AV.int IntKind.i64 (IntKind.i64.wrap ((↑i : Int) + (1 : Int))))], heap := [], tags := [] })))))) (.ob ((0 : Int) ≤ (↑i : Int) ∧ (↑i : Int) < (↑l.length : Int) ∧ (↑i : Int).toNat * (5 : Nat) < (evsC l).length) (.ob ((evsC l)[(↑i : Int).toNat * (5 : Nat) + (0 : Nat)]? = some (AV.int IntKind.i64 (l.getD i ev0).kind)) (.split (decide ((l.getD i ev0).kind = (3 : Int))) (.split (decide ((64 : Int) < IntKind.i64.wrap (n - (1 : Int)))) (.ob ((-1 : Int) = x) (.tt)) (.head (pt Try.f37 0) ({ tmps := [((0 : Nat), AV.sl none l.length (evsC l) Own.no), ((3 : Nat), AV.int IntKind.i64 (IntKind.i64.wrap (n - (1 : Int)))), ((4 : Nat), AV.int IntKind.i64 (IntKind.i64.wrap ((↑i : Int) + (1 : Int))))], heap := [], tags := [] }))) (.split (decide ((64 : Int) < n)) (.ob ((-1 : Int) = x) (.tt)) (.head (pt Try.f37 0) ({ tmps := [((0 : Nat), AV.sl none l.length (evsC l) Own.no), ((3 : Nat), AV.int IntKind.i64 n), ((4 : Nat), AV.int IntKind.i64 (IntKind.i64.wrap ((↑i : Int) + (1 : Int))))], heap := [], tags := [] })))))))))))))) (.ob ((-1 : Int) = x) (.tt)))))) (.ob (n = x) (.tt))) (by kernel_rfl) hx⟩
theorem depth_e (l : List Ev) (n : Int) (i : Nat) (b : Bool) (hi : i = l.length) (hl : l.length ≤ 1048600) (hd : DocP l i) (hn : n = dep l i ∧ 0 ≤ n ∧ n ≤ 64) : ∃ x : Int, (x = 0 → DocP l l.length ∧ dep l l.length = 0) ∧ HT Try.prog Try.f37.ntmps (pt Try.f37 0) (stD l n i) (EndsA Γ (.pure [] (.int .i64 x)) Try.f37) := by
    have H : ∃ x : Int, (x = 0 → DocP l l.length ∧ dep l l.length = 0) ∧ PT.holds Try.prog Try.f37.ntmps (EndsA Γ (.pure [] (.int .i64 x)) Try.f37) (.split (decide ((↑i : Int) < (↑l.length : Int))) (.ob ((0 : Int) ≤ (↑i : Int) ∧ (↑i : Int) < (↑l.length : Int) ∧ (↑i : Int).toNat * (5 : Nat) < (evsC l).length) (.ob (List.take (5 : Nat) (List.drop ((↑i : Int).toNat * (5 : Nat)) (evsC l)) = [AV.int IntKind.i64 (l.getD i ev0).kind, AV.str (l.getD i ev0).nm.sp, AV.str (l.getD i ev0).nm.lo, AV.sl none (l.getD i ev0).attrs.length (atsC (l.getD i ev0).attrs) Own.no, AV.str (l.getD i ev0).text]) (.ob (Ctr Try.prog (52 : Nat) [AV.agg [AV.int IntKind.i64 (l.getD i ev0).kind, AV.str (l.getD i ev0).nm.sp, AV.str (l.getD i ev0).nm.lo, AV.sl none (l.getD i ev0).attrs.length (atsC (l.getD i ev0).attrs) Own.no, AV.str (l.getD i ev0).text]] (AV.bool b)) (.split (b) (.split (!decide (n = (0 : Int)) == decide ((↑i : Int) = (0 : Int))) (.ob ((-1 : Int) = x) (.tt)) (.split (decide ((↑i : Int) = (0 : Int))) (.ob ((0 : Int) ≤ (↑i : Int) ∧ (↑i : Int) < (↑l.length : Int) ∧ (↑i : Int).toNat * (5 : Nat) < (evsC l).length) (.ob ((evsC l)[(↑i : Int).toNat * (5 : Nat) + (0 : Nat)]? = some (AV.int IntKind.i64 (l.getD i ev0).kind)) (.split (!decide ((l.getD i ev0).kind = (1 : Int))) (.ob ((-1 : Int) = x) (.tt)) (.ob ((0 : Int) ≤ (↑i : Int) ∧ (↑i : Int) < (↑l.length : Int) ∧ (↑i : Int).toNat * (5 : Nat) < (evsC l).length) (.ob ((evsC l)[(↑i : Int).toNat * (5 : Nat) + (0 : Nat)]? = some (AV.int IntKind.i64 (l.getD i ev0).kind)) (.split (decide ((l.getD i ev0).kind = (2 : Int))) (.ob ((0 : Int) ≤ IntKind.i64.wrap ((↑i : Int) - (1 : Int)) ∧ IntKind.i64.wrap ((↑i : Int) - (1 : Int)) < (↑l.length : Int) ∧ (IntKind.i64.wrap ((↑i : Int) - (1 : Int))).toNat * (5 : Nat) < (evsC l).length) (.ob ((evsC l)[(IntKind.i64.wrap ((↑i : Int) - (1 : Int))).toNat * (5 : Nat) + (0 : Nat)]? = some (AV.int IntKind.i64 (l.getD (i - (1 : Nat)) ev0).kind)) (.split (decide ((l.getD (i - (1 : Nat)) ev0).kind = (2 : Int))) (.ob ((-1 : Int) = x) (.tt)) (.ob ((0 : Int) ≤ (↑i : Int) ∧ (↑i : Int) < (↑l.length : Int) ∧ (↑i : Int).toNat * (5 : Nat) < (evsC l).length) (.ob ((evsC l)[(↑i : Int).toNat * (5 : Nat) + (0 : Nat)]? = some (AV.int IntKind.i64 (l.getD i ev0).kind)) (.split (decide ((l.getD i ev0).kind = (1 : Int))) (.ob ((0 : Int) ≤ (↑i : Int) ∧ (↑i : Int) < (↑l.length : Int) ∧ (↑i : Int).toNat * (5 : Nat) < (evsC l).length) (.ob ((evsC l)[(↑i : Int).toNat * (5 : Nat) + (0 : Nat)]? = some (AV.int IntKind.i64 (l.getD i ev0).kind)) (.split (decide ((l.getD i ev0).kind = (3 : Int))) (.split (decide ((64 : Int) < IntKind.i64.wrap (IntKind.i64.wrap (n + (1 : Int)) - (1 : Int)))) (.ob ((-1 : Int) = x) (.tt)) (.head (pt Try.f37 0) ({ tmps := [((0 : Nat), AV.sl none l.length (evsC l) Own.no), ((3 : Nat), AV.int IntKind.i64 (IntKind.i64.wrap (IntKind.i64.wrap (n + (1 : Int)) - (1 : Int)))), ((4 : Nat), AV.int IntKind.i64 (IntKind.i64.wrap ((↑i : Int) + (1 : Int))))], heap := [], tags := [] }))) (.split (decide ((64 : Int) < IntKind.i64.wrap (n + (1 : Int)))) (.ob ((-1 : Int) = x) (.tt)) (.head (pt Try.f37 0) ({ tmps := [((0 : Nat), AV.sl none l.length (evsC l) Own.no), ((3 : Nat), AV.int IntKind.i64 (IntKind.i64.wrap (n + (1 : Int)))), ((4 : Nat), AV.int IntKind.i64 (IntKind.i64.wrap ((↑i : Int) + (1 : Int))))], heap := [], tags := [] })))))) (.ob ((0 : Int) ≤ (↑i : Int) ∧ (↑i : Int) < (↑l.length : Int) ∧ (↑i : Int).toNat * (5 : Nat) < (evsC l).length) (.ob ((evsC l)[(↑i : Int).toNat * (5 : Nat) + (0 : Nat)]? = some (AV.int IntKind.i64 (l.getD i ev0).kind)) (.split (decide ((l.getD i ev0).kind = (3 : Int))) (.split (decide ((64 : Int) < IntKind.i64.wrap (n - (1 : Int)))) (.ob ((-1 : Int) = x) (.tt)) (.head (pt Try.f37 0) ({ tmps := [((0 : Nat), AV.sl none l.length (evsC l) Own.no), ((3 : Nat), AV.int IntKind.i64 (IntKind.i64.wrap (n - (1 : Int)))), ((4 : Nat), AV.int IntKind.i64 (IntKind.i64.wrap ((↑i : Int) + (1 : Int))))], heap := [], tags := [] }))) (.split (decide ((64 : Int) < n)) (.ob ((-1 : Int) = x) (.tt)) (.head (pt Try.f37 0) ({ tmps := [((0 : Nat), AV.sl none l.length (evsC l) Own.no), ((3 : Nat), AV.int IntKind.i64 n), ((4 : Nat), AV.int IntKind.i64 (IntKind.i64.wrap ((↑i : Int) + (1 : Int))))], heap := [], tags := [] })))))))))))) (.ob ((0 : Int) ≤ (↑i : Int) ∧ (↑i : Int) < (↑l.length : Int) ∧ (↑i : Int).toNat * (5 : Nat) < (evsC l).length) (.ob ((evsC l)[(↑i : Int).toNat * (5 : Nat) + (0 : Nat)]? = some (AV.int IntKind.i64 (l.getD i ev0).kind)) (.split (decide ((l.getD i ev0).kind = (1 : Int))) (.ob ((0 : Int) ≤ (↑i : Int) ∧ (↑i : Int) < (↑l.length : Int) ∧ (↑i : Int).toNat * (5 : Nat) < (evsC l).length) (.ob ((evsC l)[(↑i : Int).toNat * (5 : Nat) + (0 : Nat)]? = some (AV.int IntKind.i64 (l.getD i ev0).kind)) (.split (decide ((l.getD i ev0).kind = (3 : Int))) (.split (decide ((64 : Int) < IntKind.i64.wrap (IntKind.i64.wrap (n + (1 : Int)) - (1 : Int)))) (.ob ((-1 : Int) = x) (.tt)) (.head (pt Try.f37 0) ({ tmps := [((0 : Nat), AV.sl none l.length (evsC l) Own.no), ((3 : Nat), AV.int IntKind.i64 (IntKind.i64.wrap (IntKind.i64.wrap (n + (1 : Int)) - (1 : Int)))), ((4 : Nat), AV.int IntKind.i64 (IntKind.i64.wrap ((↑i : Int) + (1 : Int))))], heap := [], tags := [] }))) (.split (decide ((64 : Int) < IntKind.i64.wrap (n + (1 : Int)))) (.ob ((-1 : Int) = x) (.tt)) (.head (pt Try.f37 0) ({ tmps := [((0 : Nat), AV.sl none l.length (evsC l) Own.no), ((3 : Nat), AV.int IntKind.i64 (IntKind.i64.wrap (n + (1 : Int)))), ((4 : Nat), AV.int IntKind.i64 (IntKind.i64.wrap ((↑i : Int) + (1 : Int))))], heap := [], tags := [] })))))) (.ob ((0 : Int) ≤ (↑i : Int) ∧ (↑i : Int) < (↑l.length : Int) ∧ (↑i : Int).toNat * (5 : Nat) < (evsC l).length) (.ob ((evsC l)[(↑i : Int).toNat * (5 : Nat) + (0 : Nat)]? = some (AV.int IntKind.i64 (l.getD i ev0).kind)) (.split (decide ((l.getD i ev0).kind = (3 : Int))) (.split (decide ((64 : Int) < IntKind.i64.wrap (n - (1 : Int)))) (.ob ((-1 : Int) = x) (.tt)) (.head (pt Try.f37 0) ({ tmps := [((0 : Nat), AV.sl none l.length (evsC l) Own.no), ((3 : Nat), AV.int IntKind.i64 (IntKind.i64.wrap (n - (1 : Int)))), ((4 : Nat), AV.int IntKind.i64 (IntKind.i64.wrap ((↑i : Int) + (1 : Int))))], heap := [], tags := [] }))) (.split (decide ((64 : Int) < n)) (.ob ((-1 : Int) = x) (.tt)) (.head (pt Try.f37 0) ({ tmps := [((0 : Nat), AV.sl none l.length (evsC l) Own.no), ((3 : Nat), AV.int IntKind.i64 n), ((4 : Nat), AV.int IntKind.i64 (IntKind.i64.wrap ((↑i : Int) + (1 : Int))))], heap := [], tags := [] }))))))))))))))) (.ob ((0 : Int) ≤ (↑i : Int) ∧ (↑i : Int) < (↑l.length : Int) ∧ (↑i : Int).toNat * (5 : Nat) < (evsC l).length) (.ob ((evsC l)[(↑i : Int).toNat * (5 : Nat) + (0 : Nat)]? = some (AV.int IntKind.i64 (l.getD i ev0).kind)) (.split (decide ((l.getD i ev0).kind = (2 : Int))) (.ob ((0 : Int) ≤ IntKind.i64.wrap ((↑i : Int) - (1 : Int)) ∧ IntKind.i64.wrap ((↑i : Int) - (1 : Int)) < (↑l.length : Int) ∧ (IntKind.i64.wrap ((↑i : Int) - (1 : Int))).toNat * (5 : Nat) < (evsC l).length) (.ob ((evsC l)[(IntKind.i64.wrap ((↑i : Int) - (1 : Int))).toNat * (5 : Nat) + (0 : Nat)]? = some (AV.int IntKind.i64 (l.getD (i - (1 : Nat)) ev0).kind)) (.split (decide ((l.getD (i - (1 : Nat)) ev0).kind = (2 : Int))) (.ob ((-1 : Int) = x) (.tt)) (.ob ((0 : Int) ≤ (↑i : Int) ∧ (↑i : Int) < (↑l.length : Int) ∧ (↑i : Int).toNat * (5 : Nat) < (evsC l).length) (.ob ((evsC l)[(↑i : Int).toNat * (5 : Nat) + (0 : Nat)]? = some (AV.int IntKind.i64 (l.getD i ev0).kind)) (.split (decide ((l.getD i ev0).kind = (1 : Int))) (.ob ((0 : Int) ≤ (↑i : Int) ∧ (↑i : Int) < (↑l.length : Int) ∧ (↑i : Int).toNat * (5 : Nat) < (evsC l).length) (.ob ((evsC l)[(↑i : Int).toNat * (5 : Nat) + (0 : Nat)]? = some (AV.int IntKind.i64 (l.getD i ev0).kind)) (.split (decide ((l.getD i ev0).kind = (3 : Int))) (.split (decide ((64 : Int) < IntKind.i64.wrap (IntKind.i64.wrap (n + (1 : Int)) - (1 : Int)))) (.ob ((-1 : Int) = x) (.tt)) (.head (pt Try.f37 0) ({ tmps := [((0 : Nat), AV.sl none l.length (evsC l) Own.no), ((3 : Nat), AV.int IntKind.i64 (IntKind.i64.wrap (IntKind.i64.wrap (n + (1 : Int)) - (1 : Int)))), ((4 : Nat), AV.int IntKind.i64 (IntKind.i64.wrap ((↑i : Int) + (1 : Int))))], heap := [], tags := [] }))) (.split (decide ((64 : Int) < IntKind.i64.wrap (n + (1 : Int)))) (.ob ((-1 : Int) = x) (.tt)) (.head (pt Try.f37 0) ({ tmps := [((0 : Nat), AV.sl none l.length (evsC l) Own.no), ((3 : Nat), AV.int IntKind.i64 (IntKind.i64.wrap (n + (1 : Int)))), ((4 : Nat), AV.int IntKind.i64 (IntKind.i64.wrap ((↑i : Int) + (1 : Int))))], heap := [], tags := [] })))))) (.ob ((0 : Int) ≤ (↑i : Int) ∧ (↑i : Int) < (↑l.length : Int) ∧ (↑i : Int).toNat * (5 : Nat) < (evsC l).length) (.ob ((evsC l)[(↑i : Int).toNat * (5 : Nat) + (0 : Nat)]? = some (AV.int IntKind.i64 (l.getD i ev0).kind)) (.split (decide ((l.getD i ev0).kind = (3 : Int))) (.split (decide ((64 : Int) < IntKind.i64.wrap (n - (1 : Int)))) (.ob ((-1 : Int) = x) (.tt)) (.head (pt Try.f37 0) ({ tmps := [((0 : Nat), AV.sl none l.length (evsC l) Own.no), ((3 : Nat), AV.int IntKind.i64 (IntKind.i64.wrap (n - (1 : Int)))), ((4 : Nat), AV.int IntKind.i64 (IntKind.i64.wrap ((↑i : Int) + (1 : Int))))], heap := [], tags := [] }))) (.split (decide ((64 : Int) < n)) (.ob ((-1 : Int) = x) (.tt)) (.head (pt Try.f37 0) ({ tmps := [((0 : Nat), AV.sl none l.length (evsC l) Own.no), ((3 : Nat), AV.int IntKind.i64 n), ((4 : Nat), AV.int IntKind.i64 (IntKind.i64.wrap ((↑i : Int) + (1 : Int))))], heap := [], tags := [] })))))))))))) (.ob ((0 : Int) ≤ (↑i : Int) ∧ (↑i : Int) < (↑l.length : Int) ∧ (↑i : Int).toNat * (5 : Nat) < (evsC l).length) (.ob ((evsC l)[(↑i : Int).toNat * (5 : Nat) + (0 : Nat)]? = some (AV.int IntKind.i64 (l.getD i ev0).kind)) (.split (decide ((l.getD i ev0).kind = (1 : Int))) (.ob ((0 : Int) ≤ (↑i : Int) ∧ (↑i : Int) < (↑l.length : Int) ∧ (↑i : Int).toNat * (5 : Nat) < (evsC l).length) (.ob ((evsC l)[(↑i : Int).toNat * (5 : Nat) + (0 : Nat)]? = some (AV.int IntKind.i64 (l.getD i ev0).kind)) (.split (decide ((l.getD i ev0).kind = (3 : Int))) (.split (decide ((64 : Int) < IntKind.i64.wrap (IntKind.i64.wrap (n + (1 : Int)) - (1 : Int)))) (.ob ((-1 : Int) = x) (.tt)) (.head (pt Try.f37 0) ({ tmps := [((0 : Nat), AV.sl none l.length (evsC l) Own.no), ((3 : Nat), AV.int IntKind.i64 (IntKind.i64.wrap (IntKind.i64.wrap (n + (1 : Int)) - (1 : Int)))), ((4 : Nat), AV.int IntKind.i64 (IntKind.i64.wrap ((↑i : Int) + (1 : Int))))], heap := [], tags := [] }))) (.split (decide ((64 : Int) < IntKind.i64.wrap (n + (1 : Int)))) (.ob ((-1 : Int) = x) (.tt)) (.head (pt Try.f37 0) ({ tmps := [((0 : Nat), AV.sl none l.length (evsC l) Own.no), ((3 : Nat), AV.int IntKind.i64 (IntKind.i64.wrap (n + (1 : Int)))), ((4 : Nat), AV.int IntKind.i64 (IntKind.i64.wrap ((↑i : Int) + (1 : Int))))], heap := [], tags := [] })))))) (.ob ((0 : Int) ≤ (↑i : Int) ∧ (↑i : Int) < (↑l.length : Int) ∧ (↑i : Int).toNat * (5 : Nat) < (evsC l).length) (.ob ((evsC l)[(↑i : Int).toNat * (5 : Nat) + (0 : Nat)]? = some (AV.int IntKind.i64 (l.getD i ev0).kind)) (.split (decide ((l.getD i ev0).kind = (3 : Int))) (.split (decide ((64 : Int) < IntKind.i64.wrap (n - (1 : Int)))) (.ob ((-1 : Int) = x) (.tt)) (.head (pt Try.f37 0) ({ tmps := [((0 : Nat), AV.sl none l.length (evsC l) Own.no), ((3 : Nat), AV.int IntKind.i64 (IntKind.i64.wrap (n - (1 : Int)))), ((4 : Nat), AV.int IntKind.i64 (IntKind.i64.wrap ((↑i : Int) + (1 : Int))))], heap := [], tags := [] }))) (.split (decide ((64 : Int) < n)) (.ob ((-1 : Int) = x) (.tt)) (.head (pt Try.f37 0) ({ tmps := [((0 : Nat), AV.sl none l.length (evsC l) Own.no), ((3 : Nat), AV.int IntKind.i64 n), ((4 : Nat), AV.int IntKind.i64 (IntKind.i64.wrap ((↑i : Int) + (1 : Int))))], heap := [], tags := [] })))))))))))))) (.ob ((-1 : Int) = x) (.tt)))))) (.ob (n = x) (.tt))) := by
      subst hi
      have h0 : decide ((l.length : Int) < l.length) = false := by simp
      simp only [PT.holds, h0, Bool.false_eq_true, false_implies, true_and, true_implies]
      exact ⟨n, fun h => ⟨hd, by omega⟩, rfl, trivial⟩
    obtain ⟨x, hR, hx⟩ := H
    exact ⟨x, hR, HT.walk Γ_ok mo_ok (⟨([(14, .val (.agg (evC (l.getD i ev0)))), (15, .call [] (.bool b)), (32, .val (.int .i64 (l.getD i ev0).kind)), (40, .val (.int .i64 (l.getD i ev0).kind)), (55, .val (.int .i64 (l.getD i ev0).kind)), (63, .val (.int .i64 (l.getD i ev0).kind)), (48, .val (.int .i64 (l.getD (i - 1) ev0).kind))] ++ annL), sp37, hd37 [] [] [] [], [], .pure [] (.int .i64 x)⟩ : Wk) 4000 (T := .split (decide ((↑i : Int) < (↑l.length : Int))) (.ob ((0 : Int) ≤ (↑i : Int) ∧ (↑i : Int) < (↑l.length : Int) ∧ (↑i : Int).toNat * (5 : Nat) < (evsC l).length) (.ob (List.take (5 : Nat) (List.drop ((↑i : Int).toNat * (5 : Nat)) (evsC l)) = [AV.int IntKind.i64 (l.getD i ev0).kind, AV.str (l.getD i ev0).nm.sp, AV.str (l.getD i ev0).nm.lo, AV.sl none (l.getD i ev0).attrs.length (atsC (l.getD i ev0).attrs) Own.no, AV.str (l.getD i ev0).text]) (.ob (Ctr Try.prog (52 : Nat) [AV.agg [AV.int IntKind.i64 (l.getD i ev0).kind, AV.str (l.getD i ev0).nm.sp, AV.str (l.getD i ev0).nm.lo, AV.sl none (l.getD i ev0).attrs.length (atsC (l.getD i ev0).attrs) Own.no, AV.str (l.getD i ev0).text]] (AV.bool b)) (.split (b) (.split (!decide (n = (0 : Int)) == decide ((↑i : Int) = (0 : Int))) (.ob ((-1 : Int) = x) (.tt)) (.split (decide ((↑i : Int) = (0 : Int))) (.ob ((0 : Int) ≤ (↑i : Int) ∧ (↑i : Int) < (↑l.length : Int) ∧ (↑i : Int).toNat * (5 : Nat) < (evsC l).length) (.ob ((evsC l)[(↑i : Int).toNat * (5 : Nat) + (0 : Nat)]? = some (AV.int IntKind.i64 (l.getD i ev0).kind)) (.split (!decide ((l.getD i ev0).kind = (1 : Int))) (.ob ((-1 : Int) = x) (.tt)) (.ob ((0 : Int) ≤ (↑i : Int) ∧ (↑i : Int) < (↑l.length : Int) ∧ (↑i : Int).toNat * (5 : Nat) < (evsC l).length) (.ob ((evsC l)[(↑i : Int).toNat * (5 : Nat) + (0 : Nat)]? = some (AV.int IntKind.i64 (l.getD i ev0).kind)) (.split (decide ((l.getD i ev0).kind = (2 : Int))) (.ob ((0 : Int) ≤ IntKind.i64.wrap ((↑i : Int) - (1 : Int)) ∧ IntKind.i64.wrap ((↑i : Int) - (1 : Int)) < (↑l.length : Int) ∧ (IntKind.i64.wrap ((↑i : Int) - (1 : Int))).toNat * (5 : Nat) < (evsC l).length) (.ob ((evsC l)[(IntKind.i64.wrap ((↑i : Int) - (1 : Int))).toNat * (5 : Nat) + (0 : Nat)]? = some (AV.int IntKind.i64 (l.getD (i - (1 : Nat)) ev0).kind)) (.split (decide ((l.getD (i - (1 : Nat)) ev0).kind = (2 : Int))) (.ob ((-1 : Int) = x) (.tt)) (.ob ((0 : Int) ≤ (↑i : Int) ∧ (↑i : Int) < (↑l.length : Int) ∧ (↑i : Int).toNat * (5 : Nat) < (evsC l).length) (.ob ((evsC l)[(↑i : Int).toNat * (5 : Nat) + (0 : Nat)]? = some (AV.int IntKind.i64 (l.getD i ev0).kind)) (.split (decide ((l.getD i ev0).kind = (1 : Int))) (.ob ((0 : Int) ≤ (↑i : Int) ∧ (↑i : Int) < (↑l.length : Int) ∧ (↑i : Int).toNat * (5 : Nat) < (evsC l).length) (.ob ((evsC l)[(↑i : Int).toNat * (5 : Nat) + (0 : Nat)]? = some (AV.int IntKind.i64 (l.getD i ev0).kind)) (.split (decide ((l.getD i ev0).kind = (3 : Int))) (.split (decide ((64 : Int) < IntKind.i64.wrap (IntKind.i64.wrap (n + (1 : Int)) - (1 : Int)))) (.ob ((-1 : Int) = x) (.tt)) (.head (pt Try.f37 0) ({ tmps := [((0 : Nat), AV.sl none l.length (evsC l) Own.no), ((3 : Nat), AV.int IntKind.i64 (IntKind.i64.wrap (IntKind.i64.wrap (n + (1 : Int)) - (1 : Int)))), ((4 : Nat), AV.int IntKind.i64 (IntKind.i64.wrap ((↑i : Int) + (1 : Int))))], heap := [], tags := [] }))) (.split (decide ((64 : Int) < IntKind.i64.wrap (n + (1 : Int)))) (.ob ((-1 : Int) = x) (.tt)) (.head (pt Try.f37 0) ({ tmps := [((0 : Nat), AV.sl none l.length (evsC l) Own.no), ((3 : Nat), AV.int IntKind.i64 (IntKind.i64.wrap (n + (1 : Int)))), ((4 : Nat), AV.int IntKind.i64 (IntKind.i64.wrap ((↑i : Int) + (1 : Int))))], heap := [], tags := [] })))))) (.ob ((0 : Int) ≤ (↑i : Int) ∧ (↑i : Int) < (↑l.length : Int) ∧ (↑i : Int).toNat * (5 : Nat) < (evsC l).length) (.ob ((evsC l)[(↑i : Int).toNat * (5 : Nat) + (0 : Nat)]? = some (AV.int IntKind.i64 (l.getD i ev0).kind)) (.split (decide ((l.getD i ev0).kind = (3 : Int))) (.split (decide ((64 : Int) < IntKind.i64.wrap (n - (1 : Int)))) (.ob ((-1 : Int) = x) (.tt)) (.head (pt Try.f37 0) ({ tmps := [((0 : Nat), AV.sl none l.length (evsC l) Own.no), ((3 : Nat), AV.int IntKind.i64 (IntKind.i64.wrap (n - (1 : Int)))), ((4 : Nat), AV.int IntKind.i64 (IntKind.i64.wrap ((↑i : Int) + (1 : Int))))], heap := [], tags := [] }))) (.split (decide ((64 : Int) < n)) (.ob ((-1 : Int) = x) (.tt)) (.head (pt Try.f37 0) ({ tmps := [((0 : Nat), AV.sl none l.length (evsC l) Own.no), ((3 : Nat), AV.int IntKind.i64 n), ((4 : Nat), AV.int IntKind.i64 (IntKind.i64.wrap ((↑i : Int) + (1 : Int))))], heap := [], tags := [] })))))))))))) (.ob ((0 : Int) ≤ (↑i : Int) ∧ (↑i : Int) < (↑l.length : Int) ∧ (↑i : Int).toNat * (5 : Nat) < (evsC l).length) (.ob ((evsC l)[(↑i : Int).toNat * (5 : Nat) + (0 : Nat)]? = some (AV.int IntKind.i64 (l.getD i ev0).kind)) (.split (decide ((l.getD i ev0).kind = (1 : Int))) (.ob ((0 : Int) ≤ (↑i : Int) ∧ (↑i : Int) < (↑l.length : Int) ∧ (↑i : Int).toNat * (5 : Nat) < (evsC l).length) (.ob ((evsC l)[(↑i : Int).toNat * (5 : Nat) + (0 : Nat)]? = some (AV.int IntKind.i64 (l.getD i ev0).kind)) (.split (decide ((l.getD i ev0).kind = (3 : Int))) (.split (decide ((64 : Int) < IntKind.i64.wrap (IntKind.i64.wrap (n + (1 : Int)) - (1 : Int)))) (.ob ((-1 : Int) = x) (.tt)) (.head (pt Try.f37 0) ({ tmps := [((0 : Nat), AV.sl none l.length (evsC l) Own.no), ((3 : Nat), AV.int IntKind.i64 (IntKind.i64.wrap (IntKind.i64.wrap (n + (1 : Int)) - (1 : Int)))), ((4 : Nat), AV.int IntKind.i64 (IntKind.i64.wrap ((↑i : Int) + (1 : Int))))], heap := [], tags := [] }))) (.split (decide ((64 : Int) < IntKind.i64.wrap (n + (1 : Int)))) (.ob ((-1 : Int) = x) (.tt)) (.head (pt Try.f37 0) ({ tmps := [((0 : Nat), AV.sl none l.length (evsC l) Own.no), ((3 : Nat), AV.int IntKind.i64 (IntKind.i64.wrap (n + (1 : Int)))), ((4 : Nat), AV.int IntKind.i64 (IntKind.i64.wrap ((↑i : Int) + (1 : Int))))], heap := [], tags := [] })))))) (.ob ((0 : Int) ≤ (↑i : Int) ∧ (↑i : Int) < (↑l.length : Int) ∧ (↑i : Int).toNat * (5 : Nat) < (evsC l).length) (.ob ((evsC l)[(↑i : Int).toNat * (5 : Nat) + (0 : Nat)]? = some (AV.int IntKind.i64 (l.getD i ev0).kind)) (.split (decide ((l.getD i ev0).kind = (3 : Int))) (.split (decide ((64 : Int) < IntKind.i64.wrap (n - (1 : Int)))) (.ob ((-1 : Int) = x) (.tt)) (.head (pt Try.f37 0) ({ tmps := [((0 : Nat), AV.sl none l.length (evsC l) Own.no), ((3 : Nat), AV.int IntKind.i64 (IntKind.i64.wrap (n - (1 : Int)))), ((4 : Nat), AV.int IntKind.i64 (IntKind.i64.wrap ((↑i : Int) + (1 : Int))))], heap := [], tags := [] }))) (.split (decide ((64 : Int) < n)) (.ob ((-1 : Int) = x) (.tt)) (.head (pt Try.f37 0) ({ tmps := [((0 : Nat), AV.sl none l.length (evsC l) Own.no), ((3 : Nat), AV.int IntKind.i64 n), ((4 : Nat), AV.int IntKind.i64 (IntKind.i64.wrap ((↑i : Int) + (1 : Int))))], heap := [], tags := [] }))))))))))))))) (.ob ((0 : Int) ≤ (↑i : Int) ∧ (↑i : Int) < (↑l.length : Int) ∧ (↑i : Int).toNat * (5 : Nat) < (evsC l).length) (.ob ((evsC l)[(↑i : Int).toNat * (5 : Nat) + (0 : Nat)]? = some (AV.int IntKind.i64 (l.getD i ev0).kind)) (.split (decide ((l.getD i ev0).kind = (2 : Int))) (.ob ((0 : Int) ≤ IntKind.i64.wrap ((↑i : Int) - (1 : Int)) ∧ IntKind.i64.wrap ((↑i : Int) - (1 : Int)) < (↑l.length : Int) ∧ (IntKind.i64.wrap ((↑i : Int) - (1 : Int))).toNat * (5 : Nat) < (evsC l).length) (.ob ((evsC l)[(IntKind.i64.wrap ((↑i : Int) - (1 : Int))).toNat * (5 : Nat) + (0 : Nat)]? = some (AV.int IntKind.i64 (l.getD (i - (1 : Nat)) ev0).kind)) (.split (decide ((l.getD (i - (1 : Nat)) ev0).kind = (2 : Int))) (.ob ((-1 : Int) = x) (.tt)) (.ob ((0 : Int) ≤ (↑i : Int) ∧ (↑i : Int) < (↑l.length : Int) ∧ (↑i : Int).toNat * (5 : Nat) < (evsC l).length) (.ob ((evsC l)[(↑i : Int).toNat * (5 : Nat) + (0 : Nat)]? = some (AV.int IntKind.i64 (l.getD i ev0).kind)) (.split (decide ((l.getD i ev0).kind = (1 : Int))) (.ob ((0 : Int) ≤ (↑i : Int) ∧ (↑i : Int) < (↑l.length : Int) ∧ (↑i : Int).toNat * (5 : Nat) < (evsC l).length) (.ob ((evsC l)[(↑i : Int).toNat * (5 : Nat) + (0 : Nat)]? = some (AV.int IntKind.i64 (l.getD i ev0).kind)) (.split (decide ((l.getD i ev0).kind = (3 : Int))) (.split (decide ((64 : Int) < IntKind.i64.wrap (IntKind.i64.wrap (n + (1 : Int)) - (1 : Int)))) (.ob ((-1 : Int) = x) (.tt)) (.head (pt Try.f37 0) ({ tmps := [((0 : Nat), AV.sl none l.length (evsC l) Own.no), ((3 : Nat), AV.int IntKind.i64 (IntKind.i64.wrap (IntKind.i64.wrap (n + (1 : Int)) - (1 : Int)))), ((4 : Nat), AV.int IntKind.i64 (IntKind.i64.wrap ((↑i : Int) + (1 : Int))))], heap := [], tags := [] }))) (.split (decide ((64 : Int) < IntKind.i64.wrap (n + (1 : Int)))) (.ob ((-1 : Int) = x) (.tt)) (.head (pt Try.f37 0) ({ tmps := [((0 : Nat), AV.sl none l.length (evsC l) Own.no), ((3 : Nat), AV.int IntKind.i64 (IntKind.i64.wrap (n + (1 : Int)))), ((4 : Nat), AV.int IntKind.i64 (IntKind.i64.wrap ((↑i : Int) + (1 : Int))))], heap := [], tags := [] })))))) (.ob ((0 : Int) ≤ (↑i : Int) ∧ (↑i : Int) < (↑l.length : Int) ∧ (↑i : Int).toNat * (5 : Nat) < (evsC l).length) (.ob ((evsC l)[(↑i : Int).toNat * (5 : Nat) + (0 : Nat)]? = some (AV.int IntKind.i64 (l.getD i ev0).kind)) (.split (decide ((l.getD i ev0).kind = (3 : Int))) (.split (decide ((64 : Int) < IntKind.i64.wrap (n - (1 : Int)))) (.ob ((-1 : Int) = x) (.tt)) (.head (pt Try.f37 0) ({ tmps := [((0 : Nat), AV.sl none l.length (evsC l) Own.no), ((3 : Nat), AV.int IntKind.i64 (IntKind.i64.wrap (n - (1 : Int)))), ((4 : Nat), AV.int IntKind.i64 (IntKind.i64.wrap ((↑i : Int) + (1 : Int))))], heap := [], tags := [] }))) (.split (decide ((64 : Int) < n)) (.ob ((-1 : Int) = x) (.tt)) (.head (pt Try.f37 0) ({ tmps := [((0 : Nat), AV.sl none l.length (evsC l) Own.no), ((3 : Nat), AV.int IntKind.i64 n), ((4 : Nat), AV.int IntKind.i64 (IntKind.i64.wrap ((↑i : Int) + (1 : Int))))], heap := [], tags := [] })))))))))))) (.ob ((0 : Int) ≤ (↑i : Int) ∧ (↑i : Int) < (↑l.length : Int) ∧ (↑i : Int).toNat * (5 : Nat) < (evsC l).length) (.ob ((evsC l)[(↑i : Int).toNat * (5 : Nat) + (0 : Nat)]? = some (AV.int IntKind.i64 (l.getD i ev0).kind)) (.split (decide ((l.getD i ev0).kind = (1 : Int))) (.ob ((0 : Int) ≤ (↑i : Int) ∧ (↑i : Int) < (↑l.length : Int) ∧ (↑i : Int).toNat * (5 : Nat) < (evsC l).length) (.ob ((evsC l)[(↑i : Int).toNat * (5 : Nat) + (0 : Nat)]? = some (AV.int IntKind.i64 (l.getD i ev0).kind)) (.split (decide ((l.getD i ev0).kind = (3 : Int))) (.split (decide ((64 : Int) < IntKind.i64.wrap (IntKind.i64.wrap (n + (1 : Int)) - (1 : Int)))) (.ob ((-1 : Int) = x) (.tt)) (.head (pt Try.f37 0) ({ tmps := [((0 : Nat), AV.sl none l.length (evsC l) Own.no), ((3 : Nat), AV.int IntKind.i64 (IntKind.i64.wrap (IntKind.i64.wrap (n + (1 : Int)) - (1 : Int)))), ((4 : Nat), AV.int IntKind.i64 (IntKind.i64.wrap ((↑i : Int) + (1 : Int))))], heap := [], tags := [] }))) (.split (decide ((64 : Int) < IntKind.i64.wrap (n + (1 : Int)))) (.ob ((-1 : Int) = x) (.tt)) (.head (pt Try.f37 0) ({ tmps := [((0 : Nat), AV.sl none l.length (evsC l) Own.no), ((3 : Nat), AV.int IntKind.i64 (IntKind.i64.wrap (n + (1 : Int)))), ((4 : Nat), AV.int IntKind.i64 (IntKind.i64.wrap ((↑i : Int) + (1 : Int))))], heap := [], tags := [] })))))) (.ob ((0 : Int) ≤ (↑i : Int) ∧ (↑i : Int) < (↑l.length : Int) ∧ (↑i : Int).toNat * (5 : Nat) < (evsC l).length) (.ob ((evsC l)[(↑i : Int).toNat * (5 : Nat) + (0 : Nat)]? = some (AV.int IntKind.i64 (l.getD i ev0).kind)) (.split (decide ((l.getD i ev0).kind = (3 : Int))) (.split (decide ((64 : Int) < IntKind.i64.wrap (n - (1 : Int)))) (.ob ((-1 : Int) = x) (.tt)) (.head (pt Try.f37 0) ({ tmps := [((0 : Nat), AV.sl none l.length (evsC l) Own.no), ((3 : Nat), AV.int IntKind.i64 (IntKind.i64.wrap (n - (1 : Int)))), ((4 : Nat), AV.int IntKind.i64 (IntKind.i64.wrap ((↑i : Int) + (1 : Int))))], heap := [], tags := [] }))) (.split (decide ((64 : Int) < n)) (.ob ((-1 : Int) = x) (.tt)) (.head (pt Try.f37 0) ({ tmps := [((0 : Nat), AV.sl none l.length (evsC l) Own.no), ((3 : Nat), AV.int IntKind.i64 n), ((4 : Nat), AV.int IntKind.i64 (IntKind.i64.wrap ((↑i : Int) + (1 : Int))))], heap := [], tags := [] })))))))))))))) (.ob ((-1 : Int) = x) (.tt)))))) (.ob (n = x) (.tt))) (by kernel_rfl) hx⟩
theorem depth_l (l : List Ev) (hl : l.length ≤ 1048600) (ho : okEvs l) : ∀ d i, i + d = l.length → DocP l i → ∀ n, n = dep l i → 0 ≤ n → n ≤ 64 → ∃ x : Int, (x = 0 → DocP l l.length ∧ dep l l.length = 0) ∧ HT Try.prog Try.f37.ntmps (pt Try.f37 0) (stD l n i) (EndsA Γ (.pure [] (.int .i64 x)) Try.f37) := by
  intro d
  induction d with
  | zero => exact fun i h hd n h1 h2 h3 => depth_e l n i false (by omega) hl hd ⟨h1, h2, h3⟩
  | succ d ih =>
    intro i h hd n h1 h2 h3
    have hi : i < l.length := by omega
    obtain ⟨b, hb, hc⟩ := evr_ex (l.getD i ev0) (ho _ (getD_mem _ _ _ hi))
    exact depth_h l n i b hi hl hd ⟨h1, h2, h3⟩ hb hc (ih (i + 1) (by omega))

theorem depth_ex (l : List Ev) (hl : l.length ≤ 1048600) (ho : okEvs l) : ∃ x : Int, (x = 0 → DocP l l.length ∧ dep l l.length = 0) ∧ Ctr Try.prog 37 [.sl none l.length (evsC l) .no] (.int .i64 x) := by
    have H : ∃ x : Int, (x = 0 → DocP l l.length ∧ dep l l.length = 0) ∧ PT.holds Try.prog Try.f37.ntmps (EndsA Γ (.pure [] (.int .i64 x)) Try.f37) (.head (pt Try.f37 0) ({ tmps := [((0 : Nat), AV.sl none l.length (evsC l) Own.no), ((3 : Nat), AV.int IntKind.i64 (0 : Int)), ((4 : Nat), AV.int IntKind.i64 (0 : Int))], heap := [], tags := [] })) := by
      simp only [PT.holds]
      exact depth_l l hl ho _ 0 (Nat.zero_add _) ⟨fun i h => by omega, fun i h h => by omega, fun h => by omega⟩ 0 rfl (by omega) (by omega)
    obtain ⟨x, hR, hx⟩ := H
    exact ⟨x, hR, Ctr.mk Γ_ok Try.func37 (by kernel_rfl) Try.call37 [] (by kernel_rfl) (HT.walk Γ_ok mo_ok (⟨annL, sp37, hd37 [] [] [] [], [], .pure [] (.int .i64 x)⟩ : Wk) 4000 (T := .head (pt Try.f37 0) ({ tmps := [((0 : Nat), AV.sl none l.length (evsC l) Own.no), ((3 : Nat), AV.int IntKind.i64 (0 : Int)), ((4 : Nat), AV.int IntKind.i64 (0 : Int))], heap := [], tags := [] })) (by kernel_rfl) hx)⟩
theorem whole_ex0 (l : List Ev) (hl : l.length ≤ 1048600) (d : Int) (hd : d = 0 → DocP l l.length ∧ dep l l.length = 0) (hc : Ctr Try.prog 37 [.sl none l.length (evsC l) .no] (.int .i64 d)) : ∃ x : Bool, (x = true → DocP l l.length ∧ dep l l.length = 0 ∧ 0 < l.length) ∧ Ctr Try.prog 27 [.sl none l.length (evsC l) .no] (.bool x) := by
    have H : ∃ x : Bool, (x = true → DocP l l.length ∧ dep l l.length = 0 ∧ 0 < l.length) ∧ PT.holds Try.prog Try.f27.ntmps (EndsA Γ (.pure [] (.bool x)) Try.f27) (.split (decide ((0 : Int) < (↑l.length : Int))) (.ob (Ctr Try.prog (37 : Nat) [AV.sl none l.length (evsC l) Own.no] (AV.int IntKind.i64 d)) (.ob (decide (d = (0 : Int)) = x) (.tt))) (.ob (false = x) (.tt))) := by
      simp only [PT.holds]
      (repeat' first | exact ⟨_, triv, rfl, trivial⟩ | exact ⟨_, triv, rfl⟩ | refine ex_split (fun _ => ?_) (fun _ => ?_) | refine ex_ob ?_ ?_)
      all_goals first | exact hc | (first | exact ⟨_, (fun h => (by cases h)), rfl, trivial⟩ | exact ⟨_, (fun h => (by cases h)), rfl⟩) | (first | exact ⟨_, (fun h => ⟨(hd (by simpa using h)).1, (hd (by simpa using h)).2, by (first | omega | (simp only [decide_eq_true_eq, decide_eq_false_iff_not, Bool.not_eq_true', Bool.not_eq_false', beq_iff_eq, beq_eq_false_iff_ne, decide_eq_decide, ne_eq, Bool.not_eq_eq_eq_not, Bool.not_true, Bool.not_false] at *; omega))⟩), rfl, trivial⟩ | exact ⟨_, (fun h => ⟨(hd (by simpa using h)).1, (hd (by simpa using h)).2, by (first | omega | (simp only [decide_eq_true_eq, decide_eq_false_iff_not, Bool.not_eq_true', Bool.not_eq_false', beq_iff_eq, beq_eq_false_iff_ne, decide_eq_decide, ne_eq, Bool.not_eq_eq_eq_not, Bool.not_true, Bool.not_false] at *; omega))⟩), rfl⟩)
    obtain ⟨x, hR, hx⟩ := H
    exact ⟨x, hR, Ctr.mk Γ_ok Try.func27 (by kernel_rfl) Try.call27 [] (by kernel_rfl) (HT.walk Γ_ok mo_ok (⟨([(8, .call [] (.int .i64 d))] ++ annL), sp27, [], [], .pure [] (.bool x)⟩ : Wk) 4000 (T := .split (decide ((0 : Int) < (↑l.length : Int))) (.ob (Ctr Try.prog (37 : Nat) [AV.sl none l.length (evsC l) Own.no] (AV.int IntKind.i64 d)) (.ob (decide (d = (0 : Int)) = x) (.tt))) (.ob (false = x) (.tt))) (by kernel_rfl) hx)⟩
end Go.Proofs.Ytpffjbbolaehpaa
end

section
set_option linter.unusedVariables false
set_option linter.unusedSimpArgs false
set_option maxRecDepth 100000
namespace Go.Proofs.Ytpffjbbolaehpaa
open Go Go.AX Go.RowKit Go.WideShapes Go.ChangeShapes

/-! ### The bulk -/
theorem bulk_part {H : Type} {d : DataW H} {l : List (DataW H)} (h : d ∈ l) : Rows.uptoBulk d ≤ Rows.uptoBulkAll l := by
  induction l with
  | nil => cases h
  | cons x r ih =>
    simp only [Rows.uptoBulkAll]
    cases List.mem_cons.1 h with
    | inl e => subst e; omega
    | inr e => have := ih e; omega
theorem bulk_one {H : Type} (d : DataW H) : 1 ≤ Rows.uptoBulk d := by
  cases d with
  | lit l => cases l <;> simp [Rows.uptoBulk]
  | nil => simp [Rows.uptoBulk]
  | ptr d => simp [Rows.uptoBulk]
  | slice elems spare => simp [Rows.uptoBulk]
  | agg parts => simp [Rows.uptoBulk]
  | iface t d => simp [Rows.uptoBulk]
  | map entries => simp [Rows.uptoBulk]
  | held h => simp [Rows.uptoBulk]
theorem bulk_length {H : Type} (l : List (DataW H)) : l.length ≤ Rows.uptoBulkAll l := by
  induction l with
  | nil => simp [Rows.uptoBulkAll]
  | cons x r ih => have := bulk_one x; simp only [Rows.uptoBulkAll, List.length_cons]; omega
theorem bulk_meas (H : Type) : Meas (Rows.uptoBulk (H := H)) := by
  refine ⟨fun es sp x h => ?_, fun es sp => ?_, fun es x h => ?_, fun b => ?_⟩
  · have := bulk_part h
    simp only [Rows.uptoBulk]; omega
  · have := bulk_length es
    simp only [Rows.uptoBulk]; omega
  · have := bulk_part h
    simp only [Rows.uptoBulk]; omega
  · simp only [Rows.uptoBulk]; omega

/-! ### Names, attributes, events, paths -/
section
variable {H : Type} {enc : TypeId × Value → H} {w : World} {base : Nat} {spare : Nat → Bool} {held : Bool}
theorem open_str {n : Nat} {cs : List Value} {x : DataW H × List MemPlace} (h : DataW.trod enc Try.prog w base spare held n 9 cs = some x) (hx : Rows.uptoBulk x.1 ≤ 1048576) :
    ∃ s : ByteArray, cs = [.string s] ∧ s.size ≤ 1048600 := by
  obtain ⟨s, rfl, rfl, _⟩ := DataW.trod_string Try.underlying9 h
  have := (bulk_meas H).str s.data.toList
  have e : s.data.toList.length = s.size := by simp
  simp only at hx
  exact ⟨s, rfl, by omega⟩
theorem open_nm {n : Nat} {cs : List Value} {x : DataW H × List MemPlace} (h : DataW.trod enc Try.prog w base spare held n 35 cs = some x) (hx : Rows.uptoBulk x.1 ≤ 1048576) :
    ∃ a : Nm, Reps w (heldAt w) (nmC a) cs ∧ a.ok := by
  obtain ⟨xs, m, rfl, rfl, hl, hn, hf⟩ := DataW.trod_struct Try.underlying35 h
  have c35 : Try.prog.cellsOf 35 = 2 := by kernel_rfl
  have c9 : Try.prog.cellsOf 9 = 1 := by kernel_rfl
  rw [c35] at hl
  match cs, hl with
  | [c0, c1], _ =>
  have h0 : DataW.trod enc Try.prog w base spare held m 9 (([c0, c1].drop 0).take (Try.prog.cellsOf 9)) = _ := hf 0 _ rfl
  have h1 : DataW.trod enc Try.prog w base spare held m 9 (([c0, c1].drop 1).take (Try.prog.cellsOf 9)) = _ := hf 1 _ rfl
  simp only [c9] at h0 h1
  match xs, hn with
  | [x0, x1], _ =>
  have b0 := Nat.le_trans ((bulk_meas H).ag [x0.1, x1.1] x0.1 (by simp)) hx
  have b1 := Nat.le_trans ((bulk_meas H).ag [x0.1, x1.1] x1.1 (by simp)) hx
  obtain ⟨s0, e0, k0⟩ := open_str (x := x0) (by simpa using h0) b0
  obtain ⟨s1, e1, k1⟩ := open_str (x := x1) (by simpa using h1) b1
  simp only [List.drop_zero, List.take_succ_cons, List.take_zero, List.drop_succ_cons, List.cons.injEq, and_true] at e0 e1
  subst e0; subst e1
  exact ⟨⟨s0, s1⟩, .append (.one (.str _ _) rfl) (.one (.str _ _) rfl), k0, k1⟩
theorem open_atr {n : Nat} {cs : List Value} {x : DataW H × List MemPlace} (h : DataW.trod enc Try.prog w base spare held n 77 cs = some x) (hx : Rows.uptoBulk x.1 ≤ 1048576) :
    ∃ a : Atr, Reps w (heldAt w) (atC a) cs ∧ a.ok := by
  obtain ⟨xs, m, rfl, rfl, hl, hn, hf⟩ := DataW.trod_struct Try.underlying77 h
  have c77 : Try.prog.cellsOf 77 = 3 := by kernel_rfl
  have c9 : Try.prog.cellsOf 9 = 1 := by kernel_rfl
  have c35 : Try.prog.cellsOf 35 = 2 := by kernel_rfl
  rw [c77] at hl
  match cs, hl with
  | [v0, v1, v2], _ =>
  have h0 : DataW.trod enc Try.prog w base spare held m 35 (([v0, v1, v2].drop 0).take (Try.prog.cellsOf 35)) = _ := hf 0 _ rfl
  have h1 : DataW.trod enc Try.prog w base spare held m 9 (([v0, v1, v2].drop 2).take (Try.prog.cellsOf 9)) = _ := hf 1 _ rfl
  simp only [c9, c35] at h0 h1
  match xs, hn with
  | [x0, x1], _ =>
  have b0 := Nat.le_trans ((bulk_meas H).ag [x0.1, x1.1] x0.1 (by simp)) hx
  have b1 := Nat.le_trans ((bulk_meas H).ag [x0.1, x1.1] x1.1 (by simp)) hx
  obtain ⟨a, r0, k0⟩ := open_nm (x := x0) (by simpa using h0) b0
  obtain ⟨s1, e1, k1⟩ := open_str (x := x1) (by simpa using h1) b1
  simp only [List.drop_zero, List.take_succ_cons, List.take_zero, List.drop_succ_cons, List.cons.injEq, and_true] at e1 r0
  subst e1
  exact ⟨⟨a, s1⟩, Reps.append r0 (.one (.str _ _) rfl), k0, k1⟩
theorem open_atrs {n : Nat} {cs : List Value} {x : DataW H × List MemPlace} (h : DataW.trod enc Try.prog w base spare held n 36 cs = some x) (hx : Rows.uptoBulk x.1 ≤ 1048576) :
    ∃ l : List Atr, Reps w (heldAt w) [.sl none l.length (atsC l) .no] cs ∧ l.length ≤ 1048576 ∧ ∀ a ∈ l, a.ok :=
  open_list atC Atr.ok atC_len (by omega) (by kernel_rfl) Try.underlying36 (bulk_meas H) (fun n' _ cs x hh hb => open_atr hh hb) h hx
theorem open_int64 {n : Nat} {cs : List Value} {x : DataW H × List MemPlace} (h : DataW.trod enc Try.prog w base spare held n 3 cs = some x) : ∃ k : Int, cs = [.int .i64 k] ∧ (Lit.int .i64 k).wf = true := by
  obtain ⟨k, rfl, _, h⟩ := DataW.trod_int Try.underlying3 h
  exact ⟨k, rfl, h⟩
theorem open_ev {n : Nat} {cs : List Value} {x : DataW H × List MemPlace} (h : DataW.trod enc Try.prog w base spare held n 65 cs = some x) (hx : Rows.uptoBulk x.1 ≤ 1048576) :
    ∃ a : Ev, Reps w (heldAt w) (evC a) cs ∧ a.ok := by
  obtain ⟨xs, m, rfl, rfl, hl, hn, hf⟩ := DataW.trod_struct Try.underlying65 h
  have c65 : Try.prog.cellsOf 65 = 5 := by kernel_rfl
  have c9 : Try.prog.cellsOf 9 = 1 := by kernel_rfl
  have c3 : Try.prog.cellsOf 3 = 1 := by kernel_rfl
  have c35 : Try.prog.cellsOf 35 = 2 := by kernel_rfl
  have c36 : Try.prog.cellsOf 36 = 1 := by kernel_rfl
  rw [c65] at hl
  match cs, hl with
  | [v0, v1, v2, v3, v4], _ =>
  have h0 : DataW.trod enc Try.prog w base spare held m 3 (([v0, v1, v2, v3, v4].drop 0).take (Try.prog.cellsOf 3)) = _ := hf 0 _ rfl
  have h1 : DataW.trod enc Try.prog w base spare held m 35 (([v0, v1, v2, v3, v4].drop 1).take (Try.prog.cellsOf 35)) = _ := hf 1 _ rfl
  have h2 : DataW.trod enc Try.prog w base spare held m 36 (([v0, v1, v2, v3, v4].drop 3).take (Try.prog.cellsOf 36)) = _ := hf 2 _ rfl
  have h3 : DataW.trod enc Try.prog w base spare held m 9 (([v0, v1, v2, v3, v4].drop 4).take (Try.prog.cellsOf 9)) = _ := hf 3 _ rfl
  simp only [c9, c35, c3, c36] at h0 h1 h2 h3
  match xs, hn with
  | [x0, x1, x2, x3], _ =>
  have b1 := Nat.le_trans ((bulk_meas H).ag [x0.1, x1.1, x2.1, x3.1] x1.1 (by simp)) hx
  have b2 := Nat.le_trans ((bulk_meas H).ag [x0.1, x1.1, x2.1, x3.1] x2.1 (by simp)) hx
  have b3 := Nat.le_trans ((bulk_meas H).ag [x0.1, x1.1, x2.1, x3.1] x3.1 (by simp)) hx
  obtain ⟨k, e0, _⟩ := open_int64 (x := x0) (by simpa using h0)
  obtain ⟨a, r1, k1⟩ := open_nm (x := x1) (by simpa using h1) b1
  obtain ⟨l, r2, k2, k2'⟩ := open_atrs (x := x2) (by simpa using h2) b2
  obtain ⟨s, e3, k3⟩ := open_str (x := x3) (by simpa using h3) b3
  simp only [List.drop_zero, List.take_succ_cons, List.take_zero, List.drop_succ_cons, List.cons.injEq, and_true] at e0 r1 r2 e3
  subst e0; subst e3
  exact ⟨⟨k, a, l, s⟩, Reps.append (.one (.int _ _ _) rfl) (Reps.append r1 (Reps.append r2 (.one (.str _ _) rfl))), k1, k3, Nat.le_trans k2 (by omega), k2'⟩
theorem open_evs {n : Nat} {cs : List Value} {x : DataW H × List MemPlace} (h : DataW.trod enc Try.prog w base spare held n 26 cs = some x) (hx : Rows.uptoBulk x.1 ≤ 1048576) :
    ∃ l : List Ev, Reps w (heldAt w) [.sl none l.length (evsC l) .no] cs ∧ l.length ≤ 1048576 ∧ okEvs l :=
  open_list evC Ev.ok evC_len (by omega) (by kernel_rfl) Try.underlying26 (bulk_meas H) (fun n' _ cs x hh hb => open_ev hh hb) h hx
theorem oksP_of : ∀ {l : List Pth}, (∀ p ∈ l, p.ok) → oksP l
  | [], _ => trivial
  | p :: r, h => ⟨h p List.mem_cons_self, oksP_of fun q hq => h q (List.mem_cons_of_mem _ hq)⟩
theorem oksF_of : ∀ {l : List Flt}, (∀ p ∈ l, p.ok) → oksF l
  | [], _ => trivial
  | p :: r, h => ⟨h p List.mem_cons_self, oksF_of fun q hq => h q (List.mem_cons_of_mem _ hq)⟩
theorem open_pf : ∀ (n : Nat), (∀ (cs : List Value) (x : DataW H × List MemPlace), DataW.trod enc Try.prog w base spare held n 25 cs = some x → Rows.uptoBulk x.1 ≤ 1048576 → ∃ a : Pth, Reps w (heldAt w) (pthC a) cs ∧ a.ok) ∧
    (∀ (cs : List Value) (x : DataW H × List MemPlace), DataW.trod enc Try.prog w base spare held n 47 cs = some x → Rows.uptoBulk x.1 ≤ 1048576 → ∃ a : Flt, Reps w (heldAt w) (fltC a) cs ∧ a.ok) := by
  intro n
  induction n using Nat.strongRecOn with
  | ind n ih =>
  have hP : ∀ n', n' < n → ∀ {cs : List Value} {x : DataW H × List MemPlace}, DataW.trod enc Try.prog w base spare held n' 22 cs = some x → Rows.uptoBulk x.1 ≤ 1048576 → ∃ l : List Pth, Reps w (heldAt w) [.sl none l.length (pthsC l) .no] cs ∧ l.length ≤ 1048576 ∧ ∀ a ∈ l, a.ok := by
    intro n' hn' cs x h hx
    obtain ⟨l, a, b⟩ := open_list pthC Pth.ok pthC_len (by omega) (by kernel_rfl) Try.underlying22 (bulk_meas H) (fun n'' hn'' cs x hh hb => (ih n'' (by omega)).1 cs x hh hb) h hx
    exact ⟨l, by rw [pthsC_eq]; exact a, b⟩
  have hF : ∀ n', n' < n → ∀ {cs : List Value} {x : DataW H × List MemPlace}, DataW.trod enc Try.prog w base spare held n' 23 cs = some x → Rows.uptoBulk x.1 ≤ 1048576 → ∃ l : List Flt, Reps w (heldAt w) [.sl none l.length (fltsC l) .no] cs ∧ l.length ≤ 1048576 ∧ ∀ a ∈ l, a.ok := by
    intro n' hn' cs x h hx
    obtain ⟨l, a, b⟩ := open_list fltC Flt.ok fltC_len (by omega) (by kernel_rfl) Try.underlying23 (bulk_meas H) (fun n'' hn'' cs x hh hb => (ih n'' (by omega)).2 cs x hh hb) h hx
    exact ⟨l, by rw [fltsC_eq]; exact a, b⟩
  have c9 : Try.prog.cellsOf 9 = 1 := by kernel_rfl
  have c3 : Try.prog.cellsOf 3 = 1 := by kernel_rfl
  have c35 : Try.prog.cellsOf 35 = 2 := by kernel_rfl
  have c22 : Try.prog.cellsOf 22 = 1 := by kernel_rfl
  have c23 : Try.prog.cellsOf 23 = 1 := by kernel_rfl
  refine ⟨fun cs x h hx => ?_, fun cs x h hx => ?_⟩
  · obtain ⟨xs, m, rfl, rfl, hl, hn, hf⟩ := DataW.trod_struct Try.underlying25 h
    have c25 : Try.prog.cellsOf 25 = 3 := by kernel_rfl
    rw [c25] at hl
    match cs, hl with
    | [v0, v1, v2], _ =>
    have h0 : DataW.trod enc Try.prog w base spare held m 3 (([v0, v1, v2].drop 0).take (Try.prog.cellsOf 3)) = _ := hf 0 _ rfl
    have h1 : DataW.trod enc Try.prog w base spare held m 22 (([v0, v1, v2].drop 1).take (Try.prog.cellsOf 22)) = _ := hf 1 _ rfl
    have h2 : DataW.trod enc Try.prog w base spare held m 23 (([v0, v1, v2].drop 2).take (Try.prog.cellsOf 23)) = _ := hf 2 _ rfl
    simp only [c3, c22, c23] at h0 h1 h2
    match xs, hn with
    | [x0, x1, x2], _ =>
    have b1 := Nat.le_trans ((bulk_meas H).ag [x0.1, x1.1, x2.1] x1.1 (by simp)) hx
    have b2 := Nat.le_trans ((bulk_meas H).ag [x0.1, x1.1, x2.1] x2.1 (by simp)) hx
    obtain ⟨k, e0, _⟩ := open_int64 (x := x0) (by simpa using h0)
    obtain ⟨l, r1, k1, k1'⟩ := hP m (by omega) (x := x1) (by simpa using h1) b1
    obtain ⟨l2, r2, k2, k2'⟩ := hF m (by omega) (x := x2) (by simpa using h2) b2
    simp only [List.drop_zero, List.take_succ_cons, List.take_zero, List.drop_succ_cons, List.cons.injEq, and_true] at e0 r1 r2
    subst e0
    exact ⟨.mk k l l2, by rw [pthC]; exact Reps.append (.one (.int _ _ _) rfl) (Reps.append r1 r2), by rw [Pth.ok]; exact ⟨by omega, by omega, oksP_of k1', oksF_of k2'⟩⟩
  · obtain ⟨xs, m, rfl, rfl, hl, hn, hf⟩ := DataW.trod_struct Try.underlying47 h
    have c47 : Try.prog.cellsOf 47 = 6 := by kernel_rfl
    rw [c47] at hl
    match cs, hl with
    | [v0, v1, v2, v3, v4, v5], _ =>
    have h0 : DataW.trod enc Try.prog w base spare held m 3 (([v0, v1, v2, v3, v4, v5].drop 0).take (Try.prog.cellsOf 3)) = _ := hf 0 _ rfl
    have h1 : DataW.trod enc Try.prog w base spare held m 35 (([v0, v1, v2, v3, v4, v5].drop 1).take (Try.prog.cellsOf 35)) = _ := hf 1 _ rfl
    have h2 : DataW.trod enc Try.prog w base spare held m 9 (([v0, v1, v2, v3, v4, v5].drop 3).take (Try.prog.cellsOf 9)) = _ := hf 2 _ rfl
    have h3 : DataW.trod enc Try.prog w base spare held m 23 (([v0, v1, v2, v3, v4, v5].drop 4).take (Try.prog.cellsOf 23)) = _ := hf 3 _ rfl
    have h4 : DataW.trod enc Try.prog w base spare held m 22 (([v0, v1, v2, v3, v4, v5].drop 5).take (Try.prog.cellsOf 22)) = _ := hf 4 _ rfl
    simp only [c3, c22, c23, c9, c35] at h0 h1 h2 h3 h4
    match xs, hn with
    | [x0, x1, x2, x3, x4], _ =>
    have b1 := Nat.le_trans ((bulk_meas H).ag [x0.1, x1.1, x2.1, x3.1, x4.1] x1.1 (by simp)) hx
    have b2 := Nat.le_trans ((bulk_meas H).ag [x0.1, x1.1, x2.1, x3.1, x4.1] x2.1 (by simp)) hx
    have b3 := Nat.le_trans ((bulk_meas H).ag [x0.1, x1.1, x2.1, x3.1, x4.1] x3.1 (by simp)) hx
    have b4 := Nat.le_trans ((bulk_meas H).ag [x0.1, x1.1, x2.1, x3.1, x4.1] x4.1 (by simp)) hx
    obtain ⟨k, e0, _⟩ := open_int64 (x := x0) (by simpa using h0)
    obtain ⟨a, r1, k1⟩ := open_nm (x := x1) (by simpa using h1) b1
    obtain ⟨s, e2, k2⟩ := open_str (x := x2) (by simpa using h2) b2
    obtain ⟨l3, r3, k3, k3'⟩ := hF m (by omega) (x := x3) (by simpa using h3) b3
    obtain ⟨l4, r4, k4, k4'⟩ := hP m (by omega) (x := x4) (by simpa using h4) b4
    simp only [List.drop_zero, List.take_succ_cons, List.take_zero, List.drop_succ_cons, List.cons.injEq, and_true] at e0 r1 e2 r3 r4
    subst e0; subst e2
    exact ⟨.mk k a s l3 l4, by rw [fltC]; exact Reps.append (.one (.int _ _ _) rfl) (Reps.append r1 (Reps.append (.one (.str _ _) rfl) (Reps.append r3 r4))), by rw [Flt.ok]; exact ⟨k1, k2, by omega, by omega, oksF_of k3', oksP_of k4'⟩⟩

/-! ### As arguments -/
theorem open_path {r : Reach} {b0 : Nat} {v : Value} {d : DataW H} {ps : List MemPlace} (hok : Value.okWide Try.prog w r b0 25 v) (h : DataW.Trod enc Try.prog w base spare held 25 v d ps) (hd : Rows.uptoBulk d ≤ 1048576) : ∃ p : Pth, Rep w (envF (heldAt w)) false (.agg (pthL p)) v ∧ p.ok := by
  obtain ⟨cs, rfl, hsz⟩ := okWide_struct Try.underlying25 hok
  obtain ⟨fuel, hf⟩ := h
  obtain ⟨p, hr, hk⟩ := (open_pf fuel).1 _ _ hf hd
  rw [pthC_L] at hr
  exact ⟨p, hr.agg, hk⟩
theorem open_events {r : Reach} {b0 : Nat} {v : Value} {d : DataW H} {ps : List MemPlace} (hok : Value.okWide Try.prog w r b0 26 v) (h : DataW.Trod enc Try.prog w base spare held 26 v d ps) (hd : Rows.uptoBulk d ≤ 1048576) : ∃ l : List Ev, Rep w (envF (heldAt w)) false (.sl none l.length (evsC l) .no) v ∧ l.length ≤ 1048576 ∧ okEvs l := by
  obtain ⟨a, len, cap, rfl⟩ := okWide_slice Try.underlying26 hok
  obtain ⟨fuel, hf⟩ := h
  obtain ⟨l, hr, hk⟩ := open_evs hf hd
  exact ⟨l, (hr.2 0 _ _ rfl rfl).1, hk⟩
/-- An argument read again. -/
theorem back {t : TypeId} {W W' : World} {v : Value} {d : DataW H} {ps : List MemPlace} (sp : Nat → Bool) (hl : laidOutB Try.prog = true) (hr : Try.prog.readableRec t = true) (hrow : t < Try.prog.types.size) (hb : Below W.heap.size W W') (h : DataW.Trod enc Try.prog W 0 (fun _ => true) true t v d ps) (hall : ∀ p ∈ ps, sp p.block = true) (hlt : ∀ x ∈ ps, x.block < W.heap.size) :
    DataW.Trod enc Try.prog W' 0 sp true t v d ps :=
  WideElems.Trod_stays hl hr hrow h (fun x hx => hb.same (hlt x hx)) (fun x hx => hall x hx)
end
end Go.Proofs.Ytpffjbbolaehpaa
end

section
set_option linter.unusedVariables false
set_option linter.unusedSimpArgs false
namespace Go.Proofs.Ytpffjbbolaehpaa
open Go Go.AX

/-! ### tree.Make, as plain data -/
structure Pln where
  par : List Int
  fst : List Int
  nxt : List Int
  siz : List Int
  tr : List Tr
def Pln.push (S : Pln) (t : Tr) (p : Int) : Pln := ⟨S.par ++ [p], S.fst ++ [-1], S.nxt ++ [-1], S.siz ++ [1], S.tr ++ [t]⟩
/-- What is written when a child is done. -/
def Pln.link (S : Pln) (n at_ : Nat) (last : Int) (i : Nat) : Pln :=
  ⟨S.par, if i = 0 then S.fst.set n at_ else S.fst, if i = 0 then S.nxt else S.nxt.set last.toNat at_, S.siz.set n (IntKind.i64.wrap (S.siz.getD n 0 + S.siz.getD at_ 0)), S.tr⟩
mutual
def visitS : Tr → Int → Pln → Pln
  | .mk b tx nm a kids, p, S => match b with
    | true => S.push (.mk b tx nm a kids) p
    | false => kidsS kids S.tr.length 0 (-1) (S.push (.mk b tx nm a kids) p)
def kidsS : List Tr → Nat → Nat → Int → Pln → Pln
  | [], n, i, last, S => S
  | k :: r, n, i, last, S => kidsS r n (i + 1) S.tr.length ((visitS k n S).link n S.tr.length last i)
end
mutual
def cntT : Tr → Nat
  | .mk _ _ _ _ kids => 1 + cntL kids
def cntL : List Tr → Nat
  | [] => 0
  | k :: r => cntT k + cntL r
end
def intsC (l : List Int) : List AV := l.map (.int .i64)
def planC (S : Pln) : List AV := [.sl none S.par.length (intsC S.par) (.own 1000010), .vec 1000011 S.fst.length, .vec 1000012 S.nxt.length, .vec 1000013 S.siz.length, .sl none S.tr.length (trsC S.tr) (.own 1000014)]
def planT (S : Pln) : List (Nat × Tag) := [(1000010, ⟨S.par.length, 3, 1, none⟩), (1000011, ⟨S.fst.length, 3, 1, some (true, intsC S.fst)⟩), (1000012, ⟨S.nxt.length, 3, 1, some (true, intsC S.nxt)⟩), (1000013, ⟨S.siz.length, 3, 1, some (true, intsC S.siz)⟩), (1000014, ⟨S.tr.length, 39, 6, none⟩)]
def visH : List AV := [.fn 40 [.ptr 1000003 0, .ptr 1000004 0]]
def planM (S : Pln) : MemS := ⟨[(1000003, .var true (planC S)), (1000004, .var true visH)], planT S⟩
def pln0 : Pln := ⟨[], [], [], [], []⟩
def planL (S : Pln) : List AV := [.sl none S.par.length (intsC S.par) .no, .sl none S.fst.length (intsC S.fst) .no, .sl none S.nxt.length (intsC S.nxt) .no, .sl none S.siz.length (intsC S.siz) .no, .sl none S.tr.length (trsC S.tr) .no]
end Go.Proofs.Ytpffjbbolaehpaa
end

section
set_option linter.unusedVariables false
set_option linter.unusedSimpArgs false
set_option maxRecDepth 100000
namespace Go.Proofs.Ytpffjbbolaehpaa
open Go Go.AX

def boolsC (l : List Bool) : List AV := l.map .bool
theorem boolsC_len (l : List Bool) : (boolsC l).length = l.length := by simp [boolsC]
theorem boolsC_nth (l : List Bool) (i : Nat) (hi : i < l.length) : (boolsC l)[i]? = some (.bool (l.getD i false)) := by simp [boolsC, hi, List.getD_eq_getElem?_getD]
theorem boolsC_set (l : List Bool) (n : Nat) (a : Bool) : setAt (boolsC l) n (cellsOf (.bool a)) = boolsC (l.set n a) := by simp [setAt, cellsOf, boolsC, List.map_set]
def stEi (n : Nat) (b out : List Bool) (i : Nat) : AS := ⟨[(5, .vec 1000020 out.length), (10, .sl none n (boolsC b) .no), (11, .int .i64 n), (12, .int .i64 i)], [], [(1000020, ⟨out.length, 4, 1, some (true, boolsC out)⟩)]⟩
def orZ (a b : List Bool) : List Bool := List.zipWith (fun x y => x || y) a b
theorem orZ_len (a b : List Bool) (h : a.length = b.length) : (orZ a b).length = b.length := by simp [orZ, h]
theorem orZ_get (a b : List Bool) (i : Nat) (ha : i < a.length) (hb : i < b.length) : (orZ a b).getD i false = (a.getD i false || b.getD i false) := by simp [orZ, List.getD_eq_getElem?_getD, List.getElem?_zipWith, ha, hb]
theorem ext_getD {α : Type} {a b : List α} (d : α) (h : a.length = b.length) (hj : ∀ j, j < b.length → a.getD j d = b.getD j d) : a = b := by
  apply List.ext_getElem h
  intro i h1 h2
  have := hj i h2
  simpa [List.getD_eq_getElem?_getD, h1, h2] using this
theorem getD_set {α : Type} (l : List α) (i j : Nat) (v d : α) (hi : i < l.length) : (l.set i v).getD j d = if j = i then v else l.getD j d := by
  rw [List.getD_eq_getElem?_getD, List.getElem?_set]
  split
  · rename_i e
    subst e
    simp [hi]
  · rename_i e
    rw [if_neg (fun h => e h.symm), List.getD_eq_getElem?_getD]
structure OrI (a b out : List Bool) (i : Nat) : Prop where
  len : out.length = b.length
  get : ∀ j, j < b.length → out.getD j false = if j < i then (a.getD j false || b.getD j false) else a.getD j false

theorem clone0 (b : List Bool) (hb : 0 < b.length ∧ b.length ≤ 1000000) : CtrM Try.prog 54 ⟨[], []⟩ [.sl (some false) b.length (boolsC b) .no] ⟨[], [(1000020, ⟨b.length, 4, 1, some (true, boolsC b)⟩)]⟩ (.vec 1000020 b.length) :=
  CtrM.mk Γ_ok Try.func54 (by kernel_rfl) Try.call54 [] (by kernel_rfl) (by kernel_rfl) (by kernel_rfl) (HT.walk Γ_ok mo_ok (⟨([(7, .id 1000020)] ++ []), [], [], [], .mem [] ⟨[], [(1000020, ⟨b.length, 4, 1, some (true, boolsC b)⟩)]⟩ (.vec 1000020 b.length)⟩ : Wk) 4000 (T := .ob ((0 : Nat) < b.length ∧ (boolsC b).length = b.length * ((0 : Nat) + (1 : Nat)) ∧ b.length * ((0 : Nat) + (1 : Nat)) ≤ (140737488355328 : Nat)) (.ob (b.length = b.length) (.ob (b.length = b.length) (.ob (boolsC b = boolsC b) (.tt))))) (by kernel_rfl) (by
    simp only [PT.holds, boolsC_len, and_true]
    omega))
theorem clone_ctr (b : List Bool) (hb : 0 < b.length ∧ b.length ≤ 1000000) : CtrM Try.prog 54 ⟨[], []⟩ [.sl none b.length (boolsC b) .no] ⟨[], [(1000020, ⟨b.length, 4, 1, some (true, boolsC b)⟩)]⟩ (.vec 1000020 b.length) := CtrM.nn hb.1 (clone0 b hb)

theorem either_h (a b out : List Bool) (i : Nat) (R : List Bool) (hN : b.length ≤ 1000000) (hi : i < b.length) (ho : OrI a b out i) (k : ∀ out', OrI a b out' (i + 1) → HT Try.prog Try.f42.ntmps (pt Try.f42 0) (stEi b.length b out' (i + 1)) (EndsA Γ (.pure [6000020] (.sl none R.length (boolsC R) .no)) Try.f42)) : HT Try.prog Try.f42.ntmps (pt Try.f42 0) (stEi b.length b out i) (EndsA Γ (.pure [6000020] (.sl none R.length (boolsC R) .no)) Try.f42) :=
  HT.walk Γ_ok mo_ok (⟨([(16, .val (.bool (b.getD i false))), (22, .val (.bool (out.getD i false)))] ++ []), sp42, hd42 [] [] [] [1000020], [], .pure [6000020] (.sl none R.length (boolsC R) .no)⟩ : Wk) 4000 (T := .split (decide ((↑i : Int) < (↑b.length : Int))) (.ob ((0 : Int) ≤ (↑i : Int) ∧ (↑i : Int) < (↑b.length : Int) ∧ (↑i : Int).toNat * (1 : Nat) < (boolsC b).length) (.ob ((boolsC b)[(↑i : Int).toNat * (1 : Nat)]? = some (AV.bool (b.getD i false))) (.ob ((0 : Int) ≤ (↑i : Int) ∧ (↑i : Int) < (↑out.length : Int) ∧ out.length = out.length) (.ob (out.length = out.length) (.ob ((boolsC out)[(↑i : Int).toNat * (1 : Nat)]? = some (AV.bool (out.getD i false))) (.split (out.getD i false) (.ob ((0 : Int) ≤ (↑i : Int) ∧ (↑i : Int) < (↑out.length : Int) ∧ out.length = out.length) (.ob (out.length = out.length ∧ (↑i : Int).toNat * (1 : Nat) + (1 : Nat) ≤ (boolsC out).length) (.head (pt Try.f42 0) ({ tmps := [((5 : Nat), AV.vec (1000020 : Nat) out.length), ((10 : Nat), AV.sl none b.length (boolsC b) Own.no), ((11 : Nat), AV.int IntKind.i64 (↑b.length : Int)), ((12 : Nat), AV.int IntKind.i64 (IntKind.i64.wrap ((↑i : Int) + (1 : Int))))], heap := [], tags := [((1000020 : Nat), { n := out.length, e := (4 : Nat), sz := (1 : Nat), cs := some (true, setAt (boolsC out) ((↑i : Int).toNat * (1 : Nat)) (cellsOf (AV.bool true))) })] })))) (.ob ((0 : Int) ≤ (↑i : Int) ∧ (↑i : Int) < (↑out.length : Int) ∧ out.length = out.length) (.ob (out.length = out.length ∧ (↑i : Int).toNat * (1 : Nat) + (1 : Nat) ≤ (boolsC out).length) (.head (pt Try.f42 0) ({ tmps := [((5 : Nat), AV.vec (1000020 : Nat) out.length), ((10 : Nat), AV.sl none b.length (boolsC b) Own.no), ((11 : Nat), AV.int IntKind.i64 (↑b.length : Int)), ((12 : Nat), AV.int IntKind.i64 (IntKind.i64.wrap ((↑i : Int) + (1 : Int))))], heap := [], tags := [((1000020 : Nat), { n := out.length, e := (4 : Nat), sz := (1 : Nat), cs := some (true, setAt (boolsC out) ((↑i : Int).toNat * (1 : Nat)) (cellsOf (AV.bool (b.getD i false)))) })] })))))))))) (.ob (out.length = out.length) (.ob (out.length = R.length) (.ob (boolsC out = boolsC R) (.tt))))) (by kernel_rfl) (by
    have w2 : IntKind.i64.wrap ((i : Int) + 1) = ((i + 1 : Nat) : Int) := by rw [i64_wrap (by omega) (by omega)]; rfl
    have hl := ho.len
    have hio : i < out.length := by omega
    have hoi := ho.get i hi
    rw [if_neg (Nat.lt_irrefl i)] at hoi
    have h0 : decide ((i : Int) < b.length) = true := by simp; omega
    simp only [PT.holds, w2, h0, Int.toNat_natCast, Nat.mul_one, boolsC_len, boolsC_nth b i hi, boolsC_nth out i hio, true_implies, Bool.true_eq_false, false_implies, true_and, and_true]
    have step : ∀ v, v = (a.getD i false || b.getD i false) → OrI a b (out.set i v) (i + 1) := fun v hv => ⟨by simp [hl], fun j hj => by
      rw [getD_set _ _ _ _ _ hio]
      split
      · rename_i e; subst e; rw [if_pos (Nat.lt_succ_self _), hv]
      · rename_i e; rw [ho.get j hj]; congr 1; simp; omega⟩
    refine ⟨by omega, by omega, fun h1 => ⟨by omega, by omega, ?_⟩, fun h1 => ⟨by omega, by omega, ?_⟩⟩
    · refine head_eq (k _ (step true (by rw [← hoi, h1]; rfl))) ?_
      simp only [stEi, boolsC_set, List.length_set]
    · refine head_eq (k _ (step (b.getD i false) (by rw [← hoi, h1]; rfl))) ?_
      simp only [stEi, boolsC_set, List.length_set])
theorem either_e (b out : List Bool) : HT Try.prog Try.f42.ntmps (pt Try.f42 0) (stEi b.length b out b.length) (EndsA Γ (.pure [6000020] (.sl none out.length (boolsC out) .no)) Try.f42) :=
  HT.walk Γ_ok mo_ok (⟨([(16, .val (.bool (b.getD 0 false))), (22, .val (.bool (out.getD 0 false)))] ++ []), sp42, hd42 [] [] [] [1000020], [], .pure [6000020] (.sl none out.length (boolsC out) .no)⟩ : Wk) 4000 (T := .split (decide ((↑b.length : Int) < (↑b.length : Int))) (.ob ((0 : Int) ≤ (↑b.length : Int) ∧ (↑b.length : Int) < (↑b.length : Int) ∧ (↑b.length : Int).toNat * (1 : Nat) < (boolsC b).length) (.ob ((boolsC b)[(↑b.length : Int).toNat * (1 : Nat)]? = some (AV.bool (b.getD (0 : Nat) false))) (.ob ((0 : Int) ≤ (↑b.length : Int) ∧ (↑b.length : Int) < (↑out.length : Int) ∧ out.length = out.length) (.ob (out.length = out.length) (.ob ((boolsC out)[(↑b.length : Int).toNat * (1 : Nat)]? = some (AV.bool (out.getD (0 : Nat) false))) (.split (out.getD (0 : Nat) false) (.ob ((0 : Int) ≤ (↑b.length : Int) ∧ (↑b.length : Int) < (↑out.length : Int) ∧ out.length = out.length) (.ob (out.length = out.length ∧ (↑b.length : Int).toNat * (1 : Nat) + (1 : Nat) ≤ (boolsC out).length) (.head (pt Try.f42 0) ({ tmps := [((5 : Nat), AV.vec (1000020 : Nat) out.length), ((10 : Nat), AV.sl none b.length (boolsC b) Own.no), ((11 : Nat), AV.int IntKind.i64 (↑b.length : Int)), ((12 : Nat), AV.int IntKind.i64 (IntKind.i64.wrap ((↑b.length : Int) + (1 : Int))))], heap := [], tags := [((1000020 : Nat), { n := out.length, e := (4 : Nat), sz := (1 : Nat), cs := some (true, setAt (boolsC out) ((↑b.length : Int).toNat * (1 : Nat)) (cellsOf (AV.bool true))) })] })))) (.ob ((0 : Int) ≤ (↑b.length : Int) ∧ (↑b.length : Int) < (↑out.length : Int) ∧ out.length = out.length) (.ob (out.length = out.length ∧ (↑b.length : Int).toNat * (1 : Nat) + (1 : Nat) ≤ (boolsC out).length) (.head (pt Try.f42 0) ({ tmps := [((5 : Nat), AV.vec (1000020 : Nat) out.length), ((10 : Nat), AV.sl none b.length (boolsC b) Own.no), ((11 : Nat), AV.int IntKind.i64 (↑b.length : Int)), ((12 : Nat), AV.int IntKind.i64 (IntKind.i64.wrap ((↑b.length : Int) + (1 : Int))))], heap := [], tags := [((1000020 : Nat), { n := out.length, e := (4 : Nat), sz := (1 : Nat), cs := some (true, setAt (boolsC out) ((↑b.length : Int).toNat * (1 : Nat)) (cellsOf (AV.bool (b.getD (0 : Nat) false)))) })] })))))))))) (.ob (out.length = out.length) (.ob (out.length = out.length) (.ob (boolsC out = boolsC out) (.tt))))) (by kernel_rfl) (by
    have h0 : decide ((b.length : Int) < b.length) = false := by simp
    simp only [PT.holds, h0, true_implies, Bool.false_eq_true, false_implies, true_and, and_true])
theorem either_l (a b : List Bool) (hab : a.length = b.length) (hN : b.length ≤ 1000000) : ∀ d i out, i + d = b.length → OrI a b out i → HT Try.prog Try.f42.ntmps (pt Try.f42 0) (stEi b.length b out i) (EndsA Γ (.pure [6000020] (.sl none (orZ a b).length (boolsC (orZ a b)) .no)) Try.f42) := by
  intro d
  induction d with
  | zero =>
    intro i out h ho
    have hi : i = b.length := by omega
    subst hi
    have e : out = orZ a b := ext_getD false (by rw [ho.len, orZ_len a b hab]) fun j hj => by
      rw [orZ_len a b hab] at hj
      rw [ho.get j hj, if_pos hj, orZ_get a b j (by omega) hj]
    rw [← e]
    exact either_e b out
  | succ d ih => exact fun i out h ho => either_h a b out i _ hN (by omega) ho (fun out' ho' => ih (i + 1) out' (by omega) ho')

theorem either_ctr (a b : List Bool) (hab : a.length = b.length) (hN : 0 < b.length ∧ b.length ≤ 1000000) : Ctr Try.prog 42 [.sl none a.length (boolsC a) .no, .sl none b.length (boolsC b) .no] (.sl none (orZ a b).length (boolsC (orZ a b)) .no) :=
  Ctr.mk Γ_ok Try.func42 (by kernel_rfl) Try.call42 [6000020] (by kernel_rfl) (HT.walk Γ_ok mo_ok (⟨([(9, .callM [] [] [] [] [] [(1000020, ⟨a.length, 4, 1, some (true, boolsC a)⟩)] (.vec 1000020 a.length))] ++ []), sp42, hd42 [] [] [] [1000020], [], .pure [6000020] (.sl none (orZ a b).length (boolsC (orZ a b)) .no)⟩ : Wk) 4000 (T := .ob (CtrM Try.prog (54 : Nat) { heap := [], tags := [] } [AV.sl none a.length (boolsC a) Own.no] { heap := [], tags := [((1000020 : Nat), { n := a.length, e := (4 : Nat), sz := (1 : Nat), cs := some (true, boolsC a) })] } (AV.vec (1000020 : Nat) a.length)) (.head (pt Try.f42 0) ({ tmps := [((5 : Nat), AV.vec (1000020 : Nat) a.length), ((10 : Nat), AV.sl none b.length (boolsC b) Own.no), ((11 : Nat), AV.int IntKind.i64 (↑b.length : Int)), ((12 : Nat), AV.int IntKind.i64 (0 : Int))], heap := [], tags := [((1000020 : Nat), { n := a.length, e := (4 : Nat), sz := (1 : Nat), cs := some (true, boolsC a) })] }))) (by kernel_rfl) (by
    simp only [PT.holds]
    exact ⟨clone_ctr a (by omega), either_l a b hab hN.2 b.length 0 a (Nat.zero_add _) ⟨hab, fun j hj => by rw [if_neg (Nat.not_lt_zero j)]⟩⟩))
end Go.Proofs.Ytpffjbbolaehpaa
end

section
set_option linter.unusedVariables false
set_option linter.unusedSimpArgs false
set_option maxRecDepth 100000
namespace Go.Proofs.Ytpffjbbolaehpaa
open Go Go.AX

def stEq (a b : List Bool) (i : Nat) : AS := ⟨[(0, .sl none a.length (boolsC a) .no), (1, .sl none b.length (boolsC b) .no), (12, .int .i64 a.length), (13, .int .i64 i)], [], []⟩
def stIx (a : List Bool) (i : Nat) : AS := ⟨[(0, .sl none a.length (boolsC a) .no), (1, .bool true), (7, .int .i64 a.length), (8, .int .i64 i)], [], []⟩
def stSt (s out : List Bool) (to : List Int) (i : Nat) : AS := ⟨[(0, .sl none to.length (intsC to) .no), (2, .ptr 1000007 0), (6, .sl none s.length (boolsC s) .no), (7, .int .i64 s.length), (8, .int .i64 i)], [(1000005, .var true [.sl none s.length (boolsC s) .no]), (1000007, .var true [.row 1000017 0 out.length]), (1000017, .rows true (boolsC out))], []⟩
def setM (s out : List Bool) : MemS := ⟨[(1000005, .var true [.sl none s.length (boolsC s) .no]), (1000007, .var true [.row 1000017 0 out.length]), (1000017, .rows true (boolsC out))], []⟩
def stAt (t : Tr) (n : Nm) (i : Nat) : AS := ⟨[(2, .ptr 2 0), (3, .ptr 3 0), (9, .sl none t.attrs.length (atsC t.attrs) .no), (10, .int .i64 t.attrs.length), (11, .int .i64 i)], [(2, .var true (trL t)), (3, .var true (nmC n))], []⟩
theorem intsC_nth (l : List Int) (i : Nat) (hi : i < l.length) : (intsC l)[i]? = some (.int .i64 (l.getD i 0)) := by simp [intsC, hi, List.getD_eq_getElem?_getD]
theorem intsC_len' (l : List Int) : (intsC l).length = l.length := by simp [intsC]
theorem boolsC_set' (l : List Bool) (n : Nat) (a : Bool) : (boolsC l).set n (.bool a) = boolsC (l.set n a) := by simp [boolsC, List.map_set]
/-- One step from the nodes of a set. -/
def stepF (to : List Int) (s : List Bool) : Nat → Nat → List Bool → List Bool
  | 0, _, out => out
  | d + 1, i, out => stepF to s d (i + 1) (if s.getD i false && decide (0 ≤ to.getD i 0) then out.set (to.getD i 0).toNat true else out)
def attrL (b : Bool) (n : Nm) : List Atr → Option ByteArray
  | [] => none
  | a :: r => if a.nm = n ∧ b = false then some a.v else attrL b n r
theorem nm_eq (a b : Nm) : (decide (a.sp = b.sp) && (decide (a.lo = b.lo) && true)) = decide (a = b) := by
  cases a; cases b
  simp only [Bool.and_true, Nm.mk.injEq, Bool.decide_and]

theorem eq_h (a b : List Bool) (i : Nat) (R : Bool) (hab : a.length = b.length) (hN : a.length ≤ 1000000) (hi : i < a.length) (k : a.getD i false = b.getD i false → HT Try.prog Try.f55.ntmps (pt Try.f55 0) (stEq a b (i + 1)) (EndsA Γ (.pure [] (.bool R)) Try.f55)) (hr : a.getD i false ≠ b.getD i false → R = false) : HT Try.prog Try.f55.ntmps (pt Try.f55 0) (stEq a b i) (EndsA Γ (.pure [] (.bool R)) Try.f55) :=
  HT.walk Γ_ok mo_ok (⟨([(19, .val (.bool (a.getD i false))), (23, .val (.bool (b.getD i false)))] ++ []), sp55, hd55 [] [] [] [], dsp55, .pure [] (.bool R)⟩ : Wk) 4000 (T := .split (decide ((↑i : Int) < (↑a.length : Int))) (.or (.ob ((0 : Int) ≤ (↑i : Int) ∧ (↑i : Int) < (↑a.length : Int) ∧ (↑i : Int).toNat * (1 : Nat) < (boolsC a).length) (.ob ((boolsC a)[(↑i : Int).toNat * (1 : Nat)]? = some (AV.bool (a.getD i false))) (.ob ((0 : Int) ≤ (↑i : Int) ∧ (↑i : Int) < (↑b.length : Int) ∧ (↑i : Int).toNat * (1 : Nat) < (boolsC b).length) (.ob ((boolsC b)[(↑i : Int).toNat * (1 : Nat)]? = some (AV.bool (b.getD i false))) (.ob ((!a.getD i false == b.getD i false) = true) (.ob (false = R) (.tt))))))) (.ob ((0 : Int) ≤ (↑i : Int) ∧ (↑i : Int) < (↑a.length : Int) ∧ (↑i : Int).toNat * (1 : Nat) < (boolsC a).length) (.ob ((boolsC a)[(↑i : Int).toNat * (1 : Nat)]? = some (AV.bool (a.getD i false))) (.ob ((0 : Int) ≤ (↑i : Int) ∧ (↑i : Int) < (↑b.length : Int) ∧ (↑i : Int).toNat * (1 : Nat) < (boolsC b).length) (.ob ((boolsC b)[(↑i : Int).toNat * (1 : Nat)]? = some (AV.bool (b.getD i false))) (.ob ((!a.getD i false == b.getD i false) = false) (.head (pt Try.f55 0) ({ tmps := [((0 : Nat), AV.sl none a.length (boolsC a) Own.no), ((1 : Nat), AV.sl none b.length (boolsC b) Own.no), ((12 : Nat), AV.int IntKind.i64 (↑a.length : Int)), ((13 : Nat), AV.int IntKind.i64 (IntKind.i64.wrap ((↑i : Int) + (1 : Int))))], heap := [], tags := [] })))))))) (.ob (true = R) (.tt))) (by kernel_rfl) (by
    have w2 : IntKind.i64.wrap ((i : Int) + 1) = ((i + 1 : Nat) : Int) := by rw [i64_wrap (by omega) (by omega)]; rfl
    have h0 : decide ((i : Int) < a.length) = true := by simp; omega
    have hib : i < b.length := by omega
    simp only [PT.holds, w2, h0, Int.toNat_natCast, Nat.mul_one, boolsC_len, boolsC_nth a i hi, boolsC_nth b i hib, true_implies, Bool.false_eq_true, Bool.true_eq_false, false_implies, true_and, and_true]
    by_cases h : a.getD i false = b.getD i false
    · refine .inr ⟨by omega, by omega, ?_, k h⟩
      rw [h]; simp
    · refine .inl ⟨by omega, by omega, ?_, (hr h).symm⟩
      revert h
      cases a.getD i false <;> cases b.getD i false <;> simp)
theorem eq_e (a b : List Bool) : HT Try.prog Try.f55.ntmps (pt Try.f55 0) (stEq a b a.length) (EndsA Γ (.pure [] (.bool true)) Try.f55) :=
  HT.walk Γ_ok mo_ok (⟨([(19, .val (.bool (a.getD 0 false))), (23, .val (.bool (b.getD 0 false)))] ++ []), sp55, hd55 [] [] [] [], dsp55, .pure [] (.bool true)⟩ : Wk) 4000 (T := .split (decide ((↑a.length : Int) < (↑a.length : Int))) (.or (.ob ((0 : Int) ≤ (↑a.length : Int) ∧ (↑a.length : Int) < (↑a.length : Int) ∧ (↑a.length : Int).toNat * (1 : Nat) < (boolsC a).length) (.ob ((boolsC a)[(↑a.length : Int).toNat * (1 : Nat)]? = some (AV.bool (a.getD (0 : Nat) false))) (.ob ((0 : Int) ≤ (↑a.length : Int) ∧ (↑a.length : Int) < (↑b.length : Int) ∧ (↑a.length : Int).toNat * (1 : Nat) < (boolsC b).length) (.ob ((boolsC b)[(↑a.length : Int).toNat * (1 : Nat)]? = some (AV.bool (b.getD (0 : Nat) false))) (.ob ((!a.getD (0 : Nat) false == b.getD (0 : Nat) false) = true) (.ob (false = true) (.tt))))))) (.ob ((0 : Int) ≤ (↑a.length : Int) ∧ (↑a.length : Int) < (↑a.length : Int) ∧ (↑a.length : Int).toNat * (1 : Nat) < (boolsC a).length) (.ob ((boolsC a)[(↑a.length : Int).toNat * (1 : Nat)]? = some (AV.bool (a.getD (0 : Nat) false))) (.ob ((0 : Int) ≤ (↑a.length : Int) ∧ (↑a.length : Int) < (↑b.length : Int) ∧ (↑a.length : Int).toNat * (1 : Nat) < (boolsC b).length) (.ob ((boolsC b)[(↑a.length : Int).toNat * (1 : Nat)]? = some (AV.bool (b.getD (0 : Nat) false))) (.ob ((!a.getD (0 : Nat) false == b.getD (0 : Nat) false) = false) (.head (pt Try.f55 0) ({ tmps := [((0 : Nat), AV.sl none a.length (boolsC a) Own.no), ((1 : Nat), AV.sl none b.length (boolsC b) Own.no), ((12 : Nat), AV.int IntKind.i64 (↑a.length : Int)), ((13 : Nat), AV.int IntKind.i64 (IntKind.i64.wrap ((↑a.length : Int) + (1 : Int))))], heap := [], tags := [] })))))))) (.ob (true = true) (.tt))) (by kernel_rfl) (by
    have h0 : decide ((a.length : Int) < a.length) = false := by simp
    simp only [PT.holds, h0, true_implies, Bool.false_eq_true, Bool.true_eq_false, false_implies, true_and, and_true])
theorem eq_l (a b : List Bool) (hab : a.length = b.length) (hN : a.length ≤ 1000000) : ∀ d i, i + d = a.length → (∀ j, j < i → a.getD j false = b.getD j false) → HT Try.prog Try.f55.ntmps (pt Try.f55 0) (stEq a b i) (EndsA Γ (.pure [] (.bool (decide (a = b)))) Try.f55) := by
  intro d
  induction d with
  | zero =>
    intro i h hj
    have hi : i = a.length := by omega
    subst hi
    have e : a = b := ext_getD false hab fun j hj' => hj j (by omega)
    have e1 : decide (a = b) = true := by simp [e]
    rw [e1]
    exact eq_e a b
  | succ d ih =>
    intro i h hj
    refine eq_h a b i _ hab hN (by omega) (fun he => ih (i + 1) (by omega) fun j hj' => ?_) (fun hne => ?_)
    · rcases Nat.lt_or_eq_of_le (Nat.lt_succ_iff.1 hj') with h1 | h1
      · exact hj j h1
      · rw [h1]; exact he
    · exact decide_eq_false fun e => hne (by rw [e])

theorem eq_ctr (a b : List Bool) (hab : a.length = b.length) (hN : a.length ≤ 1000000) : Ctr Try.prog 55 [.sl none a.length (boolsC a) .no, .sl none b.length (boolsC b) .no] (.bool (decide (a = b))) :=
  Ctr.mk Γ_ok Try.func55 (by kernel_rfl) Try.call55 [] (by kernel_rfl) (HT.walk Γ_ok mo_ok (⟨[], sp55, hd55 [] [] [] [], dsp55, .pure [] (.bool (decide (a = b)))⟩ : Wk) 4000 (T := .split (!decide ((↑a.length : Int) = (↑b.length : Int))) (.ob (false = decide (a = b)) (.tt)) (.head (pt Try.f55 0) ({ tmps := [((0 : Nat), AV.sl none a.length (boolsC a) Own.no), ((1 : Nat), AV.sl none b.length (boolsC b) Own.no), ((12 : Nat), AV.int IntKind.i64 (↑a.length : Int)), ((13 : Nat), AV.int IntKind.i64 (0 : Int))], heap := [], tags := [] }))) (by kernel_rfl) (by
    have h0 : (!decide ((a.length : Int) = b.length)) = false := by simp; omega
    simp only [PT.holds, h0, true_implies, Bool.false_eq_true, Bool.true_eq_false, false_implies, true_and, and_true]
    exact eq_l a b hab hN a.length 0 (Nat.zero_add _) (fun j hj => absurd hj (Nat.not_lt_zero j))))
theorem ix_h (a : List Bool) (i : Nat) (hi : i < a.length) (hN : a.length ≤ 1000000) (k : ∃ x : Int, (0 ≤ x ↔ ∃ j, i + 1 ≤ j ∧ j < a.length ∧ a.getD j false = true) ∧ HT Try.prog Try.f57.ntmps (pt Try.f57 0) (stIx a (i + 1)) (EndsA Γ (.pure [] (.int .i64 x)) Try.f57)) : ∃ x : Int, (0 ≤ x ↔ ∃ j, i ≤ j ∧ j < a.length ∧ a.getD j false = true) ∧ HT Try.prog Try.f57.ntmps (pt Try.f57 0) (stIx a i) (EndsA Γ (.pure [] (.int .i64 x)) Try.f57) := by
    have H : ∃ x : Int, (0 ≤ x ↔ ∃ j, i ≤ j ∧ j < a.length ∧ a.getD j false = true) ∧ PT.holds Try.prog Try.f57.ntmps (EndsA Γ (.pure [] (.int .i64 x)) Try.f57) (.split (decide ((↑i : Int) < (↑a.length : Int))) (.ob ((0 : Int) ≤ (↑i : Int) ∧ (↑i : Int) < (↑a.length : Int) ∧ (↑i : Int).toNat * (1 : Nat) < (boolsC a).length) (.ob ((boolsC a)[(↑i : Int).toNat * (1 : Nat)]? = some (AV.bool (a.getD i false))) (.split (true == a.getD i false) (.ob ((↑i : Int) = x) (.tt)) (.head (pt Try.f57 0) ({ tmps := [((0 : Nat), AV.sl none a.length (boolsC a) Own.no), ((1 : Nat), AV.bool true), ((7 : Nat), AV.int IntKind.i64 (↑a.length : Int)), ((8 : Nat), AV.int IntKind.i64 (IntKind.i64.wrap ((↑i : Int) + (1 : Int))))], heap := [], tags := [] }))))) (.ob ((-1 : Int) = x) (.tt))) := by
      have w2 : IntKind.i64.wrap ((i : Int) + 1) = ((i + 1 : Nat) : Int) := by rw [i64_wrap (by omega) (by omega)]; rfl
      have h0 : decide ((i : Int) < a.length) = true := by simp; omega
      simp only [PT.holds, w2, h0, Int.toNat_natCast, Nat.mul_one, boolsC_len, boolsC_nth a i hi, true_implies, Bool.false_eq_true, Bool.true_eq_false, false_implies, true_and, and_true]
      cases hb : a.getD i false
      · obtain ⟨x, hx, hk⟩ := k
        refine ⟨x, hx.trans ⟨fun ⟨j, h1, h2, h3⟩ => ⟨j, by omega, h2, h3⟩, fun ⟨j, h1, h2, h3⟩ => ⟨j, ?_, h2, h3⟩⟩, by omega, fun h => absurd h (by decide), fun _ => hk⟩
        rcases Nat.lt_or_eq_of_le h1 with h4 | h4
        · exact h4
        · rw [← h4, hb] at h3; cases h3
      · exact ⟨i, ⟨fun _ => ⟨i, Nat.le_refl _, hi, hb⟩, fun _ => by omega⟩, by omega, fun _ => rfl, fun h => absurd h (by decide)⟩
    obtain ⟨x, hR, hx⟩ := H
    exact ⟨x, hR, HT.walk Γ_ok mo_ok (⟨([(15, .val (.bool (a.getD i false)))] ++ []), sp57, hd57 [] [] [] [], [], .pure [] (.int .i64 x)⟩ : Wk) 4000 (T := .split (decide ((↑i : Int) < (↑a.length : Int))) (.ob ((0 : Int) ≤ (↑i : Int) ∧ (↑i : Int) < (↑a.length : Int) ∧ (↑i : Int).toNat * (1 : Nat) < (boolsC a).length) (.ob ((boolsC a)[(↑i : Int).toNat * (1 : Nat)]? = some (AV.bool (a.getD i false))) (.split (true == a.getD i false) (.ob ((↑i : Int) = x) (.tt)) (.head (pt Try.f57 0) ({ tmps := [((0 : Nat), AV.sl none a.length (boolsC a) Own.no), ((1 : Nat), AV.bool true), ((7 : Nat), AV.int IntKind.i64 (↑a.length : Int)), ((8 : Nat), AV.int IntKind.i64 (IntKind.i64.wrap ((↑i : Int) + (1 : Int))))], heap := [], tags := [] }))))) (.ob ((-1 : Int) = x) (.tt))) (by kernel_rfl) hx⟩
theorem ix_e (a : List Bool) (i : Nat) (hi : i = a.length) : ∃ x : Int, (0 ≤ x ↔ ∃ j, i ≤ j ∧ j < a.length ∧ a.getD j false = true) ∧ HT Try.prog Try.f57.ntmps (pt Try.f57 0) (stIx a i) (EndsA Γ (.pure [] (.int .i64 x)) Try.f57) := by
    have H : ∃ x : Int, (0 ≤ x ↔ ∃ j, i ≤ j ∧ j < a.length ∧ a.getD j false = true) ∧ PT.holds Try.prog Try.f57.ntmps (EndsA Γ (.pure [] (.int .i64 x)) Try.f57) (.split (decide ((↑i : Int) < (↑a.length : Int))) (.ob ((0 : Int) ≤ (↑i : Int) ∧ (↑i : Int) < (↑a.length : Int) ∧ (↑i : Int).toNat * (1 : Nat) < (boolsC a).length) (.ob ((boolsC a)[(↑i : Int).toNat * (1 : Nat)]? = some (AV.bool (a.getD i false))) (.split (true == a.getD i false) (.ob ((↑i : Int) = x) (.tt)) (.head (pt Try.f57 0) ({ tmps := [((0 : Nat), AV.sl none a.length (boolsC a) Own.no), ((1 : Nat), AV.bool true), ((7 : Nat), AV.int IntKind.i64 (↑a.length : Int)), ((8 : Nat), AV.int IntKind.i64 (IntKind.i64.wrap ((↑i : Int) + (1 : Int))))], heap := [], tags := [] }))))) (.ob ((-1 : Int) = x) (.tt))) := by
      have h0 : decide ((i : Int) < a.length) = false := by simp; omega
      simp only [PT.holds, h0, true_implies, Bool.false_eq_true, Bool.true_eq_false, false_implies, true_and, and_true]
      exact ⟨-1, ⟨fun h => absurd h (by decide), fun ⟨j, h1, h2, _⟩ => by omega⟩, rfl⟩
    obtain ⟨x, hR, hx⟩ := H
    exact ⟨x, hR, HT.walk Γ_ok mo_ok (⟨([(15, .val (.bool (a.getD i false)))] ++ []), sp57, hd57 [] [] [] [], [], .pure [] (.int .i64 x)⟩ : Wk) 4000 (T := .split (decide ((↑i : Int) < (↑a.length : Int))) (.ob ((0 : Int) ≤ (↑i : Int) ∧ (↑i : Int) < (↑a.length : Int) ∧ (↑i : Int).toNat * (1 : Nat) < (boolsC a).length) (.ob ((boolsC a)[(↑i : Int).toNat * (1 : Nat)]? = some (AV.bool (a.getD i false))) (.split (true == a.getD i false) (.ob ((↑i : Int) = x) (.tt)) (.head (pt Try.f57 0) ({ tmps := [((0 : Nat), AV.sl none a.length (boolsC a) Own.no), ((1 : Nat), AV.bool true), ((7 : Nat), AV.int IntKind.i64 (↑a.length : Int)), ((8 : Nat), AV.int IntKind.i64 (IntKind.i64.wrap ((↑i : Int) + (1 : Int))))], heap := [], tags := [] }))))) (.ob ((-1 : Int) = x) (.tt))) (by kernel_rfl) hx⟩
theorem ix_l (a : List Bool) (hN : a.length ≤ 1000000) : ∀ d i, i + d = a.length → ∃ x : Int, (0 ≤ x ↔ ∃ j, i ≤ j ∧ j < a.length ∧ a.getD j false = true) ∧ HT Try.prog Try.f57.ntmps (pt Try.f57 0) (stIx a i) (EndsA Γ (.pure [] (.int .i64 x)) Try.f57) := by
  intro d
  induction d with
  | zero => exact fun i h => ix_e a i (by omega)
  | succ d ih => exact fun i h => ix_h a i (by omega) hN (ih (i + 1) (by omega))

theorem ix_ex (a : List Bool) (hN : a.length ≤ 1000000) : ∃ x : Int, (0 ≤ x ↔ ∃ j, 0 ≤ j ∧ j < a.length ∧ a.getD j false = true) ∧ Ctr Try.prog 57 [.sl none a.length (boolsC a) .no, .bool true] (.int .i64 x) := by
    have H : ∃ x : Int, (0 ≤ x ↔ ∃ j, 0 ≤ j ∧ j < a.length ∧ a.getD j false = true) ∧ PT.holds Try.prog Try.f57.ntmps (EndsA Γ (.pure [] (.int .i64 x)) Try.f57) (.head (pt Try.f57 0) ({ tmps := [((0 : Nat), AV.sl none a.length (boolsC a) Own.no), ((1 : Nat), AV.bool true), ((7 : Nat), AV.int IntKind.i64 (↑a.length : Int)), ((8 : Nat), AV.int IntKind.i64 (0 : Int))], heap := [], tags := [] })) := by
      simp only [PT.holds]
      exact ix_l a hN a.length 0 (Nat.zero_add _)
    obtain ⟨x, hR, hx⟩ := H
    exact ⟨x, hR, Ctr.mk Γ_ok Try.func57 (by kernel_rfl) Try.call57 [] (by kernel_rfl) (HT.walk Γ_ok mo_ok (⟨[], sp57, hd57 [] [] [] [], [], .pure [] (.int .i64 x)⟩ : Wk) 4000 (T := .head (pt Try.f57 0) ({ tmps := [((0 : Nat), AV.sl none a.length (boolsC a) Own.no), ((1 : Nat), AV.bool true), ((7 : Nat), AV.int IntKind.i64 (↑a.length : Int)), ((8 : Nat), AV.int IntKind.i64 (0 : Int))], heap := [], tags := [] })) (by kernel_rfl) hx)⟩
theorem has_ctr0 (a : List Bool) (x : Int) (hx : 0 ≤ x ↔ ∃ j, 0 ≤ j ∧ j < a.length ∧ a.getD j false = true) (hc : Ctr Try.prog 57 [.sl none a.length (boolsC a) .no, .bool true] (.int .i64 x)) : Ctr Try.prog 48 [.sl none a.length (boolsC a) .no, .bool true] (.bool (decide (∃ j, j < a.length ∧ a.getD j false = true))) :=
  Ctr.mk Γ_ok Try.func48 (by kernel_rfl) Try.call48 [] (by kernel_rfl) (HT.walk Γ_ok mo_ok (⟨([(7, .call [] (.int .i64 x))] ++ []), sp48, [], [], .pure [] (.bool (decide (∃ j, j < a.length ∧ a.getD j false = true)))⟩ : Wk) 4000 (T := .ob (Ctr Try.prog (57 : Nat) [AV.sl none a.length (boolsC a) Own.no, AV.bool true] (AV.int IntKind.i64 x)) (.ob (decide ((0 : Int) ≤ x) = decide (∃ j, j < a.length ∧ a.getD j false = true)) (.tt))) (by kernel_rfl) (by
    simp only [PT.holds, and_true]
    refine ⟨hc, decide_eq_decide.2 (hx.trans ⟨fun ⟨j, _, h2, h3⟩ => ⟨j, h2, h3⟩, fun ⟨j, h2, h3⟩ => ⟨j, Nat.zero_le _, h2, h3⟩⟩)⟩))
theorem has_ctr (a : List Bool) (hN : a.length ≤ 1000000) : Ctr Try.prog 48 [.sl none a.length (boolsC a) .no, .bool true] (.bool (decide (∃ j, j < a.length ∧ a.getD j false = true))) := by
  obtain ⟨x, hx, hc⟩ := ix_ex a hN
  exact has_ctr0 a x hx hc

theorem one_ctr (P : Pln) (k : Nat) (hk : k < P.tr.length) (hN : P.tr.length ≤ 1000000) : Ctr Try.prog 32 [.agg (planL P), .int .i64 k] (.sl (some false) P.tr.length (boolsC ((List.replicate P.tr.length false).set k true)) .no) :=
  Ctr.mk Γ_ok Try.func32 (by kernel_rfl) Try.call32 [10] (by kernel_rfl) (HT.walk Γ_ok mo_ok (⟨[], sp32, [], [], .pure [10] (.sl (some false) P.tr.length (boolsC ((List.replicate P.tr.length false).set k true)) .no)⟩ : Wk) 4000 (T := .ob ((↑P.tr.length : Int) = (↑P.tr.length : Int) ∧ (0 : Int) ≤ (↑P.tr.length : Int) ∧ (↑P.tr.length : Int) * (↑(1 : Nat) : Int) ≤ (281474976710656 : Int) ∧ (↑P.tr.length : Int) ≤ (9223372036854775807 : Int)) (.ob ((0 : Int) ≤ (↑k : Int) ∧ (↑k : Int) < (↑(↑P.tr.length : Int).toNat : Int)) (.ob ((0 : Nat) + (↑k : Int).toNat * (1 : Nat) < (List.replicate (↑P.tr.length : Int).toNat (zn (AV.bool false))).length) (.ob ((↑P.tr.length : Int).toNat = P.tr.length) (.ob (List.drop (0 : Nat) ((List.replicate (↑P.tr.length : Int).toNat (zn (AV.bool false))).set ((0 : Nat) + (↑k : Int).toNat * (1 : Nat)) (AV.bool true)) = boolsC ((List.replicate P.tr.length false).set k true)) (.tt)))))) (by kernel_rfl) (by
    simp only [PT.holds, Int.toNat_natCast, Nat.mul_one, Nat.zero_add, List.length_replicate, true_implies, Bool.false_eq_true, Bool.true_eq_false, false_implies, true_and, and_true]
    refine ⟨by omega, by omega, by omega, ?_⟩
    simp [boolsC, zn, List.map_set]))
theorem step_h (s out out' : List Bool) (to : List Int) (i : Nat) (hi : i < s.length) (hts : to.length = s.length) (hos : out.length = s.length) (hN : s.length ≤ 1000000) (ht : ∀ j, j < to.length → to.getD j 0 < s.length) (k : HT Try.prog Try.f41.ntmps (pt Try.f41 0) (stSt s (if s.getD i false && decide (0 ≤ to.getD i 0) then out.set (to.getD i 0).toNat true else out) to (i + 1)) (EndsA Γ (.mem [] (setM s out') (.tup [])) Try.f41)) : HT Try.prog Try.f41.ntmps (pt Try.f41 0) (stSt s out to i) (EndsA Γ (.mem [] (setM s out') (.tup [])) Try.f41) :=
  HT.walk Γ_ok mo_ok (⟨([(12, .val (.bool (s.getD i false))), (18, .val (.int .i64 (to.getD i 0))), (25, .val (.int .i64 (to.getD i 0)))] ++ []), sp41, hd41 [] [] [1000005, 1000007, 1000017] [], [], .mem [] (setM s out') (.tup [])⟩ : Wk) 4000 (T := .split (decide ((↑i : Int) < (↑s.length : Int))) (.ob ((0 : Int) ≤ (↑i : Int) ∧ (↑i : Int) < (↑s.length : Int) ∧ (↑i : Int).toNat * (1 : Nat) < (boolsC s).length) (.ob ((boolsC s)[(↑i : Int).toNat * (1 : Nat)]? = some (AV.bool (s.getD i false))) (.split (s.getD i false) (.ob ((0 : Int) ≤ (↑i : Int) ∧ (↑i : Int) < (↑to.length : Int) ∧ (↑i : Int).toNat * (1 : Nat) < (intsC to).length) (.ob ((intsC to)[(↑i : Int).toNat * (1 : Nat)]? = some (AV.int IntKind.i64 (to.getD i (0 : Int)))) (.split (decide ((0 : Int) ≤ to.getD i (0 : Int))) (.ob ((0 : Int) ≤ (↑i : Int) ∧ (↑i : Int) < (↑to.length : Int) ∧ (↑i : Int).toNat * (1 : Nat) < (intsC to).length) (.ob ((intsC to)[(↑i : Int).toNat * (1 : Nat)]? = some (AV.int IntKind.i64 (to.getD i (0 : Int)))) (.ob ((0 : Int) ≤ to.getD i (0 : Int) ∧ to.getD i (0 : Int) < (↑out.length : Int)) (.ob ((0 : Nat) + (to.getD i (0 : Int)).toNat * (1 : Nat) < (boolsC out).length) (.head (pt Try.f41 0) ({ tmps := [((0 : Nat), AV.sl none to.length (intsC to) Own.no), ((2 : Nat), AV.ptr (1000007 : Nat) (0 : Nat)), ((6 : Nat), AV.sl none s.length (boolsC s) Own.no), ((7 : Nat), AV.int IntKind.i64 (↑s.length : Int)), ((8 : Nat), AV.int IntKind.i64 (IntKind.i64.wrap ((↑i : Int) + (1 : Int))))], heap := [((1000005 : Nat), Blk.var true [AV.sl none s.length (boolsC s) Own.no]), ((1000007 : Nat), Blk.var true [AV.row (1000017 : Nat) (0 : Nat) out.length]), ((1000017 : Nat), Blk.rows true ((boolsC out).set ((0 : Nat) + (to.getD i (0 : Int)).toNat * (1 : Nat)) (AV.bool true)))], tags := [] })))))) (.head (pt Try.f41 0) ({ tmps := [((0 : Nat), AV.sl none to.length (intsC to) Own.no), ((2 : Nat), AV.ptr (1000007 : Nat) (0 : Nat)), ((6 : Nat), AV.sl none s.length (boolsC s) Own.no), ((7 : Nat), AV.int IntKind.i64 (↑s.length : Int)), ((8 : Nat), AV.int IntKind.i64 (IntKind.i64.wrap ((↑i : Int) + (1 : Int))))], heap := [((1000005 : Nat), Blk.var true [AV.sl none s.length (boolsC s) Own.no]), ((1000007 : Nat), Blk.var true [AV.row (1000017 : Nat) (0 : Nat) out.length]), ((1000017 : Nat), Blk.rows true (boolsC out))], tags := [] }))))) (.head (pt Try.f41 0) ({ tmps := [((0 : Nat), AV.sl none to.length (intsC to) Own.no), ((2 : Nat), AV.ptr (1000007 : Nat) (0 : Nat)), ((6 : Nat), AV.sl none s.length (boolsC s) Own.no), ((7 : Nat), AV.int IntKind.i64 (↑s.length : Int)), ((8 : Nat), AV.int IntKind.i64 (IntKind.i64.wrap ((↑i : Int) + (1 : Int))))], heap := [((1000005 : Nat), Blk.var true [AV.sl none s.length (boolsC s) Own.no]), ((1000007 : Nat), Blk.var true [AV.row (1000017 : Nat) (0 : Nat) out.length]), ((1000017 : Nat), Blk.rows true (boolsC out))], tags := [] }))))) (.ob (s.length = s.length) (.ob (boolsC s = boolsC s) (.ob ((0 : Nat) = (0 : Nat)) (.ob (out.length = out'.length) (.ob (boolsC out = boolsC out') (.tt))))))) (by kernel_rfl) (by
    have w2 : IntKind.i64.wrap ((i : Int) + 1) = ((i + 1 : Nat) : Int) := by rw [i64_wrap (by omega) (by omega)]; rfl
    have h0 : decide ((i : Int) < s.length) = true := by simp; omega
    have hit : i < to.length := by omega
    have htt := ht i hit
    simp only [PT.holds, w2, h0, Int.toNat_natCast, Nat.mul_one, Nat.zero_add, boolsC_len, intsC_len', boolsC_nth s i hi, intsC_nth to i hit, boolsC_set', true_implies, Bool.false_eq_true, Bool.true_eq_false, false_implies, true_and, and_true]
    refine ⟨by omega, fun h1 => ⟨by omega, fun h2 => ⟨by omega, by simp only [decide_eq_true_eq] at h2; omega, by simp only [decide_eq_true_eq] at h2; omega, ?_⟩, fun h2 => ?_⟩, fun h1 => ?_⟩
    · refine head_eq k ?_
      simp only [stSt, h1, h2, Bool.true_and, if_true, List.length_set]
    · refine head_eq k ?_
      simp only [stSt, h1, h2, Bool.true_and, Bool.false_eq_true, if_false]
    · refine head_eq k ?_
      simp only [stSt, h1, Bool.false_and, Bool.false_eq_true, if_false])
theorem step_e (s out : List Bool) (to : List Int) (i : Nat) (hi : i = s.length) : HT Try.prog Try.f41.ntmps (pt Try.f41 0) (stSt s out to i) (EndsA Γ (.mem [] (setM s out) (.tup [])) Try.f41) :=
  HT.walk Γ_ok mo_ok (⟨([(12, .val (.bool (s.getD i false))), (18, .val (.int .i64 (to.getD i 0))), (25, .val (.int .i64 (to.getD i 0)))] ++ []), sp41, hd41 [] [] [1000005, 1000007, 1000017] [], [], .mem [] (setM s out) (.tup [])⟩ : Wk) 4000 (T := .split (decide ((↑i : Int) < (↑s.length : Int))) (.ob ((0 : Int) ≤ (↑i : Int) ∧ (↑i : Int) < (↑s.length : Int) ∧ (↑i : Int).toNat * (1 : Nat) < (boolsC s).length) (.ob ((boolsC s)[(↑i : Int).toNat * (1 : Nat)]? = some (AV.bool (s.getD i false))) (.split (s.getD i false) (.ob ((0 : Int) ≤ (↑i : Int) ∧ (↑i : Int) < (↑to.length : Int) ∧ (↑i : Int).toNat * (1 : Nat) < (intsC to).length) (.ob ((intsC to)[(↑i : Int).toNat * (1 : Nat)]? = some (AV.int IntKind.i64 (to.getD i (0 : Int)))) (.split (decide ((0 : Int) ≤ to.getD i (0 : Int))) (.ob ((0 : Int) ≤ (↑i : Int) ∧ (↑i : Int) < (↑to.length : Int) ∧ (↑i : Int).toNat * (1 : Nat) < (intsC to).length) (.ob ((intsC to)[(↑i : Int).toNat * (1 : Nat)]? = some (AV.int IntKind.i64 (to.getD i (0 : Int)))) (.ob ((0 : Int) ≤ to.getD i (0 : Int) ∧ to.getD i (0 : Int) < (↑out.length : Int)) (.ob ((0 : Nat) + (to.getD i (0 : Int)).toNat * (1 : Nat) < (boolsC out).length) (.head (pt Try.f41 0) ({ tmps := [((0 : Nat), AV.sl none to.length (intsC to) Own.no), ((2 : Nat), AV.ptr (1000007 : Nat) (0 : Nat)), ((6 : Nat), AV.sl none s.length (boolsC s) Own.no), ((7 : Nat), AV.int IntKind.i64 (↑s.length : Int)), ((8 : Nat), AV.int IntKind.i64 (IntKind.i64.wrap ((↑i : Int) + (1 : Int))))], heap := [((1000005 : Nat), Blk.var true [AV.sl none s.length (boolsC s) Own.no]), ((1000007 : Nat), Blk.var true [AV.row (1000017 : Nat) (0 : Nat) out.length]), ((1000017 : Nat), Blk.rows true ((boolsC out).set ((0 : Nat) + (to.getD i (0 : Int)).toNat * (1 : Nat)) (AV.bool true)))], tags := [] })))))) (.head (pt Try.f41 0) ({ tmps := [((0 : Nat), AV.sl none to.length (intsC to) Own.no), ((2 : Nat), AV.ptr (1000007 : Nat) (0 : Nat)), ((6 : Nat), AV.sl none s.length (boolsC s) Own.no), ((7 : Nat), AV.int IntKind.i64 (↑s.length : Int)), ((8 : Nat), AV.int IntKind.i64 (IntKind.i64.wrap ((↑i : Int) + (1 : Int))))], heap := [((1000005 : Nat), Blk.var true [AV.sl none s.length (boolsC s) Own.no]), ((1000007 : Nat), Blk.var true [AV.row (1000017 : Nat) (0 : Nat) out.length]), ((1000017 : Nat), Blk.rows true (boolsC out))], tags := [] }))))) (.head (pt Try.f41 0) ({ tmps := [((0 : Nat), AV.sl none to.length (intsC to) Own.no), ((2 : Nat), AV.ptr (1000007 : Nat) (0 : Nat)), ((6 : Nat), AV.sl none s.length (boolsC s) Own.no), ((7 : Nat), AV.int IntKind.i64 (↑s.length : Int)), ((8 : Nat), AV.int IntKind.i64 (IntKind.i64.wrap ((↑i : Int) + (1 : Int))))], heap := [((1000005 : Nat), Blk.var true [AV.sl none s.length (boolsC s) Own.no]), ((1000007 : Nat), Blk.var true [AV.row (1000017 : Nat) (0 : Nat) out.length]), ((1000017 : Nat), Blk.rows true (boolsC out))], tags := [] }))))) (.ob (s.length = s.length) (.ob (boolsC s = boolsC s) (.ob ((0 : Nat) = (0 : Nat)) (.ob (out.length = out.length) (.ob (boolsC out = boolsC out) (.tt))))))) (by kernel_rfl) (by
    have h0 : decide ((i : Int) < s.length) = false := by simp; omega
    simp only [PT.holds, h0, true_implies, Bool.false_eq_true, Bool.true_eq_false, false_implies, true_and, and_true])
theorem stepF_len (to : List Int) (s : List Bool) : ∀ d i out, (stepF to s d i out).length = out.length
  | 0, i, out => rfl
  | d + 1, i, out => by
    simp only [stepF]
    rw [stepF_len]
    split <;> simp
theorem step_l (s : List Bool) (to : List Int) (hts : to.length = s.length) (hN : s.length ≤ 1000000) (ht : ∀ j, j < to.length → to.getD j 0 < s.length) : ∀ d i out, i + d = s.length → out.length = s.length → HT Try.prog Try.f41.ntmps (pt Try.f41 0) (stSt s out to i) (EndsA Γ (.mem [] (setM s (stepF to s d i out)) (.tup [])) Try.f41) := by
  intro d
  induction d with
  | zero => exact fun i out h ho => step_e s out to i (by omega)
  | succ d ih =>
    intro i out h ho
    exact step_h s out _ to i (by omega) hts ho hN ht (ih (i + 1) _ (by omega) (by split <;> simp [ho]))

theorem step_ctr (s out : List Bool) (to : List Int) (hts : to.length = s.length) (hN : s.length ≤ 1000000) (ht : ∀ j, j < to.length → to.getD j 0 < s.length) (ho : out.length = s.length) : CtrM Try.prog 41 (setM s out) [.sl none to.length (intsC to) .no, .ptr 1000005 0, .ptr 1000007 0] (setM s (stepF to s s.length 0 out)) (.tup []) :=
  CtrM.mk Γ_ok Try.func41 (by kernel_rfl) Try.call41 [] (by kernel_rfl) (by kernel_rfl) (by kernel_rfl) (HT.walk Γ_ok mo_ok (⟨[], sp41, hd41 [] [] [1000005, 1000007, 1000017] [], [], .mem [] (setM s (stepF to s s.length 0 out)) (.tup [])⟩ : Wk) 4000 (T := .head (pt Try.f41 0) ({ tmps := [((0 : Nat), AV.sl none to.length (intsC to) Own.no), ((2 : Nat), AV.ptr (1000007 : Nat) (0 : Nat)), ((6 : Nat), AV.sl none s.length (boolsC s) Own.no), ((7 : Nat), AV.int IntKind.i64 (↑s.length : Int)), ((8 : Nat), AV.int IntKind.i64 (0 : Int))], heap := [((1000005 : Nat), Blk.var true [AV.sl none s.length (boolsC s) Own.no]), ((1000007 : Nat), Blk.var true [AV.row (1000017 : Nat) (0 : Nat) out.length]), ((1000017 : Nat), Blk.rows true (boolsC out))], tags := [] })) (by kernel_rfl) (by
    simp only [PT.holds]
    exact step_l s to hts hN ht s.length 0 out (Nat.zero_add _) ho))
theorem attr_h (t : Tr) (n : Nm) (i : Nat) (v : ByteArray) (ok : Bool) (hi : i < t.attrs.length) (hN : t.attrs.length ≤ 1048600) (k : ¬ ((t.attrs.getD i atr0).nm = n ∧ t.isText = false) → HT Try.prog Try.f45.ntmps (pt Try.f45 0) (stAt t n (i + 1)) (EndsA Γ (.pure [] (.tup [.str v, .bool ok])) Try.f45)) (hr : (t.attrs.getD i atr0).nm = n ∧ t.isText = false → v = (t.attrs.getD i atr0).v ∧ ok = true) : HT Try.prog Try.f45.ntmps (pt Try.f45 0) (stAt t n i) (EndsA Γ (.pure [] (.tup [.str v, .bool ok])) Try.f45) :=
  HT.walk Γ_ok mo_ok (⟨([(14, .val (.agg (atC (t.attrs.getD i atr0))))] ++ []), sp45, hd45 [] [] [] [], [], .pure [] (.tup [.str v, .bool ok])⟩ : Wk) 4000 (T := .split (decide ((↑i : Int) < (↑t.attrs.length : Int))) (.ob ((0 : Int) ≤ (↑i : Int) ∧ (↑i : Int) < (↑t.attrs.length : Int) ∧ (↑i : Int).toNat * (3 : Nat) < (atsC t.attrs).length) (.ob (List.take (3 : Nat) (List.drop ((↑i : Int).toNat * (3 : Nat)) (atsC t.attrs)) = [AV.str (t.attrs.getD i atr0).nm.sp, AV.str (t.attrs.getD i atr0).nm.lo, AV.str (t.attrs.getD i atr0).v]) (.ob ((2 : Nat) ≤ (3 : Nat)) (.ob ((2 : Nat) ≤ (2 : Nat)) (.split (decide ((t.attrs.getD i atr0).nm.sp = n.sp) && (decide ((t.attrs.getD i atr0).nm.lo = n.lo) && true)) (.split (t.isText) (.head (pt Try.f45 0) ({ tmps := [((2 : Nat), AV.ptr (2 : Nat) (0 : Nat)), ((3 : Nat), AV.ptr (3 : Nat) (0 : Nat)), ((9 : Nat), AV.sl none t.attrs.length (atsC t.attrs) Own.no), ((10 : Nat), AV.int IntKind.i64 (↑t.attrs.length : Int)), ((11 : Nat), AV.int IntKind.i64 (IntKind.i64.wrap ((↑i : Int) + (1 : Int))))], heap := [((2 : Nat), Blk.var true [AV.bool t.isText, AV.str t.text, AV.str t.nm.sp, AV.str t.nm.lo, AV.sl none t.attrs.length (atsC t.attrs) Own.no, AV.sl none t.kids.length (trsC t.kids) Own.no]), ((3 : Nat), Blk.var true [AV.str n.sp, AV.str n.lo])], tags := [] })) (.ob ((t.attrs.getD i atr0).v = v) (.ob (true = ok) (.tt)))) (.head (pt Try.f45 0) ({ tmps := [((2 : Nat), AV.ptr (2 : Nat) (0 : Nat)), ((3 : Nat), AV.ptr (3 : Nat) (0 : Nat)), ((9 : Nat), AV.sl none t.attrs.length (atsC t.attrs) Own.no), ((10 : Nat), AV.int IntKind.i64 (↑t.attrs.length : Int)), ((11 : Nat), AV.int IntKind.i64 (IntKind.i64.wrap ((↑i : Int) + (1 : Int))))], heap := [((2 : Nat), Blk.var true [AV.bool t.isText, AV.str t.text, AV.str t.nm.sp, AV.str t.nm.lo, AV.sl none t.attrs.length (atsC t.attrs) Own.no, AV.sl none t.kids.length (trsC t.kids) Own.no]), ((3 : Nat), Blk.var true [AV.str n.sp, AV.str n.lo])], tags := [] }))))))) (.ob ((ByteArray.mk #[]) = v) (.ob (false = ok) (.tt)))) (by kernel_rfl) (by
    have w2 : IntKind.i64.wrap ((i : Int) + 1) = ((i + 1 : Nat) : Int) := by rw [i64_wrap (by omega) (by omega)]; rfl
    have h0 : decide ((i : Int) < t.attrs.length) = true := by simp; omega
    simp only [PT.holds, w2, h0, Int.toNat_natCast, atsC_len, nm_eq, true_implies, Bool.false_eq_true, Bool.true_eq_false, false_implies, true_and, and_true]
    refine ⟨by omega, by ((try simp only [Nat.add_assoc, Nat.reduceAdd, Nat.add_zero]) <;> first | (rw [ats_take _ _ _ _ hi (by decide)]; rfl) | (rw [ats_nth _ _ _ hi (by decide)]; rfl) | (rw [evs_take _ _ _ _ hi (by decide)]; rfl) | (rw [evs_nth _ _ _ hi (by decide)]; rfl) | (rw [trs_take _ _ _ _ hi (by decide)]; rfl) | (rw [trs_nth _ _ _ hi (by decide)]; rfl) | (rw [pths_take _ _ _ _ hi (by decide)]; rfl) | (rw [pths_nth _ _ _ hi (by decide)]; rfl) | (rw [flts_take _ _ _ _ hi (by decide)]; rfl) | (rw [flts_nth _ _ _ hi (by decide)]; rfl) | (rw [ats_take0 _ _ _ hi (by decide)]; rfl) | (rw [ats_nth0 _ _ hi]; rfl) | (rw [evs_take0 _ _ _ hi (by decide)]; rfl) | (rw [evs_nth0 _ _ hi]; rfl) | (rw [trs_take0 _ _ _ hi (by decide)]; rfl) | (rw [trs_nth0 _ _ hi]; rfl) | (rw [pths_take0 _ _ _ hi (by decide)]; rfl) | (rw [pths_nth0 _ _ hi]; rfl) | (rw [flts_take0 _ _ _ hi (by decide)]; rfl) | (rw [flts_nth0 _ _ hi]; rfl)), by omega, by omega, fun h1 => ⟨fun h2 => k ?_, fun h2 => ?_⟩, fun h1 => k ?_⟩
    · intro hh; rw [hh.2] at h2; cases h2
    · have := hr ⟨by simpa using h1, h2⟩
      exact ⟨this.1.symm, this.2.symm⟩
    · intro hh; simp only [decide_eq_false_iff_not] at h1; exact h1 hh.1)
theorem attr_e (t : Tr) (n : Nm) (i : Nat) (hi : i = t.attrs.length) : HT Try.prog Try.f45.ntmps (pt Try.f45 0) (stAt t n i) (EndsA Γ (.pure [] (.tup [.str ⟨#[]⟩, .bool false])) Try.f45) :=
  HT.walk Γ_ok mo_ok (⟨([(14, .val (.agg (atC (t.attrs.getD i atr0))))] ++ []), sp45, hd45 [] [] [] [], [], .pure [] (.tup [.str ⟨#[]⟩, .bool false])⟩ : Wk) 4000 (T := .split (decide ((↑i : Int) < (↑t.attrs.length : Int))) (.ob ((0 : Int) ≤ (↑i : Int) ∧ (↑i : Int) < (↑t.attrs.length : Int) ∧ (↑i : Int).toNat * (3 : Nat) < (atsC t.attrs).length) (.ob (List.take (3 : Nat) (List.drop ((↑i : Int).toNat * (3 : Nat)) (atsC t.attrs)) = [AV.str (t.attrs.getD i atr0).nm.sp, AV.str (t.attrs.getD i atr0).nm.lo, AV.str (t.attrs.getD i atr0).v]) (.ob ((2 : Nat) ≤ (3 : Nat)) (.ob ((2 : Nat) ≤ (2 : Nat)) (.split (decide ((t.attrs.getD i atr0).nm.sp = n.sp) && (decide ((t.attrs.getD i atr0).nm.lo = n.lo) && true)) (.split (t.isText) (.head (pt Try.f45 0) ({ tmps := [((2 : Nat), AV.ptr (2 : Nat) (0 : Nat)), ((3 : Nat), AV.ptr (3 : Nat) (0 : Nat)), ((9 : Nat), AV.sl none t.attrs.length (atsC t.attrs) Own.no), ((10 : Nat), AV.int IntKind.i64 (↑t.attrs.length : Int)), ((11 : Nat), AV.int IntKind.i64 (IntKind.i64.wrap ((↑i : Int) + (1 : Int))))], heap := [((2 : Nat), Blk.var true [AV.bool t.isText, AV.str t.text, AV.str t.nm.sp, AV.str t.nm.lo, AV.sl none t.attrs.length (atsC t.attrs) Own.no, AV.sl none t.kids.length (trsC t.kids) Own.no]), ((3 : Nat), Blk.var true [AV.str n.sp, AV.str n.lo])], tags := [] })) (.ob ((t.attrs.getD i atr0).v = (ByteArray.mk #[])) (.ob (true = false) (.tt)))) (.head (pt Try.f45 0) ({ tmps := [((2 : Nat), AV.ptr (2 : Nat) (0 : Nat)), ((3 : Nat), AV.ptr (3 : Nat) (0 : Nat)), ((9 : Nat), AV.sl none t.attrs.length (atsC t.attrs) Own.no), ((10 : Nat), AV.int IntKind.i64 (↑t.attrs.length : Int)), ((11 : Nat), AV.int IntKind.i64 (IntKind.i64.wrap ((↑i : Int) + (1 : Int))))], heap := [((2 : Nat), Blk.var true [AV.bool t.isText, AV.str t.text, AV.str t.nm.sp, AV.str t.nm.lo, AV.sl none t.attrs.length (atsC t.attrs) Own.no, AV.sl none t.kids.length (trsC t.kids) Own.no]), ((3 : Nat), Blk.var true [AV.str n.sp, AV.str n.lo])], tags := [] }))))))) (.ob ((ByteArray.mk #[]) = (ByteArray.mk #[])) (.ob (false = false) (.tt)))) (by kernel_rfl) (by
    have h0 : decide ((i : Int) < t.attrs.length) = false := by simp; omega
    simp only [PT.holds, h0, true_implies, Bool.false_eq_true, Bool.true_eq_false, false_implies, true_and, and_true])
theorem attr_l (t : Tr) (n : Nm) (hN : t.attrs.length ≤ 1048600) : ∀ d i, i + d = t.attrs.length → HT Try.prog Try.f45.ntmps (pt Try.f45 0) (stAt t n i) (EndsA Γ (.pure [] (.tup [.str ((attrL t.isText n (t.attrs.drop i)).getD ⟨#[]⟩), .bool (attrL t.isText n (t.attrs.drop i)).isSome])) Try.f45) := by
  intro d
  induction d with
  | zero =>
    intro i h
    rw [List.drop_of_length_le (by omega)]
    exact attr_e t n i (by omega)
  | succ d ih =>
    intro i h
    have hlt : i < t.attrs.length := by omega
    have hd : t.attrs.drop i = t.attrs.getD i atr0 :: t.attrs.drop (i + 1) := by
      rw [List.drop_eq_getElem_cons hlt, List.getD_eq_getElem?_getD, List.getElem?_eq_getElem hlt]
      rfl
    refine attr_h t n i _ _ hlt hN (fun hh => ?_) (fun hh => ?_)
    · rw [hd]
      simp only [attrL, if_neg hh]
      exact ih (i + 1) (by omega)
    · rw [hd]
      simp only [attrL, if_pos hh]
      exact ⟨rfl, rfl⟩

theorem attr_ctr (t : Tr) (n : Nm) (hN : t.attrs.length ≤ 1048600) : Ctr Try.prog 45 [.agg (trL t), .agg (nmC n)] (.tup [.str ((attrL t.isText n t.attrs).getD ⟨#[]⟩), .bool (attrL t.isText n t.attrs).isSome]) :=
  Ctr.mk Γ_ok Try.func45 (by kernel_rfl) Try.call45 [] (by kernel_rfl) (HT.walk Γ_ok mo_ok (⟨[], sp45, hd45 [] [] [] [], [], .pure [] (.tup [.str ((attrL t.isText n t.attrs).getD ⟨#[]⟩), .bool (attrL t.isText n t.attrs).isSome])⟩ : Wk) 4000 (T := .head (pt Try.f45 0) ({ tmps := [((2 : Nat), AV.ptr (2 : Nat) (0 : Nat)), ((3 : Nat), AV.ptr (3 : Nat) (0 : Nat)), ((9 : Nat), AV.sl none t.attrs.length (atsC t.attrs) Own.no), ((10 : Nat), AV.int IntKind.i64 (↑t.attrs.length : Int)), ((11 : Nat), AV.int IntKind.i64 (0 : Int))], heap := [((2 : Nat), Blk.var true [AV.bool t.isText, AV.str t.text, AV.str t.nm.sp, AV.str t.nm.lo, AV.sl none t.attrs.length (atsC t.attrs) Own.no, AV.sl none t.kids.length (trsC t.kids) Own.no]), ((3 : Nat), Blk.var true [AV.str n.sp, AV.str n.lo])], tags := [] })) (by kernel_rfl) (by
    simp only [PT.holds]
    exact attr_l t n hN t.attrs.length 0 (Nat.zero_add _)))
end Go.Proofs.Ytpffjbbolaehpaa
end

section
set_option linter.unusedVariables false
set_option linter.unusedSimpArgs false
namespace Go.Proofs.Ytpffjbbolaehpaa
open Go Go.AX

/-! ### judge, as plain data -/
def noneL (n : Nat) : List Bool := List.replicate n false
def starF (f : List Bool → List Bool) : Nat → List Bool → List Bool
  | 0, s => s
  | d + 1, s => if orZ s (f s) = s then s else starF f d (orZ s (f s))
def whereF (g : Nat → Bool) (s : List Bool) : List Bool := (List.range s.length).map fun n => s.getD n false && g n
def anyT (s : List Bool) : Bool := decide (∃ j, j < s.length ∧ s.getD j false = true)
mutual
def leadsJ (P : Pln) : Pth → List Bool → List Bool
  | .mk op sub test, s =>
    if op = 1 then s
    else if op = 2 then stepF P.fst s s.length 0 (noneL s.length)
    else if op = 3 then stepF P.nxt s s.length 0 (noneL s.length)
    else if op = 4 then seqJ P sub s
    else if op = 5 then altJ P sub s (noneL s.length)
    else if op = 6 then starJ P sub s
    else if op = 7 then whereJ P test s
    else noneL s.length
def seqJ (P : Pln) : List Pth → List Bool → List Bool
  | [], s => s
  | p :: r, s => seqJ P r (leadsJ P p s)
def altJ (P : Pln) : List Pth → List Bool → List Bool → List Bool
  | [], s, out => out
  | p :: r, s, out => altJ P r s (orZ out (leadsJ P p s))
def starJ (P : Pln) : List Pth → List Bool → List Bool
  | [], s => s
  | p :: _, s => starF (leadsJ P p) (s.length + 1) s
def whereJ (P : Pln) : List Flt → List Bool → List Bool
  | [], s => s
  | f :: _, s => whereF (holdsJ P f) s
def holdsJ (P : Pln) : Flt → Nat → Bool
  | .mk op n v sub way, k =>
    if op = 1 then true
    else if op = 2 then !(P.tr.getD k tr0).isText
    else if op = 3 then (P.tr.getD k tr0).isText
    else if op = 4 then !(P.tr.getD k tr0).isText && decide ((P.tr.getD k tr0).nm = n)
    else if op = 5 then (attrL (P.tr.getD k tr0).isText n (P.tr.getD k tr0).attrs).isSome
    else if op = 6 then (attrL (P.tr.getD k tr0).isText n (P.tr.getD k tr0).attrs).isSome && decide ((attrL (P.tr.getD k tr0).isText n (P.tr.getD k tr0).attrs).getD ⟨#[]⟩ = v)
    else if op = 7 then (P.tr.getD k tr0).isText && decide ((P.tr.getD k tr0).text = v)
    else if op = 8 then notJ P sub k
    else if op = 9 then allJ P sub k
    else if op = 10 then anyJ P sub k
    else if op = 11 then someJ P way k
    else false
def notJ (P : Pln) : List Flt → Nat → Bool
  | [], k => true
  | f :: _, k => !holdsJ P f k
def allJ (P : Pln) : List Flt → Nat → Bool
  | [], k => true
  | f :: r, k => holdsJ P f k && allJ P r k
def anyJ (P : Pln) : List Flt → Nat → Bool
  | [], k => false
  | f :: r, k => holdsJ P f k || anyJ P r k
def someJ (P : Pln) : List Pth → Nat → Bool
  | [], k => false
  | p :: _, k => anyT (leadsJ P p ((noneL P.tr.length).set k true))
end
structure PW (P : Pln) (N : Nat) : Prop where
  n : 0 < N ∧ N ≤ 1000000
  par : P.par.length = N
  fst : P.fst.length = N
  nxt : P.nxt.length = N
  siz : P.siz.length = N
  tr : P.tr.length = N
  fok : ∀ j, j < N → P.fst.getD j 0 < N
  nok : ∀ j, j < N → P.nxt.getD j 0 < N
  ats : ∀ t ∈ P.tr, t.attrs.length ≤ 1048600
theorem noneL_len (n : Nat) : (noneL n).length = n := by simp [noneL]
theorem starF_len (f : List Bool → List Bool) (N : Nat) (hf : ∀ s, s.length = N → (f s).length = N) : ∀ d s, s.length = N → (starF f d s).length = N
  | 0, s, h => h
  | d + 1, s, h => by
    simp only [starF]
    split
    · exact h
    · exact starF_len f N hf d _ (by rw [orZ_len _ _ (by rw [h, hf s h]), hf s h])
mutual
theorem leads_len (P : Pln) (N : Nat) (p : Pth) (s : List Bool) (h : s.length = N) : (leadsJ P p s).length = N := by
  match p with
  | .mk op sub test =>
    simp only [leadsJ]
    split
    · exact h
    split
    · rw [stepF_len, noneL_len, h]
    split
    · rw [stepF_len, noneL_len, h]
    split
    · exact seq_len P N sub s h
    split
    · exact alt_len P N sub s _ h (by rw [noneL_len, h])
    split
    · exact star_len P N sub s h
    split
    · cases test with
      | nil => simp only [whereJ]; exact h
      | cons f r => simp [whereJ, whereF, h]
    · rw [noneL_len, h]
theorem seq_len (P : Pln) (N : Nat) (r : List Pth) (s : List Bool) (h : s.length = N) : (seqJ P r s).length = N := by
  match r with
  | [] => simpa [seqJ] using h
  | p :: r => simp only [seqJ]; exact seq_len P N r _ (leads_len P N p s h)
theorem alt_len (P : Pln) (N : Nat) (r : List Pth) (s out : List Bool) (h : s.length = N) (ho : out.length = N) : (altJ P r s out).length = N := by
  match r with
  | [] => simpa [altJ] using ho
  | p :: r =>
    simp only [altJ]
    have := leads_len P N p s h
    exact alt_len P N r s _ h (by rw [orZ_len _ _ (by omega), this])
theorem star_len (P : Pln) (N : Nat) (r : List Pth) (s : List Bool) (h : s.length = N) : (starJ P r s).length = N := by
  match r with
  | [] => simpa [starJ] using h
  | p :: r => simp only [starJ]; exact starF_len _ N (fun s hs => leads_len P N p s hs) _ s h
end
end Go.Proofs.Ytpffjbbolaehpaa
end
