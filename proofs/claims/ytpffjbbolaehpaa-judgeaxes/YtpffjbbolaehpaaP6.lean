import Derived.Test.YtpffjbbolaehpaaP5
import Derived.OpenShut
import Derived.SizedLaws
import Derived.Test.YtpffjbbolaehpaaP4
import Derived.Test.YtpffjbbolaehpaaRows
section
set_option linter.unusedVariables false
set_option linter.unusedSimpArgs false
set_option maxRecDepth 100000
namespace Go.Proofs.Ytpffjbbolaehpaa
open Go Go.AX

def stR (s : ByteArray) (at_ n : Nat) : AS := ⟨[(0, .str s), (1, .int .i64 at_), (7, .int .i64 n)], [], []⟩
def stA (s : ByteArray) (at_ : Nat) (l : List Int) : AS := ⟨[(0, .str s), (5, .sl none l.length (l.map (.int .i32)) (.own 1)), (6, .int .i64 at_)], [], [(1, ⟨l.length, 21, 1, none⟩)]⟩
def stP (l : List Int) (i : Nat) : AS := ⟨[(3, .sl (some false) l.length (l.map (.int .i32)) .no), (4, .int .i64 i)], [], []⟩
def stQ (l : List Int) (i : Nat) (why : Int) : AS := ⟨[(3, .sl none l.length (l.map (.int .i32)) .no), (5, .int .i64 why), (6, .int .i64 i)], [], []⟩
theorem begins_put (s : ByteArray) (at_ : Nat) (ha : at_ ≤ s.size) (hss : s.size ≤ 1048600) (r : Int) : ∃ x : Bool, Triv ∧ Ctr Try.prog 69 [.str s, .int .i64 at_, .sl none (putL r).length ((putL r).map (.int .u8)) .no] (.bool x) := begins_ex s at_ (putL r) (by omega) (by have := putL_le r; omega) hss

theorem rune_h (s : ByteArray) (at_ n : Nat) (hn : 1 ≤ n ∧ n ≤ 5) (ha : at_ < s.size) (hss : s.size ≤ 1048600) (ih : n ≤ 4 → ∃ x : Int × Int × Int, (x.2.2 = 0 → 1 ≤ x.2.1 ∧ x.2.1 ≤ 4 ∧ at_ + x.2.1 ≤ s.size) ∧ HT Try.prog Try.f65.ntmps (pt Try.f65 0) (stR s at_ (n + 1)) (EndsA Γ (.pure [] (.tup [.int .i64 x.1, .int .i64 x.2.1, .int .i64 x.2.2])) Try.f65)) : ∃ x : Int × Int × Int, (x.2.2 = 0 → 1 ≤ x.2.1 ∧ x.2.1 ≤ 4 ∧ at_ + x.2.1 ≤ s.size) ∧ HT Try.prog Try.f65.ntmps (pt Try.f65 0) (stR s at_ n) (EndsA Γ (.pure [] (.tup [.int .i64 x.1, .int .i64 x.2.1, .int .i64 x.2.2])) Try.f65) := by
    have H : ∃ x : Int × Int × Int, (x.2.2 = 0 → 1 ≤ x.2.1 ∧ x.2.1 ≤ 4 ∧ at_ + x.2.1 ≤ s.size) ∧ PT.holds Try.prog Try.f65.ntmps (EndsA Γ (.pure [] (.tup [.int .i64 x.1, .int .i64 x.2.1, .int .i64 x.2.2])) Try.f65) (.split (decide ((↑n : Int) ≤ (4 : Int))) (.split (decide (IntKind.i64.wrap ((↑at_ : Int) + (↑n : Int)) ≤ (↑s.size : Int))) (.ob ((0 : Int) ≤ (↑at_ : Int) ∧ (↑at_ : Int) < (↑s.size : Int)) (.split (decide ((1 : Int) < (↑n : Int))) (.ob (Ctr Try.prog 67 [AV.str s, AV.int .i64 (↑at_ : Int), AV.int .i64 (↑n : Int)] (AV.int .i64 (exI Try.prog (67 : FuncId) [AV.str s, AV.int .i64 (↑at_ : Int), AV.int .i64 (↑n : Int)]))) (.ob (Ctr Try.prog 68 [AV.int .i64 (exI Try.prog (67 : FuncId) [AV.str s, AV.int .i64 (↑at_ : Int), AV.int .i64 (↑n : Int)])] (AV.sl none (putL (exI Try.prog (67 : FuncId) [AV.str s, AV.int .i64 (↑at_ : Int), AV.int .i64 (↑n : Int)])).length (List.map (AV.int .u8) (putL (exI Try.prog (67 : FuncId) [AV.str s, AV.int .i64 (↑at_ : Int), AV.int .i64 (↑n : Int)]))) .no)) (.split (decide ((↑(putL (exI Try.prog (67 : FuncId) [AV.str s, AV.int .i64 (↑at_ : Int), AV.int .i64 (↑n : Int)])).length : Int) = (↑n : Int))) (.ob (Ctr Try.prog 69 [AV.str s, AV.int .i64 (↑at_ : Int), AV.sl none (putL (exI Try.prog (67 : FuncId) [AV.str s, AV.int .i64 (↑at_ : Int), AV.int .i64 (↑n : Int)])).length (List.map (AV.int .u8) (putL (exI Try.prog (67 : FuncId) [AV.str s, AV.int .i64 (↑at_ : Int), AV.int .i64 (↑n : Int)]))) .no] (AV.bool (exB Try.prog (69 : FuncId) [AV.str s, AV.int .i64 (↑at_ : Int), AV.sl none (putL (exI Try.prog (67 : FuncId) [AV.str s, AV.int .i64 (↑at_ : Int), AV.int .i64 (↑n : Int)])).length (List.map (AV.int .u8) (putL (exI Try.prog (67 : FuncId) [AV.str s, AV.int .i64 (↑at_ : Int), AV.int .i64 (↑n : Int)]))) Own.no.tree]))) (.split (exB Try.prog (69 : FuncId) [AV.str s, AV.int .i64 (↑at_ : Int), AV.sl none (putL (exI Try.prog (67 : FuncId) [AV.str s, AV.int .i64 (↑at_ : Int), AV.int .i64 (↑n : Int)])).length (List.map (AV.int .u8) (putL (exI Try.prog (67 : FuncId) [AV.str s, AV.int .i64 (↑at_ : Int), AV.int .i64 (↑n : Int)]))) Own.no.tree]) (.ob (exI Try.prog (67 : FuncId) [AV.str s, AV.int .i64 (↑at_ : Int), AV.int .i64 (↑n : Int)] = x.fst) (.ob ((↑n : Int) = x.snd.fst) (.ob ((0 : Int) = x.snd.snd) (.tt)))) (.head (pt Try.f65 0) ({ tmps := [(0, AV.str s), (1, AV.int .i64 (↑at_ : Int)), (7, AV.int .i64 (IntKind.i64.wrap ((↑n : Int) + (1 : Int))))], heap := [], tags := [] })))) (.head (pt Try.f65 0) ({ tmps := [(0, AV.str s), (1, AV.int .i64 (↑at_ : Int)), (7, AV.int .i64 (IntKind.i64.wrap ((↑n : Int) + (1 : Int))))], heap := [], tags := [] }))))) (.ob (Ctr Try.prog 68 [AV.int .i64 (IntKind.i64.wrap (byteAt s (↑at_ : Int)))] (AV.sl none (putL (IntKind.i64.wrap (byteAt s (↑at_ : Int)))).length (List.map (AV.int .u8) (putL (IntKind.i64.wrap (byteAt s (↑at_ : Int))))) .no)) (.split (decide ((↑(putL (IntKind.i64.wrap (byteAt s (↑at_ : Int)))).length : Int) = (↑n : Int))) (.ob (Ctr Try.prog 69 [AV.str s, AV.int .i64 (↑at_ : Int), AV.sl none (putL (IntKind.i64.wrap (byteAt s (↑at_ : Int)))).length (List.map (AV.int .u8) (putL (IntKind.i64.wrap (byteAt s (↑at_ : Int))))) .no] (AV.bool (exB Try.prog (69 : FuncId) [AV.str s, AV.int .i64 (↑at_ : Int), AV.sl none (putL (IntKind.i64.wrap (byteAt s (↑at_ : Int)))).length (List.map (AV.int .u8) (putL (IntKind.i64.wrap (byteAt s (↑at_ : Int))))) Own.no.tree]))) (.split (exB Try.prog (69 : FuncId) [AV.str s, AV.int .i64 (↑at_ : Int), AV.sl none (putL (IntKind.i64.wrap (byteAt s (↑at_ : Int)))).length (List.map (AV.int .u8) (putL (IntKind.i64.wrap (byteAt s (↑at_ : Int))))) Own.no.tree]) (.ob (IntKind.i64.wrap (byteAt s (↑at_ : Int)) = x.fst) (.ob ((↑n : Int) = x.snd.fst) (.ob ((0 : Int) = x.snd.snd) (.tt)))) (.head (pt Try.f65 0) ({ tmps := [(0, AV.str s), (1, AV.int .i64 (↑at_ : Int)), (7, AV.int .i64 (IntKind.i64.wrap ((↑n : Int) + (1 : Int))))], heap := [], tags := [] })))) (.head (pt Try.f65 0) ({ tmps := [(0, AV.str s), (1, AV.int .i64 (↑at_ : Int)), (7, AV.int .i64 (IntKind.i64.wrap ((↑n : Int) + (1 : Int))))], heap := [], tags := [] })))))) (.ob (Ctr Try.prog 70 [AV.str s, AV.int .i64 (↑at_ : Int)] (AV.bool (exB Try.prog (70 : FuncId) [AV.str s, AV.int .i64 (↑at_ : Int)]))) (.split (exB Try.prog (70 : FuncId) [AV.str s, AV.int .i64 (↑at_ : Int)]) (.ob ((0 : Int) = x.fst) (.ob ((0 : Int) = x.snd.fst) (.ob ((7 : Int) = x.snd.snd) (.tt)))) (.ob ((0 : Int) = x.fst) (.ob ((0 : Int) = x.snd.fst) (.ob ((2 : Int) = x.snd.snd) (.tt))))))) (.ob (Ctr Try.prog 70 [AV.str s, AV.int .i64 (↑at_ : Int)] (AV.bool (exB Try.prog (70 : FuncId) [AV.str s, AV.int .i64 (↑at_ : Int)]))) (.split (exB Try.prog (70 : FuncId) [AV.str s, AV.int .i64 (↑at_ : Int)]) (.ob ((0 : Int) = x.fst) (.ob ((0 : Int) = x.snd.fst) (.ob ((7 : Int) = x.snd.snd) (.tt)))) (.ob ((0 : Int) = x.fst) (.ob ((0 : Int) = x.snd.fst) (.ob ((2 : Int) = x.snd.snd) (.tt))))))) := by
      have w1 : IntKind.i64.wrap ((at_ : Int) + n) = at_ + n := i64_wrap (by omega) (by omega)
      have w2 : IntKind.i64.wrap ((n : Int) + 1) = ((n + 1 : Nat) : Int) := by rw [i64_wrap (by omega) (by omega)]; rfl
      simp only [PT.holds, w1, w2]
      (repeat' first | exact ⟨_, triv, rfl, trivial⟩ | exact ⟨_, triv, rfl⟩ | refine ex_split (fun _ => ?_) (fun _ => ?_) | refine ex_ob ?_ ?_)
      all_goals first | exact exI_ctr (value_ex _ _ _ (by (first | omega | (simp only [decide_eq_true_eq, decide_eq_false_iff_not, Bool.not_eq_true', Bool.not_eq_false'] at *; omega))) hss) | exact put_ctr _ | exact exB_ctr (begins_put s at_ (by omega) hss _) | exact exB_ctr (cut_ex _ _ (by omega) hss) | exact ih (by (first | omega | (simp only [decide_eq_true_eq, decide_eq_false_iff_not, Bool.not_eq_true', Bool.not_eq_false'] at *; omega))) | omega | (refine ⟨(_, _, _), ?_, rfl, rfl, rfl, trivial⟩; intro h0; first | exact absurd h0 (by decide) | (show (1:Int) ≤ n ∧ (n:Int) ≤ 4 ∧ (at_:Int) + n ≤ s.size; (first | omega | (simp only [decide_eq_true_eq, decide_eq_false_iff_not, Bool.not_eq_true', Bool.not_eq_false'] at *; omega))))
    obtain ⟨x, hR, hx⟩ := H
    exact ⟨x, hR, HT.walk Γ_ok mo_ok (⟨annK, sp65, hd65 [] [] [] [], [], .pure [] (.tup [.int .i64 x.1, .int .i64 x.2.1, .int .i64 x.2.2])⟩ : Wk) 4000 (by kernel_rfl) hx⟩
theorem rune_l (s : ByteArray) (at_ : Nat) (ha : at_ < s.size) (hss : s.size ≤ 1048600) : ∀ d n, 1 ≤ n → n + d = 5 → ∃ x : Int × Int × Int, (x.2.2 = 0 → 1 ≤ x.2.1 ∧ x.2.1 ≤ 4 ∧ at_ + x.2.1 ≤ s.size) ∧ HT Try.prog Try.f65.ntmps (pt Try.f65 0) (stR s at_ n) (EndsA Γ (.pure [] (.tup [.int .i64 x.1, .int .i64 x.2.1, .int .i64 x.2.2])) Try.f65) := by
  intro d
  induction d with
  | zero => exact fun n h1 h => rune_h s at_ n ⟨h1, by omega⟩ ha hss (fun hi => by omega)
  | succ d ih => exact fun n h1 h => rune_h s at_ n ⟨h1, by omega⟩ ha hss (fun hi => ih (n + 1) (by omega) (by omega))

theorem rune_ex (s : ByteArray) (at_ : Nat) (ha : at_ < s.size) (hss : s.size ≤ 1048600) : ∃ x : Int × Int × Int, (x.2.2 = 0 → 1 ≤ x.2.1 ∧ x.2.1 ≤ 4 ∧ at_ + x.2.1 ≤ s.size) ∧ Ctr Try.prog 65 [.str s, .int .i64 at_] (.tup [.int .i64 x.1, .int .i64 x.2.1, .int .i64 x.2.2]) := by
    have H : ∃ x : Int × Int × Int, (x.2.2 = 0 → 1 ≤ x.2.1 ∧ x.2.1 ≤ 4 ∧ at_ + x.2.1 ≤ s.size) ∧ PT.holds Try.prog Try.f65.ntmps (EndsA Γ (.pure [] (.tup [.int .i64 x.1, .int .i64 x.2.1, .int .i64 x.2.2])) Try.f65) (.split (false) (.ob ((0 : Int) = x.fst) (.ob ((0 : Int) = x.snd.fst) (.ob ((7 : Int) = x.snd.snd) (.tt)))) (.split (decide ((↑s.size : Int) ≤ (↑at_ : Int))) (.ob ((0 : Int) = x.fst) (.ob ((0 : Int) = x.snd.fst) (.ob ((7 : Int) = x.snd.snd) (.tt)))) (.head (pt Try.f65 0) ({ tmps := [(0, AV.str s), (1, AV.int .i64 (↑at_ : Int)), (7, AV.int .i64 (1 : Int))], heap := [], tags := [] })))) := by
      simp only [PT.holds, true_implies, Bool.false_eq_true, Bool.true_eq_false, false_implies, true_and, and_true]
      (repeat' first | exact ⟨_, triv, rfl, trivial⟩ | exact ⟨_, triv, rfl⟩ | refine ex_split (fun _ => ?_) (fun _ => ?_) | refine ex_ob ?_ ?_)
      all_goals first | exact rune_l s at_ ha hss 4 1 (by omega) (by omega) | exact ⟨(_, _, _), fun h => absurd h (by decide), rfl, rfl, rfl⟩ | (exfalso; (first | omega | (simp only [decide_eq_true_eq, decide_eq_false_iff_not, Bool.not_eq_true', Bool.not_eq_false'] at *; omega)))
    obtain ⟨x, hR, hx⟩ := H
    exact ⟨x, hR, Ctr.mk Γ_ok Try.func65 (by kernel_rfl) Try.call65 [] (by kernel_rfl) (HT.walk Γ_ok mo_ok (⟨annK, sp65, hd65 [] [] [] [], [], .pure [] (.tup [.int .i64 x.1, .int .i64 x.2.1, .int .i64 x.2.2])⟩ : Wk) 4000 (by kernel_rfl) hx)⟩
theorem all_h (s : ByteArray) (at_ : Nat) (l : List Int) (hl : l.length ≤ at_) (ha : at_ ≤ s.size) (hss : s.size ≤ 1048600) (y : Int × Int × Int) (hy : at_ < s.size → (y.2.2 = 0 → 1 ≤ y.2.1 ∧ y.2.1 ≤ 4 ∧ at_ + y.2.1 ≤ s.size) ∧ Ctr Try.prog 65 [.str s, .int .i64 at_] (.tup [.int .i64 y.1, .int .i64 y.2.1, .int .i64 y.2.2])) (ih : at_ < s.size → ∀ (at' : Nat) (r : Int), at_ < at' → at' ≤ s.size → ∃ x : List Int × Int × Int, (x.1.length ≤ s.size) ∧ HT Try.prog Try.f60.ntmps (pt Try.f60 0) (stA s at' (l ++ [r])) (EndsA Γ (.pure [] (.tup [.sl none x.1.length (x.1.map (.int .i32)) .no, .int .i64 x.2.1, .int .i64 x.2.2])) Try.f60)) : ∃ x : List Int × Int × Int, (x.1.length ≤ s.size) ∧ HT Try.prog Try.f60.ntmps (pt Try.f60 0) (stA s at_ l) (EndsA Γ (.pure [] (.tup [.sl none x.1.length (x.1.map (.int .i32)) .no, .int .i64 x.2.1, .int .i64 x.2.2])) Try.f60) := by
    have H : ∃ x : List Int × Int × Int, (x.1.length ≤ s.size) ∧ PT.holds Try.prog Try.f60.ntmps (EndsA Γ (.pure [] (.tup [.sl none x.1.length (x.1.map (.int .i32)) .no, .int .i64 x.2.1, .int .i64 x.2.2])) Try.f60) (.split (decide ((↑at_ : Int) < (↑s.size : Int))) (.ob (Ctr Try.prog 65 [AV.str s, AV.int .i64 (↑at_ : Int)] (AV.tup [AV.int .i64 y.fst, AV.int .i64 y.snd.fst, AV.int .i64 y.snd.snd])) (.split (!decide (y.snd.snd = (0 : Int))) (.ob (l.length = x.fst.length) (.ob (List.map (AV.int .i32) l = List.map (AV.int .i32) x.fst) (.ob ((↑at_ : Int) = x.snd.fst) (.ob (y.snd.snd = x.snd.snd) (.tt))))) (.ob (l.length = l.length) (.ob ((List.map (AV.int .i32) l).length = l.length * ((0 : Nat) + (1 : Nat)) ∧ (splice (repL (List.map zn [AV.int .i32 (0 : Int)]) (1 : Nat)) ((0 : Nat) * (1 : Nat)) (cellsOf (AV.int .i32 (IntKind.i32.wrap y.fst)))).length = (1 : Nat) * ((0 : Nat) + (1 : Nat)) ∧ (l.length + (1 : Nat)) * ((3 : Nat) + (1 : Nat)) ≤ (140737488355328 : Nat)) (.head (pt Try.f60 0) ({ tmps := [(0, AV.str s), (5, AV.sl none (l.length + (1 : Nat)) (List.map (AV.int .i32) l ++ splice (repL (List.map zn [AV.int .i32 (0 : Int)]) (1 : Nat)) ((0 : Nat) * (1 : Nat)) (cellsOf (AV.int .i32 (IntKind.i32.wrap y.fst)))) (.own (1 : Nat))), (6, AV.int .i64 (IntKind.i64.wrap ((↑at_ : Int) + y.snd.fst)))], heap := [], tags := [(1, { n := l.length + (1 : Nat), e := (21 : Nat), sz := (1 : Nat) })] })))))) (.ob (l.length = x.fst.length) (.ob (List.map (AV.int .i32) l = List.map (AV.int .i32) x.fst) (.ob ((↑at_ : Int) = x.snd.fst) (.ob ((0 : Int) = x.snd.snd) (.tt)))))) := by
      by_cases h0 : at_ < s.size
      · have ih := ih h0
        obtain ⟨hy1, hy2⟩ := hy h0
        simp only [PT.holds]
        (repeat' first | exact ⟨_, triv, rfl, trivial⟩ | exact ⟨_, triv, rfl⟩ | refine ex_split (fun _ => ?_) (fun _ => ?_) | refine ex_ob ?_ ?_)
        all_goals first | exact hy2 | exact ⟨(_, _, _), (by show l.length ≤ s.size; omega), rfl, rfl, rfl, rfl, trivial⟩ | exact ⟨by simp, rfl, by omega⟩ | trivial | rfl | (exfalso; (first | omega | (simp only [decide_eq_true_eq, decide_eq_false_iff_not, Bool.not_eq_true', Bool.not_eq_false'] at *; omega))) | skip
        have hw : y.2.2 = 0 := by simpa using ‹(!decide (y.2.2 = 0)) = false›
        have hh := hy1 hw
        refine ex_head (ih (at_ + y.2.1.toNat) (IntKind.i32.wrap y.1) (by omega) (by omega)) ?_
        have w1 : IntKind.i64.wrap ((at_ : Int) + y.2.1) = ((at_ + y.2.1.toNat : Nat) : Int) := by rw [i64_wrap (by omega) (by omega)]; omega
        rw [w1]
        simp [stA, splice, repL, cellsOf]
      · simp only [PT.holds]
        (repeat' first | exact ⟨_, triv, rfl, trivial⟩ | exact ⟨_, triv, rfl⟩ | refine ex_split (fun _ => ?_) (fun _ => ?_) | refine ex_ob ?_ ?_)
        all_goals first | (exfalso; (first | omega | (simp only [decide_eq_true_eq, decide_eq_false_iff_not, Bool.not_eq_true', Bool.not_eq_false'] at *; omega))) | exact ⟨(_, _, _), (by show l.length ≤ s.size; omega), rfl, rfl, rfl, rfl, trivial⟩
    obtain ⟨x, hR, hx⟩ := H
    exact ⟨x, hR, HT.walk Γ_ok mo_ok (⟨([(17, .call [] (.tup [.int .i64 y.1, .int .i64 y.2.1, .int .i64 y.2.2]))] ++ annK), sp60, hd60 [(5, 1, 21, 1)] [] [] [], [], .pure [] (.tup [.sl none x.1.length (x.1.map (.int .i32)) .no, .int .i64 x.2.1, .int .i64 x.2.2])⟩ : Wk) 4000 (by kernel_rfl) hx⟩
theorem all_l (s : ByteArray) (hss : s.size ≤ 1048600) : ∀ d at_ l, l.length ≤ at_ → at_ ≤ s.size → s.size ≤ at_ + d → ∃ x : List Int × Int × Int, (x.1.length ≤ s.size) ∧ HT Try.prog Try.f60.ntmps (pt Try.f60 0) (stA s at_ l) (EndsA Γ (.pure [] (.tup [.sl none x.1.length (x.1.map (.int .i32)) .no, .int .i64 x.2.1, .int .i64 x.2.2])) Try.f60) := by
  intro d
  induction d with
  | zero => exact fun at_ l h1 h2 h3 => all_h s at_ l h1 h2 hss (0, 0, 0) (fun h => by omega) (fun h => by omega)
  | succ d ih =>
    intro at_ l h1 h2 h3
    by_cases h : at_ < s.size
    · obtain ⟨y, hy⟩ := rune_ex s at_ h hss
      exact all_h s at_ l h1 h2 hss y (fun _ => hy) (fun _ at' r h4 h5 => ih at' _ (by simp; omega) h5 (by omega))
    · exact all_h s at_ l h1 h2 hss (0, 0, 0) (fun h => by omega) (fun h => by omega)

theorem all_ex (s : ByteArray) (hss : s.size ≤ 1048600) : ∃ x : List Int × Int × Int, (x.1.length ≤ s.size) ∧ Ctr Try.prog 60 [.str s] (.tup [.sl none x.1.length (x.1.map (.int .i32)) .no, .int .i64 x.2.1, .int .i64 x.2.2]) := by
    have H : ∃ x : List Int × Int × Int, (x.1.length ≤ s.size) ∧ PT.holds Try.prog Try.f60.ntmps (EndsA Γ (.pure [] (.tup [.sl none x.1.length (x.1.map (.int .i32)) .no, .int .i64 x.2.1, .int .i64 x.2.2])) Try.f60) (.head (pt Try.f60 0) ({ tmps := [(0, AV.str s), (5, AV.sl none (0 : Nat) [] (.own (1 : Nat))), (6, AV.int .i64 (0 : Int))], heap := [], tags := [(1, { n := (0 : Nat), e := (21 : Nat), sz := (1 : Nat) })] })) := by
      simp only [PT.holds]
      exact all_l s hss s.size 0 [] (Nat.le_refl _) (Nat.zero_le _) (by omega)
    obtain ⟨x, hR, hx⟩ := H
    exact ⟨x, hR, Ctr.mk Γ_ok Try.func60 (by kernel_rfl) Try.call60 [] (by kernel_rfl) (HT.walk Γ_ok mo_ok (⟨annK, sp60, hd60 [(5, 1, 21, 1)] [] [] [], [], .pure [] (.tup [.sl none x.1.length (x.1.map (.int .i32)) .no, .int .i64 x.2.1, .int .i64 x.2.2])⟩ : Wk) 4000 (by kernel_rfl) hx)⟩
theorem right_h (l : List Int) (i : Nat) (why : Int) (hl : l.length ≤ 1048600) (ih : i < l.length → ∃ x : Bool, (Triv) ∧ HT Try.prog Try.f51.ntmps (pt Try.f51 0) (stQ l (i + 1) why) (EndsA Γ (.pure [] (.bool x)) Try.f51)) : ∃ x : Bool, (Triv) ∧ HT Try.prog Try.f51.ntmps (pt Try.f51 0) (stQ l i why) (EndsA Γ (.pure [] (.bool x)) Try.f51) := by
    have H : ∃ x : Bool, (Triv) ∧ PT.holds Try.prog Try.f51.ntmps (EndsA Γ (.pure [] (.bool x)) Try.f51) (.split (decide ((↑i : Int) < (↑l.length : Int))) (.ob ((0 : Int) ≤ (↑i : Int) ∧ (↑i : Int) < (↑l.length : Int) ∧ (↑i : Int).toNat * (1 : Nat) < (List.map (AV.int .i32) l).length) (.ob ((List.map (AV.int .i32) l)[(↑i : Int).toNat * (1 : Nat)]? = some (AV.int .i32 (l.getD i (0 : Int)))) (.ob (Ctr Try.prog 61 [AV.int .i64 (IntKind.i64.wrap (l.getD i (0 : Int)))] (AV.bool (exB Try.prog (61 : FuncId) [AV.int .i64 (IntKind.i64.wrap (l.getD i (0 : Int)))]))) (.split (exB Try.prog (61 : FuncId) [AV.int .i64 (IntKind.i64.wrap (l.getD i (0 : Int)))]) (.head (pt Try.f51 0) ({ tmps := [(3, AV.sl none l.length (List.map (AV.int .i32) l) .no), (5, AV.int .i64 why), (6, AV.int .i64 (IntKind.i64.wrap ((↑i : Int) + (1 : Int))))], heap := [], tags := [] })) (.ob (false = x) (.tt)))))) (.ob (decide (why = (0 : Int)) = x) (.tt))) := by
      by_cases hi : i < l.length
      · have w2 : IntKind.i64.wrap ((i : Int) + 1) = ((i + 1 : Nat) : Int) := by rw [i64_wrap (by omega) (by omega)]; rfl
        simp only [PT.holds, w2]
        (repeat' first | exact ⟨_, triv, rfl, trivial⟩ | exact ⟨_, triv, rfl⟩ | refine ex_split (fun _ => ?_) (fun _ => ?_) | refine ex_ob ?_ ?_)
        all_goals first | exact ih hi | exact exB_ctr (char_ex _) | omega | simp [hi]
      · simp only [PT.holds]
        (repeat' first | exact ⟨_, triv, rfl, trivial⟩ | exact ⟨_, triv, rfl⟩ | refine ex_split (fun _ => ?_) (fun _ => ?_) | refine ex_ob ?_ ?_)
        all_goals (exfalso; (first | omega | (simp only [decide_eq_true_eq, decide_eq_false_iff_not, Bool.not_eq_true', Bool.not_eq_false'] at *; omega)))
    obtain ⟨x, hR, hx⟩ := H
    exact ⟨x, hR, HT.walk Γ_ok mo_ok (⟨([(22, .val (.int .i32 (l.getD i 0)))] ++ annK), sp51, hd51 [] [] [] [], [], .pure [] (.bool x)⟩ : Wk) 4000 (by kernel_rfl) hx⟩
theorem right_l (l : List Int) (why : Int) (hl : l.length ≤ 1048600) : ∀ d i, l.length ≤ i + d → ∃ x : Bool, (Triv) ∧ HT Try.prog Try.f51.ntmps (pt Try.f51 0) (stQ l i why) (EndsA Γ (.pure [] (.bool x)) Try.f51) := by
  intro d
  induction d with
  | zero => exact fun i h => right_h l i why hl (fun hi => by omega)
  | succ d ih => exact fun i h => right_h l i why hl (fun hi => ih (i + 1) (by omega))

theorem right_ex0 (s : ByteArray) (hss : s.size ≤ 1048600) (y : List Int × Int × Int) (hy : y.1.length ≤ s.size) (hc : Ctr Try.prog 60 [.str s] (.tup [.sl none y.1.length (y.1.map (.int .i32)) .no, .int .i64 y.2.1, .int .i64 y.2.2])) : ∃ x : Bool, (Triv) ∧ Ctr Try.prog 51 [.str s] (.bool x) := by
    have H : ∃ x : Bool, (Triv) ∧ PT.holds Try.prog Try.f51.ntmps (EndsA Γ (.pure [] (.bool x)) Try.f51) (.ob (Ctr Try.prog 60 [AV.str s] (AV.tup [AV.sl none y.fst.length (List.map (AV.int .i32) y.fst) .no, AV.int .i64 y.snd.fst, AV.int .i64 y.snd.snd])) (.head (pt Try.f51 0) ({ tmps := [(3, AV.sl none y.fst.length (List.map (AV.int .i32) y.fst) .no), (5, AV.int .i64 y.snd.snd), (6, AV.int .i64 (0 : Int))], heap := [], tags := [] }))) := by
      simp only [PT.holds]
      (repeat' first | exact ⟨_, triv, rfl, trivial⟩ | exact ⟨_, triv, rfl⟩ | refine ex_split (fun _ => ?_) (fun _ => ?_) | refine ex_ob ?_ ?_)
      all_goals first | exact hc | exact right_l y.1 y.2.2 (by omega) y.1.length 0 (by omega)
    obtain ⟨x, hR, hx⟩ := H
    exact ⟨x, hR, Ctr.mk Γ_ok Try.func51 (by kernel_rfl) Try.call51 [] (by kernel_rfl) (HT.walk Γ_ok mo_ok (⟨([(9, .call [] (.tup [.sl none y.1.length (y.1.map (.int .i32)) .no, .int .i64 y.2.1, .int .i64 y.2.2]))] ++ annK), sp51, hd51 [] [] [] [], [], .pure [] (.bool x)⟩ : Wk) 4000 (by kernel_rfl) hx)⟩
theorem right_ex (s : ByteArray) (hss : s.size ≤ 1048600) : ∃ x : Bool, Triv ∧ Ctr Try.prog 51 [.str s] (.bool x) := by
  obtain ⟨y, hy, hc⟩ := all_ex s hss
  exact right_ex0 s hss y hy hc

theorem plain_h (l : List Int) (i : Nat) (hl : l.length ≤ 1048600) (ih : i < l.length → ∃ x : Bool, (Triv) ∧ HT Try.prog Try.f58.ntmps (pt Try.f58 0) (stP l (i + 1)) (EndsA Γ (.pure [] (.bool x)) Try.f58)) : ∃ x : Bool, (Triv) ∧ HT Try.prog Try.f58.ntmps (pt Try.f58 0) (stP l i) (EndsA Γ (.pure [] (.bool x)) Try.f58) := by
    have H : ∃ x : Bool, (Triv) ∧ PT.holds Try.prog Try.f58.ntmps (EndsA Γ (.pure [] (.bool x)) Try.f58) (.split (decide ((↑i : Int) < (↑l.length : Int))) (.ob ((0 : Int) ≤ (↑i : Int) ∧ (↑i : Int) < (↑l.length : Int) ∧ (↑i : Int).toNat * (1 : Nat) < (List.map (AV.int .i32) l).length) (.ob ((List.map (AV.int .i32) l)[(↑i : Int).toNat * (1 : Nat)]? = some (AV.int .i32 (l.getD i (0 : Int)))) (.ob (Ctr Try.prog 64 [AV.int .i64 (IntKind.i64.wrap (l.getD i (0 : Int)))] (AV.bool (exB Try.prog (64 : FuncId) [AV.int .i64 (IntKind.i64.wrap (l.getD i (0 : Int)))]))) (.split (exB Try.prog (64 : FuncId) [AV.int .i64 (IntKind.i64.wrap (l.getD i (0 : Int)))]) (.head (pt Try.f58 0) ({ tmps := [(3, AV.sl (some false) l.length (List.map (AV.int .i32) l) .no), (4, AV.int .i64 (IntKind.i64.wrap ((↑i : Int) + (1 : Int))))], heap := [], tags := [] })) (.ob (false = x) (.tt)))))) (.ob (true = x) (.tt))) := by
      by_cases hi : i < l.length
      · have w2 : IntKind.i64.wrap ((i : Int) + 1) = ((i + 1 : Nat) : Int) := by rw [i64_wrap (by omega) (by omega)]; rfl
        simp only [PT.holds, w2]
        (repeat' first | exact ⟨_, triv, rfl, trivial⟩ | exact ⟨_, triv, rfl⟩ | refine ex_split (fun _ => ?_) (fun _ => ?_) | refine ex_ob ?_ ?_)
        all_goals first | exact ih hi | exact exB_ctr (part_ex _) | omega | simp [hi]
      · simp only [PT.holds]
        (repeat' first | exact ⟨_, triv, rfl, trivial⟩ | exact ⟨_, triv, rfl⟩ | refine ex_split (fun _ => ?_) (fun _ => ?_) | refine ex_ob ?_ ?_)
        all_goals (exfalso; (first | omega | (simp only [decide_eq_true_eq, decide_eq_false_iff_not, Bool.not_eq_true', Bool.not_eq_false'] at *; omega)))
    obtain ⟨x, hR, hx⟩ := H
    exact ⟨x, hR, HT.walk Γ_ok mo_ok (⟨([(27, .val (.int .i32 (l.getD i 0)))] ++ annK), sp58, hd58 [] [] [] [], [], .pure [] (.bool x)⟩ : Wk) 4000 (by kernel_rfl) hx⟩
theorem plain_l (l : List Int) (hl : l.length ≤ 1048600) : ∀ d i, l.length ≤ i + d → ∃ x : Bool, (Triv) ∧ HT Try.prog Try.f58.ntmps (pt Try.f58 0) (stP l i) (EndsA Γ (.pure [] (.bool x)) Try.f58) := by
  intro d
  induction d with
  | zero => exact fun i h => plain_h l i hl (fun hi => by omega)
  | succ d ih => exact fun i h => plain_h l i hl (fun hi => ih (i + 1) (by omega))

theorem plain_ex (s : ByteArray) (hss : s.size ≤ 1048600) : ∃ x : Bool, (Triv) ∧ Ctr Try.prog 58 [.str s] (.bool x) := by
    have H : ∃ x : Bool, (Triv) ∧ PT.holds Try.prog Try.f58.ntmps (EndsA Γ (.pure [] (.bool x)) Try.f58) (.ob (s.size ≤ (9223372036854775807 : Nat)) (.split (decide ((↑(runes s).length : Int) = (0 : Int))) (.ob (false = x) (.tt)) (.ob ((0 : Int) ≤ (0 : Int) ∧ (0 : Int) < (↑(runes s).length : Int) ∧ Int.toNat (0 : Int) * (1 : Nat) < (List.map (AV.int .i32) (runes s)).length) (.ob ((List.map (AV.int .i32) (runes s))[Int.toNat (0 : Int) * (1 : Nat)]? = some (AV.int .i32 ((runes s).getD (0 : Nat) (0 : Int)))) (.ob (Ctr Try.prog 63 [AV.int .i64 (IntKind.i64.wrap ((runes s).getD (0 : Nat) (0 : Int)))] (AV.bool (exB Try.prog (63 : FuncId) [AV.int .i64 (IntKind.i64.wrap ((runes s).getD (0 : Nat) (0 : Int)))]))) (.split (exB Try.prog (63 : FuncId) [AV.int .i64 (IntKind.i64.wrap ((runes s).getD (0 : Nat) (0 : Int)))]) (.head (pt Try.f58 0) ({ tmps := [(3, AV.sl (some false) (runes s).length (List.map (AV.int .i32) (runes s)) .no), (4, AV.int .i64 (0 : Int))], heap := [], tags := [] })) (.ob (false = x) (.tt)))))))) := by
      have hl := runesL_len s s.size 0
      by_cases h0 : (runes s).length = 0
      · simp only [PT.holds]
        (repeat' first | exact ⟨_, triv, rfl, trivial⟩ | exact ⟨_, triv, rfl⟩ | refine ex_split (fun _ => ?_) (fun _ => ?_) | refine ex_ob ?_ ?_)
        all_goals first | omega | (exfalso; (first | omega | (simp only [decide_eq_true_eq, decide_eq_false_iff_not, Bool.not_eq_true', Bool.not_eq_false'] at *; omega)))
      · have hp : 0 < (runes s).length := Nat.pos_of_ne_zero h0
        simp only [PT.holds]
        (repeat' first | exact ⟨_, triv, rfl, trivial⟩ | exact ⟨_, triv, rfl⟩ | refine ex_split (fun _ => ?_) (fun _ => ?_) | refine ex_ob ?_ ?_)
        all_goals first | exact plain_l (runes s) (Nat.le_trans hl hss) _ 0 (Nat.le_of_eq (Nat.zero_add _).symm) | exact exB_ctr (start_ex _) | omega | simp [hp]
    obtain ⟨x, hR, hx⟩ := H
    exact ⟨x, hR, Ctr.mk Γ_ok Try.func58 (by kernel_rfl) Try.call58 [] (by kernel_rfl) (HT.walk Γ_ok mo_ok (⟨([(13, .val (.int .i32 ((runes s).getD 0 0)))] ++ annK), sp58, hd58 [] [] [] [], [], .pure [] (.bool x)⟩ : Wk) 4000 (by kernel_rfl) hx)⟩
end Go.Proofs.Ytpffjbbolaehpaa
end

section
set_option linter.unusedVariables false
set_option linter.unusedSimpArgs false
namespace Go.Proofs.Ytpffjbbolaehpaa
open Go Go.AX

/-! ### What is handed in, as plain data, and its cells -/
structure Nm where
  sp : ByteArray
  lo : ByteArray
deriving DecidableEq
structure Atr where
  nm : Nm
  v : ByteArray
deriving DecidableEq
structure Ev where
  kind : Int
  nm : Nm
  attrs : List Atr
  text : ByteArray
inductive Tr
  | mk (isText : Bool) (text : ByteArray) (nm : Nm) (attrs : List Atr) (kids : List Tr)
mutual
inductive Pth
  | mk (op : Int) (sub : List Pth) (test : List Flt)
inductive Flt
  | mk (op : Int) (nm : Nm) (value : ByteArray) (sub : List Flt) (way : List Pth)
end
def nmC (n : Nm) : List AV := [.str n.sp, .str n.lo]
def atC (a : Atr) : List AV := [.str a.nm.sp, .str a.nm.lo, .str a.v]
def atsC (l : List Atr) : List AV := l.flatMap atC
def evC (e : Ev) : List AV := [.int .i64 e.kind, .str e.nm.sp, .str e.nm.lo, .sl none e.attrs.length (atsC e.attrs) .no, .str e.text]
def evsC (l : List Ev) : List AV := l.flatMap evC
mutual
def trC : Tr → List AV
  | .mk b t n a k => [.bool b, .str t, .str n.sp, .str n.lo, .sl none a.length (atsC a) .no, .sl none k.length (trsC k) .no]
def trsC : List Tr → List AV
  | [] => []
  | t :: r => trC t ++ trsC r
end
mutual
def pthC : Pth → List AV
  | .mk op sub test => [.int .i64 op, .sl none sub.length (pthsC sub) .no, .sl none test.length (fltsC test) .no]
def pthsC : List Pth → List AV
  | [] => []
  | t :: r => pthC t ++ pthsC r
def fltC : Flt → List AV
  | .mk op n v sub way => [.int .i64 op, .str n.sp, .str n.lo, .str v, .sl none sub.length (fltsC sub) .no, .sl none way.length (pthsC way) .no]
def fltsC : List Flt → List AV
  | [] => []
  | t :: r => fltC t ++ fltsC r
end
theorem trsC_eq : ∀ l, trsC l = l.flatMap trC
  | [] => by simp [trsC]
  | t :: r => by simp [trsC, trsC_eq r]
theorem pthsC_eq : ∀ l, pthsC l = l.flatMap pthC
  | [] => by simp [pthsC]
  | t :: r => by simp [pthsC, pthsC_eq r]
theorem fltsC_eq : ∀ l, fltsC l = l.flatMap fltC
  | [] => by simp [fltsC]
  | t :: r => by simp [fltsC, fltsC_eq r]
theorem flat_get {α : Type} {f : α → List AV} {k : Nat} (hk : ∀ a, (f a).length = k) : ∀ (l : List α) (i j : Nat), j < k → (l.flatMap f)[i * k + j]? = l[i]?.bind fun a => (f a)[j]?
  | [], i, j, hj => by simp
  | a :: l, 0, j, hj => by
    rw [List.flatMap_cons, List.getElem?_append_left (by rw [hk]; omega)]
    simp
  | a :: l, i + 1, j, hj => by
    have e : (i + 1) * k + j = k + (i * k + j) := by rw [Nat.add_mul, Nat.one_mul]; omega
    rw [List.flatMap_cons, List.getElem?_append_right (by rw [hk, e]; omega), hk, e, Nat.add_sub_cancel_left, flat_get hk l i j hj]
    simp
theorem flat_len {α : Type} {f : α → List AV} {k : Nat} (hk : ∀ a, (f a).length = k) : ∀ (l : List α), (l.flatMap f).length = l.length * k
  | [] => by simp
  | a :: l => by rw [List.flatMap_cons, List.length_append, flat_len hk l, hk, List.length_cons, Nat.add_mul, Nat.one_mul, Nat.add_comm]
theorem atC_len (a : Atr) : (atC a).length = 3 := rfl
theorem evC_len (a : Ev) : (evC a).length = 5 := rfl
theorem trC_len (a : Tr) : (trC a).length = 6 := by cases a; rfl
theorem pthC_len (a : Pth) : (pthC a).length = 3 := by cases a; rfl
theorem fltC_len (a : Flt) : (fltC a).length = 6 := by cases a; rfl
theorem atsC_len (l : List Atr) : (atsC l).length = l.length * 3 := flat_len atC_len l
theorem evsC_len (l : List Ev) : (evsC l).length = l.length * 5 := flat_len evC_len l
theorem trsC_len (l : List Tr) : (trsC l).length = l.length * 6 := by rw [trsC_eq]; exact flat_len trC_len l
theorem pthsC_len (l : List Pth) : (pthsC l).length = l.length * 3 := by rw [pthsC_eq]; exact flat_len pthC_len l
theorem fltsC_len (l : List Flt) : (fltsC l).length = l.length * 6 := by rw [fltsC_eq]; exact flat_len fltC_len l
theorem flat_take {α : Type} {f : α → List AV} {k : Nat} (hk : ∀ a, (f a).length = k) (d : α) (l : List α) (i j m : Nat) (hi : i < l.length) (hm : j + m ≤ k) : ((l.flatMap f).drop (i * k + j)).take m = ((f (l.getD i d)).drop j).take m := by
  apply List.ext_getElem?
  intro n
  rw [List.getElem?_take, List.getElem?_take]
  split
  · rw [List.getElem?_drop, List.getElem?_drop, Nat.add_assoc, flat_get hk l i (j + n) (by omega), List.getElem?_eq_getElem hi, List.getD_eq_getElem?_getD, List.getElem?_eq_getElem hi]
    rfl
  · rfl
theorem flat_nth {α : Type} {f : α → List AV} {k : Nat} (hk : ∀ a, (f a).length = k) (d : α) (l : List α) (i j : Nat) (hi : i < l.length) (hj : j < k) : (l.flatMap f)[i * k + j]? = (f (l.getD i d))[j]? := by
  rw [flat_get hk l i j hj, List.getElem?_eq_getElem hi, List.getD_eq_getElem?_getD, List.getElem?_eq_getElem hi]
  rfl
/-! Texts that are not too long. -/
def Nm.ok (n : Nm) : Prop := n.sp.size ≤ 1048600 ∧ n.lo.size ≤ 1048600
def Atr.ok (a : Atr) : Prop := a.nm.ok ∧ a.v.size ≤ 1048600
def Ev.ok (e : Ev) : Prop := e.nm.ok ∧ e.text.size ≤ 1048600 ∧ e.attrs.length ≤ 1048600 ∧ ∀ a ∈ e.attrs, a.ok
def nm0 : Nm := ⟨⟨#[]⟩, ⟨#[]⟩⟩
def atr0 : Atr := ⟨nm0, ⟨#[]⟩⟩
def ev0 : Ev := ⟨0, nm0, [], ⟨#[]⟩⟩
def pth0 : Pth := .mk 0 [] []
def flt0 : Flt := .mk 0 nm0 ⟨#[]⟩ [] []
def tr0 : Tr := .mk false ⟨#[]⟩ nm0 [] []
def Pth.op : Pth → Int | .mk op _ _ => op
def Pth.sub : Pth → List Pth | .mk _ s _ => s
def Pth.test : Pth → List Flt | .mk _ _ t => t
def Flt.op : Flt → Int | .mk op _ _ _ _ => op
def Flt.nm : Flt → Nm | .mk _ n _ _ _ => n
def Flt.val : Flt → ByteArray | .mk _ _ v _ _ => v
def Flt.sub : Flt → List Flt | .mk _ _ _ s _ => s
def Flt.way : Flt → List Pth | .mk _ _ _ _ w => w
def Tr.isText : Tr → Bool | .mk b _ _ _ _ => b
def Tr.text : Tr → ByteArray | .mk _ t _ _ _ => t
def Tr.nm : Tr → Nm | .mk _ _ n _ _ => n
def Tr.attrs : Tr → List Atr | .mk _ _ _ a _ => a
def Tr.kids : Tr → List Tr | .mk _ _ _ _ k => k
def pthL (p : Pth) : List AV := [.int .i64 p.op, .sl none p.sub.length (pthsC p.sub) .no, .sl none p.test.length (fltsC p.test) .no]
def fltL (f : Flt) : List AV := [.int .i64 f.op, .str f.nm.sp, .str f.nm.lo, .str f.val, .sl none f.sub.length (fltsC f.sub) .no, .sl none f.way.length (pthsC f.way) .no]
def trL (t : Tr) : List AV := [.bool t.isText, .str t.text, .str t.nm.sp, .str t.nm.lo, .sl none t.attrs.length (atsC t.attrs) .no, .sl none t.kids.length (trsC t.kids) .no]
theorem pthC_L (p : Pth) : pthC p = pthL p := by cases p; rfl
theorem fltC_L (p : Flt) : fltC p = fltL p := by cases p; rfl
theorem trC_L (p : Tr) : trC p = trL p := by cases p; rfl
theorem ats_take (l : List Atr) (i j m : Nat) (hi : i < l.length) (hm : j + m ≤ 3) : ((atsC l).drop (i * 3 + j)).take m = ((atC (l.getD i atr0)).drop j).take m := flat_take atC_len atr0 l i j m hi hm
theorem ats_nth (l : List Atr) (i j : Nat) (hi : i < l.length) (hj : j < 3) : (atsC l)[i * 3 + j]? = (atC (l.getD i atr0))[j]? := flat_nth atC_len atr0 l i j hi hj
theorem evs_take (l : List Ev) (i j m : Nat) (hi : i < l.length) (hm : j + m ≤ 5) : ((evsC l).drop (i * 5 + j)).take m = ((evC (l.getD i ev0)).drop j).take m := flat_take evC_len ev0 l i j m hi hm
theorem evs_nth (l : List Ev) (i j : Nat) (hi : i < l.length) (hj : j < 5) : (evsC l)[i * 5 + j]? = (evC (l.getD i ev0))[j]? := flat_nth evC_len ev0 l i j hi hj
theorem trs_take (l : List Tr) (i j m : Nat) (hi : i < l.length) (hm : j + m ≤ 6) : ((trsC l).drop (i * 6 + j)).take m = ((trL (l.getD i tr0)).drop j).take m := by rw [trsC_eq, ← trC_L]; exact flat_take trC_len tr0 l i j m hi hm
theorem trs_nth (l : List Tr) (i j : Nat) (hi : i < l.length) (hj : j < 6) : (trsC l)[i * 6 + j]? = (trL (l.getD i tr0))[j]? := by rw [trsC_eq, ← trC_L]; exact flat_nth trC_len tr0 l i j hi hj
theorem pths_take (l : List Pth) (i j m : Nat) (hi : i < l.length) (hm : j + m ≤ 3) : ((pthsC l).drop (i * 3 + j)).take m = ((pthL (l.getD i pth0)).drop j).take m := by rw [pthsC_eq, ← pthC_L]; exact flat_take pthC_len pth0 l i j m hi hm
theorem pths_nth (l : List Pth) (i j : Nat) (hi : i < l.length) (hj : j < 3) : (pthsC l)[i * 3 + j]? = (pthL (l.getD i pth0))[j]? := by rw [pthsC_eq, ← pthC_L]; exact flat_nth pthC_len pth0 l i j hi hj
theorem flts_take (l : List Flt) (i j m : Nat) (hi : i < l.length) (hm : j + m ≤ 6) : ((fltsC l).drop (i * 6 + j)).take m = ((fltL (l.getD i flt0)).drop j).take m := by rw [fltsC_eq, ← fltC_L]; exact flat_take fltC_len flt0 l i j m hi hm
theorem flts_nth (l : List Flt) (i j : Nat) (hi : i < l.length) (hj : j < 6) : (fltsC l)[i * 6 + j]? = (fltL (l.getD i flt0))[j]? := by rw [fltsC_eq, ← fltC_L]; exact flat_nth fltC_len flt0 l i j hi hj
theorem ats_take0 (l : List Atr) (i m : Nat) (hi : i < l.length) (hm : m ≤ 3) : ((atsC l).drop (i * 3)).take m = (atC (l.getD i atr0)).take m := by have := ats_take l i 0 m hi (by omega); simpa using this
theorem ats_nth0 (l : List Atr) (i : Nat) (hi : i < l.length) : (atsC l)[i * 3]? = (atC (l.getD i atr0))[0]? := ats_nth l i 0 hi (by decide)
theorem evs_take0 (l : List Ev) (i m : Nat) (hi : i < l.length) (hm : m ≤ 5) : ((evsC l).drop (i * 5)).take m = (evC (l.getD i ev0)).take m := by have := evs_take l i 0 m hi (by omega); simpa using this
theorem evs_nth0 (l : List Ev) (i : Nat) (hi : i < l.length) : (evsC l)[i * 5]? = (evC (l.getD i ev0))[0]? := evs_nth l i 0 hi (by decide)
theorem trs_take0 (l : List Tr) (i m : Nat) (hi : i < l.length) (hm : m ≤ 6) : ((trsC l).drop (i * 6)).take m = (trL (l.getD i tr0)).take m := by have := trs_take l i 0 m hi (by omega); simpa using this
theorem trs_nth0 (l : List Tr) (i : Nat) (hi : i < l.length) : (trsC l)[i * 6]? = (trL (l.getD i tr0))[0]? := trs_nth l i 0 hi (by decide)
theorem pths_take0 (l : List Pth) (i m : Nat) (hi : i < l.length) (hm : m ≤ 3) : ((pthsC l).drop (i * 3)).take m = (pthL (l.getD i pth0)).take m := by have := pths_take l i 0 m hi (by omega); simpa using this
theorem pths_nth0 (l : List Pth) (i : Nat) (hi : i < l.length) : (pthsC l)[i * 3]? = (pthL (l.getD i pth0))[0]? := pths_nth l i 0 hi (by decide)
theorem flts_take0 (l : List Flt) (i m : Nat) (hi : i < l.length) (hm : m ≤ 6) : ((fltsC l).drop (i * 6)).take m = (fltL (l.getD i flt0)).take m := by have := flts_take l i 0 m hi (by omega); simpa using this
theorem flts_nth0 (l : List Flt) (i : Nat) (hi : i < l.length) : (fltsC l)[i * 6]? = (fltL (l.getD i flt0))[0]? := flts_nth l i 0 hi (by decide)
theorem getD_mem {α : Type} (l : List α) (i : Nat) (d : α) (h : i < l.length) : l.getD i d ∈ l := by
  rw [List.getD_eq_getElem?_getD, List.getElem?_eq_getElem h]
  exact List.getElem_mem h
/-! Paths and filters: what is not too great; what is right. -/
mutual
def Pth.ok : Pth → Prop
  | .mk op sub test => sub.length ≤ 1048600 ∧ test.length ≤ 1048600 ∧ oksP sub ∧ oksF test
def oksP : List Pth → Prop
  | [] => True
  | p :: r => p.ok ∧ oksP r
def Flt.ok : Flt → Prop
  | .mk op n v sub way => n.ok ∧ v.size ≤ 1048600 ∧ sub.length ≤ 1048600 ∧ way.length ≤ 1048600 ∧ oksF sub ∧ oksP way
def oksF : List Flt → Prop
  | [] => True
  | p :: r => p.ok ∧ oksF r
end
theorem oksP_mem : ∀ {l : List Pth}, oksP l → ∀ p ∈ l, p.ok
  | p :: r, h, q, hq => by
    simp only [oksP] at h
    rcases List.mem_cons.1 hq with rfl | hq
    · exact h.1
    · exact oksP_mem h.2 q hq
theorem oksF_mem : ∀ {l : List Flt}, oksF l → ∀ p ∈ l, p.ok
  | p :: r, h, q, hq => by
    simp only [oksF] at h
    rcases List.mem_cons.1 hq with rfl | hq
    · exact h.1
    · exact oksF_mem h.2 q hq
theorem Pth.ok_i {p : Pth} (h : p.ok) : p.sub.length ≤ 1048600 ∧ p.test.length ≤ 1048600 ∧ (∀ q ∈ p.sub, q.ok) ∧ ∀ q ∈ p.test, q.ok := by
  cases p
  simp only [Pth.ok] at h
  exact ⟨h.1, h.2.1, oksP_mem h.2.2.1, oksF_mem h.2.2.2⟩
theorem Flt.ok_i {f : Flt} (h : f.ok) : f.nm.ok ∧ f.val.size ≤ 1048600 ∧ f.sub.length ≤ 1048600 ∧ f.way.length ≤ 1048600 ∧ (∀ q ∈ f.sub, q.ok) ∧ ∀ q ∈ f.way, q.ok := by
  cases f
  simp only [Flt.ok] at h
  exact ⟨h.1, h.2.1, h.2.2.1, h.2.2.2.1, oksF_mem h.2.2.2.2.1, oksP_mem h.2.2.2.2.2⟩
structure Pth.r1 (p : Pth) : Prop where
  op : 1 ≤ p.op ∧ p.op ≤ 7
  two : p.op = 4 ∨ p.op = 5 → 2 ≤ p.sub.length
  one : p.op = 6 → p.sub.length = 1
  non : p.op ≠ 4 ∧ p.op ≠ 5 ∧ p.op ≠ 6 → p.sub.length = 0
  test : p.op = 7 ↔ p.test.length = 1
  le : p.test.length ≤ 1
structure Flt.r1 (p : Flt) : Prop where
  op : 1 ≤ p.op ∧ p.op ≤ 11
  two : p.op = 9 ∨ p.op = 10 → 2 ≤ p.sub.length
  one : p.op = 8 → p.sub.length = 1
  non : p.op ≠ 8 ∧ p.op ≠ 9 ∧ p.op ≠ 10 → p.sub.length = 0
  way : p.op = 11 ↔ p.way.length = 1
  le : p.way.length ≤ 1
mutual
inductive Pth.r : Pth → Prop
  | mk (p : Pth) (h : p.r1) (hs : ∀ q ∈ p.sub, Pth.r q) (ht : ∀ f ∈ p.test, Flt.r f) : Pth.r p
inductive Flt.r : Flt → Prop
  | mk (p : Flt) (h : p.r1) (hs : ∀ q ∈ p.sub, Flt.r q) (ht : ∀ f ∈ p.way, Pth.r f) : Flt.r p
end
/-- How many are open ahead of a place. -/
def stepE (e : Ev) : Int := if e.kind = 1 then 1 else if e.kind = 3 then -1 else 0
theorem stepE_1 {e : Ev} (h : e.kind = 1) : stepE e = 1 := by simp [stepE, h]
theorem stepE_2 {e : Ev} (h : e.kind = 2) : stepE e = 0 := by simp [stepE, h]
theorem stepE_3 {e : Ev} (h : e.kind = 3) : stepE e = -1 := by simp [stepE, h]
def dep (l : List Ev) : Nat → Int
  | 0 => 0
  | i + 1 => dep l i + stepE (l.getD i ev0)
/-- No two attributes have one name. -/
def DisF (e : Ev) (i : Nat) : Prop := ∀ j k, i ≤ k → j < k → k < e.attrs.length → (e.attrs.getD j atr0).nm ≠ (e.attrs.getD k atr0).nm
def EvR (e : Ev) : Prop := (e.kind = 1 ∨ e.kind = 2 ∨ e.kind = 3) ∧ DisF e 0
theorem ex_imp {α : Type} {R R' Q : α → Prop} (h : ∃ x, R x ∧ Q x) (k : ∀ x, R x → R' x) : ∃ x, R' x ∧ Q x := by
  obtain ⟨x, h1, h2⟩ := h
  exact ⟨x, k x h1, h2⟩
structure DocP (l : List Ev) (k : Nat) : Prop where
  kind : ∀ i, i < k → (l.getD i ev0).kind = 1 ∨ (l.getD i ev0).kind = 2 ∨ (l.getD i ev0).kind = 3
  dis : ∀ i, i < k → DisF (l.getD i ev0) 0
  pos : ∀ i, 0 < i → i < k → 1 ≤ dep l i
  first : 0 < k → (l.getD 0 ev0).kind = 1
theorem DocP.succ {l : List Ev} {i : Nat} (h : DocP l i) (hk : EvR (l.getD i ev0)) (hp : 0 < i → 1 ≤ dep l i) (hf : i = 0 → (l.getD i ev0).kind = 1) : DocP l (i + 1) := by
  refine ⟨fun j hj => ?_, fun j hj => ?_, fun j h0 hj => ?_, fun _ => ?_⟩
  · rcases Nat.lt_or_eq_of_le (Nat.lt_succ_iff.1 hj) with h1 | h1
    · exact h.kind j h1
    · rw [h1]; exact hk.1
  · rcases Nat.lt_or_eq_of_le (Nat.lt_succ_iff.1 hj) with h1 | h1
    · exact h.dis j h1
    · rw [h1]; exact hk.2
  · rcases Nat.lt_or_eq_of_le (Nat.lt_succ_iff.1 hj) with h1 | h1
    · exact h.pos j h0 h1
    · rw [h1]; exact hp (by omega)
  · rcases Nat.eq_zero_or_pos i with h1 | h1
    · subst h1; exact hf rfl
    · exact h.first h1
structure Doc (l : List Ev) : Prop where
  p : DocP l l.length
  ends : dep l l.length = 0
  len : 0 < l.length ∧ l.length ≤ 60
end Go.Proofs.Ytpffjbbolaehpaa
end

section
set_option linter.unusedVariables false
set_option linter.unusedSimpArgs false
set_option maxRecDepth 100000
namespace Go.Proofs.Ytpffjbbolaehpaa
open Go Go.AX
noncomputable def annL : List (Nat × Ann) := (1000051, .callF [] (fun args => .bool (exB Try.prog 51 args))) :: (1000058, .callF [] (fun args => .bool (exB Try.prog 58 args))) :: (1000062, .callF [] (fun args => .bool (exB Try.prog 62 args))) :: (1000050, .callF [] (fun args => .bool (exB Try.prog 50 args))) :: (1000052, .callF [] (fun args => .bool (exB Try.prog 52 args))) :: (1000009, .callF [] (fun args => .bool (exB Try.prog 9 args))) :: (1000010, .callF [] (fun args => .bool (exB Try.prog 10 args))) :: (1000059, .callF [] (fun args => .int .i64 (exI Try.prog 59 args))) :: annK

theorem nm_ne (a b : Nm) (h : (decide (a.sp = b.sp) && (decide (a.lo = b.lo) && true)) = false) : a ≠ b := by
  intro e
  rw [e] at h
  simp at h

theorem named9_ex (n : Nm) (hn : n.ok) : ∃ x : Bool, (Triv) ∧ Ctr Try.prog 62 [.agg (nmC n)] (.bool x) := by
    have H : ∃ x : Bool, (Triv) ∧ PT.holds Try.prog Try.f62.ntmps (EndsA Γ (.pure [] (.bool x)) Try.f62) (.ob (Ctr Try.prog 58 [AV.str n.lo] (AV.bool (exB Try.prog (58 : FuncId) [AV.str n.lo]))) (.split (exB Try.prog (58 : FuncId) [AV.str n.lo]) (.ob (Ctr Try.prog 51 [AV.str n.lo] (AV.bool (exB Try.prog (51 : FuncId) [AV.str n.lo]))) (.split (exB Try.prog (51 : FuncId) [AV.str n.lo]) (.ob (Ctr Try.prog 51 [AV.str n.sp] (AV.bool (exB Try.prog (51 : FuncId) [AV.str n.sp]))) (.split (exB Try.prog (51 : FuncId) [AV.str n.sp]) (.ob ((!decide (n.sp = (ByteArray.mk #[(104 : UInt8), (116 : UInt8), (116 : UInt8), (112 : UInt8), (58 : UInt8), (47 : UInt8), (47 : UInt8), (119 : UInt8), (119 : UInt8), (119 : UInt8), (46 : UInt8), (119 : UInt8), (51 : UInt8), (46 : UInt8), (111 : UInt8), (114 : UInt8), (103 : UInt8), (47 : UInt8), (50 : UInt8), (48 : UInt8), (48 : UInt8), (48 : UInt8), (47 : UInt8), (120 : UInt8), (109 : UInt8), (108 : UInt8), (110 : UInt8), (115 : UInt8), (47 : UInt8)]))) = x) (.tt)) (.ob (false = x) (.tt)))) (.ob (false = x) (.tt)))) (.ob (false = x) (.tt)))) := by
      simp only [PT.holds]
      (repeat' first | exact ⟨_, triv, rfl, trivial⟩ | exact ⟨_, triv, rfl⟩ | refine ex_split (fun _ => ?_) (fun _ => ?_) | refine ex_ob ?_ ?_)
      all_goals first | exact exB_ctr (plain_ex _ hn.2) | exact exB_ctr (right_ex _ hn.1) | exact exB_ctr (right_ex _ hn.2)
    obtain ⟨x, hR, hx⟩ := H
    exact ⟨x, hR, Ctr.mk Γ_ok Try.func62 (by kernel_rfl) Try.call62 [] (by kernel_rfl) (HT.walk Γ_ok mo_ok (⟨annL, sp62, [], [], .pure [] (.bool x)⟩ : Wk) 4000 (by kernel_rfl) hx)⟩
def stE0 (e : Ev) (i : Nat) : AS := ⟨[(1, .ptr 1 0), (4, .int .i64 i)], [(1, .var true (evC e))], []⟩
def stE1 (e : Ev) (i j : Nat) : AS := ⟨[(1, .ptr 1 0), (4, .int .i64 i), (5, .int .i64 j)], [(1, .var true (evC e))], []⟩
theorem evr_h1 (e : Ev) (i j : Nat) (hj : j ≤ i) (hi : i < e.attrs.length) (he : e.attrs.length ≤ 1048600) (ih : j < i → ∃ x : Bool, (x = true → (e.kind = 1 ∨ e.kind = 2 ∨ e.kind = 3) ∧ DisF e (i + 1) ∧ ∀ k, (j + 1) ≤ k → k < i → (e.attrs.getD k atr0).nm ≠ (e.attrs.getD i atr0).nm) ∧ HT Try.prog Try.f52.ntmps (pt Try.f52 1) (stE1 e i (j + 1)) (EndsA Γ (.pure [] (.bool x)) Try.f52)) (k0 : ∃ x : Bool, (x = true → (e.kind = 1 ∨ e.kind = 2 ∨ e.kind = 3) ∧ DisF e (i + 1)) ∧ HT Try.prog Try.f52.ntmps (pt Try.f52 0) (stE0 e (i + 1)) (EndsA Γ (.pure [] (.bool x)) Try.f52)) : ∃ x : Bool, (x = true → (e.kind = 1 ∨ e.kind = 2 ∨ e.kind = 3) ∧ DisF e (i + 1) ∧ ∀ k, j ≤ k → k < i → (e.attrs.getD k atr0).nm ≠ (e.attrs.getD i atr0).nm) ∧ HT Try.prog Try.f52.ntmps (pt Try.f52 1) (stE1 e i j) (EndsA Γ (.pure [] (.bool x)) Try.f52) := by
    have H : ∃ x : Bool, (x = true → (e.kind = 1 ∨ e.kind = 2 ∨ e.kind = 3) ∧ DisF e (i + 1) ∧ ∀ k, j ≤ k → k < i → (e.attrs.getD k atr0).nm ≠ (e.attrs.getD i atr0).nm) ∧ PT.holds Try.prog Try.f52.ntmps (EndsA Γ (.pure [] (.bool x)) Try.f52) (.split (decide ((↑j : Int) < (↑i : Int))) (.or (.ob ((0 : Int) ≤ (↑j : Int) ∧ (↑j : Int) < (↑e.attrs.length : Int) ∧ (↑j : Int).toNat * (3 : Nat) < (atsC e.attrs).length) (.ob (List.take (2 : Nat) (List.drop ((↑j : Int).toNat * (3 : Nat) + (0 : Nat)) (atsC e.attrs)) = [AV.str (e.attrs.getD j atr0).nm.sp, AV.str (e.attrs.getD j atr0).nm.lo]) (.ob ((0 : Int) ≤ (↑i : Int) ∧ (↑i : Int) < (↑e.attrs.length : Int) ∧ (↑i : Int).toNat * (3 : Nat) < (atsC e.attrs).length) (.ob (List.take (2 : Nat) (List.drop ((↑i : Int).toNat * (3 : Nat) + (0 : Nat)) (atsC e.attrs)) = [AV.str (e.attrs.getD i atr0).nm.sp, AV.str (e.attrs.getD i atr0).nm.lo]) (.ob ((decide ((e.attrs.getD j atr0).nm.sp = (e.attrs.getD i atr0).nm.sp) && (decide ((e.attrs.getD j atr0).nm.lo = (e.attrs.getD i atr0).nm.lo) && true)) = true) (.ob (false = x) (.tt))))))) (.ob ((0 : Int) ≤ (↑j : Int) ∧ (↑j : Int) < (↑e.attrs.length : Int) ∧ (↑j : Int).toNat * (3 : Nat) < (atsC e.attrs).length) (.ob (List.take (2 : Nat) (List.drop ((↑j : Int).toNat * (3 : Nat) + (0 : Nat)) (atsC e.attrs)) = [AV.str (e.attrs.getD j atr0).nm.sp, AV.str (e.attrs.getD j atr0).nm.lo]) (.ob ((0 : Int) ≤ (↑i : Int) ∧ (↑i : Int) < (↑e.attrs.length : Int) ∧ (↑i : Int).toNat * (3 : Nat) < (atsC e.attrs).length) (.ob (List.take (2 : Nat) (List.drop ((↑i : Int).toNat * (3 : Nat) + (0 : Nat)) (atsC e.attrs)) = [AV.str (e.attrs.getD i atr0).nm.sp, AV.str (e.attrs.getD i atr0).nm.lo]) (.ob ((decide ((e.attrs.getD j atr0).nm.sp = (e.attrs.getD i atr0).nm.sp) && (decide ((e.attrs.getD j atr0).nm.lo = (e.attrs.getD i atr0).nm.lo) && true)) = false) (.head (pt Try.f52 1) ({ tmps := [(1, AV.ptr 1 0), (4, AV.int .i64 (↑i : Int)), (5, AV.int .i64 (IntKind.i64.wrap ((↑j : Int) + (1 : Int))))], heap := [(1, .var true (evC e))], tags := [] })))))))) (.head (pt Try.f52 0) ({ tmps := [(1, AV.ptr 1 0), (4, AV.int .i64 (IntKind.i64.wrap ((↑i : Int) + (1 : Int))))], heap := [(1, .var true (evC e))], tags := [] }))) := by
      have w2 : IntKind.i64.wrap ((i : Int) + 1) = ((i + 1 : Nat) : Int) := by rw [i64_wrap (by omega) (by omega)]; rfl
      have w3 : IntKind.i64.wrap ((j : Int) + 1) = ((j + 1 : Nat) : Int) := by rw [i64_wrap (by omega) (by omega)]; rfl
      simp only [PT.holds, w2, w3, Int.toNat_natCast, atsC_len]
      by_cases hji : j < i
      · have hj' : j < e.attrs.length := by omega
        have ih' := fun (hji : j < i) (hne : (e.attrs.getD j atr0).nm ≠ (e.attrs.getD i atr0).nm) => ex_imp (R' := fun x : Bool => x = true → (e.kind = 1 ∨ e.kind = 2 ∨ e.kind = 3) ∧ DisF e (i + 1) ∧ ∀ k, j ≤ k → k < i → (e.attrs.getD k atr0).nm ≠ (e.attrs.getD i atr0).nm) (ih hji) (fun x hx h => ⟨(hx h).1, (hx h).2.1, fun k h1 h2 => (by
          rcases Nat.lt_or_eq_of_le h1 with h3 | h3
          · exact (hx h).2.2 k h3 h2
          · rw [← h3]; exact hne)⟩)
        have hne0 := nm_ne (e.attrs.getD j atr0).nm (e.attrs.getD i atr0).nm
        cases hc : (decide ((e.attrs.getD j atr0).nm.sp = (e.attrs.getD i atr0).nm.sp) && (decide ((e.attrs.getD j atr0).nm.lo = (e.attrs.getD i atr0).nm.lo) && true))
        · have hne := hne0 hc
          refine ex_split (fun _ => ex_or2 ?_) (fun _ => ?_)
          all_goals (repeat' first | exact ⟨_, triv, rfl, trivial⟩ | exact ⟨_, triv, rfl⟩ | refine ex_split (fun _ => ?_) (fun _ => ?_) | refine ex_ob ?_ ?_)
          all_goals first | exact ih' hji hne | rfl | omega | ((try simp only [Nat.add_assoc, Nat.reduceAdd, Nat.add_zero]) <;> first | (rw [ats_take _ _ _ _ hi (by decide)]; rfl) | (rw [ats_nth _ _ _ hi (by decide)]; rfl) | (rw [evs_take _ _ _ _ hi (by decide)]; rfl) | (rw [evs_nth _ _ _ hi (by decide)]; rfl) | (rw [ats_take0 _ _ _ hi (by decide)]; rfl) | (rw [ats_nth0 _ _ hi]; rfl) | (rw [evs_take0 _ _ _ hi (by decide)]; rfl) | (rw [evs_nth0 _ _ hi]; rfl)) | ((try simp only [Nat.add_assoc, Nat.reduceAdd, Nat.add_zero]) <;> first | (rw [ats_take _ _ _ _ hj' (by decide)]; rfl) | (rw [ats_nth _ _ _ hj' (by decide)]; rfl) | (rw [evs_take _ _ _ _ hj' (by decide)]; rfl) | (rw [evs_nth _ _ _ hj' (by decide)]; rfl) | (rw [ats_take0 _ _ _ hj' (by decide)]; rfl) | (rw [ats_nth0 _ _ hj']; rfl) | (rw [evs_take0 _ _ _ hj' (by decide)]; rfl) | (rw [evs_nth0 _ _ hj']; rfl)) | (exfalso; (first | omega | (simp only [decide_eq_true_eq, decide_eq_false_iff_not, Bool.not_eq_true', Bool.not_eq_false'] at *; omega)))
        · refine ex_split (fun _ => ex_or1 ?_) (fun _ => ?_)
          all_goals (repeat' first | exact ⟨_, triv, rfl, trivial⟩ | exact ⟨_, triv, rfl⟩ | refine ex_split (fun _ => ?_) (fun _ => ?_) | refine ex_ob ?_ ?_)
          all_goals first | exact ⟨_, fun h => (by cases h), rfl, trivial⟩ | rfl | omega | ((try simp only [Nat.add_assoc, Nat.reduceAdd, Nat.add_zero]) <;> first | (rw [ats_take _ _ _ _ hi (by decide)]; rfl) | (rw [ats_nth _ _ _ hi (by decide)]; rfl) | (rw [evs_take _ _ _ _ hi (by decide)]; rfl) | (rw [evs_nth _ _ _ hi (by decide)]; rfl) | (rw [ats_take0 _ _ _ hi (by decide)]; rfl) | (rw [ats_nth0 _ _ hi]; rfl) | (rw [evs_take0 _ _ _ hi (by decide)]; rfl) | (rw [evs_nth0 _ _ hi]; rfl)) | ((try simp only [Nat.add_assoc, Nat.reduceAdd, Nat.add_zero]) <;> first | (rw [ats_take _ _ _ _ hj' (by decide)]; rfl) | (rw [ats_nth _ _ _ hj' (by decide)]; rfl) | (rw [evs_take _ _ _ _ hj' (by decide)]; rfl) | (rw [evs_nth _ _ _ hj' (by decide)]; rfl) | (rw [ats_take0 _ _ _ hj' (by decide)]; rfl) | (rw [ats_nth0 _ _ hj']; rfl) | (rw [evs_take0 _ _ _ hj' (by decide)]; rfl) | (rw [evs_nth0 _ _ hj']; rfl)) | (exfalso; (first | omega | (simp only [decide_eq_true_eq, decide_eq_false_iff_not, Bool.not_eq_true', Bool.not_eq_false'] at *; omega)))
      · refine ex_split (fun h => ?_) (fun _ => ex_imp k0 fun x hx h => ⟨(hx h).1, (hx h).2, fun k h1 h2 => absurd h2 (by omega)⟩)
        exfalso; (first | omega | (simp only [decide_eq_true_eq, decide_eq_false_iff_not, Bool.not_eq_true', Bool.not_eq_false'] at *; omega))
    obtain ⟨x, hR, hx⟩ := H
    exact ⟨x, hR, HT.walk Γ_ok mo_ok (⟨([(94, .val (.agg (nmC (e.attrs.getD j atr0).nm))), (100, .val (.agg (nmC (e.attrs.getD i atr0).nm)))] ++ annL), sp52, hd52 [] [] [] [], dsp52, .pure [] (.bool x)⟩ : Wk) 4000 (by kernel_rfl) hx⟩
theorem evr_h0 (e : Ev) (i : Nat) (he : e.ok) (hi : i ≤ e.attrs.length) (k1 : i < e.attrs.length → ∃ x : Bool, (x = true → (e.kind = 1 ∨ e.kind = 2 ∨ e.kind = 3) ∧ DisF e (i + 1) ∧ ∀ k, 0 ≤ k → k < i → (e.attrs.getD k atr0).nm ≠ (e.attrs.getD i atr0).nm) ∧ HT Try.prog Try.f52.ntmps (pt Try.f52 1) (stE1 e i 0) (EndsA Γ (.pure [] (.bool x)) Try.f52)) (hk : e.kind = 1) : ∃ x : Bool, (x = true → (e.kind = 1 ∨ e.kind = 2 ∨ e.kind = 3) ∧ DisF e (i)) ∧ HT Try.prog Try.f52.ntmps (pt Try.f52 0) (stE0 e i) (EndsA Γ (.pure [] (.bool x)) Try.f52) := by
    have H : ∃ x : Bool, (x = true → (e.kind = 1 ∨ e.kind = 2 ∨ e.kind = 3) ∧ DisF e (i)) ∧ PT.holds Try.prog Try.f52.ntmps (EndsA Γ (.pure [] (.bool x)) Try.f52) (.split (decide ((↑i : Int) < (↑e.attrs.length : Int))) (.ob ((0 : Int) ≤ (↑i : Int) ∧ (↑i : Int) < (↑e.attrs.length : Int) ∧ (↑i : Int).toNat * (3 : Nat) < (atsC e.attrs).length) (.ob (List.take (2 : Nat) (List.drop ((↑i : Int).toNat * (3 : Nat) + (0 : Nat)) (atsC e.attrs)) = [AV.str (e.attrs.getD i atr0).nm.sp, AV.str (e.attrs.getD i atr0).nm.lo]) (.ob (Ctr Try.prog 62 [AV.agg [AV.str (e.attrs.getD i atr0).nm.sp, AV.str (e.attrs.getD i atr0).nm.lo]] (AV.bool (exB Try.prog (62 : FuncId) [AV.agg [AV.str (e.attrs.getD i atr0).nm.sp, AV.str (e.attrs.getD i atr0).nm.lo]]))) (.split (exB Try.prog (62 : FuncId) [AV.agg [AV.str (e.attrs.getD i atr0).nm.sp, AV.str (e.attrs.getD i atr0).nm.lo]]) (.ob ((0 : Int) ≤ (↑i : Int) ∧ (↑i : Int) < (↑e.attrs.length : Int) ∧ (↑i : Int).toNat * (3 : Nat) < (atsC e.attrs).length) (.ob ((atsC e.attrs)[(↑i : Int).toNat * (3 : Nat) + (2 : Nat)]? = some (AV.str (e.attrs.getD i atr0).v)) (.ob (Ctr Try.prog 51 [AV.str (e.attrs.getD i atr0).v] (AV.bool (exB Try.prog (51 : FuncId) [AV.str (e.attrs.getD i atr0).v]))) (.split (exB Try.prog (51 : FuncId) [AV.str (e.attrs.getD i atr0).v]) (.head (pt Try.f52 1) ({ tmps := [(1, AV.ptr 1 0), (4, AV.int .i64 (↑i : Int)), (5, AV.int .i64 (0 : Int))], heap := [(1, .var true (evC e))], tags := [] })) (.ob (false = x) (.tt)))))) (.ob (false = x) (.tt)))))) (.ob (true = x) (.tt))) := by
      simp only [PT.holds, Int.toNat_natCast, atsC_len]
      by_cases h : i < e.attrs.length
      · have ha := he.2.2.2 _ (getD_mem e.attrs i atr0 h)
        have k1' := ex_imp (R' := fun x : Bool => x = true → (e.kind = 1 ∨ e.kind = 2 ∨ e.kind = 3) ∧ DisF e (i)) (k1 h) (fun x hx hh => ⟨(hx hh).1, fun j k h1 h2 h3 => (by
          rcases Nat.lt_or_eq_of_le h1 with h4 | h4
          · exact (hx hh).2.1 j k h4 h2 h3
          · subst h4; exact (hx hh).2.2 j (Nat.zero_le _) h2)⟩)
        (repeat' first | exact ⟨_, triv, rfl, trivial⟩ | exact ⟨_, triv, rfl⟩ | refine ex_split (fun _ => ?_) (fun _ => ?_) | refine ex_ob ?_ ?_)
        all_goals first | exact k1' | ((try simp only [Nat.add_assoc, Nat.reduceAdd, Nat.add_zero]) <;> first | (rw [ats_take _ _ _ _ h (by decide)]; rfl) | (rw [ats_nth _ _ _ h (by decide)]; rfl) | (rw [evs_take _ _ _ _ h (by decide)]; rfl) | (rw [evs_nth _ _ _ h (by decide)]; rfl) | (rw [ats_take0 _ _ _ h (by decide)]; rfl) | (rw [ats_nth0 _ _ h]; rfl) | (rw [evs_take0 _ _ _ h (by decide)]; rfl) | (rw [evs_nth0 _ _ h]; rfl)) | exact exB_ctr (named9_ex _ ha.1) | exact exB_ctr (right_ex _ ha.2) | omega | (first | exact ⟨_, (fun h => absurd h (by decide)), rfl, trivial⟩ | exact ⟨_, (fun h => absurd h (by decide)), rfl⟩) | (exfalso; (first | omega | (simp only [decide_eq_true_eq, decide_eq_false_iff_not, Bool.not_eq_true', Bool.not_eq_false'] at *; omega)))
      · (repeat' first | exact ⟨_, triv, rfl, trivial⟩ | exact ⟨_, triv, rfl⟩ | refine ex_split (fun _ => ?_) (fun _ => ?_) | refine ex_ob ?_ ?_)
        all_goals first | exact ⟨_, fun _ => ⟨.inl hk, fun j k h1 h2 h3 => absurd h3 (by omega)⟩, rfl, trivial⟩ | (exfalso; (first | omega | (simp only [decide_eq_true_eq, decide_eq_false_iff_not, Bool.not_eq_true', Bool.not_eq_false'] at *; omega)))
    obtain ⟨x, hR, hx⟩ := H
    exact ⟨x, hR, HT.walk Γ_ok mo_ok (⟨([(71, .val (.agg (nmC (e.attrs.getD i atr0).nm))), (80, .val (.str (e.attrs.getD i atr0).v))] ++ annL), sp52, hd52 [] [] [] [], dsp52, .pure [] (.bool x)⟩ : Wk) 4000 (by kernel_rfl) hx⟩
theorem evr_l1 (e : Ev) (i : Nat) (hi : i < e.attrs.length) (he : e.attrs.length ≤ 1048600) (k0 : ∃ x : Bool, (x = true → (e.kind = 1 ∨ e.kind = 2 ∨ e.kind = 3) ∧ DisF e (i + 1)) ∧ HT Try.prog Try.f52.ntmps (pt Try.f52 0) (stE0 e (i + 1)) (EndsA Γ (.pure [] (.bool x)) Try.f52)) : ∀ d j, j + d = i → ∃ x : Bool, (x = true → (e.kind = 1 ∨ e.kind = 2 ∨ e.kind = 3) ∧ DisF e (i + 1) ∧ ∀ k, j ≤ k → k < i → (e.attrs.getD k atr0).nm ≠ (e.attrs.getD i atr0).nm) ∧ HT Try.prog Try.f52.ntmps (pt Try.f52 1) (stE1 e i j) (EndsA Γ (.pure [] (.bool x)) Try.f52) := by
  intro d
  induction d with
  | zero => exact fun j h => evr_h1 e i j (by omega) hi he (fun h => by omega) k0
  | succ d ih => exact fun j h => evr_h1 e i j (by omega) hi he (fun h => ih (j + 1) (by omega)) k0
theorem evr_l0 (e : Ev) (he : e.ok) (hk : e.kind = 1) : ∀ d i, i + d = e.attrs.length → ∃ x : Bool, (x = true → (e.kind = 1 ∨ e.kind = 2 ∨ e.kind = 3) ∧ DisF e (i)) ∧ HT Try.prog Try.f52.ntmps (pt Try.f52 0) (stE0 e i) (EndsA Γ (.pure [] (.bool x)) Try.f52) := by
  intro d
  induction d with
  | zero => exact fun i h => evr_h0 e i he (by omega) (fun h => by omega) hk
  | succ d ih => exact fun i h => evr_h0 e i he (by omega) (fun h => evr_l1 e i h he.2.2.1 (ih (i + 1) (by omega)) i 0 (by omega)) hk

/-- Of an event that Few lets by: what is known of its parts. -/
def Ev.sm (e : Ev) : Prop := e.attrs.length ≤ 400 ∧ e.nm.ok ∧ e.text.size ≤ 1048600 ∧ ∀ k, k < 100 → k < e.attrs.length → (e.attrs.getD k atr0).ok
theorem Ev.sm.le {e : Ev} (h : e.sm) (h32 : e.attrs.length ≤ 32) : e.ok := ⟨h.2.1, h.2.2.1, by omega, fun a ha => by
  obtain ⟨k, hk, rfl⟩ := List.getElem_of_mem ha
  have := h.2.2.2 k (by omega) hk
  rwa [List.getD_eq_getElem?_getD, List.getElem?_eq_getElem hk] at this⟩
def smEvs (l : List Ev) : Prop := ∀ e ∈ l, e.sm
theorem evr_ex (e : Ev) (he : e.sm) : ∃ x : Bool, (x = true → EvR e) ∧ Ctr Try.prog 52 [.agg (evC e)] (.bool x) := by
    have H : ∃ x : Bool, (x = true → EvR e) ∧ PT.holds Try.prog Try.f52.ntmps (EndsA Γ (.pure [] (.bool x)) Try.f52) (.ob ((3 : Nat) ≤ (5 : Nat)) (.split (decide (e.nm.sp = (ByteArray.mk #[])) && (decide (e.nm.lo = (ByteArray.mk #[])) && true)) (.split (decide (e.kind = (2 : Int))) (.split (decide ((↑e.attrs.length : Int) = (0 : Int))) (.split (!decide (e.text = (ByteArray.mk #[]))) (.ob (Ctr Try.prog 51 [AV.str e.text] (AV.bool (exB Try.prog (51 : FuncId) [AV.str e.text]))) (.ob (exB Try.prog (51 : FuncId) [AV.str e.text] = x) (.tt))) (.ob (false = x) (.tt))) (.ob (false = x) (.tt))) (.split (decide (e.kind = (3 : Int))) (.split (decide ((↑e.attrs.length : Int) = (0 : Int))) (.ob (decide (e.text = (ByteArray.mk #[])) = x) (.tt)) (.ob (false = x) (.tt))) (.split (!decide (e.kind = (1 : Int))) (.ob (false = x) (.tt)) (.split (!decide (e.text = (ByteArray.mk #[]))) (.ob (false = x) (.tt)) (.ob ((3 : Nat) ≤ (5 : Nat)) (.ob (Ctr Try.prog 62 [AV.agg [AV.str e.nm.sp, AV.str e.nm.lo]] (AV.bool (exB Try.prog (62 : FuncId) [AV.agg [AV.str e.nm.sp, AV.str e.nm.lo]]))) (.split (exB Try.prog (62 : FuncId) [AV.agg [AV.str e.nm.sp, AV.str e.nm.lo]]) (.split (decide ((32 : Int) < (↑e.attrs.length : Int))) (.ob (false = x) (.tt)) (.head (pt Try.f52 0) ({ tmps := [(1, AV.ptr 1 0), (4, AV.int .i64 (0 : Int))], heap := [(1, .var true (evC e))], tags := [] }))) (.ob (false = x) (.tt))))))))) (.split (decide (e.kind = (2 : Int))) (.split (false) (.split (!decide (e.text = (ByteArray.mk #[]))) (.ob (Ctr Try.prog 51 [AV.str e.text] (AV.bool (exB Try.prog (51 : FuncId) [AV.str e.text]))) (.ob (exB Try.prog (51 : FuncId) [AV.str e.text] = x) (.tt))) (.ob (false = x) (.tt))) (.ob (false = x) (.tt))) (.split (decide (e.kind = (3 : Int))) (.split (false) (.ob (decide (e.text = (ByteArray.mk #[])) = x) (.tt)) (.ob (false = x) (.tt))) (.split (!decide (e.kind = (1 : Int))) (.ob (false = x) (.tt)) (.split (!decide (e.text = (ByteArray.mk #[]))) (.ob (false = x) (.tt)) (.ob ((3 : Nat) ≤ (5 : Nat)) (.ob (Ctr Try.prog 62 [AV.agg [AV.str e.nm.sp, AV.str e.nm.lo]] (AV.bool (exB Try.prog (62 : FuncId) [AV.agg [AV.str e.nm.sp, AV.str e.nm.lo]]))) (.split (exB Try.prog (62 : FuncId) [AV.agg [AV.str e.nm.sp, AV.str e.nm.lo]]) (.split (decide ((32 : Int) < (↑e.attrs.length : Int))) (.ob (false = x) (.tt)) (.head (pt Try.f52 0) ({ tmps := [(1, AV.ptr 1 0), (4, AV.int .i64 (0 : Int))], heap := [(1, .var true (evC e))], tags := [] }))) (.ob (false = x) (.tt))))))))))) := by
      simp only [PT.holds, true_implies, Bool.false_eq_true, Bool.true_eq_false, false_implies, true_and, and_true]
      (repeat' first | exact ⟨_, triv, rfl, trivial⟩ | exact ⟨_, triv, rfl⟩ | refine ex_split (fun _ => ?_) (fun _ => ?_) | refine ex_ob ?_ ?_)
      all_goals first | exact exB_ctr (right_ex _ he.2.2.1) | exact exB_ctr (named9_ex _ he.2.1) | omega | exact evr_l0 e (he.le (by have := of_decide_eq_false ‹decide ((32 : Int) < (e.attrs.length : Int)) = false›; omega)) (by simpa using ‹(!decide (e.kind = 1)) = false›) e.attrs.length 0 (by omega) | (first | exact ⟨_, (fun h => absurd h (by decide)), rfl, trivial⟩ | exact ⟨_, (fun h => absurd h (by decide)), rfl⟩) | (first | exact ⟨_, (fun _ => ⟨(by simp only [decide_eq_true_eq] at *; omega), fun j k h1 h2 h3 => (by simp only [decide_eq_true_eq] at *; omega)⟩), rfl, trivial⟩ | exact ⟨_, (fun _ => ⟨(by simp only [decide_eq_true_eq] at *; omega), fun j k h1 h2 h3 => (by simp only [decide_eq_true_eq] at *; omega)⟩), rfl⟩)
    obtain ⟨x, hR, hx⟩ := H
    exact ⟨x, hR, Ctr.mk Γ_ok Try.func52 (by kernel_rfl) Try.call52 [] (by kernel_rfl) (HT.walk Γ_ok mo_ok (⟨annL, sp52, hd52 [] [] [] [], dsp52, .pure [] (.bool x)⟩ : Wk) 4000 (by kernel_rfl) hx)⟩
end Go.Proofs.Ytpffjbbolaehpaa
end

section
set_option linter.unusedVariables false
set_option linter.unusedSimpArgs false
set_option maxRecDepth 100000
namespace Go.Proofs.Ytpffjbbolaehpaa
open Go Go.AX

def stD (l : List Ev) (n : Int) (i : Nat) : AS := ⟨[(0, .sl none l.length (evsC l) .no), (3, .int .i64 n), (4, .int .i64 i)], [], []⟩
theorem depth_h (l : List Ev) (n : Int) (i : Nat) (b : Bool) (hi : i < l.length) (hl : l.length ≤ 1048600) (hd : DocP l i) (hn : n = dep l i ∧ 0 ≤ n ∧ n ≤ 64) (hb : b = true → EvR (l.getD i ev0)) (hc : Ctr Try.prog 52 [.agg (evC (l.getD i ev0))] (.bool b)) (ih : DocP l (i + 1) → ∀ n', n' = dep l (i + 1) → 0 ≤ n' → n' ≤ 64 → ∃ x : Int, (x = 0 → DocP l l.length ∧ dep l l.length = 0) ∧ HT Try.prog Try.f37.ntmps (pt Try.f37 0) (stD l n' (i + 1)) (EndsA Γ (.pure [] (.int .i64 x)) Try.f37)) : ∃ x : Int, (x = 0 → DocP l l.length ∧ dep l l.length = 0) ∧ HT Try.prog Try.f37.ntmps (pt Try.f37 0) (stD l n i) (EndsA Γ (.pure [] (.int .i64 x)) Try.f37) := by
    have H : ∃ x : Int, (x = 0 → DocP l l.length ∧ dep l l.length = 0) ∧ PT.holds Try.prog Try.f37.ntmps (EndsA Γ (.pure [] (.int .i64 x)) Try.f37) (.split (decide ((↑i : Int) < (↑l.length : Int))) (.ob ((0 : Int) ≤ (↑i : Int) ∧ (↑i : Int) < (↑l.length : Int) ∧ (↑i : Int).toNat * (5 : Nat) < (evsC l).length) (.ob (List.take (5 : Nat) (List.drop ((↑i : Int).toNat * (5 : Nat)) (evsC l)) = (evC (l.getD i ev0))) (.ob (Ctr Try.prog 52 [AV.agg (evC (l.getD i ev0))] (AV.bool b)) (.split (b) (.split (!decide (n = (0 : Int)) == decide ((↑i : Int) = (0 : Int))) (.ob ((-1 : Int) = x) (.tt)) (.split (decide ((↑i : Int) = (0 : Int))) (.ob ((0 : Int) ≤ (↑i : Int) ∧ (↑i : Int) < (↑l.length : Int) ∧ (↑i : Int).toNat * (5 : Nat) < (evsC l).length) (.ob ((evsC l)[(↑i : Int).toNat * (5 : Nat) + (0 : Nat)]? = some (AV.int .i64 (l.getD i ev0).kind)) (.split (!decide ((l.getD i ev0).kind = (1 : Int))) (.ob ((-1 : Int) = x) (.tt)) (.ob ((0 : Int) ≤ (↑i : Int) ∧ (↑i : Int) < (↑l.length : Int) ∧ (↑i : Int).toNat * (5 : Nat) < (evsC l).length) (.ob ((evsC l)[(↑i : Int).toNat * (5 : Nat) + (0 : Nat)]? = some (AV.int .i64 (l.getD i ev0).kind)) (.split (decide ((l.getD i ev0).kind = (2 : Int))) (.ob ((0 : Int) ≤ IntKind.i64.wrap ((↑i : Int) - (1 : Int)) ∧ IntKind.i64.wrap ((↑i : Int) - (1 : Int)) < (↑l.length : Int) ∧ (IntKind.i64.wrap ((↑i : Int) - (1 : Int))).toNat * (5 : Nat) < (evsC l).length) (.ob ((evsC l)[(IntKind.i64.wrap ((↑i : Int) - (1 : Int))).toNat * (5 : Nat) + (0 : Nat)]? = some (AV.int .i64 (l.getD (i - (1 : Nat)) ev0).kind)) (.split (decide ((l.getD (i - (1 : Nat)) ev0).kind = (2 : Int))) (.ob ((-1 : Int) = x) (.tt)) (.ob ((0 : Int) ≤ (↑i : Int) ∧ (↑i : Int) < (↑l.length : Int) ∧ (↑i : Int).toNat * (5 : Nat) < (evsC l).length) (.ob ((evsC l)[(↑i : Int).toNat * (5 : Nat) + (0 : Nat)]? = some (AV.int .i64 (l.getD i ev0).kind)) (.split (decide ((l.getD i ev0).kind = (1 : Int))) (.ob ((0 : Int) ≤ (↑i : Int) ∧ (↑i : Int) < (↑l.length : Int) ∧ (↑i : Int).toNat * (5 : Nat) < (evsC l).length) (.ob ((evsC l)[(↑i : Int).toNat * (5 : Nat) + (0 : Nat)]? = some (AV.int .i64 (l.getD i ev0).kind)) (.split (decide ((l.getD i ev0).kind = (3 : Int))) (.split (decide ((64 : Int) < IntKind.i64.wrap (IntKind.i64.wrap (n + (1 : Int)) - (1 : Int)))) (.ob ((-1 : Int) = x) (.tt)) (.head (pt Try.f37 0) ({ tmps := [(0, AV.sl none l.length (evsC l) .no), (3, AV.int .i64 (IntKind.i64.wrap (IntKind.i64.wrap (n + (1 : Int)) - (1 : Int)))), (4, AV.int .i64 (IntKind.i64.wrap ((↑i : Int) + (1 : Int))))], heap := [], tags := [] }))) (.split (decide ((64 : Int) < IntKind.i64.wrap (n + (1 : Int)))) (.ob ((-1 : Int) = x) (.tt)) (.head (pt Try.f37 0) ({ tmps := [(0, AV.sl none l.length (evsC l) .no), (3, AV.int .i64 (IntKind.i64.wrap (n + (1 : Int)))), (4, AV.int .i64 (IntKind.i64.wrap ((↑i : Int) + (1 : Int))))], heap := [], tags := [] })))))) (.ob ((0 : Int) ≤ (↑i : Int) ∧ (↑i : Int) < (↑l.length : Int) ∧ (↑i : Int).toNat * (5 : Nat) < (evsC l).length) (.ob ((evsC l)[(↑i : Int).toNat * (5 : Nat) + (0 : Nat)]? = some (AV.int .i64 (l.getD i ev0).kind)) (.split (decide ((l.getD i ev0).kind = (3 : Int))) (.split (decide ((64 : Int) < IntKind.i64.wrap (n - (1 : Int)))) (.ob ((-1 : Int) = x) (.tt)) (.head (pt Try.f37 0) ({ tmps := [(0, AV.sl none l.length (evsC l) .no), (3, AV.int .i64 (IntKind.i64.wrap (n - (1 : Int)))), (4, AV.int .i64 (IntKind.i64.wrap ((↑i : Int) + (1 : Int))))], heap := [], tags := [] }))) (.split (decide ((64 : Int) < n)) (.ob ((-1 : Int) = x) (.tt)) (.head (pt Try.f37 0) ({ tmps := [(0, AV.sl none l.length (evsC l) .no), (3, AV.int .i64 n), (4, AV.int .i64 (IntKind.i64.wrap ((↑i : Int) + (1 : Int))))], heap := [], tags := [] })))))))))))) (.ob ((0 : Int) ≤ (↑i : Int) ∧ (↑i : Int) < (↑l.length : Int) ∧ (↑i : Int).toNat * (5 : Nat) < (evsC l).length) (.ob ((evsC l)[(↑i : Int).toNat * (5 : Nat) + (0 : Nat)]? = some (AV.int .i64 (l.getD i ev0).kind)) (.split (decide ((l.getD i ev0).kind = (1 : Int))) (.ob ((0 : Int) ≤ (↑i : Int) ∧ (↑i : Int) < (↑l.length : Int) ∧ (↑i : Int).toNat * (5 : Nat) < (evsC l).length) (.ob ((evsC l)[(↑i : Int).toNat * (5 : Nat) + (0 : Nat)]? = some (AV.int .i64 (l.getD i ev0).kind)) (.split (decide ((l.getD i ev0).kind = (3 : Int))) (.split (decide ((64 : Int) < IntKind.i64.wrap (IntKind.i64.wrap (n + (1 : Int)) - (1 : Int)))) (.ob ((-1 : Int) = x) (.tt)) (.head (pt Try.f37 0) ({ tmps := [(0, AV.sl none l.length (evsC l) .no), (3, AV.int .i64 (IntKind.i64.wrap (IntKind.i64.wrap (n + (1 : Int)) - (1 : Int)))), (4, AV.int .i64 (IntKind.i64.wrap ((↑i : Int) + (1 : Int))))], heap := [], tags := [] }))) (.split (decide ((64 : Int) < IntKind.i64.wrap (n + (1 : Int)))) (.ob ((-1 : Int) = x) (.tt)) (.head (pt Try.f37 0) ({ tmps := [(0, AV.sl none l.length (evsC l) .no), (3, AV.int .i64 (IntKind.i64.wrap (n + (1 : Int)))), (4, AV.int .i64 (IntKind.i64.wrap ((↑i : Int) + (1 : Int))))], heap := [], tags := [] })))))) (.ob ((0 : Int) ≤ (↑i : Int) ∧ (↑i : Int) < (↑l.length : Int) ∧ (↑i : Int).toNat * (5 : Nat) < (evsC l).length) (.ob ((evsC l)[(↑i : Int).toNat * (5 : Nat) + (0 : Nat)]? = some (AV.int .i64 (l.getD i ev0).kind)) (.split (decide ((l.getD i ev0).kind = (3 : Int))) (.split (decide ((64 : Int) < IntKind.i64.wrap (n - (1 : Int)))) (.ob ((-1 : Int) = x) (.tt)) (.head (pt Try.f37 0) ({ tmps := [(0, AV.sl none l.length (evsC l) .no), (3, AV.int .i64 (IntKind.i64.wrap (n - (1 : Int)))), (4, AV.int .i64 (IntKind.i64.wrap ((↑i : Int) + (1 : Int))))], heap := [], tags := [] }))) (.split (decide ((64 : Int) < n)) (.ob ((-1 : Int) = x) (.tt)) (.head (pt Try.f37 0) ({ tmps := [(0, AV.sl none l.length (evsC l) .no), (3, AV.int .i64 n), (4, AV.int .i64 (IntKind.i64.wrap ((↑i : Int) + (1 : Int))))], heap := [], tags := [] }))))))))))))))) (.ob ((0 : Int) ≤ (↑i : Int) ∧ (↑i : Int) < (↑l.length : Int) ∧ (↑i : Int).toNat * (5 : Nat) < (evsC l).length) (.ob ((evsC l)[(↑i : Int).toNat * (5 : Nat) + (0 : Nat)]? = some (AV.int .i64 (l.getD i ev0).kind)) (.split (decide ((l.getD i ev0).kind = (2 : Int))) (.ob ((0 : Int) ≤ IntKind.i64.wrap ((↑i : Int) - (1 : Int)) ∧ IntKind.i64.wrap ((↑i : Int) - (1 : Int)) < (↑l.length : Int) ∧ (IntKind.i64.wrap ((↑i : Int) - (1 : Int))).toNat * (5 : Nat) < (evsC l).length) (.ob ((evsC l)[(IntKind.i64.wrap ((↑i : Int) - (1 : Int))).toNat * (5 : Nat) + (0 : Nat)]? = some (AV.int .i64 (l.getD (i - (1 : Nat)) ev0).kind)) (.split (decide ((l.getD (i - (1 : Nat)) ev0).kind = (2 : Int))) (.ob ((-1 : Int) = x) (.tt)) (.ob ((0 : Int) ≤ (↑i : Int) ∧ (↑i : Int) < (↑l.length : Int) ∧ (↑i : Int).toNat * (5 : Nat) < (evsC l).length) (.ob ((evsC l)[(↑i : Int).toNat * (5 : Nat) + (0 : Nat)]? = some (AV.int .i64 (l.getD i ev0).kind)) (.split (decide ((l.getD i ev0).kind = (1 : Int))) (.ob ((0 : Int) ≤ (↑i : Int) ∧ (↑i : Int) < (↑l.length : Int) ∧ (↑i : Int).toNat * (5 : Nat) < (evsC l).length) (.ob ((evsC l)[(↑i : Int).toNat * (5 : Nat) + (0 : Nat)]? = some (AV.int .i64 (l.getD i ev0).kind)) (.split (decide ((l.getD i ev0).kind = (3 : Int))) (.split (decide ((64 : Int) < IntKind.i64.wrap (IntKind.i64.wrap (n + (1 : Int)) - (1 : Int)))) (.ob ((-1 : Int) = x) (.tt)) (.head (pt Try.f37 0) ({ tmps := [(0, AV.sl none l.length (evsC l) .no), (3, AV.int .i64 (IntKind.i64.wrap (IntKind.i64.wrap (n + (1 : Int)) - (1 : Int)))), (4, AV.int .i64 (IntKind.i64.wrap ((↑i : Int) + (1 : Int))))], heap := [], tags := [] }))) (.split (decide ((64 : Int) < IntKind.i64.wrap (n + (1 : Int)))) (.ob ((-1 : Int) = x) (.tt)) (.head (pt Try.f37 0) ({ tmps := [(0, AV.sl none l.length (evsC l) .no), (3, AV.int .i64 (IntKind.i64.wrap (n + (1 : Int)))), (4, AV.int .i64 (IntKind.i64.wrap ((↑i : Int) + (1 : Int))))], heap := [], tags := [] })))))) (.ob ((0 : Int) ≤ (↑i : Int) ∧ (↑i : Int) < (↑l.length : Int) ∧ (↑i : Int).toNat * (5 : Nat) < (evsC l).length) (.ob ((evsC l)[(↑i : Int).toNat * (5 : Nat) + (0 : Nat)]? = some (AV.int .i64 (l.getD i ev0).kind)) (.split (decide ((l.getD i ev0).kind = (3 : Int))) (.split (decide ((64 : Int) < IntKind.i64.wrap (n - (1 : Int)))) (.ob ((-1 : Int) = x) (.tt)) (.head (pt Try.f37 0) ({ tmps := [(0, AV.sl none l.length (evsC l) .no), (3, AV.int .i64 (IntKind.i64.wrap (n - (1 : Int)))), (4, AV.int .i64 (IntKind.i64.wrap ((↑i : Int) + (1 : Int))))], heap := [], tags := [] }))) (.split (decide ((64 : Int) < n)) (.ob ((-1 : Int) = x) (.tt)) (.head (pt Try.f37 0) ({ tmps := [(0, AV.sl none l.length (evsC l) .no), (3, AV.int .i64 n), (4, AV.int .i64 (IntKind.i64.wrap ((↑i : Int) + (1 : Int))))], heap := [], tags := [] })))))))))))) (.ob ((0 : Int) ≤ (↑i : Int) ∧ (↑i : Int) < (↑l.length : Int) ∧ (↑i : Int).toNat * (5 : Nat) < (evsC l).length) (.ob ((evsC l)[(↑i : Int).toNat * (5 : Nat) + (0 : Nat)]? = some (AV.int .i64 (l.getD i ev0).kind)) (.split (decide ((l.getD i ev0).kind = (1 : Int))) (.ob ((0 : Int) ≤ (↑i : Int) ∧ (↑i : Int) < (↑l.length : Int) ∧ (↑i : Int).toNat * (5 : Nat) < (evsC l).length) (.ob ((evsC l)[(↑i : Int).toNat * (5 : Nat) + (0 : Nat)]? = some (AV.int .i64 (l.getD i ev0).kind)) (.split (decide ((l.getD i ev0).kind = (3 : Int))) (.split (decide ((64 : Int) < IntKind.i64.wrap (IntKind.i64.wrap (n + (1 : Int)) - (1 : Int)))) (.ob ((-1 : Int) = x) (.tt)) (.head (pt Try.f37 0) ({ tmps := [(0, AV.sl none l.length (evsC l) .no), (3, AV.int .i64 (IntKind.i64.wrap (IntKind.i64.wrap (n + (1 : Int)) - (1 : Int)))), (4, AV.int .i64 (IntKind.i64.wrap ((↑i : Int) + (1 : Int))))], heap := [], tags := [] }))) (.split (decide ((64 : Int) < IntKind.i64.wrap (n + (1 : Int)))) (.ob ((-1 : Int) = x) (.tt)) (.head (pt Try.f37 0) ({ tmps := [(0, AV.sl none l.length (evsC l) .no), (3, AV.int .i64 (IntKind.i64.wrap (n + (1 : Int)))), (4, AV.int .i64 (IntKind.i64.wrap ((↑i : Int) + (1 : Int))))], heap := [], tags := [] })))))) (.ob ((0 : Int) ≤ (↑i : Int) ∧ (↑i : Int) < (↑l.length : Int) ∧ (↑i : Int).toNat * (5 : Nat) < (evsC l).length) (.ob ((evsC l)[(↑i : Int).toNat * (5 : Nat) + (0 : Nat)]? = some (AV.int .i64 (l.getD i ev0).kind)) (.split (decide ((l.getD i ev0).kind = (3 : Int))) (.split (decide ((64 : Int) < IntKind.i64.wrap (n - (1 : Int)))) (.ob ((-1 : Int) = x) (.tt)) (.head (pt Try.f37 0) ({ tmps := [(0, AV.sl none l.length (evsC l) .no), (3, AV.int .i64 (IntKind.i64.wrap (n - (1 : Int)))), (4, AV.int .i64 (IntKind.i64.wrap ((↑i : Int) + (1 : Int))))], heap := [], tags := [] }))) (.split (decide ((64 : Int) < n)) (.ob ((-1 : Int) = x) (.tt)) (.head (pt Try.f37 0) ({ tmps := [(0, AV.sl none l.length (evsC l) .no), (3, AV.int .i64 n), (4, AV.int .i64 (IntKind.i64.wrap ((↑i : Int) + (1 : Int))))], heap := [], tags := [] })))))))))))))) (.ob ((-1 : Int) = x) (.tt)))))) (.ob (n = x) (.tt))) := by
      have w2 : IntKind.i64.wrap ((i : Int) + 1) = ((i + 1 : Nat) : Int) := by rw [i64_wrap (by omega) (by omega)]; rfl
      have w3 : IntKind.i64.wrap ((i : Int) - 1) = (i : Int) - 1 := i64_wrap (by omega) (by omega)
      have w4 : IntKind.i64.wrap (n + 1) = n + 1 := i64_wrap (by omega) (by omega)
      have w5 : IntKind.i64.wrap (n - 1) = n - 1 := i64_wrap (by omega) (by omega)
      have w6 : IntKind.i64.wrap (n + 1 - 1) = n + 1 - 1 := i64_wrap (by omega) (by omega)
      have w7 : ((i : Int) - 1).toNat = i - 1 := by omega
      have hst : dep l (i + 1) = dep l i + stepE (l.getD i ev0) := rfl
      have s1 : (l.getD i ev0).kind = 1 → stepE (l.getD i ev0) = 1 := stepE_1
      have s2 : (l.getD i ev0).kind = 2 → stepE (l.getD i ev0) = 0 := stepE_2
      have s3 : (l.getD i ev0).kind = 3 → stepE (l.getD i ev0) = -1 := stepE_3
      have hi1 : i - 1 < l.length := by omega
      simp only [PT.holds, w2, w3, w4, w5, w6, w7, Int.toNat_natCast, evsC_len]
      (repeat' first | exact ⟨_, triv, rfl, trivial⟩ | exact ⟨_, triv, rfl⟩ | refine ex_split (fun _ => ?_) (fun _ => ?_) | refine ex_ob ?_ ?_)
      all_goals first | exact hc | (first | exact ⟨_, (fun h => absurd h (by decide)), rfl, trivial⟩ | exact ⟨_, (fun h => absurd h (by decide)), rfl⟩) | omega | ((try simp only [Nat.add_assoc, Nat.reduceAdd, Nat.add_zero]) <;> first | (rw [ats_take _ _ _ _ hi (by decide)]; rfl) | (rw [ats_nth _ _ _ hi (by decide)]; rfl) | (rw [evs_take _ _ _ _ hi (by decide)]; rfl) | (rw [evs_nth _ _ _ hi (by decide)]; rfl) | (rw [ats_take0 _ _ _ hi (by decide)]; rfl) | (rw [ats_nth0 _ _ hi]; rfl) | (rw [evs_take0 _ _ _ hi (by decide)]; rfl) | (rw [evs_nth0 _ _ hi]; rfl)) | ((try simp only [Nat.add_assoc, Nat.reduceAdd, Nat.add_zero]) <;> first | (rw [ats_take _ _ _ _ hi1 (by decide)]; rfl) | (rw [ats_nth _ _ _ hi1 (by decide)]; rfl) | (rw [evs_take _ _ _ _ hi1 (by decide)]; rfl) | (rw [evs_nth _ _ _ hi1 (by decide)]; rfl) | (rw [ats_take0 _ _ _ hi1 (by decide)]; rfl) | (rw [ats_nth0 _ _ hi1]; rfl) | (rw [evs_take0 _ _ _ hi1 (by decide)]; rfl) | (rw [evs_nth0 _ _ hi1]; rfl)) | (first | omega | (simp only [decide_eq_true_eq, decide_eq_false_iff_not, Bool.not_eq_true', Bool.not_eq_false', beq_iff_eq, beq_eq_false_iff_ne, decide_eq_decide, ne_eq, Bool.not_eq_eq_eq_not, Bool.not_true, Bool.not_false] at *; omega)) | (refine ih (hd.succ (hb (by assumption)) ?_ ?_) _ ?_ ?_ ?_ <;> first | (intro _; (first | omega | (simp only [decide_eq_true_eq, decide_eq_false_iff_not, Bool.not_eq_true', Bool.not_eq_false', beq_iff_eq, beq_eq_false_iff_ne, decide_eq_decide, ne_eq, Bool.not_eq_eq_eq_not, Bool.not_true, Bool.not_false] at *; omega))) | (first | omega | (simp only [decide_eq_true_eq, decide_eq_false_iff_not, Bool.not_eq_true', Bool.not_eq_false', beq_iff_eq, beq_eq_false_iff_ne, decide_eq_decide, ne_eq, Bool.not_eq_eq_eq_not, Bool.not_true, Bool.not_false] at *; omega))) | (exfalso; have hk := (hb (by assumption)).1; (first | omega | (simp only [decide_eq_true_eq, decide_eq_false_iff_not, Bool.not_eq_true', Bool.not_eq_false', beq_iff_eq, beq_eq_false_iff_ne, decide_eq_decide, ne_eq, Bool.not_eq_eq_eq_not, Bool.not_true, Bool.not_false] at *; omega)))
    obtain ⟨x, hR, hx⟩ := H
    exact ⟨x, hR, HT.walk Γ_ok mo_ok (⟨([(14, .val (.agg (evC (l.getD i ev0)))), (15, .call [] (.bool b)), (32, .val (.int .i64 (l.getD i ev0).kind)), (40, .val (.int .i64 (l.getD i ev0).kind)), (55, .val (.int .i64 (l.getD i ev0).kind)), (63, .val (.int .i64 (l.getD i ev0).kind)), (48, .val (.int .i64 (l.getD (i - 1) ev0).kind))] ++ annL), sp37, hd37 [] [] [] [], [], .pure [] (.int .i64 x)⟩ : Wk) 4000 (by kernel_rfl) hx⟩
theorem depth_e (l : List Ev) (n : Int) (i : Nat) (b : Bool) (hi : i = l.length) (hl : l.length ≤ 1048600) (hd : DocP l i) (hn : n = dep l i ∧ 0 ≤ n ∧ n ≤ 64) : ∃ x : Int, (x = 0 → DocP l l.length ∧ dep l l.length = 0) ∧ HT Try.prog Try.f37.ntmps (pt Try.f37 0) (stD l n i) (EndsA Γ (.pure [] (.int .i64 x)) Try.f37) := by
    have H : ∃ x : Int, (x = 0 → DocP l l.length ∧ dep l l.length = 0) ∧ PT.holds Try.prog Try.f37.ntmps (EndsA Γ (.pure [] (.int .i64 x)) Try.f37) (.split (decide ((↑i : Int) < (↑l.length : Int))) (.ob ((0 : Int) ≤ (↑i : Int) ∧ (↑i : Int) < (↑l.length : Int) ∧ (↑i : Int).toNat * (5 : Nat) < (evsC l).length) (.ob (List.take (5 : Nat) (List.drop ((↑i : Int).toNat * (5 : Nat)) (evsC l)) = (evC (l.getD i ev0))) (.ob (Ctr Try.prog 52 [AV.agg (evC (l.getD i ev0))] (AV.bool b)) (.split (b) (.split (!decide (n = (0 : Int)) == decide ((↑i : Int) = (0 : Int))) (.ob ((-1 : Int) = x) (.tt)) (.split (decide ((↑i : Int) = (0 : Int))) (.ob ((0 : Int) ≤ (↑i : Int) ∧ (↑i : Int) < (↑l.length : Int) ∧ (↑i : Int).toNat * (5 : Nat) < (evsC l).length) (.ob ((evsC l)[(↑i : Int).toNat * (5 : Nat) + (0 : Nat)]? = some (AV.int .i64 (l.getD i ev0).kind)) (.split (!decide ((l.getD i ev0).kind = (1 : Int))) (.ob ((-1 : Int) = x) (.tt)) (.ob ((0 : Int) ≤ (↑i : Int) ∧ (↑i : Int) < (↑l.length : Int) ∧ (↑i : Int).toNat * (5 : Nat) < (evsC l).length) (.ob ((evsC l)[(↑i : Int).toNat * (5 : Nat) + (0 : Nat)]? = some (AV.int .i64 (l.getD i ev0).kind)) (.split (decide ((l.getD i ev0).kind = (2 : Int))) (.ob ((0 : Int) ≤ IntKind.i64.wrap ((↑i : Int) - (1 : Int)) ∧ IntKind.i64.wrap ((↑i : Int) - (1 : Int)) < (↑l.length : Int) ∧ (IntKind.i64.wrap ((↑i : Int) - (1 : Int))).toNat * (5 : Nat) < (evsC l).length) (.ob ((evsC l)[(IntKind.i64.wrap ((↑i : Int) - (1 : Int))).toNat * (5 : Nat) + (0 : Nat)]? = some (AV.int .i64 (l.getD (i - (1 : Nat)) ev0).kind)) (.split (decide ((l.getD (i - (1 : Nat)) ev0).kind = (2 : Int))) (.ob ((-1 : Int) = x) (.tt)) (.ob ((0 : Int) ≤ (↑i : Int) ∧ (↑i : Int) < (↑l.length : Int) ∧ (↑i : Int).toNat * (5 : Nat) < (evsC l).length) (.ob ((evsC l)[(↑i : Int).toNat * (5 : Nat) + (0 : Nat)]? = some (AV.int .i64 (l.getD i ev0).kind)) (.split (decide ((l.getD i ev0).kind = (1 : Int))) (.ob ((0 : Int) ≤ (↑i : Int) ∧ (↑i : Int) < (↑l.length : Int) ∧ (↑i : Int).toNat * (5 : Nat) < (evsC l).length) (.ob ((evsC l)[(↑i : Int).toNat * (5 : Nat) + (0 : Nat)]? = some (AV.int .i64 (l.getD i ev0).kind)) (.split (decide ((l.getD i ev0).kind = (3 : Int))) (.split (decide ((64 : Int) < IntKind.i64.wrap (IntKind.i64.wrap (n + (1 : Int)) - (1 : Int)))) (.ob ((-1 : Int) = x) (.tt)) (.head (pt Try.f37 0) ({ tmps := [(0, AV.sl none l.length (evsC l) .no), (3, AV.int .i64 (IntKind.i64.wrap (IntKind.i64.wrap (n + (1 : Int)) - (1 : Int)))), (4, AV.int .i64 (IntKind.i64.wrap ((↑i : Int) + (1 : Int))))], heap := [], tags := [] }))) (.split (decide ((64 : Int) < IntKind.i64.wrap (n + (1 : Int)))) (.ob ((-1 : Int) = x) (.tt)) (.head (pt Try.f37 0) ({ tmps := [(0, AV.sl none l.length (evsC l) .no), (3, AV.int .i64 (IntKind.i64.wrap (n + (1 : Int)))), (4, AV.int .i64 (IntKind.i64.wrap ((↑i : Int) + (1 : Int))))], heap := [], tags := [] })))))) (.ob ((0 : Int) ≤ (↑i : Int) ∧ (↑i : Int) < (↑l.length : Int) ∧ (↑i : Int).toNat * (5 : Nat) < (evsC l).length) (.ob ((evsC l)[(↑i : Int).toNat * (5 : Nat) + (0 : Nat)]? = some (AV.int .i64 (l.getD i ev0).kind)) (.split (decide ((l.getD i ev0).kind = (3 : Int))) (.split (decide ((64 : Int) < IntKind.i64.wrap (n - (1 : Int)))) (.ob ((-1 : Int) = x) (.tt)) (.head (pt Try.f37 0) ({ tmps := [(0, AV.sl none l.length (evsC l) .no), (3, AV.int .i64 (IntKind.i64.wrap (n - (1 : Int)))), (4, AV.int .i64 (IntKind.i64.wrap ((↑i : Int) + (1 : Int))))], heap := [], tags := [] }))) (.split (decide ((64 : Int) < n)) (.ob ((-1 : Int) = x) (.tt)) (.head (pt Try.f37 0) ({ tmps := [(0, AV.sl none l.length (evsC l) .no), (3, AV.int .i64 n), (4, AV.int .i64 (IntKind.i64.wrap ((↑i : Int) + (1 : Int))))], heap := [], tags := [] })))))))))))) (.ob ((0 : Int) ≤ (↑i : Int) ∧ (↑i : Int) < (↑l.length : Int) ∧ (↑i : Int).toNat * (5 : Nat) < (evsC l).length) (.ob ((evsC l)[(↑i : Int).toNat * (5 : Nat) + (0 : Nat)]? = some (AV.int .i64 (l.getD i ev0).kind)) (.split (decide ((l.getD i ev0).kind = (1 : Int))) (.ob ((0 : Int) ≤ (↑i : Int) ∧ (↑i : Int) < (↑l.length : Int) ∧ (↑i : Int).toNat * (5 : Nat) < (evsC l).length) (.ob ((evsC l)[(↑i : Int).toNat * (5 : Nat) + (0 : Nat)]? = some (AV.int .i64 (l.getD i ev0).kind)) (.split (decide ((l.getD i ev0).kind = (3 : Int))) (.split (decide ((64 : Int) < IntKind.i64.wrap (IntKind.i64.wrap (n + (1 : Int)) - (1 : Int)))) (.ob ((-1 : Int) = x) (.tt)) (.head (pt Try.f37 0) ({ tmps := [(0, AV.sl none l.length (evsC l) .no), (3, AV.int .i64 (IntKind.i64.wrap (IntKind.i64.wrap (n + (1 : Int)) - (1 : Int)))), (4, AV.int .i64 (IntKind.i64.wrap ((↑i : Int) + (1 : Int))))], heap := [], tags := [] }))) (.split (decide ((64 : Int) < IntKind.i64.wrap (n + (1 : Int)))) (.ob ((-1 : Int) = x) (.tt)) (.head (pt Try.f37 0) ({ tmps := [(0, AV.sl none l.length (evsC l) .no), (3, AV.int .i64 (IntKind.i64.wrap (n + (1 : Int)))), (4, AV.int .i64 (IntKind.i64.wrap ((↑i : Int) + (1 : Int))))], heap := [], tags := [] })))))) (.ob ((0 : Int) ≤ (↑i : Int) ∧ (↑i : Int) < (↑l.length : Int) ∧ (↑i : Int).toNat * (5 : Nat) < (evsC l).length) (.ob ((evsC l)[(↑i : Int).toNat * (5 : Nat) + (0 : Nat)]? = some (AV.int .i64 (l.getD i ev0).kind)) (.split (decide ((l.getD i ev0).kind = (3 : Int))) (.split (decide ((64 : Int) < IntKind.i64.wrap (n - (1 : Int)))) (.ob ((-1 : Int) = x) (.tt)) (.head (pt Try.f37 0) ({ tmps := [(0, AV.sl none l.length (evsC l) .no), (3, AV.int .i64 (IntKind.i64.wrap (n - (1 : Int)))), (4, AV.int .i64 (IntKind.i64.wrap ((↑i : Int) + (1 : Int))))], heap := [], tags := [] }))) (.split (decide ((64 : Int) < n)) (.ob ((-1 : Int) = x) (.tt)) (.head (pt Try.f37 0) ({ tmps := [(0, AV.sl none l.length (evsC l) .no), (3, AV.int .i64 n), (4, AV.int .i64 (IntKind.i64.wrap ((↑i : Int) + (1 : Int))))], heap := [], tags := [] }))))))))))))))) (.ob ((0 : Int) ≤ (↑i : Int) ∧ (↑i : Int) < (↑l.length : Int) ∧ (↑i : Int).toNat * (5 : Nat) < (evsC l).length) (.ob ((evsC l)[(↑i : Int).toNat * (5 : Nat) + (0 : Nat)]? = some (AV.int .i64 (l.getD i ev0).kind)) (.split (decide ((l.getD i ev0).kind = (2 : Int))) (.ob ((0 : Int) ≤ IntKind.i64.wrap ((↑i : Int) - (1 : Int)) ∧ IntKind.i64.wrap ((↑i : Int) - (1 : Int)) < (↑l.length : Int) ∧ (IntKind.i64.wrap ((↑i : Int) - (1 : Int))).toNat * (5 : Nat) < (evsC l).length) (.ob ((evsC l)[(IntKind.i64.wrap ((↑i : Int) - (1 : Int))).toNat * (5 : Nat) + (0 : Nat)]? = some (AV.int .i64 (l.getD (i - (1 : Nat)) ev0).kind)) (.split (decide ((l.getD (i - (1 : Nat)) ev0).kind = (2 : Int))) (.ob ((-1 : Int) = x) (.tt)) (.ob ((0 : Int) ≤ (↑i : Int) ∧ (↑i : Int) < (↑l.length : Int) ∧ (↑i : Int).toNat * (5 : Nat) < (evsC l).length) (.ob ((evsC l)[(↑i : Int).toNat * (5 : Nat) + (0 : Nat)]? = some (AV.int .i64 (l.getD i ev0).kind)) (.split (decide ((l.getD i ev0).kind = (1 : Int))) (.ob ((0 : Int) ≤ (↑i : Int) ∧ (↑i : Int) < (↑l.length : Int) ∧ (↑i : Int).toNat * (5 : Nat) < (evsC l).length) (.ob ((evsC l)[(↑i : Int).toNat * (5 : Nat) + (0 : Nat)]? = some (AV.int .i64 (l.getD i ev0).kind)) (.split (decide ((l.getD i ev0).kind = (3 : Int))) (.split (decide ((64 : Int) < IntKind.i64.wrap (IntKind.i64.wrap (n + (1 : Int)) - (1 : Int)))) (.ob ((-1 : Int) = x) (.tt)) (.head (pt Try.f37 0) ({ tmps := [(0, AV.sl none l.length (evsC l) .no), (3, AV.int .i64 (IntKind.i64.wrap (IntKind.i64.wrap (n + (1 : Int)) - (1 : Int)))), (4, AV.int .i64 (IntKind.i64.wrap ((↑i : Int) + (1 : Int))))], heap := [], tags := [] }))) (.split (decide ((64 : Int) < IntKind.i64.wrap (n + (1 : Int)))) (.ob ((-1 : Int) = x) (.tt)) (.head (pt Try.f37 0) ({ tmps := [(0, AV.sl none l.length (evsC l) .no), (3, AV.int .i64 (IntKind.i64.wrap (n + (1 : Int)))), (4, AV.int .i64 (IntKind.i64.wrap ((↑i : Int) + (1 : Int))))], heap := [], tags := [] })))))) (.ob ((0 : Int) ≤ (↑i : Int) ∧ (↑i : Int) < (↑l.length : Int) ∧ (↑i : Int).toNat * (5 : Nat) < (evsC l).length) (.ob ((evsC l)[(↑i : Int).toNat * (5 : Nat) + (0 : Nat)]? = some (AV.int .i64 (l.getD i ev0).kind)) (.split (decide ((l.getD i ev0).kind = (3 : Int))) (.split (decide ((64 : Int) < IntKind.i64.wrap (n - (1 : Int)))) (.ob ((-1 : Int) = x) (.tt)) (.head (pt Try.f37 0) ({ tmps := [(0, AV.sl none l.length (evsC l) .no), (3, AV.int .i64 (IntKind.i64.wrap (n - (1 : Int)))), (4, AV.int .i64 (IntKind.i64.wrap ((↑i : Int) + (1 : Int))))], heap := [], tags := [] }))) (.split (decide ((64 : Int) < n)) (.ob ((-1 : Int) = x) (.tt)) (.head (pt Try.f37 0) ({ tmps := [(0, AV.sl none l.length (evsC l) .no), (3, AV.int .i64 n), (4, AV.int .i64 (IntKind.i64.wrap ((↑i : Int) + (1 : Int))))], heap := [], tags := [] })))))))))))) (.ob ((0 : Int) ≤ (↑i : Int) ∧ (↑i : Int) < (↑l.length : Int) ∧ (↑i : Int).toNat * (5 : Nat) < (evsC l).length) (.ob ((evsC l)[(↑i : Int).toNat * (5 : Nat) + (0 : Nat)]? = some (AV.int .i64 (l.getD i ev0).kind)) (.split (decide ((l.getD i ev0).kind = (1 : Int))) (.ob ((0 : Int) ≤ (↑i : Int) ∧ (↑i : Int) < (↑l.length : Int) ∧ (↑i : Int).toNat * (5 : Nat) < (evsC l).length) (.ob ((evsC l)[(↑i : Int).toNat * (5 : Nat) + (0 : Nat)]? = some (AV.int .i64 (l.getD i ev0).kind)) (.split (decide ((l.getD i ev0).kind = (3 : Int))) (.split (decide ((64 : Int) < IntKind.i64.wrap (IntKind.i64.wrap (n + (1 : Int)) - (1 : Int)))) (.ob ((-1 : Int) = x) (.tt)) (.head (pt Try.f37 0) ({ tmps := [(0, AV.sl none l.length (evsC l) .no), (3, AV.int .i64 (IntKind.i64.wrap (IntKind.i64.wrap (n + (1 : Int)) - (1 : Int)))), (4, AV.int .i64 (IntKind.i64.wrap ((↑i : Int) + (1 : Int))))], heap := [], tags := [] }))) (.split (decide ((64 : Int) < IntKind.i64.wrap (n + (1 : Int)))) (.ob ((-1 : Int) = x) (.tt)) (.head (pt Try.f37 0) ({ tmps := [(0, AV.sl none l.length (evsC l) .no), (3, AV.int .i64 (IntKind.i64.wrap (n + (1 : Int)))), (4, AV.int .i64 (IntKind.i64.wrap ((↑i : Int) + (1 : Int))))], heap := [], tags := [] })))))) (.ob ((0 : Int) ≤ (↑i : Int) ∧ (↑i : Int) < (↑l.length : Int) ∧ (↑i : Int).toNat * (5 : Nat) < (evsC l).length) (.ob ((evsC l)[(↑i : Int).toNat * (5 : Nat) + (0 : Nat)]? = some (AV.int .i64 (l.getD i ev0).kind)) (.split (decide ((l.getD i ev0).kind = (3 : Int))) (.split (decide ((64 : Int) < IntKind.i64.wrap (n - (1 : Int)))) (.ob ((-1 : Int) = x) (.tt)) (.head (pt Try.f37 0) ({ tmps := [(0, AV.sl none l.length (evsC l) .no), (3, AV.int .i64 (IntKind.i64.wrap (n - (1 : Int)))), (4, AV.int .i64 (IntKind.i64.wrap ((↑i : Int) + (1 : Int))))], heap := [], tags := [] }))) (.split (decide ((64 : Int) < n)) (.ob ((-1 : Int) = x) (.tt)) (.head (pt Try.f37 0) ({ tmps := [(0, AV.sl none l.length (evsC l) .no), (3, AV.int .i64 n), (4, AV.int .i64 (IntKind.i64.wrap ((↑i : Int) + (1 : Int))))], heap := [], tags := [] })))))))))))))) (.ob ((-1 : Int) = x) (.tt)))))) (.ob (n = x) (.tt))) := by
      subst hi
      have h0 : decide ((l.length : Int) < l.length) = false := by simp
      simp only [PT.holds, h0, Bool.false_eq_true, false_implies, true_and, true_implies]
      exact ⟨n, fun h => ⟨hd, by omega⟩, rfl, trivial⟩
    obtain ⟨x, hR, hx⟩ := H
    exact ⟨x, hR, HT.walk Γ_ok mo_ok (⟨([(14, .val (.agg (evC (l.getD i ev0)))), (15, .call [] (.bool b)), (32, .val (.int .i64 (l.getD i ev0).kind)), (40, .val (.int .i64 (l.getD i ev0).kind)), (55, .val (.int .i64 (l.getD i ev0).kind)), (63, .val (.int .i64 (l.getD i ev0).kind)), (48, .val (.int .i64 (l.getD (i - 1) ev0).kind))] ++ annL), sp37, hd37 [] [] [] [], [], .pure [] (.int .i64 x)⟩ : Wk) 4000 (by kernel_rfl) hx⟩
theorem depth_l (l : List Ev) (hl : l.length ≤ 1048600) (ho : smEvs l) : ∀ d i, i + d = l.length → DocP l i → ∀ n, n = dep l i → 0 ≤ n → n ≤ 64 → ∃ x : Int, (x = 0 → DocP l l.length ∧ dep l l.length = 0) ∧ HT Try.prog Try.f37.ntmps (pt Try.f37 0) (stD l n i) (EndsA Γ (.pure [] (.int .i64 x)) Try.f37) := by
  intro d
  induction d with
  | zero => exact fun i h hd n h1 h2 h3 => depth_e l n i false (by omega) hl hd ⟨h1, h2, h3⟩
  | succ d ih =>
    intro i h hd n h1 h2 h3
    have hi : i < l.length := by omega
    obtain ⟨b, hb, hc⟩ := evr_ex (l.getD i ev0) (ho _ (getD_mem _ _ _ hi))
    exact depth_h l n i b hi hl hd ⟨h1, h2, h3⟩ hb hc (ih (i + 1) (by omega))

theorem depth_ex (l : List Ev) (hl : l.length ≤ 1048600) (ho : smEvs l) : ∃ x : Int, (x = 0 → DocP l l.length ∧ dep l l.length = 0) ∧ Ctr Try.prog 37 [.sl none l.length (evsC l) .no] (.int .i64 x) := by
    have H : ∃ x : Int, (x = 0 → DocP l l.length ∧ dep l l.length = 0) ∧ PT.holds Try.prog Try.f37.ntmps (EndsA Γ (.pure [] (.int .i64 x)) Try.f37) (.head (pt Try.f37 0) ({ tmps := [(0, AV.sl none l.length (evsC l) .no), (3, AV.int .i64 (0 : Int)), (4, AV.int .i64 (0 : Int))], heap := [], tags := [] })) := by
      simp only [PT.holds]
      exact depth_l l hl ho _ 0 (Nat.zero_add _) ⟨fun i h => by omega, fun i h => by omega, fun i h h => by omega, fun h => by omega⟩ 0 rfl (by omega) (by omega)
    obtain ⟨x, hR, hx⟩ := H
    exact ⟨x, hR, Ctr.mk Γ_ok Try.func37 (by kernel_rfl) Try.call37 [] (by kernel_rfl) (HT.walk Γ_ok mo_ok (⟨annL, sp37, hd37 [] [] [] [], [], .pure [] (.int .i64 x)⟩ : Wk) 4000 (by kernel_rfl) hx)⟩
theorem whole_ex0 (l : List Ev) (hl : l.length ≤ 1048600) (d : Int) (hd : d = 0 → DocP l l.length ∧ dep l l.length = 0) (hc : Ctr Try.prog 37 [.sl none l.length (evsC l) .no] (.int .i64 d)) : ∃ x : Bool, (x = true → DocP l l.length ∧ dep l l.length = 0 ∧ 0 < l.length) ∧ Ctr Try.prog 27 [.sl none l.length (evsC l) .no] (.bool x) := by
    have H : ∃ x : Bool, (x = true → DocP l l.length ∧ dep l l.length = 0 ∧ 0 < l.length) ∧ PT.holds Try.prog Try.f27.ntmps (EndsA Γ (.pure [] (.bool x)) Try.f27) (.split (decide ((0 : Int) < (↑l.length : Int))) (.ob (Ctr Try.prog 37 [AV.sl none l.length (evsC l) .no] (AV.int .i64 d)) (.ob (decide (d = (0 : Int)) = x) (.tt))) (.ob (false = x) (.tt))) := by
      simp only [PT.holds]
      (repeat' first | exact ⟨_, triv, rfl, trivial⟩ | exact ⟨_, triv, rfl⟩ | refine ex_split (fun _ => ?_) (fun _ => ?_) | refine ex_ob ?_ ?_)
      all_goals first | exact hc | (first | exact ⟨_, (fun h => absurd h (by decide)), rfl, trivial⟩ | exact ⟨_, (fun h => absurd h (by decide)), rfl⟩) | (first | exact ⟨_, (fun h => ⟨(hd (by simpa using h)).1, (hd (by simpa using h)).2, by (first | omega | (simp only [decide_eq_true_eq, decide_eq_false_iff_not, Bool.not_eq_true', Bool.not_eq_false', beq_iff_eq, beq_eq_false_iff_ne, decide_eq_decide, ne_eq, Bool.not_eq_eq_eq_not, Bool.not_true, Bool.not_false] at *; omega))⟩), rfl, trivial⟩ | exact ⟨_, (fun h => ⟨(hd (by simpa using h)).1, (hd (by simpa using h)).2, by (first | omega | (simp only [decide_eq_true_eq, decide_eq_false_iff_not, Bool.not_eq_true', Bool.not_eq_false', beq_iff_eq, beq_eq_false_iff_ne, decide_eq_decide, ne_eq, Bool.not_eq_eq_eq_not, Bool.not_true, Bool.not_false] at *; omega))⟩), rfl⟩)
    obtain ⟨x, hR, hx⟩ := H
    exact ⟨x, hR, Ctr.mk Γ_ok Try.func27 (by kernel_rfl) Try.call27 [] (by kernel_rfl) (HT.walk Γ_ok mo_ok (⟨([(8, .call [] (.int .i64 d))] ++ annL), sp27, [], [], .pure [] (.bool x)⟩ : Wk) 4000 (by kernel_rfl) hx)⟩
end Go.Proofs.Ytpffjbbolaehpaa
end

section
set_option linter.unusedVariables false
set_option linter.unusedSimpArgs false
set_option maxRecDepth 100000
namespace Go.Proofs.Ytpffjbbolaehpaa
open Go Go.AX Go.RowKit Go.WideShapes Go.ChangeShapes

/-! ### Names, attributes, events, of whatever size -/
section
variable {H : Type} {enc : TypeId × Value → H} {w : World} {base : Nat} {spare : Nat → Bool} {held : Bool}
theorem opn_nm {n : Nat} {cs : List Value} {x : DataW H × List MemPlace} (h : DataW.trod enc Try.prog w base spare held n 35 cs = some x) : ∃ a : Nm, Reps w (heldAt w) (nmC a) cs := by
  obtain ⟨xs, m, rfl, rfl, hl, hn, hf⟩ := DataW.trod_struct Try.underlying35 h
  have c35 : Try.prog.cellsOf 35 = 2 := by kernel_rfl
  have c9 : Try.prog.cellsOf 9 = 1 := by kernel_rfl
  rw [c35] at hl
  match cs, hl with
  | [c0, c1], _ =>
  have h0 : DataW.trod enc Try.prog w base spare held m 9 (([c0, c1].drop 0).take (Try.prog.cellsOf 9)) = _ := hf 0 _ rfl
  have h1 : DataW.trod enc Try.prog w base spare held m 9 (([c0, c1].drop 1).take (Try.prog.cellsOf 9)) = _ := hf 1 _ rfl
  simp only [c9] at h0 h1
  match xs, hn with
  | [x0, x1], _ =>
  obtain ⟨s0, e0, _⟩ := DataW.trod_string Try.underlying9 (x := x0) (by simpa using h0)
  obtain ⟨s1, e1, _⟩ := DataW.trod_string Try.underlying9 (x := x1) (by simpa using h1)
  simp only [List.drop_zero, List.take_succ_cons, List.take_zero, List.drop_succ_cons, List.cons.injEq, and_true] at e0 e1
  subst e0; subst e1
  exact ⟨⟨s0, s1⟩, .append (.one (.str _ _) rfl) (.one (.str _ _) rfl)⟩
theorem opn_atr {n : Nat} {cs : List Value} {x : DataW H × List MemPlace} (h : DataW.trod enc Try.prog w base spare held n 77 cs = some x) : ∃ a : Atr, Reps w (heldAt w) (atC a) cs := by
  obtain ⟨xs, m, rfl, rfl, hl, hn, hf⟩ := DataW.trod_struct Try.underlying77 h
  have c77 : Try.prog.cellsOf 77 = 3 := by kernel_rfl
  have c9 : Try.prog.cellsOf 9 = 1 := by kernel_rfl
  have c35 : Try.prog.cellsOf 35 = 2 := by kernel_rfl
  rw [c77] at hl
  match cs, hl with
  | [v0, v1, v2], _ =>
  have h0 : DataW.trod enc Try.prog w base spare held m 35 (([v0, v1, v2].drop 0).take (Try.prog.cellsOf 35)) = _ := hf 0 _ rfl
  have h1 : DataW.trod enc Try.prog w base spare held m 9 (([v0, v1, v2].drop 2).take (Try.prog.cellsOf 9)) = _ := hf 1 _ rfl
  simp only [c9, c35] at h0 h1
  match xs, hn with
  | [x0, x1], _ =>
  obtain ⟨a, r0⟩ := opn_nm (x := x0) (by simpa using h0)
  obtain ⟨s1, e1, _⟩ := DataW.trod_string Try.underlying9 (x := x1) (by simpa using h1)
  simp only [List.drop_zero, List.take_succ_cons, List.take_zero, List.drop_succ_cons, List.cons.injEq, and_true] at e1 r0
  subst e1
  exact ⟨⟨a, s1⟩, Reps.append r0 (.one (.str _ _) rfl)⟩
/-- Each slice's bytes are within the form's reach. -/
def Wgt (H : Type) (t : TypeId) (d : DataW H) : Prop := ∀ m ∈ d.weights Try.prog t, m ≤ reachBytes
theorem mem_wAll {e : TypeId} : ∀ {es : List (DataW H)} {x : DataW H} {m : Nat}, x ∈ es → m ∈ x.weights Try.prog e → m ∈ DataW.weightsAll Try.prog e es
  | a :: r, x, m, hx, hm => by
    simp only [DataW.weightsAll, List.mem_append]
    cases hx with
    | head => exact .inl hm
    | tail _ h => exact .inr (mem_wAll h hm)
theorem wgt_sl {t e : TypeId} (ht : Try.prog.underlying t = some (.slice e)) (hb : 1 ≤ Try.prog.bytesOf e) (es sp : List (DataW H)) (h : Wgt H t (.slice es sp)) : es.length ≤ reachBytes ∧ ∀ x ∈ es, Wgt H e x := by
  unfold Wgt at h
  simp only [DataW.weights, ht] at h
  refine ⟨?_, fun x hx m hm => h m (List.mem_cons_of_mem _ (List.mem_append_left _ (mem_wAll hx hm)))⟩
  have h1 := h _ List.mem_cons_self
  have h2 : (es.length + sp.length) * 1 ≤ (es.length + sp.length) * Try.prog.bytesOf e := Nat.mul_le_mul_left _ hb
  omega
theorem opn_atrs {n : Nat} {cs : List Value} {x : DataW H × List MemPlace} (h : DataW.trod enc Try.prog w base spare held n 36 cs = some x) (hx : Wgt H 36 x.1) :
    ∃ l : List Atr, Reps w (heldAt w) [.sl none l.length (atsC l) .no] cs ∧ l.length ≤ reachBytes := by
  obtain ⟨l, a, b, _⟩ := open_listQ atC (fun _ => True) atC_len (by omega) (by kernel_rfl) Try.underlying36 (Q := Wgt H 36) (Qe := fun _ => True) (B := reachBytes) (fun es sp h => ⟨(wgt_sl Try.underlying36 (of_decide_eq_true (by kernel_rfl)) es sp h).1, fun _ _ => trivial⟩) (fun n' _ cs x hh hb => by
    obtain ⟨a, ha⟩ := opn_atr hh
    exact ⟨a, ha, trivial⟩) h hx
  exact ⟨l, a, b⟩
theorem opn_ev {n : Nat} {cs : List Value} {x : DataW H × List MemPlace} (h : DataW.trod enc Try.prog w base spare held n 65 cs = some x) (hx : Wgt H 65 x.1) :
    ∃ a : Ev, Reps w (heldAt w) (evC a) cs ∧ a.attrs.length ≤ reachBytes := by
  obtain ⟨xs, m, rfl, rfl, hl, hn, hf⟩ := DataW.trod_struct Try.underlying65 h
  have c65 : Try.prog.cellsOf 65 = 5 := by kernel_rfl
  have c9 : Try.prog.cellsOf 9 = 1 := by kernel_rfl
  have c3 : Try.prog.cellsOf 3 = 1 := by kernel_rfl
  have c35 : Try.prog.cellsOf 35 = 2 := by kernel_rfl
  have c36 : Try.prog.cellsOf 36 = 1 := by kernel_rfl
  rw [c65] at hl
  match cs, hl with
  | [v0, v1, v2, v3, v4], _ =>
  have h0 : DataW.trod enc Try.prog w base spare held m 3 (([v0, v1, v2, v3, v4].drop 0).take (Try.prog.cellsOf 3)) = _ := hf 0 _ rfl
  have h1 : DataW.trod enc Try.prog w base spare held m 35 (([v0, v1, v2, v3, v4].drop 1).take (Try.prog.cellsOf 35)) = _ := hf 1 _ rfl
  have h2 : DataW.trod enc Try.prog w base spare held m 36 (([v0, v1, v2, v3, v4].drop 3).take (Try.prog.cellsOf 36)) = _ := hf 2 _ rfl
  have h3 : DataW.trod enc Try.prog w base spare held m 9 (([v0, v1, v2, v3, v4].drop 4).take (Try.prog.cellsOf 9)) = _ := hf 3 _ rfl
  simp only [c9, c35, c3, c36] at h0 h1 h2 h3
  match xs, hn with
  | [x0, x1, x2, x3], _ =>
  have b2 : Wgt H 36 x2.1 := fun k hk => hx k (by
    simp only [DataW.weights, Try.underlying65]
    exact DataW.weights_mem_each (j := 2) (t := 36) (d := x2.1) rfl rfl k hk)
  obtain ⟨k, e0, _⟩ := DataW.trod_int Try.underlying3 (x := x0) (by simpa using h0)
  obtain ⟨a, r1⟩ := opn_nm (x := x1) (by simpa using h1)
  obtain ⟨l, r2, k2⟩ := opn_atrs (x := x2) (by simpa using h2) b2
  obtain ⟨s, e3, _⟩ := DataW.trod_string Try.underlying9 (x := x3) (by simpa using h3)
  simp only [List.drop_zero, List.take_succ_cons, List.take_zero, List.drop_succ_cons, List.cons.injEq, and_true] at e0 r1 r2 e3
  subst e0; subst e3
  exact ⟨⟨k, a, l, s⟩, Reps.append (.one (.int _ _ _) rfl) (Reps.append r1 (Reps.append r2 (.one (.str _ _) rfl))), k2⟩
theorem opn_events {r : Reach} {b0 : Nat} {v : Value} {d : DataW H} {ps : List MemPlace} (hok : Value.okWide Try.prog w r b0 26 v) (h : DataW.Trod enc Try.prog w base spare held 26 v d ps) (hd : Wgt H 26 d) : ∃ l : List Ev, Rep w (envF (heldAt w)) false (.sl none l.length (evsC l) .no) v ∧ ∀ e ∈ l, e.attrs.length ≤ 1125899906842624 := by
  obtain ⟨a, len, cap, rfl⟩ := okWide_slice Try.underlying26 hok
  obtain ⟨fuel, hf⟩ := h
  obtain ⟨l, hr, _, hk⟩ := open_listQ evC (fun e => e.attrs.length ≤ reachBytes) evC_len (by omega) (by kernel_rfl) Try.underlying26 (Q := Wgt H 26) (Qe := Wgt H 65) (B := reachBytes) (wgt_sl Try.underlying26 (of_decide_eq_true (by kernel_rfl))) (fun n' _ cs x hh hb => opn_ev hh hb) hf hd
  have hrb : reachBytes ≤ 1125899906842624 := of_decide_eq_true rfl
  exact ⟨l, (hr.2 0 _ _ rfl rfl).1, fun e he => Nat.le_trans (hk e he) hrb⟩
/-- An argument read again. -/
theorem backS {t : TypeId} {W W' : World} {v : Value} {d : DataW H} {ps : List MemPlace} (sp : Nat → Bool) (hl : laidOutB Try.prog = true) (hr : Try.prog.readableRec t = true) (hrow : t < Try.prog.types.size) (hb : Below W.heap.size W W') (h : DataW.Trod enc Try.prog W 0 (fun _ => true) true t v d ps) (hall : ∀ p ∈ ps, sp p.block = true) (hlt : ∀ x ∈ ps, x.block < W.heap.size) :
    DataW.Trod enc Try.prog W' 0 sp true t v d ps :=
  WideElems.Trod_stays hl hr hrow h (fun x hx => hb.same (hlt x hx)) (fun x hx => hall x hx)
end
end Go.Proofs.Ytpffjbbolaehpaa
end

section
set_option linter.unusedVariables false
set_option linter.unusedSimpArgs false
namespace Go.Proofs.Ytpffjbbolaehpaa
open Go Go.AX

/-! ### tree.Make, as plain data -/
structure Pln where
  par : List Int
  fst : List Int
  nxt : List Int
  siz : List Int
  tr : List Tr
def Pln.push (S : Pln) (t : Tr) (p : Int) : Pln := ⟨S.par ++ [p], S.fst ++ [-1], S.nxt ++ [-1], S.siz ++ [1], S.tr ++ [t]⟩
/-- What is written when a child is done. -/
def Pln.link (S : Pln) (n at_ : Nat) (last : Int) (i : Nat) : Pln :=
  ⟨S.par, if i = 0 then S.fst.set n at_ else S.fst, if i = 0 then S.nxt else S.nxt.set last.toNat at_, S.siz.set n (IntKind.i64.wrap (S.siz.getD n 0 + S.siz.getD at_ 0)), S.tr⟩
mutual
def visitS : Tr → Int → Pln → Pln
  | .mk b tx nm a kids, p, S => match b with
    | true => S.push (.mk b tx nm a kids) p
    | false => kidsS kids S.tr.length 0 (-1) (S.push (.mk b tx nm a kids) p)
def kidsS : List Tr → Nat → Nat → Int → Pln → Pln
  | [], n, i, last, S => S
  | k :: r, n, i, last, S => kidsS r n (i + 1) S.tr.length ((visitS k n S).link n S.tr.length last i)
end
mutual
def cntT : Tr → Nat
  | .mk _ _ _ _ kids => 1 + cntL kids
def cntL : List Tr → Nat
  | [] => 0
  | k :: r => cntT k + cntL r
end
def intsC (l : List Int) : List AV := l.map (.int .i64)
def planC (S : Pln) : List AV := [.sl none S.par.length (intsC S.par) (.own 1000010), .vec 1000011 S.fst.length, .vec 1000012 S.nxt.length, .vec 1000013 S.siz.length, .sl none S.tr.length (trsC S.tr) (.own 1000014)]
def planT (S : Pln) : List (Nat × Tag) := [(1000010, ⟨S.par.length, 3, 1, none⟩), (1000011, ⟨S.fst.length, 3, 1, some (true, intsC S.fst)⟩), (1000012, ⟨S.nxt.length, 3, 1, some (true, intsC S.nxt)⟩), (1000013, ⟨S.siz.length, 3, 1, some (true, intsC S.siz)⟩), (1000014, ⟨S.tr.length, 39, 6, none⟩)]
def visH : List AV := [.fn 40 [.ptr 1000003 0, .ptr 1000004 0]]
def planM (S : Pln) : MemS := ⟨[(1000003, .var true (planC S)), (1000004, .var true visH)], planT S⟩
def pln0 : Pln := ⟨[], [], [], [], []⟩
def planL (S : Pln) : List AV := [.sl none S.par.length (intsC S.par) .no, .sl none S.fst.length (intsC S.fst) .no, .sl none S.nxt.length (intsC S.nxt) .no, .sl none S.siz.length (intsC S.siz) .no, .sl none S.tr.length (trsC S.tr) .no]
end Go.Proofs.Ytpffjbbolaehpaa
end

section
set_option linter.unusedVariables false
set_option linter.unusedSimpArgs false
set_option maxRecDepth 100000
namespace Go.Proofs.Ytpffjbbolaehpaa
open Go Go.AX

def boolsC (l : List Bool) : List AV := l.map .bool
theorem boolsC_len (l : List Bool) : (boolsC l).length = l.length := by simp [boolsC]
theorem boolsC_nth (l : List Bool) (i : Nat) (hi : i < l.length) : (boolsC l)[i]? = some (.bool (l.getD i false)) := by simp [boolsC, hi, List.getD_eq_getElem?_getD]
theorem boolsC_set (l : List Bool) (n : Nat) (a : Bool) : setAt (boolsC l) n (cellsOf (.bool a)) = boolsC (l.set n a) := by simp [setAt, cellsOf, boolsC, List.map_set]
def stEi (n : Nat) (b out : List Bool) (i : Nat) : AS := ⟨[(5, .vec 1000020 out.length), (10, .sl none n (boolsC b) .no), (11, .int .i64 n), (12, .int .i64 i)], [], [(1000020, ⟨out.length, 4, 1, some (true, boolsC out)⟩)]⟩
def orZ (a b : List Bool) : List Bool := List.zipWith (fun x y => x || y) a b
theorem orZ_len (a b : List Bool) (h : a.length = b.length) : (orZ a b).length = b.length := by simp [orZ, h]
theorem orZ_get (a b : List Bool) (i : Nat) (ha : i < a.length) (hb : i < b.length) : (orZ a b).getD i false = (a.getD i false || b.getD i false) := by simp [orZ, List.getD_eq_getElem?_getD, List.getElem?_zipWith, ha, hb]
theorem ext_getD {α : Type} {a b : List α} (d : α) (h : a.length = b.length) (hj : ∀ j, j < b.length → a.getD j d = b.getD j d) : a = b := by
  apply List.ext_getElem h
  intro i h1 h2
  have := hj i h2
  simpa [List.getD_eq_getElem?_getD, h1, h2] using this
theorem getD_set {α : Type} (l : List α) (i j : Nat) (v d : α) (hi : i < l.length) : (l.set i v).getD j d = if j = i then v else l.getD j d := by
  rw [List.getD_eq_getElem?_getD, List.getElem?_set]
  split
  · rename_i e
    subst e
    simp [hi]
  · rename_i e
    rw [if_neg (fun h => e h.symm), List.getD_eq_getElem?_getD]
structure OrI (a b out : List Bool) (i : Nat) : Prop where
  len : out.length = b.length
  get : ∀ j, j < b.length → out.getD j false = if j < i then (a.getD j false || b.getD j false) else a.getD j false

theorem clone0 (b : List Bool) (hb : 0 < b.length ∧ b.length ≤ 1000000) : CtrM Try.prog 54 ⟨[], []⟩ [.sl (some false) b.length (boolsC b) .no] ⟨[], [(1000020, ⟨b.length, 4, 1, some (true, boolsC b)⟩)]⟩ (.vec 1000020 b.length) :=
  CtrM.mk Γ_ok Try.func54 (by kernel_rfl) Try.call54 [] (by kernel_rfl) (by kernel_rfl) (by kernel_rfl) (HT.walk Γ_ok mo_ok (⟨([(7, .id 1000020)] ++ []), [], [], [], .mem [] ⟨[], [(1000020, ⟨b.length, 4, 1, some (true, boolsC b)⟩)]⟩ (.vec 1000020 b.length)⟩ : Wk) 4000 (T := .ob ((0 : Nat) < b.length ∧ (boolsC b).length = b.length * ((0 : Nat) + (1 : Nat)) ∧ b.length * ((0 : Nat) + (1 : Nat)) ≤ (140737488355328 : Nat)) (.ob (b.length = b.length) (.ob (b.length = b.length) (.ob (boolsC b = boolsC b) (.tt))))) (by kernel_rfl) (by
    simp only [PT.holds, boolsC_len, and_true]
    omega))
theorem clone_ctr (b : List Bool) (hb : 0 < b.length ∧ b.length ≤ 1000000) : CtrM Try.prog 54 ⟨[], []⟩ [.sl none b.length (boolsC b) .no] ⟨[], [(1000020, ⟨b.length, 4, 1, some (true, boolsC b)⟩)]⟩ (.vec 1000020 b.length) := CtrM.nn hb.1 (clone0 b hb)

theorem either_h (a b out : List Bool) (i : Nat) (R : List Bool) (hN : b.length ≤ 1000000) (hi : i < b.length) (ho : OrI a b out i) (k : ∀ out', OrI a b out' (i + 1) → HT Try.prog Try.f42.ntmps (pt Try.f42 0) (stEi b.length b out' (i + 1)) (EndsA Γ (.pure [6000020] (.sl none R.length (boolsC R) .no)) Try.f42)) : HT Try.prog Try.f42.ntmps (pt Try.f42 0) (stEi b.length b out i) (EndsA Γ (.pure [6000020] (.sl none R.length (boolsC R) .no)) Try.f42) :=
  HT.walk Γ_ok mo_ok (⟨([(16, .val (.bool (b.getD i false))), (22, .val (.bool (out.getD i false)))] ++ []), sp42, hd42 [] [] [] [1000020], [], .pure [6000020] (.sl none R.length (boolsC R) .no)⟩ : Wk) 4000 (T := .split (decide ((↑i : Int) < (↑b.length : Int))) (.ob ((0 : Int) ≤ (↑i : Int) ∧ (↑i : Int) < (↑b.length : Int) ∧ (↑i : Int).toNat * (1 : Nat) < (boolsC b).length) (.ob ((boolsC b)[(↑i : Int).toNat * (1 : Nat)]? = some (AV.bool (b.getD i false))) (.ob ((0 : Int) ≤ (↑i : Int) ∧ (↑i : Int) < (↑out.length : Int) ∧ out.length = out.length) (.ob (out.length = out.length) (.ob ((boolsC out)[(↑i : Int).toNat * (1 : Nat)]? = some (AV.bool (out.getD i false))) (.split (out.getD i false) (.ob ((0 : Int) ≤ (↑i : Int) ∧ (↑i : Int) < (↑out.length : Int) ∧ out.length = out.length) (.ob (out.length = out.length ∧ (↑i : Int).toNat * (1 : Nat) + (1 : Nat) ≤ (boolsC out).length) (.head (pt Try.f42 0) ({ tmps := [(5, AV.vec (1000020 : Nat) out.length), (10, AV.sl none b.length (boolsC b) .no), (11, AV.int .i64 (↑b.length : Int)), (12, AV.int .i64 (IntKind.i64.wrap ((↑i : Int) + (1 : Int))))], heap := [], tags := [(1000020, { n := out.length, e := (4 : Nat), sz := (1 : Nat), cs := some (true, setAt (boolsC out) ((↑i : Int).toNat * (1 : Nat)) (cellsOf (AV.bool true))) })] })))) (.ob ((0 : Int) ≤ (↑i : Int) ∧ (↑i : Int) < (↑out.length : Int) ∧ out.length = out.length) (.ob (out.length = out.length ∧ (↑i : Int).toNat * (1 : Nat) + (1 : Nat) ≤ (boolsC out).length) (.head (pt Try.f42 0) ({ tmps := [(5, AV.vec (1000020 : Nat) out.length), (10, AV.sl none b.length (boolsC b) .no), (11, AV.int .i64 (↑b.length : Int)), (12, AV.int .i64 (IntKind.i64.wrap ((↑i : Int) + (1 : Int))))], heap := [], tags := [(1000020, { n := out.length, e := (4 : Nat), sz := (1 : Nat), cs := some (true, setAt (boolsC out) ((↑i : Int).toNat * (1 : Nat)) (cellsOf (AV.bool (b.getD i false)))) })] })))))))))) (.ob (out.length = out.length) (.ob (out.length = R.length) (.ob (boolsC out = boolsC R) (.tt))))) (by kernel_rfl) (by
    have w2 : IntKind.i64.wrap ((i : Int) + 1) = ((i + 1 : Nat) : Int) := by rw [i64_wrap (by omega) (by omega)]; rfl
    have hl := ho.len
    have hio : i < out.length := by omega
    have hoi := ho.get i hi
    rw [if_neg (Nat.lt_irrefl i)] at hoi
    have h0 : decide ((i : Int) < b.length) = true := by simp; omega
    simp only [PT.holds, w2, h0, Int.toNat_natCast, Nat.mul_one, boolsC_len, boolsC_nth b i hi, boolsC_nth out i hio, true_implies, Bool.true_eq_false, false_implies, true_and, and_true]
    have step : ∀ v, v = (a.getD i false || b.getD i false) → OrI a b (out.set i v) (i + 1) := fun v hv => ⟨by simp [hl], fun j hj => by
      rw [getD_set _ _ _ _ _ hio]
      split
      · rename_i e; subst e; rw [if_pos (Nat.lt_succ_self _), hv]
      · rename_i e; rw [ho.get j hj]; congr 1; simp; omega⟩
    refine ⟨by omega, by omega, fun h1 => ⟨by omega, by omega, ?_⟩, fun h1 => ⟨by omega, by omega, ?_⟩⟩
    · refine head_eq (k _ (step true (by rw [← hoi, h1]; rfl))) ?_
      simp only [stEi, boolsC_set, List.length_set]
    · refine head_eq (k _ (step (b.getD i false) (by rw [← hoi, h1]; rfl))) ?_
      simp only [stEi, boolsC_set, List.length_set])
theorem either_e (b out : List Bool) : HT Try.prog Try.f42.ntmps (pt Try.f42 0) (stEi b.length b out b.length) (EndsA Γ (.pure [6000020] (.sl none out.length (boolsC out) .no)) Try.f42) :=
  HT.walk Γ_ok mo_ok (⟨([(16, .val (.bool (b.getD 0 false))), (22, .val (.bool (out.getD 0 false)))] ++ []), sp42, hd42 [] [] [] [1000020], [], .pure [6000020] (.sl none out.length (boolsC out) .no)⟩ : Wk) 4000 (T := .split (decide ((↑b.length : Int) < (↑b.length : Int))) (.ob ((0 : Int) ≤ (↑b.length : Int) ∧ (↑b.length : Int) < (↑b.length : Int) ∧ (↑b.length : Int).toNat * (1 : Nat) < (boolsC b).length) (.ob ((boolsC b)[(↑b.length : Int).toNat * (1 : Nat)]? = some (AV.bool (b.getD (0 : Nat) false))) (.ob ((0 : Int) ≤ (↑b.length : Int) ∧ (↑b.length : Int) < (↑out.length : Int) ∧ out.length = out.length) (.ob (out.length = out.length) (.ob ((boolsC out)[(↑b.length : Int).toNat * (1 : Nat)]? = some (AV.bool (out.getD (0 : Nat) false))) (.split (out.getD (0 : Nat) false) (.ob ((0 : Int) ≤ (↑b.length : Int) ∧ (↑b.length : Int) < (↑out.length : Int) ∧ out.length = out.length) (.ob (out.length = out.length ∧ (↑b.length : Int).toNat * (1 : Nat) + (1 : Nat) ≤ (boolsC out).length) (.head (pt Try.f42 0) ({ tmps := [(5, AV.vec (1000020 : Nat) out.length), (10, AV.sl none b.length (boolsC b) .no), (11, AV.int .i64 (↑b.length : Int)), (12, AV.int .i64 (IntKind.i64.wrap ((↑b.length : Int) + (1 : Int))))], heap := [], tags := [(1000020, { n := out.length, e := (4 : Nat), sz := (1 : Nat), cs := some (true, setAt (boolsC out) ((↑b.length : Int).toNat * (1 : Nat)) (cellsOf (AV.bool true))) })] })))) (.ob ((0 : Int) ≤ (↑b.length : Int) ∧ (↑b.length : Int) < (↑out.length : Int) ∧ out.length = out.length) (.ob (out.length = out.length ∧ (↑b.length : Int).toNat * (1 : Nat) + (1 : Nat) ≤ (boolsC out).length) (.head (pt Try.f42 0) ({ tmps := [(5, AV.vec (1000020 : Nat) out.length), (10, AV.sl none b.length (boolsC b) .no), (11, AV.int .i64 (↑b.length : Int)), (12, AV.int .i64 (IntKind.i64.wrap ((↑b.length : Int) + (1 : Int))))], heap := [], tags := [(1000020, { n := out.length, e := (4 : Nat), sz := (1 : Nat), cs := some (true, setAt (boolsC out) ((↑b.length : Int).toNat * (1 : Nat)) (cellsOf (AV.bool (b.getD (0 : Nat) false)))) })] })))))))))) (.ob (out.length = out.length) (.ob (out.length = out.length) (.ob (boolsC out = boolsC out) (.tt))))) (by kernel_rfl) (by
    have h0 : decide ((b.length : Int) < b.length) = false := by simp
    simp only [PT.holds, h0, true_implies, Bool.false_eq_true, false_implies, true_and, and_true])
theorem either_l (a b : List Bool) (hab : a.length = b.length) (hN : b.length ≤ 1000000) : ∀ d i out, i + d = b.length → OrI a b out i → HT Try.prog Try.f42.ntmps (pt Try.f42 0) (stEi b.length b out i) (EndsA Γ (.pure [6000020] (.sl none (orZ a b).length (boolsC (orZ a b)) .no)) Try.f42) := by
  intro d
  induction d with
  | zero =>
    intro i out h ho
    have hi : i = b.length := by omega
    subst hi
    have e : out = orZ a b := ext_getD false (by rw [ho.len, orZ_len a b hab]) fun j hj => by
      rw [orZ_len a b hab] at hj
      rw [ho.get j hj, if_pos hj, orZ_get a b j (by omega) hj]
    rw [← e]
    exact either_e b out
  | succ d ih => exact fun i out h ho => either_h a b out i _ hN (by omega) ho (fun out' ho' => ih (i + 1) out' (by omega) ho')

theorem either_ctr (a b : List Bool) (hab : a.length = b.length) (hN : 0 < b.length ∧ b.length ≤ 1000000) : Ctr Try.prog 42 [.sl none a.length (boolsC a) .no, .sl none b.length (boolsC b) .no] (.sl none (orZ a b).length (boolsC (orZ a b)) .no) :=
  Ctr.mk Γ_ok Try.func42 (by kernel_rfl) Try.call42 [6000020] (by kernel_rfl) (HT.walk Γ_ok mo_ok (⟨([(9, .callM [] [] [] [] [] [(1000020, ⟨a.length, 4, 1, some (true, boolsC a)⟩)] (.vec 1000020 a.length))] ++ []), sp42, hd42 [] [] [] [1000020], [], .pure [6000020] (.sl none (orZ a b).length (boolsC (orZ a b)) .no)⟩ : Wk) 4000 (T := .ob (CtrM Try.prog (54 : Nat) { heap := [], tags := [] } [AV.sl none a.length (boolsC a) .no] { heap := [], tags := [(1000020, { n := a.length, e := (4 : Nat), sz := (1 : Nat), cs := some (true, boolsC a) })] } (AV.vec (1000020 : Nat) a.length)) (.head (pt Try.f42 0) ({ tmps := [(5, AV.vec (1000020 : Nat) a.length), (10, AV.sl none b.length (boolsC b) .no), (11, AV.int .i64 (↑b.length : Int)), (12, AV.int .i64 (0 : Int))], heap := [], tags := [(1000020, { n := a.length, e := (4 : Nat), sz := (1 : Nat), cs := some (true, boolsC a) })] }))) (by kernel_rfl) (by
    simp only [PT.holds]
    exact ⟨clone_ctr a (by omega), either_l a b hab hN.2 b.length 0 a (Nat.zero_add _) ⟨hab, fun j hj => by rw [if_neg (Nat.not_lt_zero j)]⟩⟩))
end Go.Proofs.Ytpffjbbolaehpaa
end
