import Derived.Test.YteimloiaipiadaaDoorP5
section
set_option linter.unusedVariables false
set_option linter.unusedSimpArgs false
set_option maxRecDepth 100000
namespace Go.Proofs.YteimloiaipiadaaDoor
open Go Go.AX

def stR (s : ByteArray) (at_ n : Nat) : AS := ⟨[(0, .str s), (1, .int .i64 at_), (7, .int .i64 n)], [], []⟩
def stA (s : ByteArray) (at_ : Nat) (l : List Int) : AS := ⟨[(0, .str s), (5, .sl none l.length (l.map (.int .i32)) (.own 1)), (6, .int .i64 at_)], [], [(1, ⟨l.length, 21, 1, none⟩)]⟩
def stP (l : List Int) (i : Nat) : AS := ⟨[(3, .sl (some false) l.length (l.map (.int .i32)) .no), (4, .int .i64 i)], [], []⟩
def stF (s x : ByteArray) (i : Nat) : AS := ⟨[(0, .str s), (2, .str x), (7, .int .i64 i)], [], []⟩
def stQ (l : List Int) (i : Nat) (why : Int) : AS := ⟨[(3, .sl none l.length (l.map (.int .i32)) .no), (5, .int .i64 why), (6, .int .i64 i)], [], []⟩
theorem begins_put (s : ByteArray) (at_ : Nat) (ha : at_ ≤ s.size) (hss : s.size ≤ 1048600) (r : Int) : ∃ x : Bool, Triv ∧ Ctr Tryd.prog 86 [.str s, .int .i64 at_, .sl none (putL r).length ((putL r).map (.int .u8)) .no] (.bool x) := begins_ex s at_ (putL r) (by omega) (by have := putL_le r; omega) hss

theorem rune_h (s : ByteArray) (at_ n : Nat) (hn : 1 ≤ n ∧ n ≤ 5) (ha : at_ < s.size) (hss : s.size ≤ 1048600) (ih : n ≤ 4 → ∃ x : Int × Int × Int, (x.2.2 = 0 → 1 ≤ x.2.1 ∧ x.2.1 ≤ 4 ∧ at_ + x.2.1 ≤ s.size) ∧ HT Tryd.prog Tryd.f74.ntmps (pt Tryd.f74 0) (stR s at_ (n + 1)) (EndsA Γ (.pure [] (.tup [.int .i64 x.1, .int .i64 x.2.1, .int .i64 x.2.2])) Tryd.f74)) : ∃ x : Int × Int × Int, (x.2.2 = 0 → 1 ≤ x.2.1 ∧ x.2.1 ≤ 4 ∧ at_ + x.2.1 ≤ s.size) ∧ HT Tryd.prog Tryd.f74.ntmps (pt Tryd.f74 0) (stR s at_ n) (EndsA Γ (.pure [] (.tup [.int .i64 x.1, .int .i64 x.2.1, .int .i64 x.2.2])) Tryd.f74) := by
    have H : ∃ x : Int × Int × Int, (x.2.2 = 0 → 1 ≤ x.2.1 ∧ x.2.1 ≤ 4 ∧ at_ + x.2.1 ≤ s.size) ∧ PT.holds Tryd.prog Tryd.f74.ntmps (EndsA Γ (.pure [] (.tup [.int .i64 x.1, .int .i64 x.2.1, .int .i64 x.2.2])) Tryd.f74) (.split (decide ((↑n : Int) ≤ (4 : Int))) (.split (decide (IntKind.i64.wrap ((↑at_ : Int) + (↑n : Int)) ≤ (↑s.size : Int))) (.ob ((0 : Int) ≤ (↑at_ : Int) ∧ (↑at_ : Int) < (↑s.size : Int)) (.split (decide ((1 : Int) < (↑n : Int))) (.ob (Ctr Tryd.prog 84 [AV.str s, AV.int .i64 (↑at_ : Int), AV.int .i64 (↑n : Int)] (AV.int .i64 (exI Tryd.prog (84 : FuncId) [AV.str s, AV.int .i64 (↑at_ : Int), AV.int .i64 (↑n : Int)]))) (.ob (Ctr Tryd.prog 85 [AV.int .i64 (exI Tryd.prog (84 : FuncId) [AV.str s, AV.int .i64 (↑at_ : Int), AV.int .i64 (↑n : Int)])] (AV.sl none (putL (exI Tryd.prog (84 : FuncId) [AV.str s, AV.int .i64 (↑at_ : Int), AV.int .i64 (↑n : Int)])).length (List.map (AV.int .u8) (putL (exI Tryd.prog (84 : FuncId) [AV.str s, AV.int .i64 (↑at_ : Int), AV.int .i64 (↑n : Int)]))) .no)) (.split (decide ((↑(putL (exI Tryd.prog (84 : FuncId) [AV.str s, AV.int .i64 (↑at_ : Int), AV.int .i64 (↑n : Int)])).length : Int) = (↑n : Int))) (.ob (Ctr Tryd.prog 86 [AV.str s, AV.int .i64 (↑at_ : Int), AV.sl none (putL (exI Tryd.prog (84 : FuncId) [AV.str s, AV.int .i64 (↑at_ : Int), AV.int .i64 (↑n : Int)])).length (List.map (AV.int .u8) (putL (exI Tryd.prog (84 : FuncId) [AV.str s, AV.int .i64 (↑at_ : Int), AV.int .i64 (↑n : Int)]))) .no] (AV.bool (exB Tryd.prog (86 : FuncId) [AV.str s, AV.int .i64 (↑at_ : Int), AV.sl none (putL (exI Tryd.prog (84 : FuncId) [AV.str s, AV.int .i64 (↑at_ : Int), AV.int .i64 (↑n : Int)])).length (List.map (AV.int .u8) (putL (exI Tryd.prog (84 : FuncId) [AV.str s, AV.int .i64 (↑at_ : Int), AV.int .i64 (↑n : Int)]))) Own.no.tree]))) (.split (exB Tryd.prog (86 : FuncId) [AV.str s, AV.int .i64 (↑at_ : Int), AV.sl none (putL (exI Tryd.prog (84 : FuncId) [AV.str s, AV.int .i64 (↑at_ : Int), AV.int .i64 (↑n : Int)])).length (List.map (AV.int .u8) (putL (exI Tryd.prog (84 : FuncId) [AV.str s, AV.int .i64 (↑at_ : Int), AV.int .i64 (↑n : Int)]))) Own.no.tree]) (.ob (exI Tryd.prog (84 : FuncId) [AV.str s, AV.int .i64 (↑at_ : Int), AV.int .i64 (↑n : Int)] = x.fst) (.ob ((↑n : Int) = x.snd.fst) (.ob ((0 : Int) = x.snd.snd) (.tt)))) (.head (pt Tryd.f74 0) ({ tmps := [(0, AV.str s), (1, AV.int .i64 (↑at_ : Int)), (7, AV.int .i64 (IntKind.i64.wrap ((↑n : Int) + (1 : Int))))], heap := [], tags := [] })))) (.head (pt Tryd.f74 0) ({ tmps := [(0, AV.str s), (1, AV.int .i64 (↑at_ : Int)), (7, AV.int .i64 (IntKind.i64.wrap ((↑n : Int) + (1 : Int))))], heap := [], tags := [] }))))) (.ob (Ctr Tryd.prog 85 [AV.int .i64 (IntKind.i64.wrap (byteAt s (↑at_ : Int)))] (AV.sl none (putL (IntKind.i64.wrap (byteAt s (↑at_ : Int)))).length (List.map (AV.int .u8) (putL (IntKind.i64.wrap (byteAt s (↑at_ : Int))))) .no)) (.split (decide ((↑(putL (IntKind.i64.wrap (byteAt s (↑at_ : Int)))).length : Int) = (↑n : Int))) (.ob (Ctr Tryd.prog 86 [AV.str s, AV.int .i64 (↑at_ : Int), AV.sl none (putL (IntKind.i64.wrap (byteAt s (↑at_ : Int)))).length (List.map (AV.int .u8) (putL (IntKind.i64.wrap (byteAt s (↑at_ : Int))))) .no] (AV.bool (exB Tryd.prog (86 : FuncId) [AV.str s, AV.int .i64 (↑at_ : Int), AV.sl none (putL (IntKind.i64.wrap (byteAt s (↑at_ : Int)))).length (List.map (AV.int .u8) (putL (IntKind.i64.wrap (byteAt s (↑at_ : Int))))) Own.no.tree]))) (.split (exB Tryd.prog (86 : FuncId) [AV.str s, AV.int .i64 (↑at_ : Int), AV.sl none (putL (IntKind.i64.wrap (byteAt s (↑at_ : Int)))).length (List.map (AV.int .u8) (putL (IntKind.i64.wrap (byteAt s (↑at_ : Int))))) Own.no.tree]) (.ob (IntKind.i64.wrap (byteAt s (↑at_ : Int)) = x.fst) (.ob ((↑n : Int) = x.snd.fst) (.ob ((0 : Int) = x.snd.snd) (.tt)))) (.head (pt Tryd.f74 0) ({ tmps := [(0, AV.str s), (1, AV.int .i64 (↑at_ : Int)), (7, AV.int .i64 (IntKind.i64.wrap ((↑n : Int) + (1 : Int))))], heap := [], tags := [] })))) (.head (pt Tryd.f74 0) ({ tmps := [(0, AV.str s), (1, AV.int .i64 (↑at_ : Int)), (7, AV.int .i64 (IntKind.i64.wrap ((↑n : Int) + (1 : Int))))], heap := [], tags := [] })))))) (.ob (Ctr Tryd.prog 87 [AV.str s, AV.int .i64 (↑at_ : Int)] (AV.bool (exB Tryd.prog (87 : FuncId) [AV.str s, AV.int .i64 (↑at_ : Int)]))) (.split (exB Tryd.prog (87 : FuncId) [AV.str s, AV.int .i64 (↑at_ : Int)]) (.ob ((0 : Int) = x.fst) (.ob ((0 : Int) = x.snd.fst) (.ob ((7 : Int) = x.snd.snd) (.tt)))) (.ob ((0 : Int) = x.fst) (.ob ((0 : Int) = x.snd.fst) (.ob ((2 : Int) = x.snd.snd) (.tt))))))) (.ob (Ctr Tryd.prog 87 [AV.str s, AV.int .i64 (↑at_ : Int)] (AV.bool (exB Tryd.prog (87 : FuncId) [AV.str s, AV.int .i64 (↑at_ : Int)]))) (.split (exB Tryd.prog (87 : FuncId) [AV.str s, AV.int .i64 (↑at_ : Int)]) (.ob ((0 : Int) = x.fst) (.ob ((0 : Int) = x.snd.fst) (.ob ((7 : Int) = x.snd.snd) (.tt)))) (.ob ((0 : Int) = x.fst) (.ob ((0 : Int) = x.snd.fst) (.ob ((2 : Int) = x.snd.snd) (.tt))))))) := by
      have w1 : IntKind.i64.wrap ((at_ : Int) + n) = at_ + n := i64_wrap (by omega) (by omega)
      have w2 : IntKind.i64.wrap ((n : Int) + 1) = ((n + 1 : Nat) : Int) := by rw [i64_wrap (by omega) (by omega)]; rfl
      simp only [PT.holds, w1, w2]
      (repeat' first | exact ⟨_, triv, rfl, trivial⟩ | exact ⟨_, triv, rfl⟩ | refine ex_split (fun _ => ?_) (fun _ => ?_) | refine ex_ob ?_ ?_)
      all_goals first | exact exI_ctr (value_ex _ _ _ (by (first | omega | (simp only [decide_eq_true_eq, decide_eq_false_iff_not, Bool.not_eq_true', Bool.not_eq_false'] at *; omega))) hss) | exact put_ctr _ | exact exB_ctr (begins_put s at_ (by omega) hss _) | exact exB_ctr (cut_ex _ _ (by omega) hss) | exact ih (by (first | omega | (simp only [decide_eq_true_eq, decide_eq_false_iff_not, Bool.not_eq_true', Bool.not_eq_false'] at *; omega))) | omega | (refine ⟨(_, _, _), ?_, rfl, rfl, rfl, trivial⟩; intro h0; first | exact absurd h0 (by decide) | (show (1:Int) ≤ n ∧ (n:Int) ≤ 4 ∧ (at_:Int) + n ≤ s.size; (first | omega | (simp only [decide_eq_true_eq, decide_eq_false_iff_not, Bool.not_eq_true', Bool.not_eq_false'] at *; omega))))
    obtain ⟨x, hR, hx⟩ := H
    exact ⟨x, hR, HT.walk Γ_ok mo_ok (⟨annK, sp74, hd74 [] [] [] [], [], .pure [] (.tup [.int .i64 x.1, .int .i64 x.2.1, .int .i64 x.2.2])⟩ : Wk) 4000 (by kernel_rfl) hx⟩
theorem rune_l (s : ByteArray) (at_ : Nat) (ha : at_ < s.size) (hss : s.size ≤ 1048600) : ∀ d n, 1 ≤ n → n + d = 5 → ∃ x : Int × Int × Int, (x.2.2 = 0 → 1 ≤ x.2.1 ∧ x.2.1 ≤ 4 ∧ at_ + x.2.1 ≤ s.size) ∧ HT Tryd.prog Tryd.f74.ntmps (pt Tryd.f74 0) (stR s at_ n) (EndsA Γ (.pure [] (.tup [.int .i64 x.1, .int .i64 x.2.1, .int .i64 x.2.2])) Tryd.f74) := by
  intro d
  induction d with
  | zero => exact fun n h1 h => rune_h s at_ n ⟨h1, by omega⟩ ha hss (fun hi => by omega)
  | succ d ih => exact fun n h1 h => rune_h s at_ n ⟨h1, by omega⟩ ha hss (fun hi => ih (n + 1) (by omega) (by omega))

theorem rune_ex (s : ByteArray) (at_ : Nat) (ha : at_ < s.size) (hss : s.size ≤ 1048600) : ∃ x : Int × Int × Int, (x.2.2 = 0 → 1 ≤ x.2.1 ∧ x.2.1 ≤ 4 ∧ at_ + x.2.1 ≤ s.size) ∧ Ctr Tryd.prog 74 [.str s, .int .i64 at_] (.tup [.int .i64 x.1, .int .i64 x.2.1, .int .i64 x.2.2]) := by
    have H : ∃ x : Int × Int × Int, (x.2.2 = 0 → 1 ≤ x.2.1 ∧ x.2.1 ≤ 4 ∧ at_ + x.2.1 ≤ s.size) ∧ PT.holds Tryd.prog Tryd.f74.ntmps (EndsA Γ (.pure [] (.tup [.int .i64 x.1, .int .i64 x.2.1, .int .i64 x.2.2])) Tryd.f74) (.split (false) (.ob ((0 : Int) = x.fst) (.ob ((0 : Int) = x.snd.fst) (.ob ((7 : Int) = x.snd.snd) (.tt)))) (.split (decide ((↑s.size : Int) ≤ (↑at_ : Int))) (.ob ((0 : Int) = x.fst) (.ob ((0 : Int) = x.snd.fst) (.ob ((7 : Int) = x.snd.snd) (.tt)))) (.head (pt Tryd.f74 0) ({ tmps := [(0, AV.str s), (1, AV.int .i64 (↑at_ : Int)), (7, AV.int .i64 (1 : Int))], heap := [], tags := [] })))) := by
      simp only [PT.holds, true_implies, Bool.false_eq_true, Bool.true_eq_false, false_implies, true_and, and_true]
      (repeat' first | exact ⟨_, triv, rfl, trivial⟩ | exact ⟨_, triv, rfl⟩ | refine ex_split (fun _ => ?_) (fun _ => ?_) | refine ex_ob ?_ ?_)
      all_goals first | exact rune_l s at_ ha hss 4 1 (by omega) (by omega) | exact ⟨(_, _, _), fun h => absurd h (by decide), rfl, rfl, rfl⟩ | (exfalso; (first | omega | (simp only [decide_eq_true_eq, decide_eq_false_iff_not, Bool.not_eq_true', Bool.not_eq_false'] at *; omega)))
    obtain ⟨x, hR, hx⟩ := H
    exact ⟨x, hR, Ctr.mk Γ_ok Tryd.func74 (by kernel_rfl) Tryd.call74 [] (by kernel_rfl) (HT.walk Γ_ok mo_ok (⟨annK, sp74, hd74 [] [] [] [], [], .pure [] (.tup [.int .i64 x.1, .int .i64 x.2.1, .int .i64 x.2.2])⟩ : Wk) 4000 (by kernel_rfl) hx)⟩
theorem all_h (s : ByteArray) (at_ : Nat) (l : List Int) (hl : l.length ≤ at_) (ha : at_ ≤ s.size) (hss : s.size ≤ 1048600) (y : Int × Int × Int) (hy : at_ < s.size → (y.2.2 = 0 → 1 ≤ y.2.1 ∧ y.2.1 ≤ 4 ∧ at_ + y.2.1 ≤ s.size) ∧ Ctr Tryd.prog 74 [.str s, .int .i64 at_] (.tup [.int .i64 y.1, .int .i64 y.2.1, .int .i64 y.2.2])) (ih : at_ < s.size → ∀ (at' : Nat) (r : Int), at_ < at' → at' ≤ s.size → ∃ x : List Int × Int × Int, (x.1.length ≤ s.size) ∧ HT Tryd.prog Tryd.f62.ntmps (pt Tryd.f62 0) (stA s at' (l ++ [r])) (EndsA Γ (.pure [] (.tup [.sl none x.1.length (x.1.map (.int .i32)) .no, .int .i64 x.2.1, .int .i64 x.2.2])) Tryd.f62)) : ∃ x : List Int × Int × Int, (x.1.length ≤ s.size) ∧ HT Tryd.prog Tryd.f62.ntmps (pt Tryd.f62 0) (stA s at_ l) (EndsA Γ (.pure [] (.tup [.sl none x.1.length (x.1.map (.int .i32)) .no, .int .i64 x.2.1, .int .i64 x.2.2])) Tryd.f62) := by
    have H : ∃ x : List Int × Int × Int, (x.1.length ≤ s.size) ∧ PT.holds Tryd.prog Tryd.f62.ntmps (EndsA Γ (.pure [] (.tup [.sl none x.1.length (x.1.map (.int .i32)) .no, .int .i64 x.2.1, .int .i64 x.2.2])) Tryd.f62) (.split (decide ((↑at_ : Int) < (↑s.size : Int))) (.ob (Ctr Tryd.prog 74 [AV.str s, AV.int .i64 (↑at_ : Int)] (AV.tup [AV.int .i64 y.fst, AV.int .i64 y.snd.fst, AV.int .i64 y.snd.snd])) (.split (!decide (y.snd.snd = (0 : Int))) (.ob (l.length = x.fst.length) (.ob (List.map (AV.int .i32) l = List.map (AV.int .i32) x.fst) (.ob ((↑at_ : Int) = x.snd.fst) (.ob (y.snd.snd = x.snd.snd) (.tt))))) (.ob (l.length = l.length) (.ob ((List.map (AV.int .i32) l).length = l.length * ((0 : Nat) + (1 : Nat)) ∧ (splice (repL (List.map zn [AV.int .i32 (0 : Int)]) (1 : Nat)) ((0 : Nat) * (1 : Nat)) (cellsOf (AV.int .i32 (IntKind.i32.wrap y.fst)))).length = (1 : Nat) * ((0 : Nat) + (1 : Nat)) ∧ (l.length + (1 : Nat)) * ((3 : Nat) + (1 : Nat)) ≤ (140737488355328 : Nat)) (.head (pt Tryd.f62 0) ({ tmps := [(0, AV.str s), (5, AV.sl none (l.length + (1 : Nat)) (List.map (AV.int .i32) l ++ splice (repL (List.map zn [AV.int .i32 (0 : Int)]) (1 : Nat)) ((0 : Nat) * (1 : Nat)) (cellsOf (AV.int .i32 (IntKind.i32.wrap y.fst)))) (.own (1 : Nat))), (6, AV.int .i64 (IntKind.i64.wrap ((↑at_ : Int) + y.snd.fst)))], heap := [], tags := [(1, { n := l.length + (1 : Nat), e := (21 : Nat), sz := (1 : Nat) })] })))))) (.ob (l.length = x.fst.length) (.ob (List.map (AV.int .i32) l = List.map (AV.int .i32) x.fst) (.ob ((↑at_ : Int) = x.snd.fst) (.ob ((0 : Int) = x.snd.snd) (.tt)))))) := by
      by_cases h0 : at_ < s.size
      · have ih := ih h0
        obtain ⟨hy1, hy2⟩ := hy h0
        simp only [PT.holds]
        (repeat' first | exact ⟨_, triv, rfl, trivial⟩ | exact ⟨_, triv, rfl⟩ | refine ex_split (fun _ => ?_) (fun _ => ?_) | refine ex_ob ?_ ?_)
        all_goals first | exact hy2 | exact ⟨(_, _, _), (by show l.length ≤ s.size; omega), rfl, rfl, rfl, rfl, trivial⟩ | exact ⟨by simp, rfl, by omega⟩ | trivial | rfl | (exfalso; (first | omega | (simp only [decide_eq_true_eq, decide_eq_false_iff_not, Bool.not_eq_true', Bool.not_eq_false'] at *; omega))) | skip
        have hw : y.2.2 = 0 := by simpa using ‹(!decide (y.2.2 = 0)) = false›
        have hh := hy1 hw
        refine ex_head (ih (at_ + y.2.1.toNat) (IntKind.i32.wrap y.1) (by omega) (by omega)) ?_
        have w1 : IntKind.i64.wrap ((at_ : Int) + y.2.1) = ((at_ + y.2.1.toNat : Nat) : Int) := by rw [i64_wrap (by omega) (by omega)]; omega
        rw [w1]
        simp [stA, splice, repL, cellsOf]
      · simp only [PT.holds]
        (repeat' first | exact ⟨_, triv, rfl, trivial⟩ | exact ⟨_, triv, rfl⟩ | refine ex_split (fun _ => ?_) (fun _ => ?_) | refine ex_ob ?_ ?_)
        all_goals first | (exfalso; (first | omega | (simp only [decide_eq_true_eq, decide_eq_false_iff_not, Bool.not_eq_true', Bool.not_eq_false'] at *; omega))) | exact ⟨(_, _, _), (by show l.length ≤ s.size; omega), rfl, rfl, rfl, rfl, trivial⟩
    obtain ⟨x, hR, hx⟩ := H
    exact ⟨x, hR, HT.walk Γ_ok mo_ok (⟨([(17, .call [] (.tup [.int .i64 y.1, .int .i64 y.2.1, .int .i64 y.2.2]))] ++ annK), sp62, hd62 [(5, 1, 21, 1)] [] [] [], [], .pure [] (.tup [.sl none x.1.length (x.1.map (.int .i32)) .no, .int .i64 x.2.1, .int .i64 x.2.2])⟩ : Wk) 4000 (by kernel_rfl) hx⟩
theorem all_l (s : ByteArray) (hss : s.size ≤ 1048600) : ∀ d at_ l, l.length ≤ at_ → at_ ≤ s.size → s.size ≤ at_ + d → ∃ x : List Int × Int × Int, (x.1.length ≤ s.size) ∧ HT Tryd.prog Tryd.f62.ntmps (pt Tryd.f62 0) (stA s at_ l) (EndsA Γ (.pure [] (.tup [.sl none x.1.length (x.1.map (.int .i32)) .no, .int .i64 x.2.1, .int .i64 x.2.2])) Tryd.f62) := by
  intro d
  induction d with
  | zero => exact fun at_ l h1 h2 h3 => all_h s at_ l h1 h2 hss (0, 0, 0) (fun h => by omega) (fun h => by omega)
  | succ d ih =>
    intro at_ l h1 h2 h3
    by_cases h : at_ < s.size
    · obtain ⟨y, hy⟩ := rune_ex s at_ h hss
      exact all_h s at_ l h1 h2 hss y (fun _ => hy) (fun _ at' r h4 h5 => ih at' _ (by simp; omega) h5 (by omega))
    · exact all_h s at_ l h1 h2 hss (0, 0, 0) (fun h => by omega) (fun h => by omega)

theorem all_ex (s : ByteArray) (hss : s.size ≤ 1048600) : ∃ x : List Int × Int × Int, (x.1.length ≤ s.size) ∧ Ctr Tryd.prog 62 [.str s] (.tup [.sl none x.1.length (x.1.map (.int .i32)) .no, .int .i64 x.2.1, .int .i64 x.2.2]) := by
    have H : ∃ x : List Int × Int × Int, (x.1.length ≤ s.size) ∧ PT.holds Tryd.prog Tryd.f62.ntmps (EndsA Γ (.pure [] (.tup [.sl none x.1.length (x.1.map (.int .i32)) .no, .int .i64 x.2.1, .int .i64 x.2.2])) Tryd.f62) (.head (pt Tryd.f62 0) ({ tmps := [(0, AV.str s), (5, AV.sl none (0 : Nat) [] (.own (1 : Nat))), (6, AV.int .i64 (0 : Int))], heap := [], tags := [(1, { n := (0 : Nat), e := (21 : Nat), sz := (1 : Nat) })] })) := by
      simp only [PT.holds]
      exact all_l s hss s.size 0 [] (Nat.le_refl _) (Nat.zero_le _) (by omega)
    obtain ⟨x, hR, hx⟩ := H
    exact ⟨x, hR, Ctr.mk Γ_ok Tryd.func62 (by kernel_rfl) Tryd.call62 [] (by kernel_rfl) (HT.walk Γ_ok mo_ok (⟨annK, sp62, hd62 [(5, 1, 21, 1)] [] [] [], [], .pure [] (.tup [.sl none x.1.length (x.1.map (.int .i32)) .no, .int .i64 x.2.1, .int .i64 x.2.2])⟩ : Wk) 4000 (by kernel_rfl) hx)⟩
theorem right_h (l : List Int) (i : Nat) (why : Int) (hl : l.length ≤ 1048600) (ih : i < l.length → ∃ x : Bool, (Triv) ∧ HT Tryd.prog Tryd.f46.ntmps (pt Tryd.f46 0) (stQ l (i + 1) why) (EndsA Γ (.pure [] (.bool x)) Tryd.f46)) : ∃ x : Bool, (Triv) ∧ HT Tryd.prog Tryd.f46.ntmps (pt Tryd.f46 0) (stQ l i why) (EndsA Γ (.pure [] (.bool x)) Tryd.f46) := by
    have H : ∃ x : Bool, (Triv) ∧ PT.holds Tryd.prog Tryd.f46.ntmps (EndsA Γ (.pure [] (.bool x)) Tryd.f46) (.split (decide ((↑i : Int) < (↑l.length : Int))) (.ob ((0 : Int) ≤ (↑i : Int) ∧ (↑i : Int) < (↑l.length : Int) ∧ (↑i : Int).toNat * (1 : Nat) < (List.map (AV.int .i32) l).length) (.ob ((List.map (AV.int .i32) l)[(↑i : Int).toNat * (1 : Nat)]? = some (AV.int .i32 (l.getD i (0 : Int)))) (.ob (Ctr Tryd.prog 63 [AV.int .i64 (IntKind.i64.wrap (l.getD i (0 : Int)))] (AV.bool (exB Tryd.prog (63 : FuncId) [AV.int .i64 (IntKind.i64.wrap (l.getD i (0 : Int)))]))) (.split (exB Tryd.prog (63 : FuncId) [AV.int .i64 (IntKind.i64.wrap (l.getD i (0 : Int)))]) (.head (pt Tryd.f46 0) ({ tmps := [(3, AV.sl none l.length (List.map (AV.int .i32) l) .no), (5, AV.int .i64 why), (6, AV.int .i64 (IntKind.i64.wrap ((↑i : Int) + (1 : Int))))], heap := [], tags := [] })) (.ob (false = x) (.tt)))))) (.ob (decide (why = (0 : Int)) = x) (.tt))) := by
      by_cases hi : i < l.length
      · have w2 : IntKind.i64.wrap ((i : Int) + 1) = ((i + 1 : Nat) : Int) := by rw [i64_wrap (by omega) (by omega)]; rfl
        simp only [PT.holds, w2]
        (repeat' first | exact ⟨_, triv, rfl, trivial⟩ | exact ⟨_, triv, rfl⟩ | refine ex_split (fun _ => ?_) (fun _ => ?_) | refine ex_ob ?_ ?_)
        all_goals first | exact ih hi | exact exB_ctr (char_ex _) | omega | simp [hi]
      · simp only [PT.holds]
        (repeat' first | exact ⟨_, triv, rfl, trivial⟩ | exact ⟨_, triv, rfl⟩ | refine ex_split (fun _ => ?_) (fun _ => ?_) | refine ex_ob ?_ ?_)
        all_goals (exfalso; (first | omega | (simp only [decide_eq_true_eq, decide_eq_false_iff_not, Bool.not_eq_true', Bool.not_eq_false'] at *; omega)))
    obtain ⟨x, hR, hx⟩ := H
    exact ⟨x, hR, HT.walk Γ_ok mo_ok (⟨([(22, .val (.int .i32 (l.getD i 0)))] ++ annK), sp46, hd46 [] [] [] [], [], .pure [] (.bool x)⟩ : Wk) 4000 (by kernel_rfl) hx⟩
theorem right_l (l : List Int) (why : Int) (hl : l.length ≤ 1048600) : ∀ d i, l.length ≤ i + d → ∃ x : Bool, (Triv) ∧ HT Tryd.prog Tryd.f46.ntmps (pt Tryd.f46 0) (stQ l i why) (EndsA Γ (.pure [] (.bool x)) Tryd.f46) := by
  intro d
  induction d with
  | zero => exact fun i h => right_h l i why hl (fun hi => by omega)
  | succ d ih => exact fun i h => right_h l i why hl (fun hi => ih (i + 1) (by omega))

theorem right_ex0 (s : ByteArray) (hss : s.size ≤ 1048600) (y : List Int × Int × Int) (hy : y.1.length ≤ s.size) (hc : Ctr Tryd.prog 62 [.str s] (.tup [.sl none y.1.length (y.1.map (.int .i32)) .no, .int .i64 y.2.1, .int .i64 y.2.2])) : ∃ x : Bool, (Triv) ∧ Ctr Tryd.prog 46 [.str s] (.bool x) := by
    have H : ∃ x : Bool, (Triv) ∧ PT.holds Tryd.prog Tryd.f46.ntmps (EndsA Γ (.pure [] (.bool x)) Tryd.f46) (.ob (Ctr Tryd.prog 62 [AV.str s] (AV.tup [AV.sl none y.fst.length (List.map (AV.int .i32) y.fst) .no, AV.int .i64 y.snd.fst, AV.int .i64 y.snd.snd])) (.head (pt Tryd.f46 0) ({ tmps := [(3, AV.sl none y.fst.length (List.map (AV.int .i32) y.fst) .no), (5, AV.int .i64 y.snd.snd), (6, AV.int .i64 (0 : Int))], heap := [], tags := [] }))) := by
      simp only [PT.holds]
      (repeat' first | exact ⟨_, triv, rfl, trivial⟩ | exact ⟨_, triv, rfl⟩ | refine ex_split (fun _ => ?_) (fun _ => ?_) | refine ex_ob ?_ ?_)
      all_goals first | exact hc | exact right_l y.1 y.2.2 (by omega) y.1.length 0 (by omega)
    obtain ⟨x, hR, hx⟩ := H
    exact ⟨x, hR, Ctr.mk Γ_ok Tryd.func46 (by kernel_rfl) Tryd.call46 [] (by kernel_rfl) (HT.walk Γ_ok mo_ok (⟨([(9, .call [] (.tup [.sl none y.1.length (y.1.map (.int .i32)) .no, .int .i64 y.2.1, .int .i64 y.2.2]))] ++ annK), sp46, hd46 [] [] [] [], [], .pure [] (.bool x)⟩ : Wk) 4000 (by kernel_rfl) hx)⟩
theorem right_ex (s : ByteArray) (hss : s.size ≤ 1048600) : ∃ x : Bool, Triv ∧ Ctr Tryd.prog 46 [.str s] (.bool x) := by
  obtain ⟨y, hy, hc⟩ := all_ex s hss
  exact right_ex0 s hss y hy hc

theorem plain_h (l : List Int) (i : Nat) (hl : l.length ≤ 1048600) (ih : i < l.length → ∃ x : Bool, (Triv) ∧ HT Tryd.prog Tryd.f64.ntmps (pt Tryd.f64 0) (stP l (i + 1)) (EndsA Γ (.pure [] (.bool x)) Tryd.f64)) : ∃ x : Bool, (Triv) ∧ HT Tryd.prog Tryd.f64.ntmps (pt Tryd.f64 0) (stP l i) (EndsA Γ (.pure [] (.bool x)) Tryd.f64) := by
    have H : ∃ x : Bool, (Triv) ∧ PT.holds Tryd.prog Tryd.f64.ntmps (EndsA Γ (.pure [] (.bool x)) Tryd.f64) (.split (decide ((↑i : Int) < (↑l.length : Int))) (.ob ((0 : Int) ≤ (↑i : Int) ∧ (↑i : Int) < (↑l.length : Int) ∧ (↑i : Int).toNat * (1 : Nat) < (List.map (AV.int .i32) l).length) (.ob ((List.map (AV.int .i32) l)[(↑i : Int).toNat * (1 : Nat)]? = some (AV.int .i32 (l.getD i (0 : Int)))) (.ob (Ctr Tryd.prog 77 [AV.int .i64 (IntKind.i64.wrap (l.getD i (0 : Int)))] (AV.bool (exB Tryd.prog (77 : FuncId) [AV.int .i64 (IntKind.i64.wrap (l.getD i (0 : Int)))]))) (.split (exB Tryd.prog (77 : FuncId) [AV.int .i64 (IntKind.i64.wrap (l.getD i (0 : Int)))]) (.head (pt Tryd.f64 0) ({ tmps := [(3, AV.sl (some false) l.length (List.map (AV.int .i32) l) .no), (4, AV.int .i64 (IntKind.i64.wrap ((↑i : Int) + (1 : Int))))], heap := [], tags := [] })) (.ob (false = x) (.tt)))))) (.ob (true = x) (.tt))) := by
      by_cases hi : i < l.length
      · have w2 : IntKind.i64.wrap ((i : Int) + 1) = ((i + 1 : Nat) : Int) := by rw [i64_wrap (by omega) (by omega)]; rfl
        simp only [PT.holds, w2]
        (repeat' first | exact ⟨_, triv, rfl, trivial⟩ | exact ⟨_, triv, rfl⟩ | refine ex_split (fun _ => ?_) (fun _ => ?_) | refine ex_ob ?_ ?_)
        all_goals first | exact ih hi | exact exB_ctr (part_ex _) | omega | simp [hi]
      · simp only [PT.holds]
        (repeat' first | exact ⟨_, triv, rfl, trivial⟩ | exact ⟨_, triv, rfl⟩ | refine ex_split (fun _ => ?_) (fun _ => ?_) | refine ex_ob ?_ ?_)
        all_goals (exfalso; (first | omega | (simp only [decide_eq_true_eq, decide_eq_false_iff_not, Bool.not_eq_true', Bool.not_eq_false'] at *; omega)))
    obtain ⟨x, hR, hx⟩ := H
    exact ⟨x, hR, HT.walk Γ_ok mo_ok (⟨([(27, .val (.int .i32 (l.getD i 0)))] ++ annK), sp64, hd64 [] [] [] [], [], .pure [] (.bool x)⟩ : Wk) 4000 (by kernel_rfl) hx⟩
theorem plain_l (l : List Int) (hl : l.length ≤ 1048600) : ∀ d i, l.length ≤ i + d → ∃ x : Bool, (Triv) ∧ HT Tryd.prog Tryd.f64.ntmps (pt Tryd.f64 0) (stP l i) (EndsA Γ (.pure [] (.bool x)) Tryd.f64) := by
  intro d
  induction d with
  | zero => exact fun i h => plain_h l i hl (fun hi => by omega)
  | succ d ih => exact fun i h => plain_h l i hl (fun hi => ih (i + 1) (by omega))

theorem plain_ex (s : ByteArray) (hss : s.size ≤ 1048600) : ∃ x : Bool, (Triv) ∧ Ctr Tryd.prog 64 [.str s] (.bool x) := by
    have H : ∃ x : Bool, (Triv) ∧ PT.holds Tryd.prog Tryd.f64.ntmps (EndsA Γ (.pure [] (.bool x)) Tryd.f64) (.ob (s.size ≤ (9223372036854775807 : Nat)) (.split (decide ((↑(runes s).length : Int) = (0 : Int))) (.ob (false = x) (.tt)) (.ob ((0 : Int) ≤ (0 : Int) ∧ (0 : Int) < (↑(runes s).length : Int) ∧ Int.toNat (0 : Int) * (1 : Nat) < (List.map (AV.int .i32) (runes s)).length) (.ob ((List.map (AV.int .i32) (runes s))[Int.toNat (0 : Int) * (1 : Nat)]? = some (AV.int .i32 ((runes s).getD (0 : Nat) (0 : Int)))) (.ob (Ctr Tryd.prog 76 [AV.int .i64 (IntKind.i64.wrap ((runes s).getD (0 : Nat) (0 : Int)))] (AV.bool (exB Tryd.prog (76 : FuncId) [AV.int .i64 (IntKind.i64.wrap ((runes s).getD (0 : Nat) (0 : Int)))]))) (.split (exB Tryd.prog (76 : FuncId) [AV.int .i64 (IntKind.i64.wrap ((runes s).getD (0 : Nat) (0 : Int)))]) (.head (pt Tryd.f64 0) ({ tmps := [(3, AV.sl (some false) (runes s).length (List.map (AV.int .i32) (runes s)) .no), (4, AV.int .i64 (0 : Int))], heap := [], tags := [] })) (.ob (false = x) (.tt)))))))) := by
      have hl := runesL_len s s.size 0
      by_cases h0 : (runes s).length = 0
      · simp only [PT.holds]
        (repeat' first | exact ⟨_, triv, rfl, trivial⟩ | exact ⟨_, triv, rfl⟩ | refine ex_split (fun _ => ?_) (fun _ => ?_) | refine ex_ob ?_ ?_)
        all_goals first | omega | (exfalso; (first | omega | (simp only [decide_eq_true_eq, decide_eq_false_iff_not, Bool.not_eq_true', Bool.not_eq_false'] at *; omega)))
      · have hp : 0 < (runes s).length := Nat.pos_of_ne_zero h0
        simp only [PT.holds]
        (repeat' first | exact ⟨_, triv, rfl, trivial⟩ | exact ⟨_, triv, rfl⟩ | refine ex_split (fun _ => ?_) (fun _ => ?_) | refine ex_ob ?_ ?_)
        all_goals first | exact plain_l (runes s) (Nat.le_trans hl hss) _ 0 (Nat.le_of_eq (Nat.zero_add _).symm) | exact exB_ctr (start_ex _) | omega | simp [hp]
    obtain ⟨x, hR, hx⟩ := H
    exact ⟨x, hR, Ctr.mk Γ_ok Tryd.func64 (by kernel_rfl) Tryd.call64 [] (by kernel_rfl) (HT.walk Γ_ok mo_ok (⟨([(13, .val (.int .i32 ((runes s).getD 0 0)))] ++ annK), sp64, hd64 [] [] [] [], [], .pure [] (.bool x)⟩ : Wk) 4000 (by kernel_rfl) hx)⟩
theorem find_h (s x : ByteArray) (i : Nat) (hs : s.size ≤ 1048600) (hx : x.size ≤ 1048600) (hi : i ≤ s.size + 1) (ih : i ≤ s.size → ∃ r : Int, (Triv) ∧ HT Tryd.prog Tryd.f78.ntmps (pt Tryd.f78 0) (stF s x (i + 1)) (EndsA Γ (.pure [] (.int .i64 r)) Tryd.f78)) : ∃ r : Int, (Triv) ∧ HT Tryd.prog Tryd.f78.ntmps (pt Tryd.f78 0) (stF s x i) (EndsA Γ (.pure [] (.int .i64 r)) Tryd.f78) := by
    have H : ∃ r : Int, (Triv) ∧ PT.holds Tryd.prog Tryd.f78.ntmps (EndsA Γ (.pure [] (.int .i64 r)) Tryd.f78) (.split (decide (IntKind.i64.wrap ((↑i : Int) + (↑x.size : Int)) ≤ (↑s.size : Int))) (.ob ((0 : Int) ≤ (↑i : Int) ∧ (↑i : Int) ≤ IntKind.i64.wrap ((↑i : Int) + (↑x.size : Int)) ∧ IntKind.i64.wrap ((↑i : Int) + (↑x.size : Int)) ≤ (↑s.size : Int)) (.split (decide (s.extract (↑i : Int).toNat (IntKind.i64.wrap ((↑i : Int) + (↑x.size : Int))).toNat = x)) (.ob ((↑i : Int) = r) (.tt)) (.head (pt Tryd.f78 0) ({ tmps := [(0, AV.str s), (2, AV.str x), (7, AV.int .i64 (IntKind.i64.wrap ((↑i : Int) + (1 : Int))))], heap := [], tags := [] })))) (.ob ((-1 : Int) = r) (.tt))) := by
      have w1 : IntKind.i64.wrap ((i : Int) + x.size) = i + x.size := i64_wrap (by omega) (by omega)
      have w2 : IntKind.i64.wrap ((i : Int) + 1) = ((i + 1 : Nat) : Int) := by rw [i64_wrap (by omega) (by omega)]; rfl
      simp only [PT.holds, w1, w2]
      (repeat' first | exact ⟨_, triv, rfl, trivial⟩ | exact ⟨_, triv, rfl⟩ | refine ex_split (fun _ => ?_) (fun _ => ?_) | refine ex_ob ?_ ?_)
      all_goals first | exact ih (by (first | omega | (simp only [decide_eq_true_eq, decide_eq_false_iff_not, Bool.not_eq_true', Bool.not_eq_false'] at *; omega))) | omega | (first | omega | (simp only [decide_eq_true_eq, decide_eq_false_iff_not, Bool.not_eq_true', Bool.not_eq_false'] at *; omega))
    obtain ⟨r, hR, hx⟩ := H
    exact ⟨r, hR, HT.walk Γ_ok mo_ok (⟨annK, sp78, hd78 [] [] [] [], [], .pure [] (.int .i64 r)⟩ : Wk) 4000 (by kernel_rfl) hx⟩
theorem find_l (s x : ByteArray) (hs : s.size ≤ 1048600) (hx : x.size ≤ 1048600) : ∀ d i, i + d = s.size + 1 → ∃ r : Int, (Triv) ∧ HT Tryd.prog Tryd.f78.ntmps (pt Tryd.f78 0) (stF s x i) (EndsA Γ (.pure [] (.int .i64 r)) Tryd.f78) := by
  intro d
  induction d with
  | zero => exact fun i h => find_h s x i hs hx (by omega) (fun hi => by omega)
  | succ d ih => exact fun i h => find_h s x i hs hx (by omega) (fun hi => ih (i + 1) (by omega))

theorem find_ex (s x : ByteArray) (hs : s.size ≤ 1048600) (hx : x.size ≤ 1048600) : ∃ r : Int, (Triv) ∧ Ctr Tryd.prog 78 [.str s, .int .i64 0, .str x] (.int .i64 r) := by
    have H : ∃ r : Int, (Triv) ∧ PT.holds Tryd.prog Tryd.f78.ntmps (EndsA Γ (.pure [] (.int .i64 r)) Tryd.f78) (.head (pt Tryd.f78 0) ({ tmps := [(0, AV.str s), (2, AV.str x), (7, AV.int .i64 (0 : Int))], heap := [], tags := [] })) := by
      simp only [PT.holds]
      exact find_l s x hs hx _ 0 (Nat.zero_add _)
    obtain ⟨r, hR, hx⟩ := H
    exact ⟨r, hR, Ctr.mk Γ_ok Tryd.func78 (by kernel_rfl) Tryd.call78 [] (by kernel_rfl) (HT.walk Γ_ok mo_ok (⟨annK, sp78, hd78 [] [] [] [], [], .pure [] (.int .i64 r)⟩ : Wk) 4000 (by kernel_rfl) hx)⟩
end Go.Proofs.YteimloiaipiadaaDoor
end

section
set_option linter.unusedVariables false
set_option linter.unusedSimpArgs false
namespace Go.Proofs.YteimloiaipiadaaDoor
open Go Go.AX

/-! ### What is handed in, as plain data, and its cells -/
structure Nm where
  sp : ByteArray
  lo : ByteArray
deriving DecidableEq
structure Atr where
  nm : Nm
  v : ByteArray
deriving DecidableEq
structure Ev where
  kind : Int
  nm : Nm
  attrs : List Atr
  text : ByteArray
inductive Tr
  | mk (isText : Bool) (text : ByteArray) (nm : Nm) (attrs : List Atr) (kids : List Tr)
mutual
inductive Pth
  | mk (op : Int) (sub : List Pth) (test : List Flt)
inductive Flt
  | mk (op : Int) (nm : Nm) (value : ByteArray) (sub : List Flt) (way : List Pth)
end
def nmC (n : Nm) : List AV := [.str n.sp, .str n.lo]
def atC (a : Atr) : List AV := [.str a.nm.sp, .str a.nm.lo, .str a.v]
def atsC (l : List Atr) : List AV := l.flatMap atC
def evC (e : Ev) : List AV := [.int .i64 e.kind, .str e.nm.sp, .str e.nm.lo, .sl none e.attrs.length (atsC e.attrs) .no, .str e.text]
def evsC (l : List Ev) : List AV := l.flatMap evC
mutual
def pthC : Pth → List AV
  | .mk op sub test => [.int .i64 op, .sl none sub.length (pthsC sub) .no, .sl none test.length (fltsC test) .no]
def pthsC : List Pth → List AV
  | [] => []
  | t :: r => pthC t ++ pthsC r
def fltC : Flt → List AV
  | .mk op n v sub way => [.int .i64 op, .str n.sp, .str n.lo, .str v, .sl none sub.length (fltsC sub) .no, .sl none way.length (pthsC way) .no]
def fltsC : List Flt → List AV
  | [] => []
  | t :: r => fltC t ++ fltsC r
end
theorem pthsC_eq : ∀ l, pthsC l = l.flatMap pthC
  | [] => by simp [pthsC]
  | t :: r => by simp [pthsC, pthsC_eq r]
theorem fltsC_eq : ∀ l, fltsC l = l.flatMap fltC
  | [] => by simp [fltsC]
  | t :: r => by simp [fltsC, fltsC_eq r]
theorem flat_get {α : Type} {f : α → List AV} {k : Nat} (hk : ∀ a, (f a).length = k) : ∀ (l : List α) (i j : Nat), j < k → (l.flatMap f)[i * k + j]? = l[i]?.bind fun a => (f a)[j]?
  | [], i, j, hj => by simp
  | a :: l, 0, j, hj => by
    rw [List.flatMap_cons, List.getElem?_append_left (by rw [hk]; omega)]
    simp
  | a :: l, i + 1, j, hj => by
    have e : (i + 1) * k + j = k + (i * k + j) := by rw [Nat.add_mul, Nat.one_mul]; omega
    rw [List.flatMap_cons, List.getElem?_append_right (by rw [hk, e]; omega), hk, e, Nat.add_sub_cancel_left, flat_get hk l i j hj]
    simp
theorem flat_len {α : Type} {f : α → List AV} {k : Nat} (hk : ∀ a, (f a).length = k) : ∀ (l : List α), (l.flatMap f).length = l.length * k
  | [] => by simp
  | a :: l => by rw [List.flatMap_cons, List.length_append, flat_len hk l, hk, List.length_cons, Nat.add_mul, Nat.one_mul, Nat.add_comm]
theorem atC_len (a : Atr) : (atC a).length = 3 := rfl
theorem evC_len (a : Ev) : (evC a).length = 5 := rfl
theorem pthC_len (a : Pth) : (pthC a).length = 3 := by cases a; rfl
theorem fltC_len (a : Flt) : (fltC a).length = 6 := by cases a; rfl
theorem atsC_len (l : List Atr) : (atsC l).length = l.length * 3 := flat_len atC_len l
theorem evsC_len (l : List Ev) : (evsC l).length = l.length * 5 := flat_len evC_len l
theorem pthsC_len (l : List Pth) : (pthsC l).length = l.length * 3 := by rw [pthsC_eq]; exact flat_len pthC_len l
theorem fltsC_len (l : List Flt) : (fltsC l).length = l.length * 6 := by rw [fltsC_eq]; exact flat_len fltC_len l
theorem flat_take {α : Type} {f : α → List AV} {k : Nat} (hk : ∀ a, (f a).length = k) (d : α) (l : List α) (i j m : Nat) (hi : i < l.length) (hm : j + m ≤ k) : ((l.flatMap f).drop (i * k + j)).take m = ((f (l.getD i d)).drop j).take m := by
  apply List.ext_getElem?
  intro n
  rw [List.getElem?_take, List.getElem?_take]
  split
  · rw [List.getElem?_drop, List.getElem?_drop, Nat.add_assoc, flat_get hk l i (j + n) (by omega), List.getElem?_eq_getElem hi, List.getD_eq_getElem?_getD, List.getElem?_eq_getElem hi]
    rfl
  · rfl
theorem flat_nth {α : Type} {f : α → List AV} {k : Nat} (hk : ∀ a, (f a).length = k) (d : α) (l : List α) (i j : Nat) (hi : i < l.length) (hj : j < k) : (l.flatMap f)[i * k + j]? = (f (l.getD i d))[j]? := by
  rw [flat_get hk l i j hj, List.getElem?_eq_getElem hi, List.getD_eq_getElem?_getD, List.getElem?_eq_getElem hi]
  rfl
theorem flat_nth0 {α : Type} {f : α → List AV} {k : Nat} (hk : ∀ a, (f a).length = k) (d : α) (l : List α) (i : Nat) (hi : i < l.length) (hj : 0 < k) : (l.flatMap f)[i * k]? = (f (l.getD i d))[0]? := flat_nth hk d l i 0 hi hj
/-! Texts that are not too long. -/
def Nm.ok (n : Nm) : Prop := n.sp.size ≤ 1048600 ∧ n.lo.size ≤ 1048600
def Atr.ok (a : Atr) : Prop := a.nm.ok ∧ a.v.size ≤ 1048600
def Ev.ok (e : Ev) : Prop := e.nm.ok ∧ e.text.size ≤ 1048600 ∧ e.attrs.length ≤ 1048600 ∧ ∀ a ∈ e.attrs, a.ok
def nm0 : Nm := ⟨⟨#[]⟩, ⟨#[]⟩⟩
def atr0 : Atr := ⟨nm0, ⟨#[]⟩⟩
def ev0 : Ev := ⟨0, nm0, [], ⟨#[]⟩⟩
def pth0 : Pth := .mk 0 [] []
def flt0 : Flt := .mk 0 nm0 ⟨#[]⟩ [] []
def Pth.op : Pth → Int | .mk op _ _ => op
def Pth.sub : Pth → List Pth | .mk _ s _ => s
def Pth.test : Pth → List Flt | .mk _ _ t => t
def Flt.op : Flt → Int | .mk op _ _ _ _ => op
def Flt.nm : Flt → Nm | .mk _ n _ _ _ => n
def Flt.val : Flt → ByteArray | .mk _ _ v _ _ => v
def Flt.sub : Flt → List Flt | .mk _ _ _ s _ => s
def Flt.way : Flt → List Pth | .mk _ _ _ _ w => w
def Tr.isText : Tr → Bool | .mk b _ _ _ _ => b
def Tr.text : Tr → ByteArray | .mk _ t _ _ _ => t
def Tr.nm : Tr → Nm | .mk _ _ n _ _ => n
def Tr.attrs : Tr → List Atr | .mk _ _ _ a _ => a
def Tr.kids : Tr → List Tr | .mk _ _ _ _ k => k
def pthL (p : Pth) : List AV := [.int .i64 p.op, .sl none p.sub.length (pthsC p.sub) .no, .sl none p.test.length (fltsC p.test) .no]
def fltL (f : Flt) : List AV := [.int .i64 f.op, .str f.nm.sp, .str f.nm.lo, .str f.val, .sl none f.sub.length (fltsC f.sub) .no, .sl none f.way.length (pthsC f.way) .no]
theorem pthC_L (p : Pth) : pthC p = pthL p := by cases p; rfl
theorem fltC_L (p : Flt) : fltC p = fltL p := by cases p; rfl
theorem ats_take (l : List Atr) (i j m : Nat) (hi : i < l.length) (hm : j + m ≤ 3) : ((atsC l).drop (i * 3 + j)).take m = ((atC (l.getD i atr0)).drop j).take m := flat_take atC_len atr0 l i j m hi hm
theorem ats_nth (l : List Atr) (i j : Nat) (hi : i < l.length) (hj : j < 3) : (atsC l)[i * 3 + j]? = (atC (l.getD i atr0))[j]? := flat_nth atC_len atr0 l i j hi hj
theorem evs_take (l : List Ev) (i j m : Nat) (hi : i < l.length) (hm : j + m ≤ 5) : ((evsC l).drop (i * 5 + j)).take m = ((evC (l.getD i ev0)).drop j).take m := flat_take evC_len ev0 l i j m hi hm
theorem evs_nth (l : List Ev) (i j : Nat) (hi : i < l.length) (hj : j < 5) : (evsC l)[i * 5 + j]? = (evC (l.getD i ev0))[j]? := flat_nth evC_len ev0 l i j hi hj
theorem pths_take (l : List Pth) (i j m : Nat) (hi : i < l.length) (hm : j + m ≤ 3) : ((pthsC l).drop (i * 3 + j)).take m = ((pthL (l.getD i pth0)).drop j).take m := by rw [pthsC_eq, ← pthC_L]; exact flat_take pthC_len pth0 l i j m hi hm
theorem pths_nth (l : List Pth) (i j : Nat) (hi : i < l.length) (hj : j < 3) : (pthsC l)[i * 3 + j]? = (pthL (l.getD i pth0))[j]? := by rw [pthsC_eq, ← pthC_L]; exact flat_nth pthC_len pth0 l i j hi hj
theorem flts_take (l : List Flt) (i j m : Nat) (hi : i < l.length) (hm : j + m ≤ 6) : ((fltsC l).drop (i * 6 + j)).take m = ((fltL (l.getD i flt0)).drop j).take m := by rw [fltsC_eq, ← fltC_L]; exact flat_take fltC_len flt0 l i j m hi hm
theorem flts_nth (l : List Flt) (i j : Nat) (hi : i < l.length) (hj : j < 6) : (fltsC l)[i * 6 + j]? = (fltL (l.getD i flt0))[j]? := by rw [fltsC_eq, ← fltC_L]; exact flat_nth fltC_len flt0 l i j hi hj
theorem ats_take0 (l : List Atr) (i m : Nat) (hi : i < l.length) (hm : m ≤ 3) : ((atsC l).drop (i * 3)).take m = (atC (l.getD i atr0)).take m := by have := ats_take l i 0 m hi (by omega); simpa using this
theorem ats_nth0 (l : List Atr) (i : Nat) (hi : i < l.length) : (atsC l)[i * 3]? = (atC (l.getD i atr0))[0]? := ats_nth l i 0 hi (by decide)
theorem evs_take0 (l : List Ev) (i m : Nat) (hi : i < l.length) (hm : m ≤ 5) : ((evsC l).drop (i * 5)).take m = (evC (l.getD i ev0)).take m := by have := evs_take l i 0 m hi (by omega); simpa using this
theorem evs_nth0 (l : List Ev) (i : Nat) (hi : i < l.length) : (evsC l)[i * 5]? = (evC (l.getD i ev0))[0]? := evs_nth l i 0 hi (by decide)
theorem pths_take0 (l : List Pth) (i m : Nat) (hi : i < l.length) (hm : m ≤ 3) : ((pthsC l).drop (i * 3)).take m = (pthL (l.getD i pth0)).take m := by have := pths_take l i 0 m hi (by omega); simpa using this
theorem pths_nth0 (l : List Pth) (i : Nat) (hi : i < l.length) : (pthsC l)[i * 3]? = (pthL (l.getD i pth0))[0]? := pths_nth l i 0 hi (by decide)
theorem flts_take0 (l : List Flt) (i m : Nat) (hi : i < l.length) (hm : m ≤ 6) : ((fltsC l).drop (i * 6)).take m = (fltL (l.getD i flt0)).take m := by have := flts_take l i 0 m hi (by omega); simpa using this
theorem flts_nth0 (l : List Flt) (i : Nat) (hi : i < l.length) : (fltsC l)[i * 6]? = (fltL (l.getD i flt0))[0]? := flts_nth l i 0 hi (by decide)
theorem getD_mem {α : Type} (l : List α) (i : Nat) (d : α) (h : i < l.length) : l.getD i d ∈ l := by
  rw [List.getD_eq_getElem?_getD, List.getElem?_eq_getElem h]
  exact List.getElem_mem h
/-! Paths and filters: what is not too great; what is right. -/
mutual
def Pth.ok : Pth → Prop
  | .mk op sub test => sub.length ≤ 1048600 ∧ test.length ≤ 1048600 ∧ oksP sub ∧ oksF test
def oksP : List Pth → Prop
  | [] => True
  | p :: r => p.ok ∧ oksP r
def Flt.ok : Flt → Prop
  | .mk op n v sub way => n.ok ∧ v.size ≤ 1048600 ∧ sub.length ≤ 1048600 ∧ way.length ≤ 1048600 ∧ oksF sub ∧ oksP way
def oksF : List Flt → Prop
  | [] => True
  | p :: r => p.ok ∧ oksF r
end
theorem oksP_mem : ∀ {l : List Pth}, oksP l → ∀ p ∈ l, p.ok
  | p :: r, h, q, hq => by
    simp only [oksP] at h
    rcases List.mem_cons.1 hq with rfl | hq
    · exact h.1
    · exact oksP_mem h.2 q hq
theorem oksF_mem : ∀ {l : List Flt}, oksF l → ∀ p ∈ l, p.ok
  | p :: r, h, q, hq => by
    simp only [oksF] at h
    rcases List.mem_cons.1 hq with rfl | hq
    · exact h.1
    · exact oksF_mem h.2 q hq
theorem Pth.ok_i {p : Pth} (h : p.ok) : p.sub.length ≤ 1048600 ∧ p.test.length ≤ 1048600 ∧ (∀ q ∈ p.sub, q.ok) ∧ ∀ q ∈ p.test, q.ok := by
  cases p
  simp only [Pth.ok] at h
  exact ⟨h.1, h.2.1, oksP_mem h.2.2.1, oksF_mem h.2.2.2⟩
theorem Flt.ok_i {f : Flt} (h : f.ok) : f.nm.ok ∧ f.val.size ≤ 1048600 ∧ f.sub.length ≤ 1048600 ∧ f.way.length ≤ 1048600 ∧ (∀ q ∈ f.sub, q.ok) ∧ ∀ q ∈ f.way, q.ok := by
  cases f
  simp only [Flt.ok] at h
  exact ⟨h.1, h.2.1, h.2.2.1, h.2.2.2.1, oksF_mem h.2.2.2.2.1, oksP_mem h.2.2.2.2.2⟩
def xmlnsB : ByteArray := ByteArray.mk #[104, 116, 116, 112, 58, 47, 47, 119, 119, 119, 46, 119, 51, 46, 111, 114, 103, 47, 50, 48, 48, 48, 47, 120, 109, 108, 110, 115, 47]
/-- What a right name is. -/
structure NmOk (n : Nm) : Prop where
  sp : n.sp ≠ xmlnsB
  plain : exB Tryd.prog 64 [.str n.lo] = true
  lo : exB Tryd.prog 46 [.str n.lo] = true
  rsp : exB Tryd.prog 46 [.str n.sp] = true
structure Pth.r1 (p : Pth) : Prop where
  op : 1 ≤ p.op ∧ p.op ≤ 7
  two : p.op = 4 ∨ p.op = 5 → 2 ≤ p.sub.length
  one : p.op = 6 → p.sub.length = 1
  non : p.op ≠ 4 ∧ p.op ≠ 5 ∧ p.op ≠ 6 → p.sub.length = 0
  test : p.op = 7 ↔ p.test.length = 1
  le : p.test.length ≤ 1
structure Flt.r1 (p : Flt) : Prop where
  op : 1 ≤ p.op ∧ p.op ≤ 11
  two : p.op = 9 ∨ p.op = 10 → 2 ≤ p.sub.length
  one : p.op = 8 → p.sub.length = 1
  non : p.op ≠ 8 ∧ p.op ≠ 9 ∧ p.op ≠ 10 → p.sub.length = 0
  way : p.op = 11 ↔ p.way.length = 1
  le : p.way.length ≤ 1
  named : (4 ≤ p.op ∧ p.op ≤ 6) ↔ p.nm ≠ nm0
  nmd : 4 ≤ p.op ∧ p.op ≤ 6 → NmOk p.nm
  noval : ¬ (p.op = 6 ∨ p.op = 7) → p.val = ⟨#[]⟩
  hasval : p.op = 7 → p.val ≠ ⟨#[]⟩
  val : exB Tryd.prog 46 [.str p.val] = true
mutual
inductive Pth.r : Pth → Prop
  | mk (p : Pth) (h : p.r1) (hs : ∀ q ∈ p.sub, Pth.r q) (ht : ∀ f ∈ p.test, Flt.r f) : Pth.r p
inductive Flt.r : Flt → Prop
  | mk (p : Flt) (h : p.r1) (hs : ∀ q ∈ p.sub, Flt.r q) (ht : ∀ f ∈ p.way, Pth.r f) : Flt.r p
end
theorem all_getD {α : Type} {l : List α} {d : α} {Q : α → Prop} (h : ∀ k, k < l.length → Q (l.getD k d)) : ∀ q ∈ l, Q q := by
  intro q hq
  obtain ⟨k, hk, rfl⟩ := List.getElem_of_mem hq
  have := h k hk
  rwa [List.getD_eq_getElem?_getD, List.getElem?_eq_getElem hk] at this
theorem Pth.r_of {p : Pth} (h : p.r1) (hs : ∀ k, k < p.sub.length → (p.sub.getD k pth0).r) (ht : 0 < p.test.length → (p.test.getD 0 flt0).r) : p.r :=
  .mk p h (all_getD hs) (all_getD (d := flt0) fun k hk => by
    have : k = 0 := by have := h.le; omega
    subst this
    exact ht hk)
theorem Flt.r_of {p : Flt} (h : p.r1) (hs : ∀ k, k < p.sub.length → (p.sub.getD k flt0).r) (ht : 0 < p.way.length → (p.way.getD 0 pth0).r) : p.r :=
  .mk p h (all_getD hs) (all_getD (d := pth0) fun k hk => by
    have : k = 0 := by have := h.le; omega
    subst this
    exact ht hk)
/-- How many are open ahead of a place. -/
def stepE (e : Ev) : Int := if e.kind = 1 then 1 else if e.kind = 3 then -1 else 0
def dep (l : List Ev) : Nat → Int
  | 0 => 0
  | i + 1 => dep l i + stepE (l.getD i ev0)
/-- No two attributes have one name. -/
def DisF (e : Ev) (i : Nat) : Prop := ∀ j k, i ≤ k → j < k → k < e.attrs.length → (e.attrs.getD j atr0).nm ≠ (e.attrs.getD k atr0).nm
def EvR (e : Ev) : Prop := (e.kind = 1 ∨ e.kind = 2 ∨ e.kind = 3) ∧ DisF e 0
theorem ex_imp {α : Type} {R R' Q : α → Prop} (h : ∃ x, R x ∧ Q x) (k : ∀ x, R x → R' x) : ∃ x, R' x ∧ Q x := by
  obtain ⟨x, h1, h2⟩ := h
  exact ⟨x, k x h1, h2⟩
structure DocP (l : List Ev) (k : Nat) : Prop where
  kind : ∀ i, i < k → (l.getD i ev0).kind = 1 ∨ (l.getD i ev0).kind = 2 ∨ (l.getD i ev0).kind = 3
  dis : ∀ i, i < k → DisF (l.getD i ev0) 0
  pos : ∀ i, 0 < i → i < k → 1 ≤ dep l i
  first : 0 < k → (l.getD 0 ev0).kind = 1
theorem DocP.succ {l : List Ev} {i : Nat} (h : DocP l i) (hk : EvR (l.getD i ev0)) (hp : 0 < i → 1 ≤ dep l i) (hf : i = 0 → (l.getD i ev0).kind = 1) : DocP l (i + 1) := by
  refine ⟨fun j hj => ?_, fun j hj => ?_, fun j h0 hj => ?_, fun _ => ?_⟩
  · rcases Nat.lt_or_eq_of_le (Nat.lt_succ_iff.1 hj) with h1 | h1
    · exact h.kind j h1
    · rw [h1]; exact hk.1
  · rcases Nat.lt_or_eq_of_le (Nat.lt_succ_iff.1 hj) with h1 | h1
    · exact h.dis j h1
    · rw [h1]; exact hk.2
  · rcases Nat.lt_or_eq_of_le (Nat.lt_succ_iff.1 hj) with h1 | h1
    · exact h.pos j h0 h1
    · rw [h1]; exact hp (by omega)
  · rcases Nat.eq_zero_or_pos i with h1 | h1
    · subst h1; exact hf rfl
    · exact h.first h1
structure Doc (l : List Ev) : Prop where
  p : DocP l l.length
  ends : dep l l.length = 0
  len : 0 < l.length ∧ l.length ≤ 60
end Go.Proofs.YteimloiaipiadaaDoor
end

section
set_option linter.unusedVariables false
set_option linter.unusedSimpArgs false
set_option maxRecDepth 100000
namespace Go.Proofs.YteimloiaipiadaaDoor
open Go Go.AX
noncomputable def annL : List (Nat × Ann) := (1000046, .callF [] (fun args => .bool (exB Tryd.prog 46 args))) :: (1000064, .callF [] (fun args => .bool (exB Tryd.prog 64 args))) :: (1000047, .callF [] (fun args => .bool (exB Tryd.prog 47 args))) :: (1000066, .callF [] (fun args => .bool (exB Tryd.prog 66 args))) :: (1000022, .callF [] (fun args => .bool (exB Tryd.prog 22 args))) :: (1000010, .callF [] (fun args => .bool (exB Tryd.prog 10 args))) :: (1000010, .callF [] (fun args => .bool (exB Tryd.prog 10 args))) :: (1000078, .callF [] (fun args => .int .i64 (exI Tryd.prog 78 args))) :: annK

theorem nm_ne (a b : Nm) (h : (decide (a.sp = b.sp) && (decide (a.lo = b.lo) && true)) = false) : a ≠ b := by
  intro e
  rw [e] at h
  simp at h

theorem named9_ex (n : Nm) (hn : n.ok) : ∃ x : Bool, (Triv) ∧ Ctr Tryd.prog 47 [.agg (nmC n)] (.bool x) := by
    have H : ∃ x : Bool, (Triv) ∧ PT.holds Tryd.prog Tryd.f47.ntmps (EndsA Γ (.pure [] (.bool x)) Tryd.f47) (.ob (Ctr Tryd.prog 64 [AV.str n.lo] (AV.bool (exB Tryd.prog (64 : FuncId) [AV.str n.lo]))) (.split (exB Tryd.prog (64 : FuncId) [AV.str n.lo]) (.ob (Ctr Tryd.prog 46 [AV.str n.lo] (AV.bool (exB Tryd.prog (46 : FuncId) [AV.str n.lo]))) (.split (exB Tryd.prog (46 : FuncId) [AV.str n.lo]) (.ob (Ctr Tryd.prog 46 [AV.str n.sp] (AV.bool (exB Tryd.prog (46 : FuncId) [AV.str n.sp]))) (.split (exB Tryd.prog (46 : FuncId) [AV.str n.sp]) (.ob ((!decide (n.sp = (ByteArray.mk #[(104 : UInt8), (116 : UInt8), (116 : UInt8), (112 : UInt8), (58 : UInt8), (47 : UInt8), (47 : UInt8), (119 : UInt8), (119 : UInt8), (119 : UInt8), (46 : UInt8), (119 : UInt8), (51 : UInt8), (46 : UInt8), (111 : UInt8), (114 : UInt8), (103 : UInt8), (47 : UInt8), (50 : UInt8), (48 : UInt8), (48 : UInt8), (48 : UInt8), (47 : UInt8), (120 : UInt8), (109 : UInt8), (108 : UInt8), (110 : UInt8), (115 : UInt8), (47 : UInt8)]))) = x) (.tt)) (.ob (false = x) (.tt)))) (.ob (false = x) (.tt)))) (.ob (false = x) (.tt)))) := by
      simp only [PT.holds]
      (repeat' first | exact ⟨_, triv, rfl, trivial⟩ | exact ⟨_, triv, rfl⟩ | refine ex_split (fun _ => ?_) (fun _ => ?_) | refine ex_ob ?_ ?_)
      all_goals first | exact exB_ctr (plain_ex _ hn.2) | exact exB_ctr (right_ex _ hn.1) | exact exB_ctr (right_ex _ hn.2)
    obtain ⟨x, hR, hx⟩ := H
    exact ⟨x, hR, Ctr.mk Γ_ok Tryd.func47 (by kernel_rfl) Tryd.call47 [] (by kernel_rfl) (HT.walk Γ_ok mo_ok (⟨annL, sp47, [], [], .pure [] (.bool x)⟩ : Wk) 4000 (by kernel_rfl) hx)⟩
def stE0 (e : Ev) (i : Nat) : AS := ⟨[(1, .ptr 1 0), (4, .int .i64 i)], [(1, .var true (evC e))], []⟩
def stE1 (e : Ev) (i j : Nat) : AS := ⟨[(1, .ptr 1 0), (4, .int .i64 i), (5, .int .i64 j)], [(1, .var true (evC e))], []⟩
theorem evr_h1 (e : Ev) (i j : Nat) (hj : j ≤ i) (hi : i < e.attrs.length) (he : e.attrs.length ≤ 1048600) (ih : j < i → ∃ x : Bool, (x = true → (e.kind = 1 ∨ e.kind = 2 ∨ e.kind = 3) ∧ DisF e (i + 1) ∧ ∀ k, (j + 1) ≤ k → k < i → (e.attrs.getD k atr0).nm ≠ (e.attrs.getD i atr0).nm) ∧ HT Tryd.prog Tryd.f22.ntmps (pt Tryd.f22 1) (stE1 e i (j + 1)) (EndsA Γ (.pure [] (.bool x)) Tryd.f22)) (k0 : ∃ x : Bool, (x = true → (e.kind = 1 ∨ e.kind = 2 ∨ e.kind = 3) ∧ DisF e (i + 1)) ∧ HT Tryd.prog Tryd.f22.ntmps (pt Tryd.f22 0) (stE0 e (i + 1)) (EndsA Γ (.pure [] (.bool x)) Tryd.f22)) : ∃ x : Bool, (x = true → (e.kind = 1 ∨ e.kind = 2 ∨ e.kind = 3) ∧ DisF e (i + 1) ∧ ∀ k, j ≤ k → k < i → (e.attrs.getD k atr0).nm ≠ (e.attrs.getD i atr0).nm) ∧ HT Tryd.prog Tryd.f22.ntmps (pt Tryd.f22 1) (stE1 e i j) (EndsA Γ (.pure [] (.bool x)) Tryd.f22) := by
    have H : ∃ x : Bool, (x = true → (e.kind = 1 ∨ e.kind = 2 ∨ e.kind = 3) ∧ DisF e (i + 1) ∧ ∀ k, j ≤ k → k < i → (e.attrs.getD k atr0).nm ≠ (e.attrs.getD i atr0).nm) ∧ PT.holds Tryd.prog Tryd.f22.ntmps (EndsA Γ (.pure [] (.bool x)) Tryd.f22) (.split (decide ((↑j : Int) < (↑i : Int))) (.or (.ob ((0 : Int) ≤ (↑j : Int) ∧ (↑j : Int) < (↑e.attrs.length : Int) ∧ (↑j : Int).toNat * (3 : Nat) < (atsC e.attrs).length) (.ob (List.take (2 : Nat) (List.drop ((↑j : Int).toNat * (3 : Nat) + (0 : Nat)) (atsC e.attrs)) = [AV.str (e.attrs.getD j atr0).nm.sp, AV.str (e.attrs.getD j atr0).nm.lo]) (.ob ((0 : Int) ≤ (↑i : Int) ∧ (↑i : Int) < (↑e.attrs.length : Int) ∧ (↑i : Int).toNat * (3 : Nat) < (atsC e.attrs).length) (.ob (List.take (2 : Nat) (List.drop ((↑i : Int).toNat * (3 : Nat) + (0 : Nat)) (atsC e.attrs)) = [AV.str (e.attrs.getD i atr0).nm.sp, AV.str (e.attrs.getD i atr0).nm.lo]) (.ob ((decide ((e.attrs.getD j atr0).nm.sp = (e.attrs.getD i atr0).nm.sp) && (decide ((e.attrs.getD j atr0).nm.lo = (e.attrs.getD i atr0).nm.lo) && true)) = true) (.ob (false = x) (.tt))))))) (.ob ((0 : Int) ≤ (↑j : Int) ∧ (↑j : Int) < (↑e.attrs.length : Int) ∧ (↑j : Int).toNat * (3 : Nat) < (atsC e.attrs).length) (.ob (List.take (2 : Nat) (List.drop ((↑j : Int).toNat * (3 : Nat) + (0 : Nat)) (atsC e.attrs)) = [AV.str (e.attrs.getD j atr0).nm.sp, AV.str (e.attrs.getD j atr0).nm.lo]) (.ob ((0 : Int) ≤ (↑i : Int) ∧ (↑i : Int) < (↑e.attrs.length : Int) ∧ (↑i : Int).toNat * (3 : Nat) < (atsC e.attrs).length) (.ob (List.take (2 : Nat) (List.drop ((↑i : Int).toNat * (3 : Nat) + (0 : Nat)) (atsC e.attrs)) = [AV.str (e.attrs.getD i atr0).nm.sp, AV.str (e.attrs.getD i atr0).nm.lo]) (.ob ((decide ((e.attrs.getD j atr0).nm.sp = (e.attrs.getD i atr0).nm.sp) && (decide ((e.attrs.getD j atr0).nm.lo = (e.attrs.getD i atr0).nm.lo) && true)) = false) (.head (pt Tryd.f22 1) ({ tmps := [(1, AV.ptr 1 0), (4, AV.int .i64 (↑i : Int)), (5, AV.int .i64 (IntKind.i64.wrap ((↑j : Int) + (1 : Int))))], heap := [(1, .var true (evC e))], tags := [] })))))))) (.head (pt Tryd.f22 0) ({ tmps := [(1, AV.ptr 1 0), (4, AV.int .i64 (IntKind.i64.wrap ((↑i : Int) + (1 : Int))))], heap := [(1, .var true (evC e))], tags := [] }))) := by
      have w2 : IntKind.i64.wrap ((i : Int) + 1) = ((i + 1 : Nat) : Int) := by rw [i64_wrap (by omega) (by omega)]; rfl
      have w3 : IntKind.i64.wrap ((j : Int) + 1) = ((j + 1 : Nat) : Int) := by rw [i64_wrap (by omega) (by omega)]; rfl
      simp only [PT.holds, w2, w3, Int.toNat_natCast, atsC_len]
      by_cases hji : j < i
      · have hj' : j < e.attrs.length := by omega
        have ih' := fun (hji : j < i) (hne : (e.attrs.getD j atr0).nm ≠ (e.attrs.getD i atr0).nm) => ex_imp (R' := fun x : Bool => x = true → (e.kind = 1 ∨ e.kind = 2 ∨ e.kind = 3) ∧ DisF e (i + 1) ∧ ∀ k, j ≤ k → k < i → (e.attrs.getD k atr0).nm ≠ (e.attrs.getD i atr0).nm) (ih hji) (fun x hx h => ⟨(hx h).1, (hx h).2.1, fun k h1 h2 => (by
          rcases Nat.lt_or_eq_of_le h1 with h3 | h3
          · exact (hx h).2.2 k h3 h2
          · rw [← h3]; exact hne)⟩)
        have hne0 := nm_ne (e.attrs.getD j atr0).nm (e.attrs.getD i atr0).nm
        cases hc : (decide ((e.attrs.getD j atr0).nm.sp = (e.attrs.getD i atr0).nm.sp) && (decide ((e.attrs.getD j atr0).nm.lo = (e.attrs.getD i atr0).nm.lo) && true))
        · have hne := hne0 hc
          refine ex_split (fun _ => ex_or2 ?_) (fun _ => ?_)
          all_goals (repeat' first | exact ⟨_, triv, rfl, trivial⟩ | exact ⟨_, triv, rfl⟩ | refine ex_split (fun _ => ?_) (fun _ => ?_) | refine ex_ob ?_ ?_)
          all_goals first | exact ih' hji hne | rfl | omega | ((try simp only [Nat.add_assoc, Nat.reduceAdd, Nat.add_zero]) <;> first | (rw [ats_take _ _ _ _ hi (by decide)]; rfl) | (rw [ats_nth _ _ _ hi (by decide)]; rfl) | (rw [evs_take _ _ _ _ hi (by decide)]; rfl) | (rw [evs_nth _ _ _ hi (by decide)]; rfl) | (rw [ats_take0 _ _ _ hi (by decide)]; rfl) | (rw [ats_nth0 _ _ hi]; rfl) | (rw [evs_take0 _ _ _ hi (by decide)]; rfl) | (rw [evs_nth0 _ _ hi]; rfl)) | ((try simp only [Nat.add_assoc, Nat.reduceAdd, Nat.add_zero]) <;> first | (rw [ats_take _ _ _ _ hj' (by decide)]; rfl) | (rw [ats_nth _ _ _ hj' (by decide)]; rfl) | (rw [evs_take _ _ _ _ hj' (by decide)]; rfl) | (rw [evs_nth _ _ _ hj' (by decide)]; rfl) | (rw [ats_take0 _ _ _ hj' (by decide)]; rfl) | (rw [ats_nth0 _ _ hj']; rfl) | (rw [evs_take0 _ _ _ hj' (by decide)]; rfl) | (rw [evs_nth0 _ _ hj']; rfl)) | (exfalso; (first | omega | (simp only [decide_eq_true_eq, decide_eq_false_iff_not, Bool.not_eq_true', Bool.not_eq_false'] at *; omega)))
        · refine ex_split (fun _ => ex_or1 ?_) (fun _ => ?_)
          all_goals (repeat' first | exact ⟨_, triv, rfl, trivial⟩ | exact ⟨_, triv, rfl⟩ | refine ex_split (fun _ => ?_) (fun _ => ?_) | refine ex_ob ?_ ?_)
          all_goals first | exact ⟨_, fun h => (by cases h), rfl, trivial⟩ | rfl | omega | ((try simp only [Nat.add_assoc, Nat.reduceAdd, Nat.add_zero]) <;> first | (rw [ats_take _ _ _ _ hi (by decide)]; rfl) | (rw [ats_nth _ _ _ hi (by decide)]; rfl) | (rw [evs_take _ _ _ _ hi (by decide)]; rfl) | (rw [evs_nth _ _ _ hi (by decide)]; rfl) | (rw [ats_take0 _ _ _ hi (by decide)]; rfl) | (rw [ats_nth0 _ _ hi]; rfl) | (rw [evs_take0 _ _ _ hi (by decide)]; rfl) | (rw [evs_nth0 _ _ hi]; rfl)) | ((try simp only [Nat.add_assoc, Nat.reduceAdd, Nat.add_zero]) <;> first | (rw [ats_take _ _ _ _ hj' (by decide)]; rfl) | (rw [ats_nth _ _ _ hj' (by decide)]; rfl) | (rw [evs_take _ _ _ _ hj' (by decide)]; rfl) | (rw [evs_nth _ _ _ hj' (by decide)]; rfl) | (rw [ats_take0 _ _ _ hj' (by decide)]; rfl) | (rw [ats_nth0 _ _ hj']; rfl) | (rw [evs_take0 _ _ _ hj' (by decide)]; rfl) | (rw [evs_nth0 _ _ hj']; rfl)) | (exfalso; (first | omega | (simp only [decide_eq_true_eq, decide_eq_false_iff_not, Bool.not_eq_true', Bool.not_eq_false'] at *; omega)))
      · refine ex_split (fun h => ?_) (fun _ => ex_imp k0 fun x hx h => ⟨(hx h).1, (hx h).2, fun k h1 h2 => absurd h2 (by omega)⟩)
        exfalso; (first | omega | (simp only [decide_eq_true_eq, decide_eq_false_iff_not, Bool.not_eq_true', Bool.not_eq_false'] at *; omega))
    obtain ⟨x, hR, hx⟩ := H
    exact ⟨x, hR, HT.walk Γ_ok mo_ok (⟨([(94, .val (.agg (nmC (e.attrs.getD j atr0).nm))), (100, .val (.agg (nmC (e.attrs.getD i atr0).nm)))] ++ annL), sp22, hd22 [] [] [] [], dsp22, .pure [] (.bool x)⟩ : Wk) 4000 (by kernel_rfl) hx⟩
theorem evr_h0 (e : Ev) (i : Nat) (he : e.ok) (hi : i ≤ e.attrs.length) (k1 : i < e.attrs.length → ∃ x : Bool, (x = true → (e.kind = 1 ∨ e.kind = 2 ∨ e.kind = 3) ∧ DisF e (i + 1) ∧ ∀ k, 0 ≤ k → k < i → (e.attrs.getD k atr0).nm ≠ (e.attrs.getD i atr0).nm) ∧ HT Tryd.prog Tryd.f22.ntmps (pt Tryd.f22 1) (stE1 e i 0) (EndsA Γ (.pure [] (.bool x)) Tryd.f22)) (hk : e.kind = 1) : ∃ x : Bool, (x = true → (e.kind = 1 ∨ e.kind = 2 ∨ e.kind = 3) ∧ DisF e (i)) ∧ HT Tryd.prog Tryd.f22.ntmps (pt Tryd.f22 0) (stE0 e i) (EndsA Γ (.pure [] (.bool x)) Tryd.f22) := by
    have H : ∃ x : Bool, (x = true → (e.kind = 1 ∨ e.kind = 2 ∨ e.kind = 3) ∧ DisF e (i)) ∧ PT.holds Tryd.prog Tryd.f22.ntmps (EndsA Γ (.pure [] (.bool x)) Tryd.f22) (.split (decide ((↑i : Int) < (↑e.attrs.length : Int))) (.ob ((0 : Int) ≤ (↑i : Int) ∧ (↑i : Int) < (↑e.attrs.length : Int) ∧ (↑i : Int).toNat * (3 : Nat) < (atsC e.attrs).length) (.ob (List.take (2 : Nat) (List.drop ((↑i : Int).toNat * (3 : Nat) + (0 : Nat)) (atsC e.attrs)) = [AV.str (e.attrs.getD i atr0).nm.sp, AV.str (e.attrs.getD i atr0).nm.lo]) (.ob (Ctr Tryd.prog 47 [AV.agg [AV.str (e.attrs.getD i atr0).nm.sp, AV.str (e.attrs.getD i atr0).nm.lo]] (AV.bool (exB Tryd.prog (47 : FuncId) [AV.agg [AV.str (e.attrs.getD i atr0).nm.sp, AV.str (e.attrs.getD i atr0).nm.lo]]))) (.split (exB Tryd.prog (47 : FuncId) [AV.agg [AV.str (e.attrs.getD i atr0).nm.sp, AV.str (e.attrs.getD i atr0).nm.lo]]) (.ob ((0 : Int) ≤ (↑i : Int) ∧ (↑i : Int) < (↑e.attrs.length : Int) ∧ (↑i : Int).toNat * (3 : Nat) < (atsC e.attrs).length) (.ob ((atsC e.attrs)[(↑i : Int).toNat * (3 : Nat) + (2 : Nat)]? = some (AV.str (e.attrs.getD i atr0).v)) (.ob (Ctr Tryd.prog 46 [AV.str (e.attrs.getD i atr0).v] (AV.bool (exB Tryd.prog (46 : FuncId) [AV.str (e.attrs.getD i atr0).v]))) (.split (exB Tryd.prog (46 : FuncId) [AV.str (e.attrs.getD i atr0).v]) (.head (pt Tryd.f22 1) ({ tmps := [(1, AV.ptr 1 0), (4, AV.int .i64 (↑i : Int)), (5, AV.int .i64 (0 : Int))], heap := [(1, .var true (evC e))], tags := [] })) (.ob (false = x) (.tt)))))) (.ob (false = x) (.tt)))))) (.ob (true = x) (.tt))) := by
      simp only [PT.holds, Int.toNat_natCast, atsC_len]
      by_cases h : i < e.attrs.length
      · have ha := he.2.2.2 _ (getD_mem e.attrs i atr0 h)
        have k1' := ex_imp (R' := fun x : Bool => x = true → (e.kind = 1 ∨ e.kind = 2 ∨ e.kind = 3) ∧ DisF e (i)) (k1 h) (fun x hx hh => ⟨(hx hh).1, fun j k h1 h2 h3 => (by
          rcases Nat.lt_or_eq_of_le h1 with h4 | h4
          · exact (hx hh).2.1 j k h4 h2 h3
          · subst h4; exact (hx hh).2.2 j (Nat.zero_le _) h2)⟩)
        (repeat' first | exact ⟨_, triv, rfl, trivial⟩ | exact ⟨_, triv, rfl⟩ | refine ex_split (fun _ => ?_) (fun _ => ?_) | refine ex_ob ?_ ?_)
        all_goals first | exact k1' | ((try simp only [Nat.add_assoc, Nat.reduceAdd, Nat.add_zero]) <;> first | (rw [ats_take _ _ _ _ h (by decide)]; rfl) | (rw [ats_nth _ _ _ h (by decide)]; rfl) | (rw [evs_take _ _ _ _ h (by decide)]; rfl) | (rw [evs_nth _ _ _ h (by decide)]; rfl) | (rw [ats_take0 _ _ _ h (by decide)]; rfl) | (rw [ats_nth0 _ _ h]; rfl) | (rw [evs_take0 _ _ _ h (by decide)]; rfl) | (rw [evs_nth0 _ _ h]; rfl)) | exact exB_ctr (named9_ex _ ha.1) | exact exB_ctr (right_ex _ ha.2) | omega | (first | exact ⟨_, (fun h => absurd h (by decide)), rfl, trivial⟩ | exact ⟨_, (fun h => absurd h (by decide)), rfl⟩) | (exfalso; (first | omega | (simp only [decide_eq_true_eq, decide_eq_false_iff_not, Bool.not_eq_true', Bool.not_eq_false'] at *; omega)))
      · (repeat' first | exact ⟨_, triv, rfl, trivial⟩ | exact ⟨_, triv, rfl⟩ | refine ex_split (fun _ => ?_) (fun _ => ?_) | refine ex_ob ?_ ?_)
        all_goals first | exact ⟨_, fun _ => ⟨.inl hk, fun j k h1 h2 h3 => absurd h3 (by omega)⟩, rfl, trivial⟩ | (exfalso; (first | omega | (simp only [decide_eq_true_eq, decide_eq_false_iff_not, Bool.not_eq_true', Bool.not_eq_false'] at *; omega)))
    obtain ⟨x, hR, hx⟩ := H
    exact ⟨x, hR, HT.walk Γ_ok mo_ok (⟨([(71, .val (.agg (nmC (e.attrs.getD i atr0).nm))), (80, .val (.str (e.attrs.getD i atr0).v))] ++ annL), sp22, hd22 [] [] [] [], dsp22, .pure [] (.bool x)⟩ : Wk) 4000 (by kernel_rfl) hx⟩
theorem evr_l1 (e : Ev) (i : Nat) (hi : i < e.attrs.length) (he : e.attrs.length ≤ 1048600) (k0 : ∃ x : Bool, (x = true → (e.kind = 1 ∨ e.kind = 2 ∨ e.kind = 3) ∧ DisF e (i + 1)) ∧ HT Tryd.prog Tryd.f22.ntmps (pt Tryd.f22 0) (stE0 e (i + 1)) (EndsA Γ (.pure [] (.bool x)) Tryd.f22)) : ∀ d j, j + d = i → ∃ x : Bool, (x = true → (e.kind = 1 ∨ e.kind = 2 ∨ e.kind = 3) ∧ DisF e (i + 1) ∧ ∀ k, j ≤ k → k < i → (e.attrs.getD k atr0).nm ≠ (e.attrs.getD i atr0).nm) ∧ HT Tryd.prog Tryd.f22.ntmps (pt Tryd.f22 1) (stE1 e i j) (EndsA Γ (.pure [] (.bool x)) Tryd.f22) := by
  intro d
  induction d with
  | zero => exact fun j h => evr_h1 e i j (by omega) hi he (fun h => by omega) k0
  | succ d ih => exact fun j h => evr_h1 e i j (by omega) hi he (fun h => ih (j + 1) (by omega)) k0
theorem evr_l0 (e : Ev) (he : e.ok) (hk : e.kind = 1) : ∀ d i, i + d = e.attrs.length → ∃ x : Bool, (x = true → (e.kind = 1 ∨ e.kind = 2 ∨ e.kind = 3) ∧ DisF e (i)) ∧ HT Tryd.prog Tryd.f22.ntmps (pt Tryd.f22 0) (stE0 e i) (EndsA Γ (.pure [] (.bool x)) Tryd.f22) := by
  intro d
  induction d with
  | zero => exact fun i h => evr_h0 e i he (by omega) (fun h => by omega) hk
  | succ d ih => exact fun i h => evr_h0 e i he (by omega) (fun h => evr_l1 e i h he.2.2.1 (ih (i + 1) (by omega)) i 0 (by omega)) hk

end Go.Proofs.YteimloiaipiadaaDoor
end

section
set_option linter.unusedVariables false
set_option linter.unusedSimpArgs false
set_option maxRecDepth 100000
namespace Go.Proofs.YteimloiaipiadaaDoor
open Go Go.AX
noncomputable def annM : List (Nat × Ann) := (1000037, .callF [] (fun args => .bool (exB Tryd.prog 37 args))) :: (1000027, .callF [] (fun args => .bool (exB Tryd.prog 27 args))) :: (1000037, .callF [] (fun args => .bool (exB Tryd.prog 37 args))) :: (1000024, .callF [] (fun args => .bool (exB Tryd.prog 24 args))) :: (1000049, .callF [] (fun args => .bool (exB Tryd.prog 49 args))) :: (1000010, .callF [] (fun args => .bool (exB Tryd.prog 10 args))) :: (1000010, .callF [] (fun args => .bool (exB Tryd.prog 10 args))) :: (1000048, .callF [] (fun args => .int .i64 (exI Tryd.prog 48 args))) :: (1000065, .callF [] (fun args => .int .i64 (exI Tryd.prog 65 args))) :: (1000023, .callF [] (fun args => .int .i64 (exI Tryd.prog 23 args))) :: annL

def stF0 (l : List Ev) (n : Int) (i : Nat) : AS := ⟨[(0, .sl none l.length (evsC l) .no), (3, .int .i64 n), (4, .int .i64 i)], [], []⟩
def stF1 (l : List Ev) (n : Int) (i k : Nat) : AS := ⟨[(0, .sl none l.length (evsC l) .no), (3, .int .i64 n), (4, .int .i64 i), (5, .int .i64 k)], [], []⟩
theorem fewe_h1 (l : List Ev) (n : Int) (i k : Nat) (hi : i < l.length) (hl : l.length ≤ 1048600) (hk : k ≤ 100) (ih : k < 100 → ∃ x : Bool, (Triv) ∧ HT Tryd.prog Tryd.f37.ntmps (pt Tryd.f37 1) (stF1 l n i (k + 1)) (EndsA Γ (.pure [] (.bool x)) Tryd.f37)) (k0 : ∃ x : Bool, (Triv) ∧ HT Tryd.prog Tryd.f37.ntmps (pt Tryd.f37 0) (stF0 l n (i + 1)) (EndsA Γ (.pure [] (.bool x)) Tryd.f37)) : ∃ x : Bool, (Triv) ∧ HT Tryd.prog Tryd.f37.ntmps (pt Tryd.f37 1) (stF1 l n i k) (EndsA Γ (.pure [] (.bool x)) Tryd.f37) := by
    have H : ∃ x : Bool, (Triv) ∧ PT.holds Tryd.prog Tryd.f37.ntmps (EndsA Γ (.pure [] (.bool x)) Tryd.f37) (.ob ((0 : Int) ≤ (↑i : Int) ∧ (↑i : Int) < (↑l.length : Int) ∧ (↑i : Int).toNat * (5 : Nat) < (evsC l).length) (.ob ((evsC l)[(↑i : Int).toNat * (5 : Nat) + (3 : Nat)]? = some (AV.sl none (l.getD i ev0).attrs.length (atsC (l.getD i ev0).attrs) .no)) (.split (decide ((↑k : Int) < (↑(l.getD i ev0).attrs.length : Int))) (.split (decide ((↑k : Int) < (100 : Int))) (.ob ((0 : Int) ≤ (↑i : Int) ∧ (↑i : Int) < (↑l.length : Int) ∧ (↑i : Int).toNat * (5 : Nat) < (evsC l).length) (.ob ((evsC l)[(↑i : Int).toNat * (5 : Nat) + (3 : Nat)]? = some (AV.sl none (l.getD i ev0).attrs.length (atsC (l.getD i ev0).attrs) .no)) (.ob ((0 : Int) ≤ (↑k : Int) ∧ (↑k : Int) < (↑(l.getD i ev0).attrs.length : Int) ∧ (↑k : Int).toNat * (3 : Nat) < (atsC (l.getD i ev0).attrs).length) (.ob ((atsC (l.getD i ev0).attrs)[(↑k : Int).toNat * (3 : Nat) + (2 : Nat)]? = some (AV.str ((l.getD i ev0).attrs.getD k atr0).v)) (.split (decide ((300 : Int) < (↑((l.getD i ev0).attrs.getD k atr0).v.size : Int))) (.ob (false = x) (.tt)) (.ob ((0 : Int) ≤ (↑i : Int) ∧ (↑i : Int) < (↑l.length : Int) ∧ (↑i : Int).toNat * (5 : Nat) < (evsC l).length) (.ob ((evsC l)[(↑i : Int).toNat * (5 : Nat) + (3 : Nat)]? = some (AV.sl none (l.getD i ev0).attrs.length (atsC (l.getD i ev0).attrs) .no)) (.ob ((0 : Int) ≤ (↑k : Int) ∧ (↑k : Int) < (↑(l.getD i ev0).attrs.length : Int) ∧ (↑k : Int).toNat * (3 : Nat) < (atsC (l.getD i ev0).attrs).length) (.ob ((atsC (l.getD i ev0).attrs)[(↑k : Int).toNat * (3 : Nat) + (0 : Nat) + (1 : Nat)]? = some (AV.str ((l.getD i ev0).attrs.getD k atr0).nm.lo)) (.split (decide ((100 : Int) < (↑((l.getD i ev0).attrs.getD k atr0).nm.lo.size : Int))) (.ob (false = x) (.tt)) (.ob ((0 : Int) ≤ (↑i : Int) ∧ (↑i : Int) < (↑l.length : Int) ∧ (↑i : Int).toNat * (5 : Nat) < (evsC l).length) (.ob ((evsC l)[(↑i : Int).toNat * (5 : Nat) + (3 : Nat)]? = some (AV.sl none (l.getD i ev0).attrs.length (atsC (l.getD i ev0).attrs) .no)) (.ob ((0 : Int) ≤ (↑k : Int) ∧ (↑k : Int) < (↑(l.getD i ev0).attrs.length : Int) ∧ (↑k : Int).toNat * (3 : Nat) < (atsC (l.getD i ev0).attrs).length) (.ob ((atsC (l.getD i ev0).attrs)[(↑k : Int).toNat * (3 : Nat) + (0 : Nat) + (0 : Nat)]? = some (AV.str ((l.getD i ev0).attrs.getD k atr0).nm.sp)) (.split (decide ((100 : Int) < (↑((l.getD i ev0).attrs.getD k atr0).nm.sp.size : Int))) (.ob (false = x) (.tt)) (.head (pt Tryd.f37 1) ({ tmps := [(0, AV.sl none l.length (evsC l) .no), (3, AV.int .i64 n), (4, AV.int .i64 (↑i : Int)), (5, AV.int .i64 (IntKind.i64.wrap ((↑k : Int) + (1 : Int))))], heap := [], tags := [] }))))))))))))))))) (.head (pt Tryd.f37 0) ({ tmps := [(0, AV.sl none l.length (evsC l) .no), (3, AV.int .i64 n), (4, AV.int .i64 (IntKind.i64.wrap ((↑i : Int) + (1 : Int))))], heap := [], tags := [] }))) (.head (pt Tryd.f37 0) ({ tmps := [(0, AV.sl none l.length (evsC l) .no), (3, AV.int .i64 n), (4, AV.int .i64 (IntKind.i64.wrap ((↑i : Int) + (1 : Int))))], heap := [], tags := [] }))))) := by
      have w2 : IntKind.i64.wrap ((i : Int) + 1) = ((i + 1 : Nat) : Int) := by rw [i64_wrap (by omega) (by omega)]; rfl
      have w3 : IntKind.i64.wrap ((k : Int) + 1) = ((k + 1 : Nat) : Int) := by rw [i64_wrap (by omega) (by omega)]; rfl
      simp only [PT.holds, w2, w3, Int.toNat_natCast, evsC_len, atsC_len]
      by_cases hka : k < (l.getD i ev0).attrs.length
      · (repeat' first | exact ⟨_, triv, rfl, trivial⟩ | exact ⟨_, triv, rfl⟩ | refine ex_split (fun _ => ?_) (fun _ => ?_) | refine ex_ob ?_ ?_)
        all_goals first | exact ih (by (first | omega | (simp only [decide_eq_true_eq, decide_eq_false_iff_not, Bool.not_eq_true', Bool.not_eq_false'] at *; omega))) | exact k0 | omega | ((try simp only [Nat.add_assoc, Nat.reduceAdd, Nat.add_zero]) <;> first | (rw [ats_nth _ _ _ hi (by decide)]; rfl) | (rw [evs_nth _ _ _ hi (by decide)]; rfl) | (rw [ats_nth0 _ _ hi]; rfl) | (rw [evs_nth0 _ _ hi]; rfl)) | ((try simp only [Nat.add_assoc, Nat.reduceAdd, Nat.add_zero]) <;> first | (rw [ats_nth _ _ _ hka (by decide)]; rfl) | (rw [evs_nth _ _ _ hka (by decide)]; rfl) | (rw [ats_nth0 _ _ hka]; rfl) | (rw [evs_nth0 _ _ hka]; rfl))
      · (repeat' first | exact ⟨_, triv, rfl, trivial⟩ | exact ⟨_, triv, rfl⟩ | refine ex_split (fun _ => ?_) (fun _ => ?_) | refine ex_ob ?_ ?_)
        all_goals first | exact k0 | omega | ((try simp only [Nat.add_assoc, Nat.reduceAdd, Nat.add_zero]) <;> first | (rw [ats_nth _ _ _ hi (by decide)]; rfl) | (rw [evs_nth _ _ _ hi (by decide)]; rfl) | (rw [ats_nth0 _ _ hi]; rfl) | (rw [evs_nth0 _ _ hi]; rfl)) | (exfalso; (first | omega | (simp only [decide_eq_true_eq, decide_eq_false_iff_not, Bool.not_eq_true', Bool.not_eq_false'] at *; omega)))
    obtain ⟨x, hR, hx⟩ := H
    exact ⟨x, hR, HT.walk Γ_ok mo_ok (⟨([(23, .val (.sl none (l.getD i ev0).attrs.length (atsC (l.getD i ev0).attrs) .no)), (30, .val (.str (l.getD i ev0).text)), (39, .val (.str (l.getD i ev0).nm.lo)), (49, .val (.str (l.getD i ev0).nm.sp)), (58, .val (.sl none (l.getD i ev0).attrs.length (atsC (l.getD i ev0).attrs) .no)), (71, .val (.sl none (l.getD i ev0).attrs.length (atsC (l.getD i ev0).attrs) .no)), (83, .val (.sl none (l.getD i ev0).attrs.length (atsC (l.getD i ev0).attrs) .no)), (97, .val (.sl none (l.getD i ev0).attrs.length (atsC (l.getD i ev0).attrs) .no)), (75, .val (.str ((l.getD i ev0).attrs.getD k atr0).v)), (88, .val (.str ((l.getD i ev0).attrs.getD k atr0).nm.lo)), (102, .val (.str ((l.getD i ev0).attrs.getD k atr0).nm.sp))] ++ annM), sp37, hd37 [] [] [] [], [], .pure [] (.bool x)⟩ : Wk) 4000 (by kernel_rfl) hx⟩
theorem fewe_h0 (l : List Ev) (n : Int) (i : Nat) (hl : l.length ≤ 1048600) (k1 : i < l.length → ∀ n', ∃ x : Bool, (Triv) ∧ HT Tryd.prog Tryd.f37.ntmps (pt Tryd.f37 1) (stF1 l n' i 0) (EndsA Γ (.pure [] (.bool x)) Tryd.f37)) : ∃ x : Bool, (Triv) ∧ HT Tryd.prog Tryd.f37.ntmps (pt Tryd.f37 0) (stF0 l n i) (EndsA Γ (.pure [] (.bool x)) Tryd.f37) := by
    have H : ∃ x : Bool, (Triv) ∧ PT.holds Tryd.prog Tryd.f37.ntmps (EndsA Γ (.pure [] (.bool x)) Tryd.f37) (.split (decide ((↑i : Int) < (↑l.length : Int))) (.split (decide (n ≤ (400 : Int))) (.ob ((0 : Int) ≤ (↑i : Int) ∧ (↑i : Int) < (↑l.length : Int) ∧ (↑i : Int).toNat * (5 : Nat) < (evsC l).length) (.ob ((evsC l)[(↑i : Int).toNat * (5 : Nat) + (3 : Nat)]? = some (AV.sl none (l.getD i ev0).attrs.length (atsC (l.getD i ev0).attrs) .no)) (.ob ((0 : Int) ≤ (↑i : Int) ∧ (↑i : Int) < (↑l.length : Int) ∧ (↑i : Int).toNat * (5 : Nat) < (evsC l).length) (.ob ((evsC l)[(↑i : Int).toNat * (5 : Nat) + (4 : Nat)]? = some (AV.str (l.getD i ev0).text)) (.split (decide ((300 : Int) < (↑(l.getD i ev0).text.size : Int))) (.ob (false = x) (.tt)) (.ob ((0 : Int) ≤ (↑i : Int) ∧ (↑i : Int) < (↑l.length : Int) ∧ (↑i : Int).toNat * (5 : Nat) < (evsC l).length) (.ob ((evsC l)[(↑i : Int).toNat * (5 : Nat) + (1 : Nat) + (1 : Nat)]? = some (AV.str (l.getD i ev0).nm.lo)) (.split (decide ((100 : Int) < (↑(l.getD i ev0).nm.lo.size : Int))) (.ob (false = x) (.tt)) (.ob ((0 : Int) ≤ (↑i : Int) ∧ (↑i : Int) < (↑l.length : Int) ∧ (↑i : Int).toNat * (5 : Nat) < (evsC l).length) (.ob ((evsC l)[(↑i : Int).toNat * (5 : Nat) + (1 : Nat) + (0 : Nat)]? = some (AV.str (l.getD i ev0).nm.sp)) (.split (decide ((100 : Int) < (↑(l.getD i ev0).nm.sp.size : Int))) (.ob (false = x) (.tt)) (.head (pt Tryd.f37 1) ({ tmps := [(0, AV.sl none l.length (evsC l) .no), (3, AV.int .i64 (IntKind.i64.wrap (n + (↑(l.getD i ev0).attrs.length : Int)))), (4, AV.int .i64 (↑i : Int)), (5, AV.int .i64 (0 : Int))], heap := [], tags := [] }))))))))))))) (.ob (decide (n ≤ (400 : Int)) = x) (.tt))) (.ob (decide (n ≤ (400 : Int)) = x) (.tt))) := by
      simp only [PT.holds, Int.toNat_natCast, evsC_len, atsC_len]
      by_cases hi : i < l.length
      · (repeat' first | exact ⟨_, triv, rfl, trivial⟩ | exact ⟨_, triv, rfl⟩ | refine ex_split (fun _ => ?_) (fun _ => ?_) | refine ex_ob ?_ ?_)
        all_goals first | exact k1 hi _ | omega | ((try simp only [Nat.add_assoc, Nat.reduceAdd, Nat.add_zero]) <;> first | (rw [ats_nth _ _ _ hi (by decide)]; rfl) | (rw [evs_nth _ _ _ hi (by decide)]; rfl) | (rw [ats_nth0 _ _ hi]; rfl) | (rw [evs_nth0 _ _ hi]; rfl))
      · (repeat' first | exact ⟨_, triv, rfl, trivial⟩ | exact ⟨_, triv, rfl⟩ | refine ex_split (fun _ => ?_) (fun _ => ?_) | refine ex_ob ?_ ?_)
        all_goals first | omega | (exfalso; (first | omega | (simp only [decide_eq_true_eq, decide_eq_false_iff_not, Bool.not_eq_true', Bool.not_eq_false'] at *; omega)))
    obtain ⟨x, hR, hx⟩ := H
    exact ⟨x, hR, HT.walk Γ_ok mo_ok (⟨([(23, .val (.sl none (l.getD i ev0).attrs.length (atsC (l.getD i ev0).attrs) .no)), (30, .val (.str (l.getD i ev0).text)), (39, .val (.str (l.getD i ev0).nm.lo)), (49, .val (.str (l.getD i ev0).nm.sp))] ++ annM), sp37, hd37 [] [] [] [], [], .pure [] (.bool x)⟩ : Wk) 4000 (by kernel_rfl) hx⟩
theorem fewe_l1 (l : List Ev) (n : Int) (i : Nat) (hi : i < l.length) (hl : l.length ≤ 1048600) (k0 : ∃ x : Bool, (Triv) ∧ HT Tryd.prog Tryd.f37.ntmps (pt Tryd.f37 0) (stF0 l n (i + 1)) (EndsA Γ (.pure [] (.bool x)) Tryd.f37)) : ∀ d k, k + d = 100 → ∃ x : Bool, (Triv) ∧ HT Tryd.prog Tryd.f37.ntmps (pt Tryd.f37 1) (stF1 l n i k) (EndsA Γ (.pure [] (.bool x)) Tryd.f37) := by
  intro d
  induction d with
  | zero => exact fun k h => fewe_h1 l n i k hi hl (by omega) (fun h => by omega) k0
  | succ d ih => exact fun k h => fewe_h1 l n i k hi hl (by omega) (fun h => ih (k + 1) (by omega)) k0
theorem fewe_l0 (l : List Ev) (hl : l.length ≤ 1048600) : ∀ d i n, l.length ≤ i + d → ∃ x : Bool, (Triv) ∧ HT Tryd.prog Tryd.f37.ntmps (pt Tryd.f37 0) (stF0 l n i) (EndsA Γ (.pure [] (.bool x)) Tryd.f37) := by
  intro d
  induction d with
  | zero => exact fun i n h => fewe_h0 l n i hl (fun h => by omega)
  | succ d ih => exact fun i n h => fewe_h0 l n i hl (fun h n' => fewe_l1 l n' i h hl (ih (i + 1) n' (by omega)) 100 0 (by omega))

theorem fewe_ex (l : List Ev) (hl : l.length ≤ 1048600) : ∃ x : Bool, (Triv) ∧ Ctr Tryd.prog 37 [.sl none l.length (evsC l) .no] (.bool x) := by
    have H : ∃ x : Bool, (Triv) ∧ PT.holds Tryd.prog Tryd.f37.ntmps (EndsA Γ (.pure [] (.bool x)) Tryd.f37) (.head (pt Tryd.f37 0) ({ tmps := [(0, AV.sl none l.length (evsC l) .no), (3, AV.int .i64 (↑l.length : Int)), (4, AV.int .i64 (0 : Int))], heap := [], tags := [] })) := by
      simp only [PT.holds]
      exact fewe_l0 l hl _ 0 _ (Nat.le_of_eq (Nat.zero_add _).symm)
    obtain ⟨x, hR, hx⟩ := H
    exact ⟨x, hR, Ctr.mk Γ_ok Tryd.func37 (by kernel_rfl) Tryd.call37 [] (by kernel_rfl) (HT.walk Γ_ok mo_ok (⟨annM, sp37, hd37 [] [] [] [], [], .pure [] (.bool x)⟩ : Wk) 4000 (by kernel_rfl) hx)⟩
end Go.Proofs.YteimloiaipiadaaDoor
end

section
set_option linter.unusedVariables false
set_option linter.unusedSimpArgs false
set_option maxRecDepth 100000
namespace Go.Proofs.YteimloiaipiadaaDoor
open Go Go.AX

def stP0 (p : Pth) (m n : Int) (i : Nat) : AS := ⟨[(1, .int .i64 m), (2, .ptr 2 0), (5, .int .i64 n), (6, .int .i64 i)], [(2, .var true (pthL p))], []⟩
def stP1 (p : Pth) (m n : Int) (i : Nat) : AS := ⟨[(1, .int .i64 m), (2, .ptr 2 0), (5, .int .i64 n), (7, .int .i64 i)], [(2, .var true (pthL p))], []⟩
def stQ0 (p : Flt) (m n : Int) (i : Nat) : AS := ⟨[(1, .int .i64 m), (2, .ptr 2 0), (5, .int .i64 n), (6, .int .i64 i)], [(2, .var true (fltL p))], []⟩
def stQ1 (p : Flt) (m n : Int) (i : Nat) : AS := ⟨[(1, .int .i64 m), (2, .ptr 2 0), (5, .int .i64 n), (7, .int .i64 i)], [(2, .var true (fltL p))], []⟩
theorem sub_lt (p q : Pth) (h : q ∈ p.sub) : SizeOf.sizeOf q < SizeOf.sizeOf p := by
  cases p
  have := List.sizeOf_lt_of_mem h
  simp only [Pth.sub] at this
  simp
  omega
theorem test_lt (p : Pth) (q : Flt) (h : q ∈ p.test) : SizeOf.sizeOf q < SizeOf.sizeOf p := by
  cases p
  have := List.sizeOf_lt_of_mem h
  simp only [Pth.test] at this
  simp
  omega
theorem fsub_lt (p q : Flt) (h : q ∈ p.sub) : SizeOf.sizeOf q < SizeOf.sizeOf p := by
  cases p
  have := List.sizeOf_lt_of_mem h
  simp only [Flt.sub] at this
  simp
  omega
theorem way_lt (p : Flt) (q : Pth) (h : q ∈ p.way) : SizeOf.sizeOf q < SizeOf.sizeOf p := by
  cases p
  have := List.sizeOf_lt_of_mem h
  simp only [Flt.way] at this
  simp
  omega

end Go.Proofs.YteimloiaipiadaaDoor
end

section
set_option linter.unusedVariables false
set_option linter.unusedSimpArgs false
set_option maxRecDepth 100000
namespace Go.Proofs.YteimloiaipiadaaDoor
open Go Go.AX

/-- What an event bears, by its kind. -/
structure Ev.nd (e : Ev) : Prop where
  text : e.kind = 2 → e.nm = nm0 ∧ e.attrs = []
  elem : e.kind ≠ 2 → e.text = ⟨#[]⟩
theorem ev_len0 {e : Ev} (h : decide ((e.attrs.length : Int) = 0) = true) : e.attrs = [] := List.eq_nil_of_length_eq_zero (by have := of_decide_eq_true h; omega)
theorem ev_nm0 {e : Ev} (h : (decide (e.nm.sp = ⟨#[]⟩) && (decide (e.nm.lo = ⟨#[]⟩) && true)) = true) : e.nm = nm0 := by
  cases e with
  | mk k n a t =>
    cases n
    simp only [Bool.and_true, Bool.and_eq_true, decide_eq_true_eq] at h
    simp only [nm0, Nm.mk.injEq]
    exact h
theorem evr_none {e : Ev} (h : e.attrs = []) (hk : e.kind = 1 ∨ e.kind = 2 ∨ e.kind = 3) : EvR e := ⟨hk, fun j k h1 h2 h3 => by rw [h] at h3; simp at h3⟩

theorem named12b_ex (n : Nm) (hn : n.ok) : ∃ x : Bool, (x = true → NmOk n) ∧ Ctr Tryd.prog 66 [.agg (nmC n)] (.bool x) := by
    have H : ∃ x : Bool, (x = true → NmOk n) ∧ PT.holds Tryd.prog Tryd.f66.ntmps (EndsA Γ (.pure [] (.bool x)) Tryd.f66) (.split (!decide (n.sp = (ByteArray.mk #[(104 : UInt8), (116 : UInt8), (116 : UInt8), (112 : UInt8), (58 : UInt8), (47 : UInt8), (47 : UInt8), (119 : UInt8), (119 : UInt8), (119 : UInt8), (46 : UInt8), (119 : UInt8), (51 : UInt8), (46 : UInt8), (111 : UInt8), (114 : UInt8), (103 : UInt8), (47 : UInt8), (50 : UInt8), (48 : UInt8), (48 : UInt8), (48 : UInt8), (47 : UInt8), (120 : UInt8), (109 : UInt8), (108 : UInt8), (110 : UInt8), (115 : UInt8), (47 : UInt8)]))) (.ob (Ctr Tryd.prog 64 [AV.str n.lo] (AV.bool (exB Tryd.prog (64 : FuncId) [AV.str n.lo]))) (.split (exB Tryd.prog (64 : FuncId) [AV.str n.lo]) (.ob (Ctr Tryd.prog 46 [AV.str n.lo] (AV.bool (exB Tryd.prog (46 : FuncId) [AV.str n.lo]))) (.split (exB Tryd.prog (46 : FuncId) [AV.str n.lo]) (.ob (Ctr Tryd.prog 46 [AV.str n.sp] (AV.bool (exB Tryd.prog (46 : FuncId) [AV.str n.sp]))) (.split (exB Tryd.prog (46 : FuncId) [AV.str n.sp]) (.ob (Ctr Tryd.prog 78 [AV.str n.sp, AV.int .i64 (0 : Int), AV.str (ByteArray.mk #[(123 : UInt8)])] (AV.int .i64 (exI Tryd.prog (78 : FuncId) [AV.str n.sp, AV.int .i64 (0 : Int), AV.str (ByteArray.mk #[(123 : UInt8)])]))) (.split (decide (exI Tryd.prog (78 : FuncId) [AV.str n.sp, AV.int .i64 (0 : Int), AV.str (ByteArray.mk #[(123 : UInt8)])] < (0 : Int))) (.ob (Ctr Tryd.prog 78 [AV.str n.sp, AV.int .i64 (0 : Int), AV.str (ByteArray.mk #[(125 : UInt8)])] (AV.int .i64 (exI Tryd.prog (78 : FuncId) [AV.str n.sp, AV.int .i64 (0 : Int), AV.str (ByteArray.mk #[(125 : UInt8)])]))) (.ob (decide (exI Tryd.prog (78 : FuncId) [AV.str n.sp, AV.int .i64 (0 : Int), AV.str (ByteArray.mk #[(125 : UInt8)])] < (0 : Int)) = x) (.tt))) (.ob (false = x) (.tt)))) (.ob (false = x) (.tt)))) (.ob (false = x) (.tt)))) (.ob (false = x) (.tt)))) (.ob (false = x) (.tt))) := by
      simp only [PT.holds]
      (repeat' first | exact ⟨_, triv, rfl, trivial⟩ | exact ⟨_, triv, rfl⟩ | refine ex_split (fun _ => ?_) (fun _ => ?_) | refine ex_ob ?_ ?_)
      all_goals first | exact exB_ctr (plain_ex _ hn.2) | exact exB_ctr (right_ex _ hn.1) | exact exB_ctr (right_ex _ hn.2) | exact exI_ctr (find_ex _ _ hn.1 (by decide)) | (first | exact ⟨_, (fun h => absurd h (by decide)), rfl, trivial⟩ | exact ⟨_, (fun h => absurd h (by decide)), rfl⟩) | (first | exact ⟨_, (fun _ => ⟨by have h1 := ‹(!decide (n.sp = _)) = true›; simpa [xmlnsB] using h1, by assumption, by assumption, by assumption⟩), rfl, trivial⟩ | exact ⟨_, (fun _ => ⟨by have h1 := ‹(!decide (n.sp = _)) = true›; simpa [xmlnsB] using h1, by assumption, by assumption, by assumption⟩), rfl⟩)
    obtain ⟨x, hR, hx⟩ := H
    exact ⟨x, hR, Ctr.mk Γ_ok Tryd.func66 (by kernel_rfl) Tryd.call66 [] (by kernel_rfl) (HT.walk Γ_ok mo_ok (⟨annL, sp66, [], [], .pure [] (.bool x)⟩ : Wk) 4000 (by kernel_rfl) hx)⟩
theorem evr2_ex (e : Ev) (he : e.ok) : ∃ x : Bool, (x = true → EvR e ∧ e.nd) ∧ Ctr Tryd.prog 22 [.agg (evC e)] (.bool x) := by
    have H : ∃ x : Bool, (x = true → EvR e ∧ e.nd) ∧ PT.holds Tryd.prog Tryd.f22.ntmps (EndsA Γ (.pure [] (.bool x)) Tryd.f22) (.ob ((3 : Nat) ≤ (5 : Nat)) (.split (decide (e.nm.sp = (ByteArray.mk #[])) && (decide (e.nm.lo = (ByteArray.mk #[])) && true)) (.split (decide (e.kind = (2 : Int))) (.split (decide ((↑e.attrs.length : Int) = (0 : Int))) (.split (!decide (e.text = (ByteArray.mk #[]))) (.ob (Ctr Tryd.prog 46 [AV.str e.text] (AV.bool (exB Tryd.prog (46 : FuncId) [AV.str e.text]))) (.ob (exB Tryd.prog (46 : FuncId) [AV.str e.text] = x) (.tt))) (.ob (false = x) (.tt))) (.ob (false = x) (.tt))) (.split (decide (e.kind = (3 : Int))) (.split (decide ((↑e.attrs.length : Int) = (0 : Int))) (.ob (decide (e.text = (ByteArray.mk #[])) = x) (.tt)) (.ob (false = x) (.tt))) (.split (!decide (e.kind = (1 : Int))) (.ob (false = x) (.tt)) (.split (!decide (e.text = (ByteArray.mk #[]))) (.ob (false = x) (.tt)) (.ob ((3 : Nat) ≤ (5 : Nat)) (.ob (Ctr Tryd.prog 47 [AV.agg [AV.str e.nm.sp, AV.str e.nm.lo]] (AV.bool (exB Tryd.prog (47 : FuncId) [AV.agg [AV.str e.nm.sp, AV.str e.nm.lo]]))) (.split (exB Tryd.prog (47 : FuncId) [AV.agg [AV.str e.nm.sp, AV.str e.nm.lo]]) (.split (decide ((32 : Int) < (↑e.attrs.length : Int))) (.ob (false = x) (.tt)) (.head (pt Tryd.f22 0) ({ tmps := [(1, AV.ptr 1 0), (4, AV.int .i64 (0 : Int))], heap := [(1, .var true (evC e))], tags := [] }))) (.ob (false = x) (.tt))))))))) (.split (decide (e.kind = (2 : Int))) (.split (false) (.split (!decide (e.text = (ByteArray.mk #[]))) (.ob (Ctr Tryd.prog 46 [AV.str e.text] (AV.bool (exB Tryd.prog (46 : FuncId) [AV.str e.text]))) (.ob (exB Tryd.prog (46 : FuncId) [AV.str e.text] = x) (.tt))) (.ob (false = x) (.tt))) (.ob (false = x) (.tt))) (.split (decide (e.kind = (3 : Int))) (.split (false) (.ob (decide (e.text = (ByteArray.mk #[])) = x) (.tt)) (.ob (false = x) (.tt))) (.split (!decide (e.kind = (1 : Int))) (.ob (false = x) (.tt)) (.split (!decide (e.text = (ByteArray.mk #[]))) (.ob (false = x) (.tt)) (.ob ((3 : Nat) ≤ (5 : Nat)) (.ob (Ctr Tryd.prog 47 [AV.agg [AV.str e.nm.sp, AV.str e.nm.lo]] (AV.bool (exB Tryd.prog (47 : FuncId) [AV.agg [AV.str e.nm.sp, AV.str e.nm.lo]]))) (.split (exB Tryd.prog (47 : FuncId) [AV.agg [AV.str e.nm.sp, AV.str e.nm.lo]]) (.split (decide ((32 : Int) < (↑e.attrs.length : Int))) (.ob (false = x) (.tt)) (.head (pt Tryd.f22 0) ({ tmps := [(1, AV.ptr 1 0), (4, AV.int .i64 (0 : Int))], heap := [(1, .var true (evC e))], tags := [] }))) (.ob (false = x) (.tt))))))))))) := by
      simp only [PT.holds, true_implies, Bool.false_eq_true, Bool.true_eq_false, false_implies, true_and, and_true]
      (repeat' first | exact ⟨_, triv, rfl, trivial⟩ | exact ⟨_, triv, rfl⟩ | refine ex_split (fun _ => ?_) (fun _ => ?_) | refine ex_ob ?_ ?_)
      all_goals first | exact exB_ctr (right_ex _ he.2.1) | exact exB_ctr (named9_ex _ he.1) | omega | (first | exact ⟨_, (fun h => absurd h (by decide)), rfl, trivial⟩ | exact ⟨_, (fun h => absurd h (by decide)), rfl⟩) | (first | exact ⟨_, (fun _ => ⟨evr_none (ev_len0 (by assumption)) (.inr (.inl (of_decide_eq_true ‹decide (e.kind = 2) = true›))), ⟨fun _ => ⟨ev_nm0 (by assumption), ev_len0 (by assumption)⟩, fun h => absurd (of_decide_eq_true ‹decide (e.kind = 2) = true›) h⟩⟩), rfl, trivial⟩ | exact ⟨_, (fun _ => ⟨evr_none (ev_len0 (by assumption)) (.inr (.inl (of_decide_eq_true ‹decide (e.kind = 2) = true›))), ⟨fun _ => ⟨ev_nm0 (by assumption), ev_len0 (by assumption)⟩, fun h => absurd (of_decide_eq_true ‹decide (e.kind = 2) = true›) h⟩⟩), rfl⟩) | (first | exact ⟨_, (fun h => ⟨evr_none (ev_len0 (by assumption)) (.inr (.inr (of_decide_eq_true ‹decide (e.kind = 3) = true›))), ⟨fun h2 => absurd h2 (of_decide_eq_false ‹decide (e.kind = 2) = false›), fun _ => of_decide_eq_true h⟩⟩), rfl, trivial⟩ | exact ⟨_, (fun h => ⟨evr_none (ev_len0 (by assumption)) (.inr (.inr (of_decide_eq_true ‹decide (e.kind = 3) = true›))), ⟨fun h2 => absurd h2 (of_decide_eq_false ‹decide (e.kind = 2) = false›), fun _ => of_decide_eq_true h⟩⟩), rfl⟩) | exact ex_imp (evr_l0 e he (by simpa using ‹(!decide (e.kind = 1)) = false›) e.attrs.length 0 (by omega)) (fun x hx h => ⟨hx h, ⟨fun h2 => absurd h2 (of_decide_eq_false ‹decide (e.kind = 2) = false›), fun _ => by simpa using ‹(!decide (e.text = _)) = false›⟩⟩)
    obtain ⟨x, hR, hx⟩ := H
    exact ⟨x, hR, Ctr.mk Γ_ok Tryd.func22 (by kernel_rfl) Tryd.call22 [] (by kernel_rfl) (HT.walk Γ_ok mo_ok (⟨annL, sp22, hd22 [] [] [] [], dsp22, .pure [] (.bool x)⟩ : Wk) 4000 (by kernel_rfl) hx)⟩
end Go.Proofs.YteimloiaipiadaaDoor
end

section
set_option linter.unusedVariables false
set_option linter.unusedSimpArgs false
set_option maxRecDepth 100000
namespace Go.Proofs.YteimloiaipiadaaDoor
open Go Go.AX

theorem nm_chk (n : Nm) : (decide (n.sp = ⟨#[]⟩) && (decide (n.lo = ⟨#[]⟩) && true)) = decide (n = nm0) := by
  cases n
  simp only [Bool.and_true, nm0, Nm.mk.injEq, Bool.decide_and]
theorem f5_of (p : Flt) (hn : Bool) (hni : hn = true ↔ 4 ≤ p.op ∧ p.op ≤ 6) (h : (!hn == !decide (p.nm = nm0)) = false) (hx : hn = true → NmOk p.nm) : ((4 ≤ p.op ∧ p.op ≤ 6) ↔ p.nm ≠ nm0) ∧ (4 ≤ p.op ∧ p.op ≤ 6 → NmOk p.nm) := by
  refine ⟨?_, fun hh => hx (hni.2 hh)⟩
  rw [← hni]
  by_cases e : p.nm = nm0
  · cases hn <;> simp_all
  · cases hn <;> simp_all
def stPa (p : Pth) (m : Int) (i : Nat) : AS := ⟨[(1, .int .i64 m), (2, .ptr 2 0), (7, .int .i64 i)], [(2, .var true (pthL p))], []⟩
def stPf (p : Flt) (m : Int) (i : Nat) : AS := ⟨[(1, .int .i64 m), (2, .ptr 2 0), (9, .int .i64 i)], [(2, .var true (fltL p))], []⟩
def stG (p : Flt) (m lo hi : Int) : AS := ⟨[(1, .int .i64 m), (2, .ptr 2 0), (7, .int .i64 lo), (8, .int .i64 hi)], [(2, .var true (fltL p))], []⟩
def stG9 (p : Flt) (m : Int) : AS := ⟨[(1, .int .i64 m), (2, .ptr 2 0)], [(2, .var true (fltL p))], []⟩
def stG7 (p : Flt) (m : Int) (hv : Bool) : AS := ⟨[(1, .int .i64 m), (2, .ptr 2 0), (6, .bool hv)], [(2, .var true (fltL p))], []⟩
def stG5 (p : Flt) (m : Int) (hn hv : Bool) : AS := ⟨[(1, .int .i64 m), (2, .ptr 2 0), (5, .bool hn), (6, .bool hv)], [(2, .var true (fltL p))], []⟩
def stG4 (p : Flt) (m : Int) (hn : Bool) : AS := ⟨[(1, .int .i64 m), (2, .ptr 2 0), (5, .bool hn)], [(2, .var true (fltL p))], []⟩
theorem stPa_h (p : Pth) (m : Int) (i : Nat) (hi : i ≤ p.sub.length) (hl : p.sub.length ≤ 1048600) (h1 : p.r1) (hs : ∀ k, k < i → (p.sub.getD k pth0).r) (b c : Bool) (hb : i < p.sub.length → (b = true → (p.sub.getD i pth0).r) ∧ Ctr Tryd.prog 24 [.agg (pthL (p.sub.getD i pth0)), .int .i64 (IntKind.i64.wrap (m - 1))] (.bool b)) (hc : 0 < p.test.length → (c = true → (p.test.getD 0 flt0).r) ∧ Ctr Tryd.prog 49 [.agg (fltL (p.test.getD 0 flt0)), .int .i64 (IntKind.i64.wrap (m - 1))] (.bool c)) (ih : i < p.sub.length → (p.sub.getD i pth0).r → ∃ x : Bool, (x = true → p.r) ∧ HT Tryd.prog Tryd.f24.ntmps (pt Tryd.f24 0) (stPa p m (i + 1)) (EndsA Γ (.pure [] (.bool x)) Tryd.f24)) : ∃ x : Bool, (x = true → p.r) ∧ HT Tryd.prog Tryd.f24.ntmps (pt Tryd.f24 0) (stPa p m i) (EndsA Γ (.pure [] (.bool x)) Tryd.f24) := by
    have H : ∃ x : Bool, (x = true → p.r) ∧ PT.holds Tryd.prog Tryd.f24.ntmps (EndsA Γ (.pure [] (.bool x)) Tryd.f24) (.split (decide ((↑i : Int) < (↑p.sub.length : Int))) (.ob ((0 : Int) ≤ (↑i : Int) ∧ (↑i : Int) < (↑p.sub.length : Int) ∧ (↑i : Int).toNat * (3 : Nat) < (pthsC p.sub).length) (.ob (List.take (3 : Nat) (List.drop ((↑i : Int).toNat * (3 : Nat)) (pthsC p.sub)) = (pthL (p.sub.getD i pth0))) (.ob (Ctr Tryd.prog 24 [AV.agg (pthL (p.sub.getD i pth0)), AV.int .i64 (IntKind.i64.wrap (m - (1 : Int)))] (AV.bool b)) (.split (b) (.head (pt Tryd.f24 0) ({ tmps := [(1, AV.int .i64 m), (2, AV.ptr 2 0), (7, AV.int .i64 (IntKind.i64.wrap ((↑i : Int) + (1 : Int))))], heap := [(2, .var true (pthL p))], tags := [] })) (.ob (false = x) (.tt)))))) (.split (decide ((↑p.test.length : Int) = (0 : Int))) (.ob (true = x) (.tt)) (.ob ((0 : Int) ≤ (0 : Int) ∧ (0 : Int) < (↑p.test.length : Int) ∧ Int.toNat (0 : Int) * (6 : Nat) < (fltsC p.test).length) (.ob (List.take (6 : Nat) (List.drop (Int.toNat (0 : Int) * (6 : Nat)) (fltsC p.test)) = (fltL (p.test.getD (0 : Nat) flt0))) (.ob (Ctr Tryd.prog 49 [AV.agg (fltL (p.test.getD (0 : Nat) flt0)), AV.int .i64 (IntKind.i64.wrap (m - (1 : Int)))] (AV.bool c)) (.ob (c = x) (.tt))))))) := by
      simp only [PT.holds, Int.toNat_natCast, Int.toNat_zero, pthsC_len, fltsC_len]
      by_cases h : i < p.sub.length
      · have w2 : IntKind.i64.wrap ((i : Int) + 1) = ((i + 1 : Nat) : Int) := by rw [i64_wrap (by omega) (by omega)]; rfl
        have hb' := hb h
        simp only [w2]
        (repeat' first | exact ⟨_, triv, rfl, trivial⟩ | exact ⟨_, triv, rfl⟩ | refine ex_split (fun _ => ?_) (fun _ => ?_) | refine ex_ob ?_ ?_)
        all_goals first | exact ih h (hb'.1 (by assumption)) | exact hb'.2 | (first | exact ⟨_, (fun h => absurd h (by decide)), rfl, trivial⟩ | exact ⟨_, (fun h => absurd h (by decide)), rfl⟩) | (exfalso; (first | omega | (simp only [decide_eq_true_eq, decide_eq_false_iff_not, Bool.not_eq_true', Bool.not_eq_false'] at *; omega))) | omega | ((try simp only [Nat.add_assoc, Nat.reduceAdd, Nat.add_zero]) <;> first | (rw [ats_take _ _ _ _ h (by decide)]; rfl) | (rw [pths_take _ _ _ _ h (by decide)]; rfl) | (rw [flts_take _ _ _ _ h (by decide)]; rfl) | (rw [ats_take0 _ _ _ h (by decide)]; rfl) | (rw [pths_take0 _ _ _ h (by decide)]; rfl) | (rw [flts_take0 _ _ _ h (by decide)]; rfl))
      · have he : i = p.sub.length := by omega
        have hs' : ∀ k, k < p.sub.length → (p.sub.getD k pth0).r := by rw [← he]; exact hs
        by_cases ht : 0 < p.test.length
        · have hc' := hc ht
          (repeat' first | exact ⟨_, triv, rfl, trivial⟩ | exact ⟨_, triv, rfl⟩ | refine ex_split (fun _ => ?_) (fun _ => ?_) | refine ex_ob ?_ ?_)
          all_goals first | exact hc'.2 | (first | exact ⟨_, (fun hh => Pth.r_of h1 hs' (fun _ => hc'.1 hh)), rfl, trivial⟩ | exact ⟨_, (fun hh => Pth.r_of h1 hs' (fun _ => hc'.1 hh)), rfl⟩) | (exfalso; (first | omega | (simp only [decide_eq_true_eq, decide_eq_false_iff_not, Bool.not_eq_true', Bool.not_eq_false'] at *; omega))) | (first | omega | (simp only [decide_eq_true_eq, decide_eq_false_iff_not, Bool.not_eq_true', Bool.not_eq_false', beq_iff_eq, beq_eq_false_iff_ne, decide_eq_decide, ne_eq, Bool.not_eq_eq_eq_not, Bool.not_true, Bool.not_false] at *; omega)) | ((try simp only [Nat.add_assoc, Nat.reduceAdd, Nat.add_zero]) <;> first | (rw [ats_take _ _ _ _ ht (by decide)]; rfl) | (rw [pths_take _ _ _ _ ht (by decide)]; rfl) | (rw [flts_take _ _ _ _ ht (by decide)]; rfl) | (rw [ats_take0 _ _ _ ht (by decide)]; rfl) | (rw [pths_take0 _ _ _ ht (by decide)]; rfl) | (rw [flts_take0 _ _ _ ht (by decide)]; rfl))
        · (repeat' first | exact ⟨_, triv, rfl, trivial⟩ | exact ⟨_, triv, rfl⟩ | refine ex_split (fun _ => ?_) (fun _ => ?_) | refine ex_ob ?_ ?_)
          all_goals first | (first | exact ⟨_, (fun _ => Pth.r_of h1 hs' (fun hh => absurd hh ht)), rfl, trivial⟩ | exact ⟨_, (fun _ => Pth.r_of h1 hs' (fun hh => absurd hh ht)), rfl⟩) | (exfalso; (first | omega | (simp only [decide_eq_true_eq, decide_eq_false_iff_not, Bool.not_eq_true', Bool.not_eq_false'] at *; omega)))
    obtain ⟨x, hR, hx⟩ := H
    exact ⟨x, hR, HT.walk Γ_ok mo_ok (⟨([(70, .val (.agg (pthL (p.sub.getD i pth0)))), (73, .call [] (.bool b)), (83, .val (.agg (fltL (p.test.getD 0 flt0)))), (86, .call [] (.bool c))] ++ annM), sp24, hd24 [] [] [] [], [], .pure [] (.bool x)⟩ : Wk) 4000 (by kernel_rfl) hx⟩
theorem stPf_h (p : Flt) (m : Int) (i : Nat) (hi : i ≤ p.sub.length) (hl : p.sub.length ≤ 1048600) (h1 : p.r1) (hs : ∀ k, k < i → (p.sub.getD k flt0).r) (b c : Bool) (hb : i < p.sub.length → (b = true → (p.sub.getD i flt0).r) ∧ Ctr Tryd.prog 49 [.agg (fltL (p.sub.getD i flt0)), .int .i64 (IntKind.i64.wrap (m - 1))] (.bool b)) (hc : 0 < p.way.length → (c = true → (p.way.getD 0 pth0).r) ∧ Ctr Tryd.prog 24 [.agg (pthL (p.way.getD 0 pth0)), .int .i64 (IntKind.i64.wrap (m - 1))] (.bool c)) (ih : i < p.sub.length → (p.sub.getD i flt0).r → ∃ x : Bool, (x = true → p.r) ∧ HT Tryd.prog Tryd.f49.ntmps (pt Tryd.f49 0) (stPf p m (i + 1)) (EndsA Γ (.pure [] (.bool x)) Tryd.f49)) : ∃ x : Bool, (x = true → p.r) ∧ HT Tryd.prog Tryd.f49.ntmps (pt Tryd.f49 0) (stPf p m i) (EndsA Γ (.pure [] (.bool x)) Tryd.f49) := by
    have H : ∃ x : Bool, (x = true → p.r) ∧ PT.holds Tryd.prog Tryd.f49.ntmps (EndsA Γ (.pure [] (.bool x)) Tryd.f49) (.split (decide ((↑i : Int) < (↑p.sub.length : Int))) (.ob ((0 : Int) ≤ (↑i : Int) ∧ (↑i : Int) < (↑p.sub.length : Int) ∧ (↑i : Int).toNat * (6 : Nat) < (fltsC p.sub).length) (.ob (List.take (6 : Nat) (List.drop ((↑i : Int).toNat * (6 : Nat)) (fltsC p.sub)) = (fltL (p.sub.getD i flt0))) (.ob (Ctr Tryd.prog 49 [AV.agg (fltL (p.sub.getD i flt0)), AV.int .i64 (IntKind.i64.wrap (m - (1 : Int)))] (AV.bool b)) (.split (b) (.head (pt Tryd.f49 0) ({ tmps := [(1, AV.int .i64 m), (2, AV.ptr 2 0), (9, AV.int .i64 (IntKind.i64.wrap ((↑i : Int) + (1 : Int))))], heap := [(2, .var true (fltL p))], tags := [] })) (.ob (false = x) (.tt)))))) (.split (decide ((↑p.way.length : Int) = (0 : Int))) (.ob (true = x) (.tt)) (.ob ((0 : Int) ≤ (0 : Int) ∧ (0 : Int) < (↑p.way.length : Int) ∧ Int.toNat (0 : Int) * (3 : Nat) < (pthsC p.way).length) (.ob (List.take (3 : Nat) (List.drop (Int.toNat (0 : Int) * (3 : Nat)) (pthsC p.way)) = (pthL (p.way.getD (0 : Nat) pth0))) (.ob (Ctr Tryd.prog 24 [AV.agg (pthL (p.way.getD (0 : Nat) pth0)), AV.int .i64 (IntKind.i64.wrap (m - (1 : Int)))] (AV.bool c)) (.ob (c = x) (.tt))))))) := by
      simp only [PT.holds, Int.toNat_natCast, Int.toNat_zero, fltsC_len, pthsC_len]
      by_cases h : i < p.sub.length
      · have w2 : IntKind.i64.wrap ((i : Int) + 1) = ((i + 1 : Nat) : Int) := by rw [i64_wrap (by omega) (by omega)]; rfl
        have hb' := hb h
        simp only [w2]
        (repeat' first | exact ⟨_, triv, rfl, trivial⟩ | exact ⟨_, triv, rfl⟩ | refine ex_split (fun _ => ?_) (fun _ => ?_) | refine ex_ob ?_ ?_)
        all_goals first | exact ih h (hb'.1 (by assumption)) | exact hb'.2 | (first | exact ⟨_, (fun h => absurd h (by decide)), rfl, trivial⟩ | exact ⟨_, (fun h => absurd h (by decide)), rfl⟩) | (exfalso; (first | omega | (simp only [decide_eq_true_eq, decide_eq_false_iff_not, Bool.not_eq_true', Bool.not_eq_false'] at *; omega))) | omega | ((try simp only [Nat.add_assoc, Nat.reduceAdd, Nat.add_zero]) <;> first | (rw [ats_take _ _ _ _ h (by decide)]; rfl) | (rw [pths_take _ _ _ _ h (by decide)]; rfl) | (rw [flts_take _ _ _ _ h (by decide)]; rfl) | (rw [ats_take0 _ _ _ h (by decide)]; rfl) | (rw [pths_take0 _ _ _ h (by decide)]; rfl) | (rw [flts_take0 _ _ _ h (by decide)]; rfl))
      · have he : i = p.sub.length := by omega
        have hs' : ∀ k, k < p.sub.length → (p.sub.getD k flt0).r := by rw [← he]; exact hs
        by_cases ht : 0 < p.way.length
        · have hc' := hc ht
          (repeat' first | exact ⟨_, triv, rfl, trivial⟩ | exact ⟨_, triv, rfl⟩ | refine ex_split (fun _ => ?_) (fun _ => ?_) | refine ex_ob ?_ ?_)
          all_goals first | exact hc'.2 | (first | exact ⟨_, (fun hh => Flt.r_of h1 hs' (fun _ => hc'.1 hh)), rfl, trivial⟩ | exact ⟨_, (fun hh => Flt.r_of h1 hs' (fun _ => hc'.1 hh)), rfl⟩) | (exfalso; (first | omega | (simp only [decide_eq_true_eq, decide_eq_false_iff_not, Bool.not_eq_true', Bool.not_eq_false'] at *; omega))) | (first | omega | (simp only [decide_eq_true_eq, decide_eq_false_iff_not, Bool.not_eq_true', Bool.not_eq_false', beq_iff_eq, beq_eq_false_iff_ne, decide_eq_decide, ne_eq, Bool.not_eq_eq_eq_not, Bool.not_true, Bool.not_false] at *; omega)) | ((try simp only [Nat.add_assoc, Nat.reduceAdd, Nat.add_zero]) <;> first | (rw [ats_take _ _ _ _ ht (by decide)]; rfl) | (rw [pths_take _ _ _ _ ht (by decide)]; rfl) | (rw [flts_take _ _ _ _ ht (by decide)]; rfl) | (rw [ats_take0 _ _ _ ht (by decide)]; rfl) | (rw [pths_take0 _ _ _ ht (by decide)]; rfl) | (rw [flts_take0 _ _ _ ht (by decide)]; rfl))
        · (repeat' first | exact ⟨_, triv, rfl, trivial⟩ | exact ⟨_, triv, rfl⟩ | refine ex_split (fun _ => ?_) (fun _ => ?_) | refine ex_ob ?_ ?_)
          all_goals first | (first | exact ⟨_, (fun _ => Flt.r_of h1 hs' (fun hh => absurd hh ht)), rfl, trivial⟩ | exact ⟨_, (fun _ => Flt.r_of h1 hs' (fun hh => absurd hh ht)), rfl⟩) | (exfalso; (first | omega | (simp only [decide_eq_true_eq, decide_eq_false_iff_not, Bool.not_eq_true', Bool.not_eq_false'] at *; omega)))
    obtain ⟨x, hR, hx⟩ := H
    exact ⟨x, hR, HT.walk Γ_ok mo_ok (⟨([(126, .val (.agg (fltL (p.sub.getD i flt0)))), (129, .call [] (.bool b)), (139, .val (.agg (pthL (p.way.getD 0 pth0)))), (142, .call [] (.bool c))] ++ annM), sp49, hd49 [] [] [] [], [], .pure [] (.bool x)⟩ : Wk) 4000 (by kernel_rfl) hx⟩
theorem path_p (p : Pth) (m : Int) (k : p.r1 → ∃ x : Bool, (x = true → p.r) ∧ HT Tryd.prog Tryd.f24.ntmps (pt Tryd.f24 0) (stPa p m 0) (EndsA Γ (.pure [] (.bool x)) Tryd.f24)) : ∃ x : Bool, (x = true → p.r) ∧ Ctr Tryd.prog 24 [.agg (pthL p), .int .i64 m] (.bool x) := by
    have H : ∃ x : Bool, (x = true → p.r) ∧ PT.holds Tryd.prog Tryd.f24.ntmps (EndsA Γ (.pure [] (.bool x)) Tryd.f24) (.split (decide (m = (0 : Int))) (.ob (false = x) (.tt)) (.split (decide (p.op < (1 : Int))) (.ob (false = x) (.tt)) (.split (decide ((7 : Int) < p.op)) (.ob (false = x) (.tt)) (.split (decide (p.op = (4 : Int))) (.split (decide (p.op = (6 : Int))) (.split (decide ((↑p.sub.length : Int) < (1 : Int))) (.ob (false = x) (.tt)) (.split (decide ((1 : Int) < (↑p.sub.length : Int))) (.ob (false = x) (.tt)) (.split (!decide (p.op = (7 : Int)) == decide ((↑p.test.length : Int) = (1 : Int))) (.ob (false = x) (.tt)) (.split (decide ((1 : Int) < (↑p.test.length : Int))) (.ob (false = x) (.tt)) (.head (pt Tryd.f24 0) ({ tmps := [(1, AV.int .i64 m), (2, AV.ptr 2 0), (7, AV.int .i64 (0 : Int))], heap := [(2, .var true (pthL p))], tags := [] })))))) (.split (decide ((↑p.sub.length : Int) < (2 : Int))) (.ob (false = x) (.tt)) (.split (decide ((64 : Int) < (↑p.sub.length : Int))) (.ob (false = x) (.tt)) (.split (!decide (p.op = (7 : Int)) == decide ((↑p.test.length : Int) = (1 : Int))) (.ob (false = x) (.tt)) (.split (decide ((1 : Int) < (↑p.test.length : Int))) (.ob (false = x) (.tt)) (.head (pt Tryd.f24 0) ({ tmps := [(1, AV.int .i64 m), (2, AV.ptr 2 0), (7, AV.int .i64 (0 : Int))], heap := [(2, .var true (pthL p))], tags := [] }))))))) (.split (decide (p.op = (5 : Int))) (.split (decide (p.op = (6 : Int))) (.split (decide ((↑p.sub.length : Int) < (1 : Int))) (.ob (false = x) (.tt)) (.split (decide ((1 : Int) < (↑p.sub.length : Int))) (.ob (false = x) (.tt)) (.split (!decide (p.op = (7 : Int)) == decide ((↑p.test.length : Int) = (1 : Int))) (.ob (false = x) (.tt)) (.split (decide ((1 : Int) < (↑p.test.length : Int))) (.ob (false = x) (.tt)) (.head (pt Tryd.f24 0) ({ tmps := [(1, AV.int .i64 m), (2, AV.ptr 2 0), (7, AV.int .i64 (0 : Int))], heap := [(2, .var true (pthL p))], tags := [] })))))) (.split (decide ((↑p.sub.length : Int) < (2 : Int))) (.ob (false = x) (.tt)) (.split (decide ((64 : Int) < (↑p.sub.length : Int))) (.ob (false = x) (.tt)) (.split (!decide (p.op = (7 : Int)) == decide ((↑p.test.length : Int) = (1 : Int))) (.ob (false = x) (.tt)) (.split (decide ((1 : Int) < (↑p.test.length : Int))) (.ob (false = x) (.tt)) (.head (pt Tryd.f24 0) ({ tmps := [(1, AV.int .i64 m), (2, AV.ptr 2 0), (7, AV.int .i64 (0 : Int))], heap := [(2, .var true (pthL p))], tags := [] }))))))) (.split (decide (p.op = (6 : Int))) (.split (decide ((↑p.sub.length : Int) < (1 : Int))) (.ob (false = x) (.tt)) (.split (decide ((1 : Int) < (↑p.sub.length : Int))) (.ob (false = x) (.tt)) (.split (!decide (p.op = (7 : Int)) == decide ((↑p.test.length : Int) = (1 : Int))) (.ob (false = x) (.tt)) (.split (decide ((1 : Int) < (↑p.test.length : Int))) (.ob (false = x) (.tt)) (.head (pt Tryd.f24 0) ({ tmps := [(1, AV.int .i64 m), (2, AV.ptr 2 0), (7, AV.int .i64 (0 : Int))], heap := [(2, .var true (pthL p))], tags := [] })))))) (.split (false) (.ob (false = x) (.tt)) (.split (decide ((0 : Int) < (↑p.sub.length : Int))) (.ob (false = x) (.tt)) (.split (!decide (p.op = (7 : Int)) == decide ((↑p.test.length : Int) = (1 : Int))) (.ob (false = x) (.tt)) (.split (decide ((1 : Int) < (↑p.test.length : Int))) (.ob (false = x) (.tt)) (.head (pt Tryd.f24 0) ({ tmps := [(1, AV.int .i64 m), (2, AV.ptr 2 0), (7, AV.int .i64 (0 : Int))], heap := [(2, .var true (pthL p))], tags := [] })))))))))))) := by
      simp only [PT.holds, true_implies, Bool.false_eq_true, Bool.true_eq_false, false_implies, true_and, and_true]
      (repeat' first | exact ⟨_, triv, rfl, trivial⟩ | exact ⟨_, triv, rfl⟩ | refine ex_split (fun _ => ?_) (fun _ => ?_) | refine ex_ob ?_ ?_)
      all_goals first | (first | exact ⟨_, (fun h => absurd h (by decide)), rfl, trivial⟩ | exact ⟨_, (fun h => absurd h (by decide)), rfl⟩) | (refine k ⟨?_, ?_, ?_, ?_, ?_, ?_⟩ <;> first | (intro _; (first | omega | (simp only [decide_eq_true_eq, decide_eq_false_iff_not, Bool.not_eq_true', Bool.not_eq_false', beq_iff_eq, beq_eq_false_iff_ne, decide_eq_decide, ne_eq, Bool.not_eq_eq_eq_not, Bool.not_true, Bool.not_false] at *; omega))) | (first | omega | (simp only [decide_eq_true_eq, decide_eq_false_iff_not, Bool.not_eq_true', Bool.not_eq_false', beq_iff_eq, beq_eq_false_iff_ne, decide_eq_decide, ne_eq, Bool.not_eq_eq_eq_not, Bool.not_true, Bool.not_false] at *; omega)))
    obtain ⟨x, hR, hx⟩ := H
    exact ⟨x, hR, Ctr.mk Γ_ok Tryd.func24 (by kernel_rfl) Tryd.call24 [] (by kernel_rfl) (HT.walk Γ_ok mo_ok (⟨annM, sp24, hd24 [] [] [] [], [], .pure [] (.bool x)⟩ : Wk) 4000 (by kernel_rfl) hx)⟩
theorem flt_17 (p : Flt) (m lo hi : Int) (h5 : ((4 ≤ p.op ∧ p.op ≤ 6) ↔ p.nm ≠ nm0) ∧ (4 ≤ p.op ∧ p.op ≤ 6 → NmOk p.nm)) (h7 : (¬ (p.op = 6 ∨ p.op = 7) → p.val = ⟨#[]⟩) ∧ (p.op = 7 → p.val ≠ ⟨#[]⟩) ∧ exB Tryd.prog 46 [.str p.val] = true) (ho : 1 ≤ p.op ∧ p.op ≤ 11) (hr : (p.op = 8 ∧ lo = 1 ∧ hi = 1) ∨ ((p.op = 9 ∨ p.op = 10) ∧ lo = 2 ∧ hi = 64) ∨ (p.op ≠ 8 ∧ p.op ≠ 9 ∧ p.op ≠ 10 ∧ lo = 0 ∧ hi = 0)) (k : p.r1 → ∃ x : Bool, (x = true → p.r) ∧ HT Tryd.prog Tryd.f49.ntmps (pt Tryd.f49 0) (stPf p m 0) (EndsA Γ (.pure [] (.bool x)) Tryd.f49)) : ∃ x : Bool, (x = true → p.r) ∧ HT Tryd.prog Tryd.f49.ntmps (pr Tryd.f49 17) (stG p m lo hi) (EndsA Γ (.pure [] (.bool x)) Tryd.f49) := by
    have H : ∃ x : Bool, (x = true → p.r) ∧ PT.holds Tryd.prog Tryd.f49.ntmps (EndsA Γ (.pure [] (.bool x)) Tryd.f49) (.split (decide ((↑p.sub.length : Int) < lo)) (.ob (false = x) (.tt)) (.split (decide (hi < (↑p.sub.length : Int))) (.ob (false = x) (.tt)) (.split (!decide (p.op = (11 : Int)) == decide ((↑p.way.length : Int) = (1 : Int))) (.ob (false = x) (.tt)) (.split (decide ((1 : Int) < (↑p.way.length : Int))) (.ob (false = x) (.tt)) (.head (pt Tryd.f49 0) ({ tmps := [(1, AV.int .i64 m), (2, AV.ptr 2 0), (9, AV.int .i64 (0 : Int))], heap := [(2, .var true (fltL p))], tags := [] })))))) := by
      simp only [PT.holds, true_implies, Bool.false_eq_true, Bool.true_eq_false, false_implies, true_and, and_true]
      (repeat' first | exact ⟨_, triv, rfl, trivial⟩ | exact ⟨_, triv, rfl⟩ | refine ex_split (fun _ => ?_) (fun _ => ?_) | refine ex_ob ?_ ?_)
      all_goals first | (first | exact ⟨_, (fun h => absurd h (by decide)), rfl, trivial⟩ | exact ⟨_, (fun h => absurd h (by decide)), rfl⟩) | (refine k ⟨?_, ?_, ?_, ?_, ?_, ?_, h5.1, h5.2, h7.1, h7.2.1, h7.2.2⟩ <;> first | (intro _; (first | omega | (simp only [decide_eq_true_eq, decide_eq_false_iff_not, Bool.not_eq_true', Bool.not_eq_false', beq_iff_eq, beq_eq_false_iff_ne, decide_eq_decide, ne_eq, Bool.not_eq_eq_eq_not, Bool.not_true, Bool.not_false] at *; omega))) | (first | omega | (simp only [decide_eq_true_eq, decide_eq_false_iff_not, Bool.not_eq_true', Bool.not_eq_false', beq_iff_eq, beq_eq_false_iff_ne, decide_eq_decide, ne_eq, Bool.not_eq_eq_eq_not, Bool.not_true, Bool.not_false] at *; omega)))
    obtain ⟨x, hR, hx⟩ := H
    exact ⟨x, hR, HT.walk Γ_ok mo_ok (⟨annM, sp49, hd49 [] [] [] [], [], .pure [] (.bool x)⟩ : Wk) 4000 (by kernel_rfl) hx⟩
theorem flt_9 (p : Flt) (m : Int) (ho : 1 ≤ p.op ∧ p.op ≤ 11) (k : ∀ lo hi : Int, ((p.op = 8 ∧ lo = 1 ∧ hi = 1) ∨ ((p.op = 9 ∨ p.op = 10) ∧ lo = 2 ∧ hi = 64) ∨ (p.op ≠ 8 ∧ p.op ≠ 9 ∧ p.op ≠ 10 ∧ lo = 0 ∧ hi = 0)) → ∃ x : Bool, (x = true → p.r) ∧ HT Tryd.prog Tryd.f49.ntmps (pr Tryd.f49 17) (stG p m lo hi) (EndsA Γ (.pure [] (.bool x)) Tryd.f49)) : ∃ x : Bool, (x = true → p.r) ∧ HT Tryd.prog Tryd.f49.ntmps (pr Tryd.f49 9) (stG9 p m) (EndsA Γ (.pure [] (.bool x)) Tryd.f49) := by
    have H : ∃ x : Bool, (x = true → p.r) ∧ PT.holds Tryd.prog Tryd.f49.ntmps (EndsA Γ (.pure [] (.bool x)) Tryd.f49) (.split (decide (p.op = (8 : Int))) (.split (decide (p.op = (9 : Int))) (.head (pr Tryd.f49 17) ({ tmps := [(1, AV.int .i64 m), (2, AV.ptr 2 0), (7, AV.int .i64 (2 : Int)), (8, AV.int .i64 (64 : Int))], heap := [(2, .var true (fltL p))], tags := [] })) (.split (decide (p.op = (10 : Int))) (.head (pr Tryd.f49 17) ({ tmps := [(1, AV.int .i64 m), (2, AV.ptr 2 0), (7, AV.int .i64 (2 : Int)), (8, AV.int .i64 (64 : Int))], heap := [(2, .var true (fltL p))], tags := [] })) (.head (pr Tryd.f49 17) ({ tmps := [(1, AV.int .i64 m), (2, AV.ptr 2 0), (7, AV.int .i64 (1 : Int)), (8, AV.int .i64 (1 : Int))], heap := [(2, .var true (fltL p))], tags := [] })))) (.split (decide (p.op = (9 : Int))) (.head (pr Tryd.f49 17) ({ tmps := [(1, AV.int .i64 m), (2, AV.ptr 2 0), (7, AV.int .i64 (2 : Int)), (8, AV.int .i64 (64 : Int))], heap := [(2, .var true (fltL p))], tags := [] })) (.split (decide (p.op = (10 : Int))) (.head (pr Tryd.f49 17) ({ tmps := [(1, AV.int .i64 m), (2, AV.ptr 2 0), (7, AV.int .i64 (2 : Int)), (8, AV.int .i64 (64 : Int))], heap := [(2, .var true (fltL p))], tags := [] })) (.head (pr Tryd.f49 17) ({ tmps := [(1, AV.int .i64 m), (2, AV.ptr 2 0), (7, AV.int .i64 (0 : Int)), (8, AV.int .i64 (0 : Int))], heap := [(2, .var true (fltL p))], tags := [] }))))) := by
      simp only [PT.holds, true_implies, Bool.false_eq_true, Bool.true_eq_false, false_implies, true_and, and_true]
      (repeat' first | exact ⟨_, triv, rfl, trivial⟩ | exact ⟨_, triv, rfl⟩ | refine ex_split (fun _ => ?_) (fun _ => ?_) | refine ex_ob ?_ ?_)
      all_goals (refine k _ _ ?_; first | exact .inl ⟨by (first | omega | (simp only [decide_eq_true_eq, decide_eq_false_iff_not, Bool.not_eq_true', Bool.not_eq_false'] at *; omega)), rfl, rfl⟩ | exact .inr (.inl ⟨by (first | omega | (simp only [decide_eq_true_eq, decide_eq_false_iff_not, Bool.not_eq_true', Bool.not_eq_false'] at *; omega)), rfl, rfl⟩) | exact .inr (.inr ⟨by (first | omega | (simp only [decide_eq_true_eq, decide_eq_false_iff_not, Bool.not_eq_true', Bool.not_eq_false'] at *; omega)), by (first | omega | (simp only [decide_eq_true_eq, decide_eq_false_iff_not, Bool.not_eq_true', Bool.not_eq_false'] at *; omega)), by (first | omega | (simp only [decide_eq_true_eq, decide_eq_false_iff_not, Bool.not_eq_true', Bool.not_eq_false'] at *; omega)), rfl, rfl⟩) | (exfalso; (first | omega | (simp only [decide_eq_true_eq, decide_eq_false_iff_not, Bool.not_eq_true', Bool.not_eq_false'] at *; omega))))
    obtain ⟨x, hR, hx⟩ := H
    exact ⟨x, hR, HT.walk Γ_ok mo_ok (⟨annM, sp49, (hd49 [] [] [] [] ++ [(7000017, ⟨[1, 2, 7, 8], [2], [], [], []⟩)]), [], .pure [] (.bool x)⟩ : Wk) 4000 (by kernel_rfl) hx⟩
theorem flt_7 (p : Flt) (m : Int) (hv : Bool) (hvi : hv = true ↔ p.op = 6 ∨ p.op = 7) (hok : p.ok) (k : (¬ (p.op = 6 ∨ p.op = 7) → p.val = ⟨#[]⟩) ∧ (p.op = 7 → p.val ≠ ⟨#[]⟩) ∧ exB Tryd.prog 46 [.str p.val] = true → ∃ x : Bool, (x = true → p.r) ∧ HT Tryd.prog Tryd.f49.ntmps (pr Tryd.f49 9) (stG9 p m) (EndsA Γ (.pure [] (.bool x)) Tryd.f49)) : ∃ x : Bool, (x = true → p.r) ∧ HT Tryd.prog Tryd.f49.ntmps (pr Tryd.f49 7) (stG7 p m hv) (EndsA Γ (.pure [] (.bool x)) Tryd.f49) := by
    have H : ∃ x : Bool, (x = true → p.r) ∧ PT.holds Tryd.prog Tryd.f49.ntmps (EndsA Γ (.pure [] (.bool x)) Tryd.f49) (.split (hv) (.split (false) (.split (!decide (p.val = (ByteArray.mk #[]))) (.ob (false = x) (.tt)) (.split (decide (p.op = (7 : Int))) (.split (decide (p.val = (ByteArray.mk #[]))) (.ob (false = x) (.tt)) (.ob (Ctr Tryd.prog 46 [AV.str p.val] (AV.bool (exB Tryd.prog (46 : FuncId) [AV.str p.val]))) (.split (exB Tryd.prog (46 : FuncId) [AV.str p.val]) (.head (pr Tryd.f49 9) ({ tmps := [(1, AV.int .i64 m), (2, AV.ptr 2 0)], heap := [(2, .var true (fltL p))], tags := [] })) (.ob (false = x) (.tt))))) (.ob (Ctr Tryd.prog 46 [AV.str p.val] (AV.bool (exB Tryd.prog (46 : FuncId) [AV.str p.val]))) (.split (exB Tryd.prog (46 : FuncId) [AV.str p.val]) (.head (pr Tryd.f49 9) ({ tmps := [(1, AV.int .i64 m), (2, AV.ptr 2 0)], heap := [(2, .var true (fltL p))], tags := [] })) (.ob (false = x) (.tt)))))) (.split (decide (p.op = (7 : Int))) (.split (decide (p.val = (ByteArray.mk #[]))) (.ob (false = x) (.tt)) (.ob (Ctr Tryd.prog 46 [AV.str p.val] (AV.bool (exB Tryd.prog (46 : FuncId) [AV.str p.val]))) (.split (exB Tryd.prog (46 : FuncId) [AV.str p.val]) (.head (pr Tryd.f49 9) ({ tmps := [(1, AV.int .i64 m), (2, AV.ptr 2 0)], heap := [(2, .var true (fltL p))], tags := [] })) (.ob (false = x) (.tt))))) (.ob (Ctr Tryd.prog 46 [AV.str p.val] (AV.bool (exB Tryd.prog (46 : FuncId) [AV.str p.val]))) (.split (exB Tryd.prog (46 : FuncId) [AV.str p.val]) (.head (pr Tryd.f49 9) ({ tmps := [(1, AV.int .i64 m), (2, AV.ptr 2 0)], heap := [(2, .var true (fltL p))], tags := [] })) (.ob (false = x) (.tt)))))) (.split (true) (.split (!decide (p.val = (ByteArray.mk #[]))) (.ob (false = x) (.tt)) (.split (decide (p.op = (7 : Int))) (.split (decide (p.val = (ByteArray.mk #[]))) (.ob (false = x) (.tt)) (.ob (Ctr Tryd.prog 46 [AV.str p.val] (AV.bool (exB Tryd.prog (46 : FuncId) [AV.str p.val]))) (.split (exB Tryd.prog (46 : FuncId) [AV.str p.val]) (.head (pr Tryd.f49 9) ({ tmps := [(1, AV.int .i64 m), (2, AV.ptr 2 0)], heap := [(2, .var true (fltL p))], tags := [] })) (.ob (false = x) (.tt))))) (.ob (Ctr Tryd.prog 46 [AV.str p.val] (AV.bool (exB Tryd.prog (46 : FuncId) [AV.str p.val]))) (.split (exB Tryd.prog (46 : FuncId) [AV.str p.val]) (.head (pr Tryd.f49 9) ({ tmps := [(1, AV.int .i64 m), (2, AV.ptr 2 0)], heap := [(2, .var true (fltL p))], tags := [] })) (.ob (false = x) (.tt)))))) (.split (decide (p.op = (7 : Int))) (.split (decide (p.val = (ByteArray.mk #[]))) (.ob (false = x) (.tt)) (.ob (Ctr Tryd.prog 46 [AV.str p.val] (AV.bool (exB Tryd.prog (46 : FuncId) [AV.str p.val]))) (.split (exB Tryd.prog (46 : FuncId) [AV.str p.val]) (.head (pr Tryd.f49 9) ({ tmps := [(1, AV.int .i64 m), (2, AV.ptr 2 0)], heap := [(2, .var true (fltL p))], tags := [] })) (.ob (false = x) (.tt))))) (.ob (Ctr Tryd.prog 46 [AV.str p.val] (AV.bool (exB Tryd.prog (46 : FuncId) [AV.str p.val]))) (.split (exB Tryd.prog (46 : FuncId) [AV.str p.val]) (.head (pr Tryd.f49 9) ({ tmps := [(1, AV.int .i64 m), (2, AV.ptr 2 0)], heap := [(2, .var true (fltL p))], tags := [] })) (.ob (false = x) (.tt))))))) := by
      simp only [PT.holds, true_implies, Bool.false_eq_true, Bool.true_eq_false, false_implies, true_and, and_true]
      (repeat' first | exact ⟨_, triv, rfl, trivial⟩ | exact ⟨_, triv, rfl⟩ | refine ex_split (fun _ => ?_) (fun _ => ?_) | refine ex_ob ?_ ?_)
      all_goals first | (first | exact ⟨_, (fun h => absurd h (by decide)), rfl, trivial⟩ | exact ⟨_, (fun h => absurd h (by decide)), rfl⟩) | exact exB_ctr (right_ex _ (Flt.ok_i hok).2.1) | (refine k ⟨fun hh => ?_, fun hh => ?_, by assumption⟩ <;> (clear k; simp_all; done))
    obtain ⟨x, hR, hx⟩ := H
    exact ⟨x, hR, HT.walk Γ_ok mo_ok (⟨annM, 54 :: sp49, (hd49 [] [] [] [] ++ [(7000009, ⟨[1, 2], [2], [], [], []⟩)]), [], .pure [] (.bool x)⟩ : Wk) 4000 (by kernel_rfl) hx⟩
theorem flt_5 (p : Flt) (m : Int) (hn hv : Bool) (hni : hn = true ↔ 4 ≤ p.op ∧ p.op ≤ 6) (xn : Bool) (hxn : (xn = true → NmOk p.nm) ∧ Ctr Tryd.prog 66 [.agg (nmC p.nm)] (.bool xn)) (hok : p.ok) (k : ((4 ≤ p.op ∧ p.op ≤ 6) ↔ p.nm ≠ nm0) ∧ (4 ≤ p.op ∧ p.op ≤ 6 → NmOk p.nm) → ∃ x : Bool, (x = true → p.r) ∧ HT Tryd.prog Tryd.f49.ntmps (pr Tryd.f49 7) (stG7 p m hv) (EndsA Γ (.pure [] (.bool x)) Tryd.f49)) : ∃ x : Bool, (x = true → p.r) ∧ HT Tryd.prog Tryd.f49.ntmps (pr Tryd.f49 5) (stG5 p m hn hv) (EndsA Γ (.pure [] (.bool x)) Tryd.f49) := by
    have H : ∃ x : Bool, (x = true → p.r) ∧ PT.holds Tryd.prog Tryd.f49.ntmps (EndsA Γ (.pure [] (.bool x)) Tryd.f49) (.ob ((3 : Nat) ≤ (6 : Nat)) (.split (!hn == !(decide (p.nm.sp = (ByteArray.mk #[])) && (decide (p.nm.lo = (ByteArray.mk #[])) && true))) (.ob (false = x) (.tt)) (.split (hn) (.ob ((3 : Nat) ≤ (6 : Nat)) (.ob (Ctr Tryd.prog 66 [AV.agg [AV.str p.nm.sp, AV.str p.nm.lo]] (AV.bool xn)) (.split (xn) (.head (pr Tryd.f49 7) ({ tmps := [(1, AV.int .i64 m), (2, AV.ptr 2 0), (6, AV.bool hv)], heap := [(2, .var true (fltL p))], tags := [] })) (.ob (false = x) (.tt))))) (.head (pr Tryd.f49 7) ({ tmps := [(1, AV.int .i64 m), (2, AV.ptr 2 0), (6, AV.bool hv)], heap := [(2, .var true (fltL p))], tags := [] }))))) := by
      simp only [PT.holds, nm_chk, true_implies, Bool.false_eq_true, Bool.true_eq_false, false_implies, true_and, and_true]
      (repeat' first | exact ⟨_, triv, rfl, trivial⟩ | exact ⟨_, triv, rfl⟩ | refine ex_split (fun _ => ?_) (fun _ => ?_) | refine ex_ob ?_ ?_)
      all_goals first | (first | exact ⟨_, (fun h => absurd h (by decide)), rfl, trivial⟩ | exact ⟨_, (fun h => absurd h (by decide)), rfl⟩) | exact hxn.2 | exact k (f5_of p hn hni (by assumption) (fun _ => hxn.1 (by assumption))) | exact k (f5_of p hn hni (by assumption) (fun h => by simp_all)) | omega
    obtain ⟨x, hR, hx⟩ := H
    exact ⟨x, hR, HT.walk Γ_ok mo_ok (⟨([(49, .call [] (.bool xn))] ++ annM), sp49, (hd49 [] [] [] [] ++ [(7000007, ⟨[1, 2, 6], [2], [], [], []⟩)]), [], .pure [] (.bool x)⟩ : Wk) 4000 (by kernel_rfl) hx⟩
theorem flt_4 (p : Flt) (m : Int) (hn : Bool) (k : ∀ hv : Bool, (hv = true ↔ p.op = 6 ∨ p.op = 7) → ∃ x : Bool, (x = true → p.r) ∧ HT Tryd.prog Tryd.f49.ntmps (pr Tryd.f49 5) (stG5 p m hn hv) (EndsA Γ (.pure [] (.bool x)) Tryd.f49)) : ∃ x : Bool, (x = true → p.r) ∧ HT Tryd.prog Tryd.f49.ntmps (pr Tryd.f49 4) (stG4 p m hn) (EndsA Γ (.pure [] (.bool x)) Tryd.f49) := by
    have H : ∃ x : Bool, (x = true → p.r) ∧ PT.holds Tryd.prog Tryd.f49.ntmps (EndsA Γ (.pure [] (.bool x)) Tryd.f49) (.split (decide (p.op = (6 : Int))) (.head (pr Tryd.f49 5) ({ tmps := [(1, AV.int .i64 m), (2, AV.ptr 2 0), (5, AV.bool hn), (6, AV.bool true)], heap := [(2, .var true (fltL p))], tags := [] })) (.head (pr Tryd.f49 5) ({ tmps := [(1, AV.int .i64 m), (2, AV.ptr 2 0), (5, AV.bool hn), (6, AV.bool (decide (p.op = (7 : Int))))], heap := [(2, .var true (fltL p))], tags := [] }))) := by
      simp only [PT.holds, true_implies, Bool.false_eq_true, Bool.true_eq_false, false_implies, true_and, and_true]
      (repeat' first | exact ⟨_, triv, rfl, trivial⟩ | exact ⟨_, triv, rfl⟩ | refine ex_split (fun _ => ?_) (fun _ => ?_) | refine ex_ob ?_ ?_)
      all_goals (refine k _ ?_; clear k; simp_all; done)
    obtain ⟨x, hR, hx⟩ := H
    exact ⟨x, hR, HT.walk Γ_ok mo_ok (⟨annM, sp49, (hd49 [] [] [] [] ++ [(7000005, ⟨[1, 2, 5, 6], [2], [], [], []⟩)]), [], .pure [] (.bool x)⟩ : Wk) 4000 (by kernel_rfl) hx⟩
theorem flt_p (p : Flt) (m : Int) (k : 1 ≤ p.op ∧ p.op ≤ 11 → ∀ hn : Bool, (hn = true ↔ 4 ≤ p.op ∧ p.op ≤ 6) → ∃ x : Bool, (x = true → p.r) ∧ HT Tryd.prog Tryd.f49.ntmps (pr Tryd.f49 4) (stG4 p m hn) (EndsA Γ (.pure [] (.bool x)) Tryd.f49)) : ∃ x : Bool, (x = true → p.r) ∧ Ctr Tryd.prog 49 [.agg (fltL p), .int .i64 m] (.bool x) := by
    have H : ∃ x : Bool, (x = true → p.r) ∧ PT.holds Tryd.prog Tryd.f49.ntmps (EndsA Γ (.pure [] (.bool x)) Tryd.f49) (.split (decide (m = (0 : Int))) (.ob (false = x) (.tt)) (.split (decide (p.op < (1 : Int))) (.ob (false = x) (.tt)) (.split (decide ((11 : Int) < p.op)) (.ob (false = x) (.tt)) (.split (decide ((4 : Int) ≤ p.op)) (.head (pr Tryd.f49 4) ({ tmps := [(1, AV.int .i64 m), (2, AV.ptr 2 0), (5, AV.bool (decide (p.op ≤ (6 : Int))))], heap := [(2, .var true (fltL p))], tags := [] })) (.head (pr Tryd.f49 4) ({ tmps := [(1, AV.int .i64 m), (2, AV.ptr 2 0), (5, AV.bool false)], heap := [(2, .var true (fltL p))], tags := [] })))))) := by
      simp only [PT.holds, true_implies, Bool.false_eq_true, Bool.true_eq_false, false_implies, true_and, and_true]
      (repeat' first | exact ⟨_, triv, rfl, trivial⟩ | exact ⟨_, triv, rfl⟩ | refine ex_split (fun _ => ?_) (fun _ => ?_) | refine ex_ob ?_ ?_)
      all_goals first | (first | exact ⟨_, (fun h => absurd h (by decide)), rfl, trivial⟩ | exact ⟨_, (fun h => absurd h (by decide)), rfl⟩) | (refine k (by (first | omega | (simp only [decide_eq_true_eq, decide_eq_false_iff_not, Bool.not_eq_true', Bool.not_eq_false'] at *; omega))) _ ?_; clear k; first | (simp_all; done) | (simp_all; omega))
    obtain ⟨x, hR, hx⟩ := H
    exact ⟨x, hR, Ctr.mk Γ_ok Tryd.func49 (by kernel_rfl) Tryd.call49 [] (by kernel_rfl) (HT.walk Γ_ok mo_ok (⟨annM, sp49, (hd49 [] [] [] [] ++ [(7000004, ⟨[1, 2, 5], [2], [], [], []⟩)]), [], .pure [] (.bool x)⟩ : Wk) 4000 (by kernel_rfl) hx)⟩
end Go.Proofs.YteimloiaipiadaaDoor
end

section
set_option linter.unusedVariables false
set_option linter.unusedSimpArgs false
set_option maxRecDepth 100000
namespace Go.Proofs.YteimloiaipiadaaDoor
open Go Go.AX

theorem path_l (p : Pth) (m : Int) (hl : p.sub.length ≤ 1048600) (h1 : p.r1) (hp : ∀ q ∈ p.sub, ∀ m, ∃ b : Bool, (b = true → q.r) ∧ Ctr Tryd.prog 24 [.agg (pthL q), .int .i64 m] (.bool b)) (hf : ∀ q ∈ p.test, ∀ m, ∃ b : Bool, (b = true → q.r) ∧ Ctr Tryd.prog 49 [.agg (fltL q), .int .i64 m] (.bool b)) : ∀ d i, i + d = p.sub.length → (∀ k, k < i → (p.sub.getD k pth0).r) → ∃ x : Bool, (x = true → p.r) ∧ HT Tryd.prog Tryd.f24.ntmps (pt Tryd.f24 0) (stPa p m i) (EndsA Γ (.pure [] (.bool x)) Tryd.f24) := by
  have hc : ∃ c : Bool, 0 < p.test.length → (c = true → (p.test.getD 0 flt0).r) ∧ Ctr Tryd.prog 49 [.agg (fltL (p.test.getD 0 flt0)), .int .i64 (IntKind.i64.wrap (m - 1))] (.bool c) := by
    by_cases h : 0 < p.test.length
    · obtain ⟨c, h2⟩ := hf _ (getD_mem _ _ flt0 h) (IntKind.i64.wrap (m - 1))
      exact ⟨c, fun _ => h2⟩
    · exact ⟨true, fun hh => absurd hh h⟩
  obtain ⟨c, hc⟩ := hc
  intro d
  induction d with
  | zero => exact fun i h hs => stPa_h p m i (by omega) hl h1 hs true c (fun hh => by omega) hc (fun hh => by omega)
  | succ d ih =>
    intro i h hs
    obtain ⟨b, hb⟩ := hp _ (getD_mem _ i pth0 (by omega)) (IntKind.i64.wrap (m - 1))
    refine stPa_h p m i (by omega) hl h1 hs b c (fun _ => hb) hc (fun hh hr => ih (i + 1) (by omega) fun k hk => ?_)
    rcases Nat.lt_or_eq_of_le (Nat.lt_succ_iff.1 hk) with h2 | h2
    · exact hs k h2
    · rw [h2]; exact hr
theorem flt_l (p : Flt) (m : Int) (hl : p.sub.length ≤ 1048600) (h1 : p.r1) (hp : ∀ q ∈ p.sub, ∀ m, ∃ b : Bool, (b = true → q.r) ∧ Ctr Tryd.prog 49 [.agg (fltL q), .int .i64 m] (.bool b)) (hf : ∀ q ∈ p.way, ∀ m, ∃ b : Bool, (b = true → q.r) ∧ Ctr Tryd.prog 24 [.agg (pthL q), .int .i64 m] (.bool b)) : ∀ d i, i + d = p.sub.length → (∀ k, k < i → (p.sub.getD k flt0).r) → ∃ x : Bool, (x = true → p.r) ∧ HT Tryd.prog Tryd.f49.ntmps (pt Tryd.f49 0) (stPf p m i) (EndsA Γ (.pure [] (.bool x)) Tryd.f49) := by
  have hc : ∃ c : Bool, 0 < p.way.length → (c = true → (p.way.getD 0 pth0).r) ∧ Ctr Tryd.prog 24 [.agg (pthL (p.way.getD 0 pth0)), .int .i64 (IntKind.i64.wrap (m - 1))] (.bool c) := by
    by_cases h : 0 < p.way.length
    · obtain ⟨c, h2⟩ := hf _ (getD_mem _ _ pth0 h) (IntKind.i64.wrap (m - 1))
      exact ⟨c, fun _ => h2⟩
    · exact ⟨true, fun hh => absurd hh h⟩
  obtain ⟨c, hc⟩ := hc
  intro d
  induction d with
  | zero => exact fun i h hs => stPf_h p m i (by omega) hl h1 hs true c (fun hh => by omega) hc (fun hh => by omega)
  | succ d ih =>
    intro i h hs
    obtain ⟨b, hb⟩ := hp _ (getD_mem _ i flt0 (by omega)) (IntKind.i64.wrap (m - 1))
    refine stPf_h p m i (by omega) hl h1 hs b c (fun _ => hb) hc (fun hh hr => ih (i + 1) (by omega) fun k hk => ?_)
    rcases Nat.lt_or_eq_of_le (Nat.lt_succ_iff.1 hk) with h2 | h2
    · exact hs k h2
    · rw [h2]; exact hr

mutual
theorem path_ex (p : Pth) (hok : p.ok) (m : Int) : ∃ b : Bool, (b = true → p.r) ∧ Ctr Tryd.prog 24 [.agg (pthL p), .int .i64 m] (.bool b) :=
  path_p p m fun h1 => path_l p m (Pth.ok_i hok).1 h1 (fun q hq m => have := sub_lt p q hq; path_ex q ((Pth.ok_i hok).2.2.1 q hq) m) (fun q hq m => have := test_lt p q hq; filter_ex q ((Pth.ok_i hok).2.2.2 q hq) m) _ 0 (Nat.zero_add _) (fun k hk => absurd hk (Nat.not_lt_zero _))
termination_by SizeOf.sizeOf p
theorem filter_ex (p : Flt) (hok : p.ok) (m : Int) : ∃ b : Bool, (b = true → p.r) ∧ Ctr Tryd.prog 49 [.agg (fltL p), .int .i64 m] (.bool b) :=
  flt_p p m fun ho hn hni => flt_4 p m hn fun hv hvi => (named12b_ex p.nm (Flt.ok_i hok).1).elim fun xn hxn => flt_5 p m hn hv hni xn hxn hok fun h5 => flt_7 p m hv hvi hok fun h7 => flt_9 p m ho fun lo hi hr => flt_17 p m lo hi h5 h7 ho hr fun h1 =>
    flt_l p m (Flt.ok_i hok).2.2.1 h1 (fun q hq m => have := fsub_lt p q hq; filter_ex q ((Flt.ok_i hok).2.2.2.2.1 q hq) m) (fun q hq m => have := way_lt p q hq; path_ex q ((Flt.ok_i hok).2.2.2.2.2 q hq) m) _ 0 (Nat.zero_add _) (fun k hk => absurd hk (Nat.not_lt_zero _))
termination_by SizeOf.sizeOf p
end

end Go.Proofs.YteimloiaipiadaaDoor
end
