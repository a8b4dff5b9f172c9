import Derived.Test.YteimloiaipiadaaDoorP5
section
set_option linter.unusedVariables false
set_option linter.unusedSimpArgs false
set_option maxRecDepth 100000
namespace Go.Proofs.YteimloiaipiadaaDoor
open Go Go.AX

def stR (s : ByteArray) (at_ n : Nat) : AS := ⟨[(0, .str s), (1, .int .i64 at_), (7, .int .i64 n)], [], []⟩
def stA (s : ByteArray) (at_ : Nat) (l : List Int) : AS := ⟨[(0, .str s), (5, .sl none l.length (l.map (.int .i32)) (.own 1)), (6, .int .i64 at_)], [], [(1, ⟨l.length, 21, 1, none⟩)]⟩
def stP (l : List Int) (i : Nat) : AS := ⟨[(3, .sl (some false) l.length (l.map (.int .i32)) .no), (4, .int .i64 i)], [], []⟩
def stF (s x : ByteArray) (i : Nat) : AS := ⟨[(0, .str s), (2, .str x), (7, .int .i64 i)], [], []⟩
def stQ (l : List Int) (i : Nat) (why : Int) : AS := ⟨[(3, .sl none l.length (l.map (.int .i32)) .no), (5, .int .i64 why), (6, .int .i64 i)], [], []⟩
theorem begins_put (s : ByteArray) (at_ : Nat) (ha : at_ ≤ s.size) (hss : s.size ≤ 1048600) (r : Int) : ∃ x : Bool, Triv ∧ Ctr Tryd.prog 86 [.str s, .int .i64 at_, .sl none (putL r).length ((putL r).map (.int .u8)) .no] (.bool x) := begins_ex s at_ (putL r) (by omega) (by have := putL_le r; omega) hss

theorem rune_h (s : ByteArray) (at_ n : Nat) (hn : 1 ≤ n ∧ n ≤ 5) (ha : at_ < s.size) (hss : s.size ≤ 1048600) (ih : n ≤ 4 → ∃ x : Int × Int × Int, (x.2.2 = 0 → 1 ≤ x.2.1 ∧ x.2.1 ≤ 4 ∧ at_ + x.2.1 ≤ s.size) ∧ HT Tryd.prog Tryd.f74.ntmps (pt Tryd.f74 0) (stR s at_ (n + 1)) (EndsA Γ (.pure [] (.tup [.int .i64 x.1, .int .i64 x.2.1, .int .i64 x.2.2])) Tryd.f74)) : ∃ x : Int × Int × Int, (x.2.2 = 0 → 1 ≤ x.2.1 ∧ x.2.1 ≤ 4 ∧ at_ + x.2.1 ≤ s.size) ∧ HT Tryd.prog Tryd.f74.ntmps (pt Tryd.f74 0) (stR s at_ n) (EndsA Γ (.pure [] (.tup [.int .i64 x.1, .int .i64 x.2.1, .int .i64 x.2.2])) Tryd.f74) := by
    have H : ∃ x : Int × Int × Int, (x.2.2 = 0 → 1 ≤ x.2.1 ∧ x.2.1 ≤ 4 ∧ at_ + x.2.1 ≤ s.size) ∧ PT.holds Tryd.prog Tryd.f74.ntmps (EndsA Γ (.pure [] (.tup [.int .i64 x.1, .int .i64 x.2.1, .int .i64 x.2.2])) Tryd.f74) (.split (decide ((↑n : Int) ≤ (4 : Int))) (.split (decide (IntKind.i64.wrap ((↑at_ : Int) + (↑n : Int)) ≤ (↑s.size : Int))) (.ob ((0 : Int) ≤ (↑at_ : Int) ∧ (↑at_ : Int) < (↑s.size : Int)) (.split (decide ((1 : Int) < (↑n : Int))) (.ob (Ctr Tryd.prog 84 [AV.str s, AV.int .i64 (↑at_ : Int), AV.int .i64 (↑n : Int)] (AV.int .i64 (exI Tryd.prog (84 : FuncId) [AV.str s, AV.int .i64 (↑at_ : Int), AV.int .i64 (↑n : Int)]))) (.ob (Ctr Tryd.prog 85 [AV.int .i64 (exI Tryd.prog (84 : FuncId) [AV.str s, AV.int .i64 (↑at_ : Int), AV.int .i64 (↑n : Int)])] (AV.sl none (putL (exI Tryd.prog (84 : FuncId) [AV.str s, AV.int .i64 (↑at_ : Int), AV.int .i64 (↑n : Int)])).length (List.map (AV.int .u8) (putL (exI Tryd.prog (84 : FuncId) [AV.str s, AV.int .i64 (↑at_ : Int), AV.int .i64 (↑n : Int)]))) .no)) (.split (decide ((↑(putL (exI Tryd.prog (84 : FuncId) [AV.str s, AV.int .i64 (↑at_ : Int), AV.int .i64 (↑n : Int)])).length : Int) = (↑n : Int))) (.ob (Ctr Tryd.prog 86 [AV.str s, AV.int .i64 (↑at_ : Int), AV.sl none (putL (exI Tryd.prog (84 : FuncId) [AV.str s, AV.int .i64 (↑at_ : Int), AV.int .i64 (↑n : Int)])).length (List.map (AV.int .u8) (putL (exI Tryd.prog (84 : FuncId) [AV.str s, AV.int .i64 (↑at_ : Int), AV.int .i64 (↑n : Int)]))) .no] (AV.bool (exB Tryd.prog (86 : FuncId) [AV.str s, AV.int .i64 (↑at_ : Int), AV.sl none (putL (exI Tryd.prog (84 : FuncId) [AV.str s, AV.int .i64 (↑at_ : Int), AV.int .i64 (↑n : Int)])).length (List.map (AV.int .u8) (putL (exI Tryd.prog (84 : FuncId) [AV.str s, AV.int .i64 (↑at_ : Int), AV.int .i64 (↑n : Int)]))) Own.no.tree]))) (.split (exB Tryd.prog (86 : FuncId) [AV.str s, AV.int .i64 (↑at_ : Int), AV.sl none (putL (exI Tryd.prog (84 : FuncId) [AV.str s, AV.int .i64 (↑at_ : Int), AV.int .i64 (↑n : Int)])).length (List.map (AV.int .u8) (putL (exI Tryd.prog (84 : FuncId) [AV.str s, AV.int .i64 (↑at_ : Int), AV.int .i64 (↑n : Int)]))) Own.no.tree]) (.ob (exI Tryd.prog (84 : FuncId) [AV.str s, AV.int .i64 (↑at_ : Int), AV.int .i64 (↑n : Int)] = x.fst) (.ob ((↑n : Int) = x.snd.fst) (.ob ((0 : Int) = x.snd.snd) (.tt)))) (.head (pt Tryd.f74 0) ({ tmps := [(0, AV.str s), (1, AV.int .i64 (↑at_ : Int)), (7, AV.int .i64 (IntKind.i64.wrap ((↑n : Int) + (1 : Int))))], heap := [], tags := [] })))) (.head (pt Tryd.f74 0) ({ tmps := [(0, AV.str s), (1, AV.int .i64 (↑at_ : Int)), (7, AV.int .i64 (IntKind.i64.wrap ((↑n : Int) + (1 : Int))))], heap := [], tags := [] }))))) (.ob (Ctr Tryd.prog 85 [AV.int .i64 (IntKind.i64.wrap (byteAt s (↑at_ : Int)))] (AV.sl none (putL (IntKind.i64.wrap (byteAt s (↑at_ : Int)))).length (List.map (AV.int .u8) (putL (IntKind.i64.wrap (byteAt s (↑at_ : Int))))) .no)) (.split (decide ((↑(putL (IntKind.i64.wrap (byteAt s (↑at_ : Int)))).length : Int) = (↑n : Int))) (.ob (Ctr Tryd.prog 86 [AV.str s, AV.int .i64 (↑at_ : Int), AV.sl none (putL (IntKind.i64.wrap (byteAt s (↑at_ : Int)))).length (List.map (AV.int .u8) (putL (IntKind.i64.wrap (byteAt s (↑at_ : Int))))) .no] (AV.bool (exB Tryd.prog (86 : FuncId) [AV.str s, AV.int .i64 (↑at_ : Int), AV.sl none (putL (IntKind.i64.wrap (byteAt s (↑at_ : Int)))).length (List.map (AV.int .u8) (putL (IntKind.i64.wrap (byteAt s (↑at_ : Int))))) Own.no.tree]))) (.split (exB Tryd.prog (86 : FuncId) [AV.str s, AV.int .i64 (↑at_ : Int), AV.sl none (putL (IntKind.i64.wrap (byteAt s (↑at_ : Int)))).length (List.map (AV.int .u8) (putL (IntKind.i64.wrap (byteAt s (↑at_ : Int))))) Own.no.tree]) (.ob (IntKind.i64.wrap (byteAt s (↑at_ : Int)) = x.fst) (.ob ((↑n : Int) = x.snd.fst) (.ob ((0 : Int) = x.snd.snd) (.tt)))) (.head (pt Tryd.f74 0) ({ tmps := [(0, AV.str s), (1, AV.int .i64 (↑at_ : Int)), (7, AV.int .i64 (IntKind.i64.wrap ((↑n : Int) + (1 : Int))))], heap := [], tags := [] })))) (.head (pt Tryd.f74 0) ({ tmps := [(0, AV.str s), (1, AV.int .i64 (↑at_ : Int)), (7, AV.int .i64 (IntKind.i64.wrap ((↑n : Int) + (1 : Int))))], heap := [], tags := [] })))))) (.ob (Ctr Tryd.prog 87 [AV.str s, AV.int .i64 (↑at_ : Int)] (AV.bool (exB Tryd.prog (87 : FuncId) [AV.str s, AV.int .i64 (↑at_ : Int)]))) (.split (exB Tryd.prog (87 : FuncId) [AV.str s, AV.int .i64 (↑at_ : Int)]) (.ob ((0 : Int) = x.fst) (.ob ((0 : Int) = x.snd.fst) (.ob ((7 : Int) = x.snd.snd) (.tt)))) (.ob ((0 : Int) = x.fst) (.ob ((0 : Int) = x.snd.fst) (.ob ((2 : Int) = x.snd.snd) (.tt))))))) (.ob (Ctr Tryd.prog 87 [AV.str s, AV.int .i64 (↑at_ : Int)] (AV.bool (exB Tryd.prog (87 : FuncId) [AV.str s, AV.int .i64 (↑at_ : Int)]))) (.split (exB Tryd.prog (87 : FuncId) [AV.str s, AV.int .i64 (↑at_ : Int)]) (.ob ((0 : Int) = x.fst) (.ob ((0 : Int) = x.snd.fst) (.ob ((7 : Int) = x.snd.snd) (.tt)))) (.ob ((0 : Int) = x.fst) (.ob ((0 : Int) = x.snd.fst) (.ob ((2 : Int) = x.snd.snd) (.tt))))))) := by
      have w1 : IntKind.i64.wrap ((at_ : Int) + n) = at_ + n := i64_wrap (by omega) (by omega)
      have w2 : IntKind.i64.wrap ((n : Int) + 1) = ((n + 1 : Nat) : Int) := by rw [i64_wrap (by omega) (by omega)]; rfl
      simp only [PT.holds, w1, w2]
      (repeat' first | exact ⟨_, triv, rfl, trivial⟩ | exact ⟨_, triv, rfl⟩ | refine ex_split (fun _ => ?_) (fun _ => ?_) | refine ex_ob ?_ ?_)
      all_goals first | exact exI_ctr (value_ex _ _ _ (by (first | omega | (simp only [decide_eq_true_eq, decide_eq_false_iff_not, Bool.not_eq_true', Bool.not_eq_false'] at *; omega))) hss) | exact put_ctr _ | exact exB_ctr (begins_put s at_ (by omega) hss _) | exact exB_ctr (cut_ex _ _ (by omega) hss) | exact ih (by (first | omega | (simp only [decide_eq_true_eq, decide_eq_false_iff_not, Bool.not_eq_true', Bool.not_eq_false'] at *; omega))) | omega | (refine ⟨(_, _, _), ?_, rfl, rfl, rfl, trivial⟩; intro h0; first | exact absurd h0 (by decide) | (show (1:Int) ≤ n ∧ (n:Int) ≤ 4 ∧ (at_:Int) + n ≤ s.size; (first | omega | (simp only [decide_eq_true_eq, decide_eq_false_iff_not, Bool.not_eq_true', Bool.not_eq_false'] at *; omega))))
    obtain ⟨x, hR, hx⟩ := H
    exact ⟨x, hR, HT.walk Γ_ok mo_ok (⟨annK, sp74, hd74 [] [] [] [], [], .pure [] (.tup [.int .i64 x.1, .int .i64 x.2.1, .int .i64 x.2.2])⟩ : Wk) 4000 (by kernel_rfl) hx⟩
theorem rune_l (s : ByteArray) (at_ : Nat) (ha : at_ < s.size) (hss : s.size ≤ 1048600) : ∀ d n, 1 ≤ n → n + d = 5 → ∃ x : Int × Int × Int, (x.2.2 = 0 → 1 ≤ x.2.1 ∧ x.2.1 ≤ 4 ∧ at_ + x.2.1 ≤ s.size) ∧ HT Tryd.prog Tryd.f74.ntmps (pt Tryd.f74 0) (stR s at_ n) (EndsA Γ (.pure [] (.tup [.int .i64 x.1, .int .i64 x.2.1, .int .i64 x.2.2])) Tryd.f74) := by
  intro d
  induction d with
  | zero => exact fun n h1 h => rune_h s at_ n ⟨h1, by omega⟩ ha hss (fun hi => by omega)
  | succ d ih => exact fun n h1 h => rune_h s at_ n ⟨h1, by omega⟩ ha hss (fun hi => ih (n + 1) (by omega) (by omega))

theorem rune_ex (s : ByteArray) (at_ : Nat) (ha : at_ < s.size) (hss : s.size ≤ 1048600) : ∃ x : Int × Int × Int, (x.2.2 = 0 → 1 ≤ x.2.1 ∧ x.2.1 ≤ 4 ∧ at_ + x.2.1 ≤ s.size) ∧ Ctr Tryd.prog 74 [.str s, .int .i64 at_] (.tup [.int .i64 x.1, .int .i64 x.2.1, .int .i64 x.2.2]) := by
    have H : ∃ x : Int × Int × Int, (x.2.2 = 0 → 1 ≤ x.2.1 ∧ x.2.1 ≤ 4 ∧ at_ + x.2.1 ≤ s.size) ∧ PT.holds Tryd.prog Tryd.f74.ntmps (EndsA Γ (.pure [] (.tup [.int .i64 x.1, .int .i64 x.2.1, .int .i64 x.2.2])) Tryd.f74) (.split (false) (.ob ((0 : Int) = x.fst) (.ob ((0 : Int) = x.snd.fst) (.ob ((7 : Int) = x.snd.snd) (.tt)))) (.split (decide ((↑s.size : Int) ≤ (↑at_ : Int))) (.ob ((0 : Int) = x.fst) (.ob ((0 : Int) = x.snd.fst) (.ob ((7 : Int) = x.snd.snd) (.tt)))) (.head (pt Tryd.f74 0) ({ tmps := [(0, AV.str s), (1, AV.int .i64 (↑at_ : Int)), (7, AV.int .i64 (1 : Int))], heap := [], tags := [] })))) := by
      simp only [PT.holds, true_implies, Bool.false_eq_true, Bool.true_eq_false, false_implies, true_and, and_true]
      (repeat' first | exact ⟨_, triv, rfl, trivial⟩ | exact ⟨_, triv, rfl⟩ | refine ex_split (fun _ => ?_) (fun _ => ?_) | refine ex_ob ?_ ?_)
      all_goals first | exact rune_l s at_ ha hss 4 1 (by omega) (by omega) | exact ⟨(_, _, _), fun h => absurd h (by decide), rfl, rfl, rfl⟩ | (exfalso; (first | omega | (simp only [decide_eq_true_eq, decide_eq_false_iff_not, Bool.not_eq_true', Bool.not_eq_false'] at *; omega)))
    obtain ⟨x, hR, hx⟩ := H
    exact ⟨x, hR, Ctr.mk Γ_ok Tryd.func74 (by kernel_rfl) Tryd.call74 [] (by kernel_rfl) (HT.walk Γ_ok mo_ok (⟨annK, sp74, hd74 [] [] [] [], [], .pure [] (.tup [.int .i64 x.1, .int .i64 x.2.1, .int .i64 x.2.2])⟩ : Wk) 4000 (by kernel_rfl) hx)⟩
theorem all_h (s : ByteArray) (at_ : Nat) (l : List Int) (hl : l.length ≤ at_) (ha : at_ ≤ s.size) (hss : s.size ≤ 1048600) (y : Int × Int × Int) (hy : at_ < s.size → (y.2.2 = 0 → 1 ≤ y.2.1 ∧ y.2.1 ≤ 4 ∧ at_ + y.2.1 ≤ s.size) ∧ Ctr Tryd.prog 74 [.str s, .int .i64 at_] (.tup [.int .i64 y.1, .int .i64 y.2.1, .int .i64 y.2.2])) (ih : at_ < s.size → ∀ (at' : Nat) (r : Int), at_ < at' → at' ≤ s.size → ∃ x : List Int × Int × Int, (x.1.length ≤ s.size) ∧ HT Tryd.prog Tryd.f62.ntmps (pt Tryd.f62 0) (stA s at' (l ++ [r])) (EndsA Γ (.pure [] (.tup [.sl none x.1.length (x.1.map (.int .i32)) .no, .int .i64 x.2.1, .int .i64 x.2.2])) Tryd.f62)) : ∃ x : List Int × Int × Int, (x.1.length ≤ s.size) ∧ HT Tryd.prog Tryd.f62.ntmps (pt Tryd.f62 0) (stA s at_ l) (EndsA Γ (.pure [] (.tup [.sl none x.1.length (x.1.map (.int .i32)) .no, .int .i64 x.2.1, .int .i64 x.2.2])) Tryd.f62) := by
    have H : ∃ x : List Int × Int × Int, (x.1.length ≤ s.size) ∧ PT.holds Tryd.prog Tryd.f62.ntmps (EndsA Γ (.pure [] (.tup [.sl none x.1.length (x.1.map (.int .i32)) .no, .int .i64 x.2.1, .int .i64 x.2.2])) Tryd.f62) (.split (decide ((↑at_ : Int) < (↑s.size : Int))) (.ob (Ctr Tryd.prog 74 [AV.str s, AV.int .i64 (↑at_ : Int)] (AV.tup [AV.int .i64 y.fst, AV.int .i64 y.snd.fst, AV.int .i64 y.snd.snd])) (.split (!decide (y.snd.snd = (0 : Int))) (.ob (l.length = x.fst.length) (.ob (List.map (AV.int .i32) l = List.map (AV.int .i32) x.fst) (.ob ((↑at_ : Int) = x.snd.fst) (.ob (y.snd.snd = x.snd.snd) (.tt))))) (.ob (l.length = l.length) (.ob ((List.map (AV.int .i32) l).length = l.length * ((0 : Nat) + (1 : Nat)) ∧ (splice (repL (List.map zn [AV.int .i32 (0 : Int)]) (1 : Nat)) ((0 : Nat) * (1 : Nat)) (cellsOf (AV.int .i32 (IntKind.i32.wrap y.fst)))).length = (1 : Nat) * ((0 : Nat) + (1 : Nat)) ∧ (l.length + (1 : Nat)) * ((3 : Nat) + (1 : Nat)) ≤ (140737488355328 : Nat)) (.head (pt Tryd.f62 0) ({ tmps := [(0, AV.str s), (5, AV.sl none (l.length + (1 : Nat)) (List.map (AV.int .i32) l ++ splice (repL (List.map zn [AV.int .i32 (0 : Int)]) (1 : Nat)) ((0 : Nat) * (1 : Nat)) (cellsOf (AV.int .i32 (IntKind.i32.wrap y.fst)))) (.own (1 : Nat))), (6, AV.int .i64 (IntKind.i64.wrap ((↑at_ : Int) + y.snd.fst)))], heap := [], tags := [(1, { n := l.length + (1 : Nat), e := (21 : Nat), sz := (1 : Nat) })] })))))) (.ob (l.length = x.fst.length) (.ob (List.map (AV.int .i32) l = List.map (AV.int .i32) x.fst) (.ob ((↑at_ : Int) = x.snd.fst) (.ob ((0 : Int) = x.snd.snd) (.tt)))))) := by
      by_cases h0 : at_ < s.size
      · have ih := ih h0
        obtain ⟨hy1, hy2⟩ := hy h0
        simp only [PT.holds]
        (repeat' first | exact ⟨_, triv, rfl, trivial⟩ | exact ⟨_, triv, rfl⟩ | refine ex_split (fun _ => ?_) (fun _ => ?_) | refine ex_ob ?_ ?_)
        all_goals first | exact hy2 | exact ⟨(_, _, _), (by show l.length ≤ s.size; omega), rfl, rfl, rfl, rfl, trivial⟩ | exact ⟨by simp, rfl, by omega⟩ | trivial | rfl | (exfalso; (first | omega | (simp only [decide_eq_true_eq, decide_eq_false_iff_not, Bool.not_eq_true', Bool.not_eq_false'] at *; omega))) | skip
        have hw : y.2.2 = 0 := by simpa using ‹(!decide (y.2.2 = 0)) = false›
        have hh := hy1 hw
        refine ex_head (ih (at_ + y.2.1.toNat) (IntKind.i32.wrap y.1) (by omega) (by omega)) ?_
        have w1 : IntKind.i64.wrap ((at_ : Int) + y.2.1) = ((at_ + y.2.1.toNat : Nat) : Int) := by rw [i64_wrap (by omega) (by omega)]; omega
        rw [w1]
        simp [stA, splice, repL, cellsOf]
      · simp only [PT.holds]
        (repeat' first | exact ⟨_, triv, rfl, trivial⟩ | exact ⟨_, triv, rfl⟩ | refine ex_split (fun _ => ?_) (fun _ => ?_) | refine ex_ob ?_ ?_)
        all_goals first | (exfalso; (first | omega | (simp only [decide_eq_true_eq, decide_eq_false_iff_not, Bool.not_eq_true', Bool.not_eq_false'] at *; omega))) | exact ⟨(_, _, _), (by show l.length ≤ s.size; omega), rfl, rfl, rfl, rfl, trivial⟩
    obtain ⟨x, hR, hx⟩ := H
    exact ⟨x, hR, HT.walk Γ_ok mo_ok (⟨([(17, .call [] (.tup [.int .i64 y.1, .int .i64 y.2.1, .int .i64 y.2.2]))] ++ annK), sp62, hd62 [(5, 1, 21, 1)] [] [] [], [], .pure [] (.tup [.sl none x.1.length (x.1.map (.int .i32)) .no, .int .i64 x.2.1, .int .i64 x.2.2])⟩ : Wk) 4000 (by kernel_rfl) hx⟩
theorem all_l (s : ByteArray) (hss : s.size ≤ 1048600) : ∀ d at_ l, l.length ≤ at_ → at_ ≤ s.size → s.size ≤ at_ + d → ∃ x : List Int × Int × Int, (x.1.length ≤ s.size) ∧ HT Tryd.prog Tryd.f62.ntmps (pt Tryd.f62 0) (stA s at_ l) (EndsA Γ (.pure [] (.tup [.sl none x.1.length (x.1.map (.int .i32)) .no, .int .i64 x.2.1, .int .i64 x.2.2])) Tryd.f62) := by
  intro d
  induction d with
  | zero => exact fun at_ l h1 h2 h3 => all_h s at_ l h1 h2 hss (0, 0, 0) (fun h => by omega) (fun h => by omega)
  | succ d ih =>
    intro at_ l h1 h2 h3
    by_cases h : at_ < s.size
    · obtain ⟨y, hy⟩ := rune_ex s at_ h hss
      exact all_h s at_ l h1 h2 hss y (fun _ => hy) (fun _ at' r h4 h5 => ih at' _ (by simp; omega) h5 (by omega))
    · exact all_h s at_ l h1 h2 hss (0, 0, 0) (fun h => by omega) (fun h => by omega)

theorem all_ex (s : ByteArray) (hss : s.size ≤ 1048600) : ∃ x : List Int × Int × Int, (x.1.length ≤ s.size) ∧ Ctr Tryd.prog 62 [.str s] (.tup [.sl none x.1.length (x.1.map (.int .i32)) .no, .int .i64 x.2.1, .int .i64 x.2.2]) := by
    have H : ∃ x : List Int × Int × Int, (x.1.length ≤ s.size) ∧ PT.holds Tryd.prog Tryd.f62.ntmps (EndsA Γ (.pure [] (.tup [.sl none x.1.length (x.1.map (.int .i32)) .no, .int .i64 x.2.1, .int .i64 x.2.2])) Tryd.f62) (.head (pt Tryd.f62 0) ({ tmps := [(0, AV.str s), (5, AV.sl none (0 : Nat) [] (.own (1 : Nat))), (6, AV.int .i64 (0 : Int))], heap := [], tags := [(1, { n := (0 : Nat), e := (21 : Nat), sz := (1 : Nat) })] })) := by
      simp only [PT.holds]
      exact all_l s hss s.size 0 [] (Nat.le_refl _) (Nat.zero_le _) (by omega)
    obtain ⟨x, hR, hx⟩ := H
    exact ⟨x, hR, Ctr.mk Γ_ok Tryd.func62 (by kernel_rfl) Tryd.call62 [] (by kernel_rfl) (HT.walk Γ_ok mo_ok (⟨annK, sp62, hd62 [(5, 1, 21, 1)] [] [] [], [], .pure [] (.tup [.sl none x.1.length (x.1.map (.int .i32)) .no, .int .i64 x.2.1, .int .i64 x.2.2])⟩ : Wk) 4000 (by kernel_rfl) hx)⟩
theorem right_h (l : List Int) (i : Nat) (why : Int) (hl : l.length ≤ 1048600) (ih : i < l.length → ∃ x : Bool, (Triv) ∧ HT Tryd.prog Tryd.f46.ntmps (pt Tryd.f46 0) (stQ l (i + 1) why) (EndsA Γ (.pure [] (.bool x)) Tryd.f46)) : ∃ x : Bool, (Triv) ∧ HT Tryd.prog Tryd.f46.ntmps (pt Tryd.f46 0) (stQ l i why) (EndsA Γ (.pure [] (.bool x)) Tryd.f46) := by
    have H : ∃ x : Bool, (Triv) ∧ PT.holds Tryd.prog Tryd.f46.ntmps (EndsA Γ (.pure [] (.bool x)) Tryd.f46) (.split (decide ((↑i : Int) < (↑l.length : Int))) (.ob ((0 : Int) ≤ (↑i : Int) ∧ (↑i : Int) < (↑l.length : Int) ∧ (↑i : Int).toNat * (1 : Nat) < (List.map (AV.int .i32) l).length) (.ob ((List.map (AV.int .i32) l)[(↑i : Int).toNat * (1 : Nat)]? = some (AV.int .i32 (l.getD i (0 : Int)))) (.ob (Ctr Tryd.prog 63 [AV.int .i64 (IntKind.i64.wrap (l.getD i (0 : Int)))] (AV.bool (exB Tryd.prog (63 : FuncId) [AV.int .i64 (IntKind.i64.wrap (l.getD i (0 : Int)))]))) (.split (exB Tryd.prog (63 : FuncId) [AV.int .i64 (IntKind.i64.wrap (l.getD i (0 : Int)))]) (.head (pt Tryd.f46 0) ({ tmps := [(3, AV.sl none l.length (List.map (AV.int .i32) l) .no), (5, AV.int .i64 why), (6, AV.int .i64 (IntKind.i64.wrap ((↑i : Int) + (1 : Int))))], heap := [], tags := [] })) (.ob (false = x) (.tt)))))) (.ob (decide (why = (0 : Int)) = x) (.tt))) := by
      by_cases hi : i < l.length
      · have w2 : IntKind.i64.wrap ((i : Int) + 1) = ((i + 1 : Nat) : Int) := by rw [i64_wrap (by omega) (by omega)]; rfl
        simp only [PT.holds, w2]
        (repeat' first | exact ⟨_, triv, rfl, trivial⟩ | exact ⟨_, triv, rfl⟩ | refine ex_split (fun _ => ?_) (fun _ => ?_) | refine ex_ob ?_ ?_)
        all_goals first | exact ih hi | exact exB_ctr (char_ex _) | omega | simp [hi]
      · simp only [PT.holds]
        (repeat' first | exact ⟨_, triv, rfl, trivial⟩ | exact ⟨_, triv, rfl⟩ | refine ex_split (fun _ => ?_) (fun _ => ?_) | refine ex_ob ?_ ?_)
        all_goals (exfalso; (first | omega | (simp only [decide_eq_true_eq, decide_eq_false_iff_not, Bool.not_eq_true', Bool.not_eq_false'] at *; omega)))
    obtain ⟨x, hR, hx⟩ := H
    exact ⟨x, hR, HT.walk Γ_ok mo_ok (⟨([(22, .val (.int .i32 (l.getD i 0)))] ++ annK), sp46, hd46 [] [] [] [], [], .pure [] (.bool x)⟩ : Wk) 4000 (by kernel_rfl) hx⟩
theorem right_l (l : List Int) (why : Int) (hl : l.length ≤ 1048600) : ∀ d i, l.length ≤ i + d → ∃ x : Bool, (Triv) ∧ HT Tryd.prog Tryd.f46.ntmps (pt Tryd.f46 0) (stQ l i why) (EndsA Γ (.pure [] (.bool x)) Tryd.f46) := by
  intro d
  induction d with
  | zero => exact fun i h => right_h l i why hl (fun hi => by omega)
  | succ d ih => exact fun i h => right_h l i why hl (fun hi => ih (i + 1) (by omega))

theorem right_ex0 (s : ByteArray) (hss : s.size ≤ 1048600) (y : List Int × Int × Int) (hy : y.1.length ≤ s.size) (hc : Ctr Tryd.prog 62 [.str s] (.tup [.sl none y.1.length (y.1.map (.int .i32)) .no, .int .i64 y.2.1, .int .i64 y.2.2])) : ∃ x : Bool, (Triv) ∧ Ctr Tryd.prog 46 [.str s] (.bool x) := by
    have H : ∃ x : Bool, (Triv) ∧ PT.holds Tryd.prog Tryd.f46.ntmps (EndsA Γ (.pure [] (.bool x)) Tryd.f46) (.ob (Ctr Tryd.prog 62 [AV.str s] (AV.tup [AV.sl none y.fst.length (List.map (AV.int .i32) y.fst) .no, AV.int .i64 y.snd.fst, AV.int .i64 y.snd.snd])) (.head (pt Tryd.f46 0) ({ tmps := [(3, AV.sl none y.fst.length (List.map (AV.int .i32) y.fst) .no), (5, AV.int .i64 y.snd.snd), (6, AV.int .i64 (0 : Int))], heap := [], tags := [] }))) := by
      simp only [PT.holds]
      (repeat' first | exact ⟨_, triv, rfl, trivial⟩ | exact ⟨_, triv, rfl⟩ | refine ex_split (fun _ => ?_) (fun _ => ?_) | refine ex_ob ?_ ?_)
      all_goals first | exact hc | exact right_l y.1 y.2.2 (by omega) y.1.length 0 (by omega)
    obtain ⟨x, hR, hx⟩ := H
    exact ⟨x, hR, Ctr.mk Γ_ok Tryd.func46 (by kernel_rfl) Tryd.call46 [] (by kernel_rfl) (HT.walk Γ_ok mo_ok (⟨([(9, .call [] (.tup [.sl none y.1.length (y.1.map (.int .i32)) .no, .int .i64 y.2.1, .int .i64 y.2.2]))] ++ annK), sp46, hd46 [] [] [] [], [], .pure [] (.bool x)⟩ : Wk) 4000 (by kernel_rfl) hx)⟩
theorem right_ex (s : ByteArray) (hss : s.size ≤ 1048600) : ∃ x : Bool, Triv ∧ Ctr Tryd.prog 46 [.str s] (.bool x) := by
  obtain ⟨y, hy, hc⟩ := all_ex s hss
  exact right_ex0 s hss y hy hc

theorem plain_h (l : List Int) (i : Nat) (hl : l.length ≤ 1048600) (ih : i < l.length → ∃ x : Bool, (Triv) ∧ HT Tryd.prog Tryd.f64.ntmps (pt Tryd.f64 0) (stP l (i + 1)) (EndsA Γ (.pure [] (.bool x)) Tryd.f64)) : ∃ x : Bool, (Triv) ∧ HT Tryd.prog Tryd.f64.ntmps (pt Tryd.f64 0) (stP l i) (EndsA Γ (.pure [] (.bool x)) Tryd.f64) := by
    have H : ∃ x : Bool, (Triv) ∧ PT.holds Tryd.prog Tryd.f64.ntmps (EndsA Γ (.pure [] (.bool x)) Tryd.f64) (.split (decide ((↑i : Int) < (↑l.length : Int))) (.ob ((0 : Int) ≤ (↑i : Int) ∧ (↑i : Int) < (↑l.length : Int) ∧ (↑i : Int).toNat * (1 : Nat) < (List.map (AV.int .i32) l).length) (.ob ((List.map (AV.int .i32) l)[(↑i : Int).toNat * (1 : Nat)]? = some (AV.int .i32 (l.getD i (0 : Int)))) (.ob (Ctr Tryd.prog 77 [AV.int .i64 (IntKind.i64.wrap (l.getD i (0 : Int)))] (AV.bool (exB Tryd.prog (77 : FuncId) [AV.int .i64 (IntKind.i64.wrap (l.getD i (0 : Int)))]))) (.split (exB Tryd.prog (77 : FuncId) [AV.int .i64 (IntKind.i64.wrap (l.getD i (0 : Int)))]) (.head (pt Tryd.f64 0) ({ tmps := [(3, AV.sl (some false) l.length (List.map (AV.int .i32) l) .no), (4, AV.int .i64 (IntKind.i64.wrap ((↑i : Int) + (1 : Int))))], heap := [], tags := [] })) (.ob (false = x) (.tt)))))) (.ob (true = x) (.tt))) := by
      by_cases hi : i < l.length
      · have w2 : IntKind.i64.wrap ((i : Int) + 1) = ((i + 1 : Nat) : Int) := by rw [i64_wrap (by omega) (by omega)]; rfl
        simp only [PT.holds, w2]
        (repeat' first | exact ⟨_, triv, rfl, trivial⟩ | exact ⟨_, triv, rfl⟩ | refine ex_split (fun _ => ?_) (fun _ => ?_) | refine ex_ob ?_ ?_)
        all_goals first | exact ih hi | exact exB_ctr (part_ex _) | omega | simp [hi]
      · simp only [PT.holds]
        (repeat' first | exact ⟨_, triv, rfl, trivial⟩ | exact ⟨_, triv, rfl⟩ | refine ex_split (fun _ => ?_) (fun _ => ?_) | refine ex_ob ?_ ?_)
        all_goals (exfalso; (first | omega | (simp only [decide_eq_true_eq, decide_eq_false_iff_not, Bool.not_eq_true', Bool.not_eq_false'] at *; omega)))
    obtain ⟨x, hR, hx⟩ := H
    exact ⟨x, hR, HT.walk Γ_ok mo_ok (⟨([(27, .val (.int .i32 (l.getD i 0)))] ++ annK), sp64, hd64 [] [] [] [], [], .pure [] (.bool x)⟩ : Wk) 4000 (by kernel_rfl) hx⟩
theorem plain_l (l : List Int) (hl : l.length ≤ 1048600) : ∀ d i, l.length ≤ i + d → ∃ x : Bool, (Triv) ∧ HT Tryd.prog Tryd.f64.ntmps (pt Tryd.f64 0) (stP l i) (EndsA Γ (.pure [] (.bool x)) Tryd.f64) := by
  intro d
  induction d with
  | zero => exact fun i h => plain_h l i hl (fun hi => by omega)
  | succ d ih => exact fun i h => plain_h l i hl (fun hi => ih (i + 1) (by omega))

theorem plain_ex (s : ByteArray) (hss : s.size ≤ 1048600) : ∃ x : Bool, (Triv) ∧ Ctr Tryd.prog 64 [.str s] (.bool x) := by
    have H : ∃ x : Bool, (Triv) ∧ PT.holds Tryd.prog Tryd.f64.ntmps (EndsA Γ (.pure [] (.bool x)) Tryd.f64) (.ob (s.size ≤ (9223372036854775807 : Nat)) (.split (decide ((↑(runes s).length : Int) = (0 : Int))) (.ob (false = x) (.tt)) (.ob ((0 : Int) ≤ (0 : Int) ∧ (0 : Int) < (↑(runes s).length : Int) ∧ Int.toNat (0 : Int) * (1 : Nat) < (List.map (AV.int .i32) (runes s)).length) (.ob ((List.map (AV.int .i32) (runes s))[Int.toNat (0 : Int) * (1 : Nat)]? = some (AV.int .i32 ((runes s).getD (0 : Nat) (0 : Int)))) (.ob (Ctr Tryd.prog 76 [AV.int .i64 (IntKind.i64.wrap ((runes s).getD (0 : Nat) (0 : Int)))] (AV.bool (exB Tryd.prog (76 : FuncId) [AV.int .i64 (IntKind.i64.wrap ((runes s).getD (0 : Nat) (0 : Int)))]))) (.split (exB Tryd.prog (76 : FuncId) [AV.int .i64 (IntKind.i64.wrap ((runes s).getD (0 : Nat) (0 : Int)))]) (.head (pt Tryd.f64 0) ({ tmps := [(3, AV.sl (some false) (runes s).length (List.map (AV.int .i32) (runes s)) .no), (4, AV.int .i64 (0 : Int))], heap := [], tags := [] })) (.ob (false = x) (.tt)))))))) := by
      have hl := runesL_len s s.size 0
      by_cases h0 : (runes s).length = 0
      · simp only [PT.holds]
        (repeat' first | exact ⟨_, triv, rfl, trivial⟩ | exact ⟨_, triv, rfl⟩ | refine ex_split (fun _ => ?_) (fun _ => ?_) | refine ex_ob ?_ ?_)
        all_goals first | omega | (exfalso; (first | omega | (simp only [decide_eq_true_eq, decide_eq_false_iff_not, Bool.not_eq_true', Bool.not_eq_false'] at *; omega)))
      · have hp : 0 < (runes s).length := Nat.pos_of_ne_zero h0
        simp only [PT.holds]
        (repeat' first | exact ⟨_, triv, rfl, trivial⟩ | exact ⟨_, triv, rfl⟩ | refine ex_split (fun _ => ?_) (fun _ => ?_) | refine ex_ob ?_ ?_)
        all_goals first | exact plain_l (runes s) (Nat.le_trans hl hss) _ 0 (Nat.le_of_eq (Nat.zero_add _).symm) | exact exB_ctr (start_ex _) | omega | simp [hp]
    obtain ⟨x, hR, hx⟩ := H
    exact ⟨x, hR, Ctr.mk Γ_ok Tryd.func64 (by kernel_rfl) Tryd.call64 [] (by kernel_rfl) (HT.walk Γ_ok mo_ok (⟨([(13, .val (.int .i32 ((runes s).getD 0 0)))] ++ annK), sp64, hd64 [] [] [] [], [], .pure [] (.bool x)⟩ : Wk) 4000 (by kernel_rfl) hx)⟩
theorem find_h (s x : ByteArray) (i : Nat) (hs : s.size ≤ 1048600) (hx : x.size ≤ 1048600) (hi : i ≤ s.size + 1) (ih : i ≤ s.size → ∃ r : Int, (Triv) ∧ HT Tryd.prog Tryd.f78.ntmps (pt Tryd.f78 0) (stF s x (i + 1)) (EndsA Γ (.pure [] (.int .i64 r)) Tryd.f78)) : ∃ r : Int, (Triv) ∧ HT Tryd.prog Tryd.f78.ntmps (pt Tryd.f78 0) (stF s x i) (EndsA Γ (.pure [] (.int .i64 r)) Tryd.f78) := by
    have H : ∃ r : Int, (Triv) ∧ PT.holds Tryd.prog Tryd.f78.ntmps (EndsA Γ (.pure [] (.int .i64 r)) Tryd.f78) (.split (decide (IntKind.i64.wrap ((↑i : Int) + (↑x.size : Int)) ≤ (↑s.size : Int))) (.ob ((0 : Int) ≤ (↑i : Int) ∧ (↑i : Int) ≤ IntKind.i64.wrap ((↑i : Int) + (↑x.size : Int)) ∧ IntKind.i64.wrap ((↑i : Int) + (↑x.size : Int)) ≤ (↑s.size : Int)) (.split (decide (s.extract (↑i : Int).toNat (IntKind.i64.wrap ((↑i : Int) + (↑x.size : Int))).toNat = x)) (.ob ((↑i : Int) = r) (.tt)) (.head (pt Tryd.f78 0) ({ tmps := [(0, AV.str s), (2, AV.str x), (7, AV.int .i64 (IntKind.i64.wrap ((↑i : Int) + (1 : Int))))], heap := [], tags := [] })))) (.ob ((-1 : Int) = r) (.tt))) := by
      have w1 : IntKind.i64.wrap ((i : Int) + x.size) = i + x.size := i64_wrap (by omega) (by omega)
      have w2 : IntKind.i64.wrap ((i : Int) + 1) = ((i + 1 : Nat) : Int) := by rw [i64_wrap (by omega) (by omega)]; rfl
      simp only [PT.holds, w1, w2]
      (repeat' first | exact ⟨_, triv, rfl, trivial⟩ | exact ⟨_, triv, rfl⟩ | refine ex_split (fun _ => ?_) (fun _ => ?_) | refine ex_ob ?_ ?_)
      all_goals first | exact ih (by (first | omega | (simp only [decide_eq_true_eq, decide_eq_false_iff_not, Bool.not_eq_true', Bool.not_eq_false'] at *; omega))) | omega | (first | omega | (simp only [decide_eq_true_eq, decide_eq_false_iff_not, Bool.not_eq_true', Bool.not_eq_false'] at *; omega))
    obtain ⟨r, hR, hx⟩ := H
    exact ⟨r, hR, HT.walk Γ_ok mo_ok (⟨annK, sp78, hd78 [] [] [] [], [], .pure [] (.int .i64 r)⟩ : Wk) 4000 (by kernel_rfl) hx⟩
theorem find_l (s x : ByteArray) (hs : s.size ≤ 1048600) (hx : x.size ≤ 1048600) : ∀ d i, i + d = s.size + 1 → ∃ r : Int, (Triv) ∧ HT Tryd.prog Tryd.f78.ntmps (pt Tryd.f78 0) (stF s x i) (EndsA Γ (.pure [] (.int .i64 r)) Tryd.f78) := by
  intro d
  induction d with
  | zero => exact fun i h => find_h s x i hs hx (by omega) (fun hi => by omega)
  | succ d ih => exact fun i h => find_h s x i hs hx (by omega) (fun hi => ih (i + 1) (by omega))

theorem find_ex (s x : ByteArray) (hs : s.size ≤ 1048600) (hx : x.size ≤ 1048600) : ∃ r : Int, (Triv) ∧ Ctr Tryd.prog 78 [.str s, .int .i64 0, .str x] (.int .i64 r) := by
    have H : ∃ r : Int, (Triv) ∧ PT.holds Tryd.prog Tryd.f78.ntmps (EndsA Γ (.pure [] (.int .i64 r)) Tryd.f78) (.head (pt Tryd.f78 0) ({ tmps := [(0, AV.str s), (2, AV.str x), (7, AV.int .i64 (0 : Int))], heap := [], tags := [] })) := by
      simp only [PT.holds]
      exact find_l s x hs hx _ 0 (Nat.zero_add _)
    obtain ⟨r, hR, hx⟩ := H
    exact ⟨r, hR, Ctr.mk Γ_ok Tryd.func78 (by kernel_rfl) Tryd.call78 [] (by kernel_rfl) (HT.walk Γ_ok mo_ok (⟨annK, sp78, hd78 [] [] [] [], [], .pure [] (.int .i64 r)⟩ : Wk) 4000 (by kernel_rfl) hx)⟩
end Go.Proofs.YteimloiaipiadaaDoor
end

section
set_option linter.unusedVariables false
set_option linter.unusedSimpArgs false
namespace Go.Proofs.YteimloiaipiadaaDoor
open Go Go.AX

/-! ### What is handed in, as plain data, and its cells -/
structure Nm where
  sp : ByteArray
  lo : ByteArray
deriving DecidableEq
structure Atr where
  nm : Nm
  v : ByteArray
deriving DecidableEq
structure Ev where
  kind : Int
  nm : Nm
  attrs : List Atr
  text : ByteArray
inductive Tr
  | mk (isText : Bool) (text : ByteArray) (nm : Nm) (attrs : List Atr) (kids : List Tr)
mutual
inductive Pth
  | mk (op : Int) (sub : List Pth) (test : List Flt)
inductive Flt
  | mk (op : Int) (nm : Nm) (value : ByteArray) (sub : List Flt) (way : List Pth)
end
def nmC (n : Nm) : List AV := [.str n.sp, .str n.lo]
def atC (a : Atr) : List AV := [.str a.nm.sp, .str a.nm.lo, .str a.v]
def atsC (l : List Atr) : List AV := l.flatMap atC
def evC (e : Ev) : List AV := [.int .i64 e.kind, .str e.nm.sp, .str e.nm.lo, .sl none e.attrs.length (atsC e.attrs) .no, .str e.text]
def evsC (l : List Ev) : List AV := l.flatMap evC
mutual
def trC : Tr → List AV
  | .mk b t n a k => [.bool b, .str t, .str n.sp, .str n.lo, .sl none a.length (atsC a) .no, .sl none k.length (trsC k) .no]
def trsC : List Tr → List AV
  | [] => []
  | t :: r => trC t ++ trsC r
end
mutual
def pthC : Pth → List AV
  | .mk op sub test => [.int .i64 op, .sl none sub.length (pthsC sub) .no, .sl none test.length (fltsC test) .no]
def pthsC : List Pth → List AV
  | [] => []
  | t :: r => pthC t ++ pthsC r
def fltC : Flt → List AV
  | .mk op n v sub way => [.int .i64 op, .str n.sp, .str n.lo, .str v, .sl none sub.length (fltsC sub) .no, .sl none way.length (pthsC way) .no]
def fltsC : List Flt → List AV
  | [] => []
  | t :: r => fltC t ++ fltsC r
end
theorem trsC_eq : ∀ l, trsC l = l.flatMap trC
  | [] => by simp [trsC]
  | t :: r => by simp [trsC, trsC_eq r]
theorem pthsC_eq : ∀ l, pthsC l = l.flatMap pthC
  | [] => by simp [pthsC]
  | t :: r => by simp [pthsC, pthsC_eq r]
theorem fltsC_eq : ∀ l, fltsC l = l.flatMap fltC
  | [] => by simp [fltsC]
  | t :: r => by simp [fltsC, fltsC_eq r]
theorem flat_get {α : Type} {f : α → List AV} {k : Nat} (hk : ∀ a, (f a).length = k) : ∀ (l : List α) (i j : Nat), j < k → (l.flatMap f)[i * k + j]? = l[i]?.bind fun a => (f a)[j]?
  | [], i, j, hj => by simp
  | a :: l, 0, j, hj => by
    rw [List.flatMap_cons, List.getElem?_append_left (by rw [hk]; omega)]
    simp
  | a :: l, i + 1, j, hj => by
    have e : (i + 1) * k + j = k + (i * k + j) := by rw [Nat.add_mul, Nat.one_mul]; omega
    rw [List.flatMap_cons, List.getElem?_append_right (by rw [hk, e]; omega), hk, e, Nat.add_sub_cancel_left, flat_get hk l i j hj]
    simp
theorem flat_len {α : Type} {f : α → List AV} {k : Nat} (hk : ∀ a, (f a).length = k) : ∀ (l : List α), (l.flatMap f).length = l.length * k
  | [] => by simp
  | a :: l => by rw [List.flatMap_cons, List.length_append, flat_len hk l, hk, List.length_cons, Nat.add_mul, Nat.one_mul, Nat.add_comm]
theorem atC_len (a : Atr) : (atC a).length = 3 := rfl
theorem evC_len (a : Ev) : (evC a).length = 5 := rfl
theorem trC_len (a : Tr) : (trC a).length = 6 := by cases a; rfl
theorem pthC_len (a : Pth) : (pthC a).length = 3 := by cases a; rfl
theorem fltC_len (a : Flt) : (fltC a).length = 6 := by cases a; rfl
theorem atsC_len (l : List Atr) : (atsC l).length = l.length * 3 := flat_len atC_len l
theorem evsC_len (l : List Ev) : (evsC l).length = l.length * 5 := flat_len evC_len l
theorem pthsC_len (l : List Pth) : (pthsC l).length = l.length * 3 := by rw [pthsC_eq]; exact flat_len pthC_len l
theorem fltsC_len (l : List Flt) : (fltsC l).length = l.length * 6 := by rw [fltsC_eq]; exact flat_len fltC_len l
theorem flat_take {α : Type} {f : α → List AV} {k : Nat} (hk : ∀ a, (f a).length = k) (d : α) (l : List α) (i j m : Nat) (hi : i < l.length) (hm : j + m ≤ k) : ((l.flatMap f).drop (i * k + j)).take m = ((f (l.getD i d)).drop j).take m := by
  apply List.ext_getElem?
  intro n
  rw [List.getElem?_take, List.getElem?_take]
  split
  · rw [List.getElem?_drop, List.getElem?_drop, Nat.add_assoc, flat_get hk l i (j + n) (by omega), List.getElem?_eq_getElem hi, List.getD_eq_getElem?_getD, List.getElem?_eq_getElem hi]
    rfl
  · rfl
theorem flat_nth {α : Type} {f : α → List AV} {k : Nat} (hk : ∀ a, (f a).length = k) (d : α) (l : List α) (i j : Nat) (hi : i < l.length) (hj : j < k) : (l.flatMap f)[i * k + j]? = (f (l.getD i d))[j]? := by
  rw [flat_get hk l i j hj, List.getElem?_eq_getElem hi, List.getD_eq_getElem?_getD, List.getElem?_eq_getElem hi]
  rfl
/-! Texts that are not too long. -/
def Nm.ok (n : Nm) : Prop := n.sp.size ≤ 1048600 ∧ n.lo.size ≤ 1048600
def Atr.ok (a : Atr) : Prop := a.nm.ok ∧ a.v.size ≤ 1048600
def Ev.ok (e : Ev) : Prop := e.nm.ok ∧ e.text.size ≤ 1048600 ∧ e.attrs.length ≤ 1048600 ∧ ∀ a ∈ e.attrs, a.ok
def nm0 : Nm := ⟨⟨#[]⟩, ⟨#[]⟩⟩
def atr0 : Atr := ⟨nm0, ⟨#[]⟩⟩
def ev0 : Ev := ⟨0, nm0, [], ⟨#[]⟩⟩
def pth0 : Pth := .mk 0 [] []
def flt0 : Flt := .mk 0 nm0 ⟨#[]⟩ [] []
def tr0 : Tr := .mk false ⟨#[]⟩ nm0 [] []
def Pth.op : Pth → Int | .mk op _ _ => op
def Pth.sub : Pth → List Pth | .mk _ s _ => s
def Pth.test : Pth → List Flt | .mk _ _ t => t
def Flt.op : Flt → Int | .mk op _ _ _ _ => op
def Flt.nm : Flt → Nm | .mk _ n _ _ _ => n
def Flt.val : Flt → ByteArray | .mk _ _ v _ _ => v
def Flt.sub : Flt → List Flt | .mk _ _ _ s _ => s
def Flt.way : Flt → List Pth | .mk _ _ _ _ w => w
def Tr.isText : Tr → Bool | .mk b _ _ _ _ => b
def Tr.text : Tr → ByteArray | .mk _ t _ _ _ => t
def Tr.nm : Tr → Nm | .mk _ _ n _ _ => n
def Tr.attrs : Tr → List Atr | .mk _ _ _ a _ => a
def Tr.kids : Tr → List Tr | .mk _ _ _ _ k => k
def pthL (p : Pth) : List AV := [.int .i64 p.op, .sl none p.sub.length (pthsC p.sub) .no, .sl none p.test.length (fltsC p.test) .no]
def fltL (f : Flt) : List AV := [.int .i64 f.op, .str f.nm.sp, .str f.nm.lo, .str f.val, .sl none f.sub.length (fltsC f.sub) .no, .sl none f.way.length (pthsC f.way) .no]
def trL (t : Tr) : List AV := [.bool t.isText, .str t.text, .str t.nm.sp, .str t.nm.lo, .sl none t.attrs.length (atsC t.attrs) .no, .sl none t.kids.length (trsC t.kids) .no]
theorem pthC_L (p : Pth) : pthC p = pthL p := by cases p; rfl
theorem fltC_L (p : Flt) : fltC p = fltL p := by cases p; rfl
theorem trC_L (p : Tr) : trC p = trL p := by cases p; rfl
theorem ats_take (l : List Atr) (i j m : Nat) (hi : i < l.length) (hm : j + m ≤ 3) : ((atsC l).drop (i * 3 + j)).take m = ((atC (l.getD i atr0)).drop j).take m := flat_take atC_len atr0 l i j m hi hm
theorem ats_nth (l : List Atr) (i j : Nat) (hi : i < l.length) (hj : j < 3) : (atsC l)[i * 3 + j]? = (atC (l.getD i atr0))[j]? := flat_nth atC_len atr0 l i j hi hj
theorem evs_take (l : List Ev) (i j m : Nat) (hi : i < l.length) (hm : j + m ≤ 5) : ((evsC l).drop (i * 5 + j)).take m = ((evC (l.getD i ev0)).drop j).take m := flat_take evC_len ev0 l i j m hi hm
theorem evs_nth (l : List Ev) (i j : Nat) (hi : i < l.length) (hj : j < 5) : (evsC l)[i * 5 + j]? = (evC (l.getD i ev0))[j]? := flat_nth evC_len ev0 l i j hi hj
theorem trs_take (l : List Tr) (i j m : Nat) (hi : i < l.length) (hm : j + m ≤ 6) : ((trsC l).drop (i * 6 + j)).take m = ((trL (l.getD i tr0)).drop j).take m := by rw [trsC_eq, ← trC_L]; exact flat_take trC_len tr0 l i j m hi hm
theorem trs_nth (l : List Tr) (i j : Nat) (hi : i < l.length) (hj : j < 6) : (trsC l)[i * 6 + j]? = (trL (l.getD i tr0))[j]? := by rw [trsC_eq, ← trC_L]; exact flat_nth trC_len tr0 l i j hi hj
theorem pths_take (l : List Pth) (i j m : Nat) (hi : i < l.length) (hm : j + m ≤ 3) : ((pthsC l).drop (i * 3 + j)).take m = ((pthL (l.getD i pth0)).drop j).take m := by rw [pthsC_eq, ← pthC_L]; exact flat_take pthC_len pth0 l i j m hi hm
theorem pths_nth (l : List Pth) (i j : Nat) (hi : i < l.length) (hj : j < 3) : (pthsC l)[i * 3 + j]? = (pthL (l.getD i pth0))[j]? := by rw [pthsC_eq, ← pthC_L]; exact flat_nth pthC_len pth0 l i j hi hj
theorem flts_take (l : List Flt) (i j m : Nat) (hi : i < l.length) (hm : j + m ≤ 6) : ((fltsC l).drop (i * 6 + j)).take m = ((fltL (l.getD i flt0)).drop j).take m := by rw [fltsC_eq, ← fltC_L]; exact flat_take fltC_len flt0 l i j m hi hm
theorem flts_nth (l : List Flt) (i j : Nat) (hi : i < l.length) (hj : j < 6) : (fltsC l)[i * 6 + j]? = (fltL (l.getD i flt0))[j]? := by rw [fltsC_eq, ← fltC_L]; exact flat_nth fltC_len flt0 l i j hi hj
theorem ats_take0 (l : List Atr) (i m : Nat) (hi : i < l.length) (hm : m ≤ 3) : ((atsC l).drop (i * 3)).take m = (atC (l.getD i atr0)).take m := by have := ats_take l i 0 m hi (by omega); simpa using this
theorem ats_nth0 (l : List Atr) (i : Nat) (hi : i < l.length) : (atsC l)[i * 3]? = (atC (l.getD i atr0))[0]? := ats_nth l i 0 hi (by decide)
theorem evs_take0 (l : List Ev) (i m : Nat) (hi : i < l.length) (hm : m ≤ 5) : ((evsC l).drop (i * 5)).take m = (evC (l.getD i ev0)).take m := by have := evs_take l i 0 m hi (by omega); simpa using this
theorem evs_nth0 (l : List Ev) (i : Nat) (hi : i < l.length) : (evsC l)[i * 5]? = (evC (l.getD i ev0))[0]? := evs_nth l i 0 hi (by decide)
theorem trs_take0 (l : List Tr) (i m : Nat) (hi : i < l.length) (hm : m ≤ 6) : ((trsC l).drop (i * 6)).take m = (trL (l.getD i tr0)).take m := by have := trs_take l i 0 m hi (by omega); simpa using this
theorem trs_nth0 (l : List Tr) (i : Nat) (hi : i < l.length) : (trsC l)[i * 6]? = (trL (l.getD i tr0))[0]? := trs_nth l i 0 hi (by decide)
theorem pths_take0 (l : List Pth) (i m : Nat) (hi : i < l.length) (hm : m ≤ 3) : ((pthsC l).drop (i * 3)).take m = (pthL (l.getD i pth0)).take m := by have := pths_take l i 0 m hi (by omega); simpa using this
theorem pths_nth0 (l : List Pth) (i : Nat) (hi : i < l.length) : (pthsC l)[i * 3]? = (pthL (l.getD i pth0))[0]? := pths_nth l i 0 hi (by decide)
theorem flts_take0 (l : List Flt) (i m : Nat) (hi : i < l.length) (hm : m ≤ 6) : ((fltsC l).drop (i * 6)).take m = (fltL (l.getD i flt0)).take m := by have := flts_take l i 0 m hi (by omega); simpa using this
theorem flts_nth0 (l : List Flt) (i : Nat) (hi : i < l.length) : (fltsC l)[i * 6]? = (fltL (l.getD i flt0))[0]? := flts_nth l i 0 hi (by decide)
theorem getD_mem {α : Type} (l : List α) (i : Nat) (d : α) (h : i < l.length) : l.getD i d ∈ l := by
  rw [List.getD_eq_getElem?_getD, List.getElem?_eq_getElem h]
  exact List.getElem_mem h
/-! Paths and filters: what is not too great; what is right. -/
mutual
def Pth.ok : Pth → Prop
  | .mk op sub test => sub.length ≤ 1048600 ∧ test.length ≤ 1048600 ∧ oksP sub ∧ oksF test
def oksP : List Pth → Prop
  | [] => True
  | p :: r => p.ok ∧ oksP r
def Flt.ok : Flt → Prop
  | .mk op n v sub way => n.ok ∧ v.size ≤ 1048600 ∧ sub.length ≤ 1048600 ∧ way.length ≤ 1048600 ∧ oksF sub ∧ oksP way
def oksF : List Flt → Prop
  | [] => True
  | p :: r => p.ok ∧ oksF r
end
theorem oksP_mem : ∀ {l : List Pth}, oksP l → ∀ p ∈ l, p.ok
  | p :: r, h, q, hq => by
    simp only [oksP] at h
    rcases List.mem_cons.1 hq with rfl | hq
    · exact h.1
    · exact oksP_mem h.2 q hq
theorem oksF_mem : ∀ {l : List Flt}, oksF l → ∀ p ∈ l, p.ok
  | p :: r, h, q, hq => by
    simp only [oksF] at h
    rcases List.mem_cons.1 hq with rfl | hq
    · exact h.1
    · exact oksF_mem h.2 q hq
theorem Pth.ok_i {p : Pth} (h : p.ok) : p.sub.length ≤ 1048600 ∧ p.test.length ≤ 1048600 ∧ (∀ q ∈ p.sub, q.ok) ∧ ∀ q ∈ p.test, q.ok := by
  cases p
  simp only [Pth.ok] at h
  exact ⟨h.1, h.2.1, oksP_mem h.2.2.1, oksF_mem h.2.2.2⟩
theorem Flt.ok_i {f : Flt} (h : f.ok) : f.nm.ok ∧ f.val.size ≤ 1048600 ∧ f.sub.length ≤ 1048600 ∧ f.way.length ≤ 1048600 ∧ (∀ q ∈ f.sub, q.ok) ∧ ∀ q ∈ f.way, q.ok := by
  cases f
  simp only [Flt.ok] at h
  exact ⟨h.1, h.2.1, h.2.2.1, h.2.2.2.1, oksF_mem h.2.2.2.2.1, oksP_mem h.2.2.2.2.2⟩
def xmlnsB : ByteArray := ByteArray.mk #[104, 116, 116, 112, 58, 47, 47, 119, 119, 119, 46, 119, 51, 46, 111, 114, 103, 47, 50, 48, 48, 48, 47, 120, 109, 108, 110, 115, 47]
/-- What a right name is. -/
structure NmOk (n : Nm) : Prop where
  sp : n.sp ≠ xmlnsB
  plain : exB Tryd.prog 64 [.str n.lo] = true
  lo : exB Tryd.prog 46 [.str n.lo] = true
  rsp : exB Tryd.prog 46 [.str n.sp] = true
structure Pth.r1 (p : Pth) : Prop where
  op : 1 ≤ p.op ∧ p.op ≤ 7
  two : p.op = 4 ∨ p.op = 5 → 2 ≤ p.sub.length
  one : p.op = 6 → p.sub.length = 1
  non : p.op ≠ 4 ∧ p.op ≠ 5 ∧ p.op ≠ 6 → p.sub.length = 0
  test : p.op = 7 ↔ p.test.length = 1
  le : p.test.length ≤ 1
structure Flt.r1 (p : Flt) : Prop where
  op : 1 ≤ p.op ∧ p.op ≤ 11
  two : p.op = 9 ∨ p.op = 10 → 2 ≤ p.sub.length
  one : p.op = 8 → p.sub.length = 1
  non : p.op ≠ 8 ∧ p.op ≠ 9 ∧ p.op ≠ 10 → p.sub.length = 0
  way : p.op = 11 ↔ p.way.length = 1
  le : p.way.length ≤ 1
  named : (4 ≤ p.op ∧ p.op ≤ 6) ↔ p.nm ≠ nm0
  nmd : 4 ≤ p.op ∧ p.op ≤ 6 → NmOk p.nm
  noval : ¬ (p.op = 6 ∨ p.op = 7) → p.val = ⟨#[]⟩
  hasval : p.op = 7 → p.val ≠ ⟨#[]⟩
  val : exB Tryd.prog 46 [.str p.val] = true
mutual
inductive Pth.r : Pth → Prop
  | mk (p : Pth) (h : p.r1) (hs : ∀ q ∈ p.sub, Pth.r q) (ht : ∀ f ∈ p.test, Flt.r f) : Pth.r p
inductive Flt.r : Flt → Prop
  | mk (p : Flt) (h : p.r1) (hs : ∀ q ∈ p.sub, Flt.r q) (ht : ∀ f ∈ p.way, Pth.r f) : Flt.r p
end
theorem all_getD {α : Type} {l : List α} {d : α} {Q : α → Prop} (h : ∀ k, k < l.length → Q (l.getD k d)) : ∀ q ∈ l, Q q := by
  intro q hq
  obtain ⟨k, hk, rfl⟩ := List.getElem_of_mem hq
  have := h k hk
  rwa [List.getD_eq_getElem?_getD, List.getElem?_eq_getElem hk] at this
theorem Pth.r_of {p : Pth} (h : p.r1) (hs : ∀ k, k < p.sub.length → (p.sub.getD k pth0).r) (ht : 0 < p.test.length → (p.test.getD 0 flt0).r) : p.r :=
  .mk p h (all_getD hs) (all_getD (d := flt0) fun k hk => by
    have : k = 0 := by have := h.le; omega
    subst this
    exact ht hk)
theorem Flt.r_of {p : Flt} (h : p.r1) (hs : ∀ k, k < p.sub.length → (p.sub.getD k flt0).r) (ht : 0 < p.way.length → (p.way.getD 0 pth0).r) : p.r :=
  .mk p h (all_getD hs) (all_getD (d := pth0) fun k hk => by
    have : k = 0 := by have := h.le; omega
    subst this
    exact ht hk)
/-- How many are open ahead of a place. -/
def stepE (e : Ev) : Int := if e.kind = 1 then 1 else if e.kind = 3 then -1 else 0
def dep (l : List Ev) : Nat → Int
  | 0 => 0
  | i + 1 => dep l i + stepE (l.getD i ev0)
/-- No two attributes have one name. -/
def DisF (e : Ev) (i : Nat) : Prop := ∀ j k, i ≤ k → j < k → k < e.attrs.length → (e.attrs.getD j atr0).nm ≠ (e.attrs.getD k atr0).nm
def EvR (e : Ev) : Prop := (e.kind = 1 ∨ e.kind = 2 ∨ e.kind = 3) ∧ DisF e 0
structure DocP (l : List Ev) (k : Nat) : Prop where
  kind : ∀ i, i < k → (l.getD i ev0).kind = 1 ∨ (l.getD i ev0).kind = 2 ∨ (l.getD i ev0).kind = 3
  dis : ∀ i, i < k → DisF (l.getD i ev0) 0
  pos : ∀ i, 0 < i → i < k → 1 ≤ dep l i
  first : 0 < k → (l.getD 0 ev0).kind = 1
theorem DocP.succ {l : List Ev} {i : Nat} (h : DocP l i) (hk : EvR (l.getD i ev0)) (hp : 0 < i → 1 ≤ dep l i) (hf : i = 0 → (l.getD i ev0).kind = 1) : DocP l (i + 1) := by
  refine ⟨fun j hj => ?_, fun j hj => ?_, fun j h0 hj => ?_, fun _ => ?_⟩
  · rcases Nat.lt_or_eq_of_le (Nat.lt_succ_iff.1 hj) with h1 | h1
    · exact h.kind j h1
    · rw [h1]; exact hk.1
  · rcases Nat.lt_or_eq_of_le (Nat.lt_succ_iff.1 hj) with h1 | h1
    · exact h.dis j h1
    · rw [h1]; exact hk.2
  · rcases Nat.lt_or_eq_of_le (Nat.lt_succ_iff.1 hj) with h1 | h1
    · exact h.pos j h0 h1
    · rw [h1]; exact hp (by omega)
  · rcases Nat.eq_zero_or_pos i with h1 | h1
    · subst h1; exact hf rfl
    · exact h.first h1
structure Doc (l : List Ev) : Prop where
  p : DocP l l.length
  ends : dep l l.length = 0
  len : 0 < l.length ∧ l.length ≤ 60
end Go.Proofs.YteimloiaipiadaaDoor
end

section
set_option linter.unusedVariables false
set_option linter.unusedSimpArgs false
set_option maxRecDepth 100000
namespace Go.Proofs.YteimloiaipiadaaDoor
open Go Go.AX
noncomputable def annL : List (Nat × Ann) := (1000046, .callF [] (fun args => .bool (exB Tryd.prog 46 args))) :: (1000064, .callF [] (fun args => .bool (exB Tryd.prog 64 args))) :: (1000047, .callF [] (fun args => .bool (exB Tryd.prog 47 args))) :: (1000066, .callF [] (fun args => .bool (exB Tryd.prog 66 args))) :: (1000022, .callF [] (fun args => .bool (exB Tryd.prog 22 args))) :: (1000010, .callF [] (fun args => .bool (exB Tryd.prog 10 args))) :: (1000010, .callF [] (fun args => .bool (exB Tryd.prog 10 args))) :: (1000078, .callF [] (fun args => .int .i64 (exI Tryd.prog 78 args))) :: annK

end Go.Proofs.YteimloiaipiadaaDoor
end

section
set_option linter.unusedVariables false
set_option linter.unusedSimpArgs false
set_option maxRecDepth 100000
namespace Go.Proofs.YteimloiaipiadaaDoor
open Go Go.AX
noncomputable def annM : List (Nat × Ann) := (1000037, .callF [] (fun args => .bool (exB Tryd.prog 37 args))) :: (1000027, .callF [] (fun args => .bool (exB Tryd.prog 27 args))) :: (1000037, .callF [] (fun args => .bool (exB Tryd.prog 37 args))) :: (1000024, .callF [] (fun args => .bool (exB Tryd.prog 24 args))) :: (1000049, .callF [] (fun args => .bool (exB Tryd.prog 49 args))) :: (1000010, .callF [] (fun args => .bool (exB Tryd.prog 10 args))) :: (1000010, .callF [] (fun args => .bool (exB Tryd.prog 10 args))) :: (1000048, .callF [] (fun args => .int .i64 (exI Tryd.prog 48 args))) :: (1000065, .callF [] (fun args => .int .i64 (exI Tryd.prog 65 args))) :: (1000023, .callF [] (fun args => .int .i64 (exI Tryd.prog 23 args))) :: annL

end Go.Proofs.YteimloiaipiadaaDoor
end

section
set_option linter.unusedVariables false
set_option linter.unusedSimpArgs false
set_option maxRecDepth 100000
namespace Go.Proofs.YteimloiaipiadaaDoor
open Go Go.AX

def stP0 (p : Pth) (m n : Int) (i : Nat) : AS := ⟨[(1, .int .i64 m), (2, .ptr 2 0), (5, .int .i64 n), (6, .int .i64 i)], [(2, .var true (pthL p))], []⟩
def stP1 (p : Pth) (m n : Int) (i : Nat) : AS := ⟨[(1, .int .i64 m), (2, .ptr 2 0), (5, .int .i64 n), (7, .int .i64 i)], [(2, .var true (pthL p))], []⟩
def stQ0 (p : Flt) (m n : Int) (i : Nat) : AS := ⟨[(1, .int .i64 m), (2, .ptr 2 0), (5, .int .i64 n), (6, .int .i64 i)], [(2, .var true (fltL p))], []⟩
def stQ1 (p : Flt) (m n : Int) (i : Nat) : AS := ⟨[(1, .int .i64 m), (2, .ptr 2 0), (5, .int .i64 n), (7, .int .i64 i)], [(2, .var true (fltL p))], []⟩
theorem sub_lt (p q : Pth) (h : q ∈ p.sub) : SizeOf.sizeOf q < SizeOf.sizeOf p := by
  cases p
  have := List.sizeOf_lt_of_mem h
  simp only [Pth.sub] at this
  simp
  omega
theorem test_lt (p : Pth) (q : Flt) (h : q ∈ p.test) : SizeOf.sizeOf q < SizeOf.sizeOf p := by
  cases p
  have := List.sizeOf_lt_of_mem h
  simp only [Pth.test] at this
  simp
  omega
theorem fsub_lt (p q : Flt) (h : q ∈ p.sub) : SizeOf.sizeOf q < SizeOf.sizeOf p := by
  cases p
  have := List.sizeOf_lt_of_mem h
  simp only [Flt.sub] at this
  simp
  omega
theorem way_lt (p : Flt) (q : Pth) (h : q ∈ p.way) : SizeOf.sizeOf q < SizeOf.sizeOf p := by
  cases p
  have := List.sizeOf_lt_of_mem h
  simp only [Flt.way] at this
  simp
  omega

end Go.Proofs.YteimloiaipiadaaDoor
end

section
set_option linter.unusedVariables false
set_option linter.unusedSimpArgs false
set_option maxRecDepth 100000
namespace Go.Proofs.YteimloiaipiadaaDoor
open Go Go.AX

/-- What an event bears, by its kind. -/
structure Ev.nd (e : Ev) : Prop where
  text : e.kind = 2 → e.nm = nm0 ∧ e.attrs = []
  elem : e.kind ≠ 2 → e.text = ⟨#[]⟩
theorem named12b_ex (n : Nm) (hn : n.ok) : ∃ x : Bool, (x = true → NmOk n) ∧ Ctr Tryd.prog 66 [.agg (nmC n)] (.bool x) := by
    have H : ∃ x : Bool, (x = true → NmOk n) ∧ PT.holds Tryd.prog Tryd.f66.ntmps (EndsA Γ (.pure [] (.bool x)) Tryd.f66) (.split (!decide (n.sp = (ByteArray.mk #[(104 : UInt8), (116 : UInt8), (116 : UInt8), (112 : UInt8), (58 : UInt8), (47 : UInt8), (47 : UInt8), (119 : UInt8), (119 : UInt8), (119 : UInt8), (46 : UInt8), (119 : UInt8), (51 : UInt8), (46 : UInt8), (111 : UInt8), (114 : UInt8), (103 : UInt8), (47 : UInt8), (50 : UInt8), (48 : UInt8), (48 : UInt8), (48 : UInt8), (47 : UInt8), (120 : UInt8), (109 : UInt8), (108 : UInt8), (110 : UInt8), (115 : UInt8), (47 : UInt8)]))) (.ob (Ctr Tryd.prog 64 [AV.str n.lo] (AV.bool (exB Tryd.prog (64 : FuncId) [AV.str n.lo]))) (.split (exB Tryd.prog (64 : FuncId) [AV.str n.lo]) (.ob (Ctr Tryd.prog 46 [AV.str n.lo] (AV.bool (exB Tryd.prog (46 : FuncId) [AV.str n.lo]))) (.split (exB Tryd.prog (46 : FuncId) [AV.str n.lo]) (.ob (Ctr Tryd.prog 46 [AV.str n.sp] (AV.bool (exB Tryd.prog (46 : FuncId) [AV.str n.sp]))) (.split (exB Tryd.prog (46 : FuncId) [AV.str n.sp]) (.ob (Ctr Tryd.prog 78 [AV.str n.sp, AV.int .i64 (0 : Int), AV.str (ByteArray.mk #[(123 : UInt8)])] (AV.int .i64 (exI Tryd.prog (78 : FuncId) [AV.str n.sp, AV.int .i64 (0 : Int), AV.str (ByteArray.mk #[(123 : UInt8)])]))) (.split (decide (exI Tryd.prog (78 : FuncId) [AV.str n.sp, AV.int .i64 (0 : Int), AV.str (ByteArray.mk #[(123 : UInt8)])] < (0 : Int))) (.ob (Ctr Tryd.prog 78 [AV.str n.sp, AV.int .i64 (0 : Int), AV.str (ByteArray.mk #[(125 : UInt8)])] (AV.int .i64 (exI Tryd.prog (78 : FuncId) [AV.str n.sp, AV.int .i64 (0 : Int), AV.str (ByteArray.mk #[(125 : UInt8)])]))) (.ob (decide (exI Tryd.prog (78 : FuncId) [AV.str n.sp, AV.int .i64 (0 : Int), AV.str (ByteArray.mk #[(125 : UInt8)])] < (0 : Int)) = x) (.tt))) (.ob (false = x) (.tt)))) (.ob (false = x) (.tt)))) (.ob (false = x) (.tt)))) (.ob (false = x) (.tt)))) (.ob (false = x) (.tt))) := by
      simp only [PT.holds]
      (repeat' first | exact ⟨_, triv, rfl, trivial⟩ | exact ⟨_, triv, rfl⟩ | refine ex_split (fun _ => ?_) (fun _ => ?_) | refine ex_ob ?_ ?_)
      all_goals first | exact exB_ctr (plain_ex _ hn.2) | exact exB_ctr (right_ex _ hn.1) | exact exB_ctr (right_ex _ hn.2) | exact exI_ctr (find_ex _ _ hn.1 (by decide)) | (first | exact ⟨_, (fun h => absurd h (by decide)), rfl, trivial⟩ | exact ⟨_, (fun h => absurd h (by decide)), rfl⟩) | (first | exact ⟨_, (fun _ => ⟨by have h1 := ‹(!decide (n.sp = _)) = true›; simpa [xmlnsB] using h1, by assumption, by assumption, by assumption⟩), rfl, trivial⟩ | exact ⟨_, (fun _ => ⟨by have h1 := ‹(!decide (n.sp = _)) = true›; simpa [xmlnsB] using h1, by assumption, by assumption, by assumption⟩), rfl⟩)
    obtain ⟨x, hR, hx⟩ := H
    exact ⟨x, hR, Ctr.mk Γ_ok Tryd.func66 (by kernel_rfl) Tryd.call66 [] (by kernel_rfl) (HT.walk Γ_ok mo_ok (⟨annL, sp66, [], [], .pure [] (.bool x)⟩ : Wk) 4000 (by kernel_rfl) hx)⟩
end Go.Proofs.YteimloiaipiadaaDoor
end

section
set_option linter.unusedVariables false
set_option linter.unusedSimpArgs false
set_option maxRecDepth 100000
namespace Go.Proofs.YteimloiaipiadaaDoor
open Go Go.AX

theorem nm_chk (n : Nm) : (decide (n.sp = ⟨#[]⟩) && (decide (n.lo = ⟨#[]⟩) && true)) = decide (n = nm0) := by
  cases n
  simp only [Bool.and_true, nm0, Nm.mk.injEq, Bool.decide_and]
theorem f5_of (p : Flt) (hn : Bool) (hni : hn = true ↔ 4 ≤ p.op ∧ p.op ≤ 6) (h : (!hn == !decide (p.nm = nm0)) = false) (hx : hn = true → NmOk p.nm) : ((4 ≤ p.op ∧ p.op ≤ 6) ↔ p.nm ≠ nm0) ∧ (4 ≤ p.op ∧ p.op ≤ 6 → NmOk p.nm) := by
  refine ⟨?_, fun hh => hx (hni.2 hh)⟩
  rw [← hni]
  by_cases e : p.nm = nm0
  · cases hn <;> simp_all
  · cases hn <;> simp_all
def stPa (p : Pth) (m : Int) (i : Nat) : AS := ⟨[(1, .int .i64 m), (2, .ptr 2 0), (7, .int .i64 i)], [(2, .var true (pthL p))], []⟩
def stPf (p : Flt) (m : Int) (i : Nat) : AS := ⟨[(1, .int .i64 m), (2, .ptr 2 0), (9, .int .i64 i)], [(2, .var true (fltL p))], []⟩
def stG (p : Flt) (m lo hi : Int) : AS := ⟨[(1, .int .i64 m), (2, .ptr 2 0), (7, .int .i64 lo), (8, .int .i64 hi)], [(2, .var true (fltL p))], []⟩
def stG9 (p : Flt) (m : Int) : AS := ⟨[(1, .int .i64 m), (2, .ptr 2 0)], [(2, .var true (fltL p))], []⟩
def stG7 (p : Flt) (m : Int) (hv : Bool) : AS := ⟨[(1, .int .i64 m), (2, .ptr 2 0), (6, .bool hv)], [(2, .var true (fltL p))], []⟩
def stG5 (p : Flt) (m : Int) (hn hv : Bool) : AS := ⟨[(1, .int .i64 m), (2, .ptr 2 0), (5, .bool hn), (6, .bool hv)], [(2, .var true (fltL p))], []⟩
def stG4 (p : Flt) (m : Int) (hn : Bool) : AS := ⟨[(1, .int .i64 m), (2, .ptr 2 0), (5, .bool hn)], [(2, .var true (fltL p))], []⟩
theorem stPa_h (p : Pth) (m : Int) (i : Nat) (hi : i ≤ p.sub.length) (hl : p.sub.length ≤ 1048600) (h1 : p.r1) (hs : ∀ k, k < i → (p.sub.getD k pth0).r) (b c : Bool) (hb : i < p.sub.length → (b = true → (p.sub.getD i pth0).r) ∧ Ctr Tryd.prog 24 [.agg (pthL (p.sub.getD i pth0)), .int .i64 (IntKind.i64.wrap (m - 1))] (.bool b)) (hc : 0 < p.test.length → (c = true → (p.test.getD 0 flt0).r) ∧ Ctr Tryd.prog 49 [.agg (fltL (p.test.getD 0 flt0)), .int .i64 (IntKind.i64.wrap (m - 1))] (.bool c)) (ih : i < p.sub.length → (p.sub.getD i pth0).r → ∃ x : Bool, (x = true → p.r) ∧ HT Tryd.prog Tryd.f24.ntmps (pt Tryd.f24 0) (stPa p m (i + 1)) (EndsA Γ (.pure [] (.bool x)) Tryd.f24)) : ∃ x : Bool, (x = true → p.r) ∧ HT Tryd.prog Tryd.f24.ntmps (pt Tryd.f24 0) (stPa p m i) (EndsA Γ (.pure [] (.bool x)) Tryd.f24) := by
    have H : ∃ x : Bool, (x = true → p.r) ∧ PT.holds Tryd.prog Tryd.f24.ntmps (EndsA Γ (.pure [] (.bool x)) Tryd.f24) (.split (decide ((↑i : Int) < (↑p.sub.length : Int))) (.ob ((0 : Int) ≤ (↑i : Int) ∧ (↑i : Int) < (↑p.sub.length : Int) ∧ (↑i : Int).toNat * (3 : Nat) < (pthsC p.sub).length) (.ob (List.take (3 : Nat) (List.drop ((↑i : Int).toNat * (3 : Nat)) (pthsC p.sub)) = (pthL (p.sub.getD i pth0))) (.ob (Ctr Tryd.prog 24 [AV.agg (pthL (p.sub.getD i pth0)), AV.int .i64 (IntKind.i64.wrap (m - (1 : Int)))] (AV.bool b)) (.split (b) (.head (pt Tryd.f24 0) ({ tmps := [(1, AV.int .i64 m), (2, AV.ptr 2 0), (7, AV.int .i64 (IntKind.i64.wrap ((↑i : Int) + (1 : Int))))], heap := [(2, .var true (pthL p))], tags := [] })) (.ob (false = x) (.tt)))))) (.split (decide ((↑p.test.length : Int) = (0 : Int))) (.ob (true = x) (.tt)) (.ob ((0 : Int) ≤ (0 : Int) ∧ (0 : Int) < (↑p.test.length : Int) ∧ Int.toNat (0 : Int) * (6 : Nat) < (fltsC p.test).length) (.ob (List.take (6 : Nat) (List.drop (Int.toNat (0 : Int) * (6 : Nat)) (fltsC p.test)) = (fltL (p.test.getD (0 : Nat) flt0))) (.ob (Ctr Tryd.prog 49 [AV.agg (fltL (p.test.getD (0 : Nat) flt0)), AV.int .i64 (IntKind.i64.wrap (m - (1 : Int)))] (AV.bool c)) (.ob (c = x) (.tt))))))) := by
      simp only [PT.holds, Int.toNat_natCast, Int.toNat_zero, pthsC_len, fltsC_len]
      by_cases h : i < p.sub.length
      · have w2 : IntKind.i64.wrap ((i : Int) + 1) = ((i + 1 : Nat) : Int) := by rw [i64_wrap (by omega) (by omega)]; rfl
        have hb' := hb h
        simp only [w2]
        (repeat' first | exact ⟨_, triv, rfl, trivial⟩ | exact ⟨_, triv, rfl⟩ | refine ex_split (fun _ => ?_) (fun _ => ?_) | refine ex_ob ?_ ?_)
        all_goals first | exact ih h (hb'.1 (by assumption)) | exact hb'.2 | (first | exact ⟨_, (fun h => absurd h (by decide)), rfl, trivial⟩ | exact ⟨_, (fun h => absurd h (by decide)), rfl⟩) | (exfalso; (first | omega | (simp only [decide_eq_true_eq, decide_eq_false_iff_not, Bool.not_eq_true', Bool.not_eq_false'] at *; omega))) | omega | ((try simp only [Nat.add_assoc, Nat.reduceAdd, Nat.add_zero]) <;> first | (rw [ats_take _ _ _ _ h (by decide)]; rfl) | (rw [pths_take _ _ _ _ h (by decide)]; rfl) | (rw [flts_take _ _ _ _ h (by decide)]; rfl) | (rw [ats_take0 _ _ _ h (by decide)]; rfl) | (rw [pths_take0 _ _ _ h (by decide)]; rfl) | (rw [flts_take0 _ _ _ h (by decide)]; rfl))
      · have he : i = p.sub.length := by omega
        have hs' : ∀ k, k < p.sub.length → (p.sub.getD k pth0).r := by rw [← he]; exact hs
        by_cases ht : 0 < p.test.length
        · have hc' := hc ht
          (repeat' first | exact ⟨_, triv, rfl, trivial⟩ | exact ⟨_, triv, rfl⟩ | refine ex_split (fun _ => ?_) (fun _ => ?_) | refine ex_ob ?_ ?_)
          all_goals first | exact hc'.2 | (first | exact ⟨_, (fun hh => Pth.r_of h1 hs' (fun _ => hc'.1 hh)), rfl, trivial⟩ | exact ⟨_, (fun hh => Pth.r_of h1 hs' (fun _ => hc'.1 hh)), rfl⟩) | (exfalso; (first | omega | (simp only [decide_eq_true_eq, decide_eq_false_iff_not, Bool.not_eq_true', Bool.not_eq_false'] at *; omega))) | (first | omega | (simp only [decide_eq_true_eq, decide_eq_false_iff_not, Bool.not_eq_true', Bool.not_eq_false', beq_iff_eq, beq_eq_false_iff_ne, decide_eq_decide, ne_eq, Bool.not_eq_eq_eq_not, Bool.not_true, Bool.not_false] at *; omega)) | ((try simp only [Nat.add_assoc, Nat.reduceAdd, Nat.add_zero]) <;> first | (rw [ats_take _ _ _ _ ht (by decide)]; rfl) | (rw [pths_take _ _ _ _ ht (by decide)]; rfl) | (rw [flts_take _ _ _ _ ht (by decide)]; rfl) | (rw [ats_take0 _ _ _ ht (by decide)]; rfl) | (rw [pths_take0 _ _ _ ht (by decide)]; rfl) | (rw [flts_take0 _ _ _ ht (by decide)]; rfl))
        · (repeat' first | exact ⟨_, triv, rfl, trivial⟩ | exact ⟨_, triv, rfl⟩ | refine ex_split (fun _ => ?_) (fun _ => ?_) | refine ex_ob ?_ ?_)
          all_goals first | (first | exact ⟨_, (fun _ => Pth.r_of h1 hs' (fun hh => absurd hh ht)), rfl, trivial⟩ | exact ⟨_, (fun _ => Pth.r_of h1 hs' (fun hh => absurd hh ht)), rfl⟩) | (exfalso; (first | omega | (simp only [decide_eq_true_eq, decide_eq_false_iff_not, Bool.not_eq_true', Bool.not_eq_false'] at *; omega)))
    obtain ⟨x, hR, hx⟩ := H
    exact ⟨x, hR, HT.walk Γ_ok mo_ok (⟨([(70, .val (.agg (pthL (p.sub.getD i pth0)))), (73, .call [] (.bool b)), (83, .val (.agg (fltL (p.test.getD 0 flt0)))), (86, .call [] (.bool c))] ++ annM), sp24, hd24 [] [] [] [], [], .pure [] (.bool x)⟩ : Wk) 4000 (by kernel_rfl) hx⟩
theorem stPf_h (p : Flt) (m : Int) (i : Nat) (hi : i ≤ p.sub.length) (hl : p.sub.length ≤ 1048600) (h1 : p.r1) (hs : ∀ k, k < i → (p.sub.getD k flt0).r) (b c : Bool) (hb : i < p.sub.length → (b = true → (p.sub.getD i flt0).r) ∧ Ctr Tryd.prog 49 [.agg (fltL (p.sub.getD i flt0)), .int .i64 (IntKind.i64.wrap (m - 1))] (.bool b)) (hc : 0 < p.way.length → (c = true → (p.way.getD 0 pth0).r) ∧ Ctr Tryd.prog 24 [.agg (pthL (p.way.getD 0 pth0)), .int .i64 (IntKind.i64.wrap (m - 1))] (.bool c)) (ih : i < p.sub.length → (p.sub.getD i flt0).r → ∃ x : Bool, (x = true → p.r) ∧ HT Tryd.prog Tryd.f49.ntmps (pt Tryd.f49 0) (stPf p m (i + 1)) (EndsA Γ (.pure [] (.bool x)) Tryd.f49)) : ∃ x : Bool, (x = true → p.r) ∧ HT Tryd.prog Tryd.f49.ntmps (pt Tryd.f49 0) (stPf p m i) (EndsA Γ (.pure [] (.bool x)) Tryd.f49) := by
    have H : ∃ x : Bool, (x = true → p.r) ∧ PT.holds Tryd.prog Tryd.f49.ntmps (EndsA Γ (.pure [] (.bool x)) Tryd.f49) (.split (decide ((↑i : Int) < (↑p.sub.length : Int))) (.ob ((0 : Int) ≤ (↑i : Int) ∧ (↑i : Int) < (↑p.sub.length : Int) ∧ (↑i : Int).toNat * (6 : Nat) < (fltsC p.sub).length) (.ob (List.take (6 : Nat) (List.drop ((↑i : Int).toNat * (6 : Nat)) (fltsC p.sub)) = (fltL (p.sub.getD i flt0))) (.ob (Ctr Tryd.prog 49 [AV.agg (fltL (p.sub.getD i flt0)), AV.int .i64 (IntKind.i64.wrap (m - (1 : Int)))] (AV.bool b)) (.split (b) (.head (pt Tryd.f49 0) ({ tmps := [(1, AV.int .i64 m), (2, AV.ptr 2 0), (9, AV.int .i64 (IntKind.i64.wrap ((↑i : Int) + (1 : Int))))], heap := [(2, .var true (fltL p))], tags := [] })) (.ob (false = x) (.tt)))))) (.split (decide ((↑p.way.length : Int) = (0 : Int))) (.ob (true = x) (.tt)) (.ob ((0 : Int) ≤ (0 : Int) ∧ (0 : Int) < (↑p.way.length : Int) ∧ Int.toNat (0 : Int) * (3 : Nat) < (pthsC p.way).length) (.ob (List.take (3 : Nat) (List.drop (Int.toNat (0 : Int) * (3 : Nat)) (pthsC p.way)) = (pthL (p.way.getD (0 : Nat) pth0))) (.ob (Ctr Tryd.prog 24 [AV.agg (pthL (p.way.getD (0 : Nat) pth0)), AV.int .i64 (IntKind.i64.wrap (m - (1 : Int)))] (AV.bool c)) (.ob (c = x) (.tt))))))) := by
      simp only [PT.holds, Int.toNat_natCast, Int.toNat_zero, fltsC_len, pthsC_len]
      by_cases h : i < p.sub.length
      · have w2 : IntKind.i64.wrap ((i : Int) + 1) = ((i + 1 : Nat) : Int) := by rw [i64_wrap (by omega) (by omega)]; rfl
        have hb' := hb h
        simp only [w2]
        (repeat' first | exact ⟨_, triv, rfl, trivial⟩ | exact ⟨_, triv, rfl⟩ | refine ex_split (fun _ => ?_) (fun _ => ?_) | refine ex_ob ?_ ?_)
        all_goals first | exact ih h (hb'.1 (by assumption)) | exact hb'.2 | (first | exact ⟨_, (fun h => absurd h (by decide)), rfl, trivial⟩ | exact ⟨_, (fun h => absurd h (by decide)), rfl⟩) | (exfalso; (first | omega | (simp only [decide_eq_true_eq, decide_eq_false_iff_not, Bool.not_eq_true', Bool.not_eq_false'] at *; omega))) | omega | ((try simp only [Nat.add_assoc, Nat.reduceAdd, Nat.add_zero]) <;> first | (rw [ats_take _ _ _ _ h (by decide)]; rfl) | (rw [pths_take _ _ _ _ h (by decide)]; rfl) | (rw [flts_take _ _ _ _ h (by decide)]; rfl) | (rw [ats_take0 _ _ _ h (by decide)]; rfl) | (rw [pths_take0 _ _ _ h (by decide)]; rfl) | (rw [flts_take0 _ _ _ h (by decide)]; rfl))
      · have he : i = p.sub.length := by omega
        have hs' : ∀ k, k < p.sub.length → (p.sub.getD k flt0).r := by rw [← he]; exact hs
        by_cases ht : 0 < p.way.length
        · have hc' := hc ht
          (repeat' first | exact ⟨_, triv, rfl, trivial⟩ | exact ⟨_, triv, rfl⟩ | refine ex_split (fun _ => ?_) (fun _ => ?_) | refine ex_ob ?_ ?_)
          all_goals first | exact hc'.2 | (first | exact ⟨_, (fun hh => Flt.r_of h1 hs' (fun _ => hc'.1 hh)), rfl, trivial⟩ | exact ⟨_, (fun hh => Flt.r_of h1 hs' (fun _ => hc'.1 hh)), rfl⟩) | (exfalso; (first | omega | (simp only [decide_eq_true_eq, decide_eq_false_iff_not, Bool.not_eq_true', Bool.not_eq_false'] at *; omega))) | (first | omega | (simp only [decide_eq_true_eq, decide_eq_false_iff_not, Bool.not_eq_true', Bool.not_eq_false', beq_iff_eq, beq_eq_false_iff_ne, decide_eq_decide, ne_eq, Bool.not_eq_eq_eq_not, Bool.not_true, Bool.not_false] at *; omega)) | ((try simp only [Nat.add_assoc, Nat.reduceAdd, Nat.add_zero]) <;> first | (rw [ats_take _ _ _ _ ht (by decide)]; rfl) | (rw [pths_take _ _ _ _ ht (by decide)]; rfl) | (rw [flts_take _ _ _ _ ht (by decide)]; rfl) | (rw [ats_take0 _ _ _ ht (by decide)]; rfl) | (rw [pths_take0 _ _ _ ht (by decide)]; rfl) | (rw [flts_take0 _ _ _ ht (by decide)]; rfl))
        · (repeat' first | exact ⟨_, triv, rfl, trivial⟩ | exact ⟨_, triv, rfl⟩ | refine ex_split (fun _ => ?_) (fun _ => ?_) | refine ex_ob ?_ ?_)
          all_goals first | (first | exact ⟨_, (fun _ => Flt.r_of h1 hs' (fun hh => absurd hh ht)), rfl, trivial⟩ | exact ⟨_, (fun _ => Flt.r_of h1 hs' (fun hh => absurd hh ht)), rfl⟩) | (exfalso; (first | omega | (simp only [decide_eq_true_eq, decide_eq_false_iff_not, Bool.not_eq_true', Bool.not_eq_false'] at *; omega)))
    obtain ⟨x, hR, hx⟩ := H
    exact ⟨x, hR, HT.walk Γ_ok mo_ok (⟨([(126, .val (.agg (fltL (p.sub.getD i flt0)))), (129, .call [] (.bool b)), (139, .val (.agg (pthL (p.way.getD 0 pth0)))), (142, .call [] (.bool c))] ++ annM), sp49, hd49 [] [] [] [], [], .pure [] (.bool x)⟩ : Wk) 4000 (by kernel_rfl) hx⟩
theorem path_p (p : Pth) (m : Int) (k : p.r1 → ∃ x : Bool, (x = true → p.r) ∧ HT Tryd.prog Tryd.f24.ntmps (pt Tryd.f24 0) (stPa p m 0) (EndsA Γ (.pure [] (.bool x)) Tryd.f24)) : ∃ x : Bool, (x = true → p.r) ∧ Ctr Tryd.prog 24 [.agg (pthL p), .int .i64 m] (.bool x) := by
    have H : ∃ x : Bool, (x = true → p.r) ∧ PT.holds Tryd.prog Tryd.f24.ntmps (EndsA Γ (.pure [] (.bool x)) Tryd.f24) (.split (decide (m = (0 : Int))) (.ob (false = x) (.tt)) (.split (decide (p.op < (1 : Int))) (.ob (false = x) (.tt)) (.split (decide ((7 : Int) < p.op)) (.ob (false = x) (.tt)) (.split (decide (p.op = (4 : Int))) (.split (decide (p.op = (6 : Int))) (.split (decide ((↑p.sub.length : Int) < (1 : Int))) (.ob (false = x) (.tt)) (.split (decide ((1 : Int) < (↑p.sub.length : Int))) (.ob (false = x) (.tt)) (.split (!decide (p.op = (7 : Int)) == decide ((↑p.test.length : Int) = (1 : Int))) (.ob (false = x) (.tt)) (.split (decide ((1 : Int) < (↑p.test.length : Int))) (.ob (false = x) (.tt)) (.head (pt Tryd.f24 0) ({ tmps := [(1, AV.int .i64 m), (2, AV.ptr 2 0), (7, AV.int .i64 (0 : Int))], heap := [(2, .var true (pthL p))], tags := [] })))))) (.split (decide ((↑p.sub.length : Int) < (2 : Int))) (.ob (false = x) (.tt)) (.split (decide ((64 : Int) < (↑p.sub.length : Int))) (.ob (false = x) (.tt)) (.split (!decide (p.op = (7 : Int)) == decide ((↑p.test.length : Int) = (1 : Int))) (.ob (false = x) (.tt)) (.split (decide ((1 : Int) < (↑p.test.length : Int))) (.ob (false = x) (.tt)) (.head (pt Tryd.f24 0) ({ tmps := [(1, AV.int .i64 m), (2, AV.ptr 2 0), (7, AV.int .i64 (0 : Int))], heap := [(2, .var true (pthL p))], tags := [] }))))))) (.split (decide (p.op = (5 : Int))) (.split (decide (p.op = (6 : Int))) (.split (decide ((↑p.sub.length : Int) < (1 : Int))) (.ob (false = x) (.tt)) (.split (decide ((1 : Int) < (↑p.sub.length : Int))) (.ob (false = x) (.tt)) (.split (!decide (p.op = (7 : Int)) == decide ((↑p.test.length : Int) = (1 : Int))) (.ob (false = x) (.tt)) (.split (decide ((1 : Int) < (↑p.test.length : Int))) (.ob (false = x) (.tt)) (.head (pt Tryd.f24 0) ({ tmps := [(1, AV.int .i64 m), (2, AV.ptr 2 0), (7, AV.int .i64 (0 : Int))], heap := [(2, .var true (pthL p))], tags := [] })))))) (.split (decide ((↑p.sub.length : Int) < (2 : Int))) (.ob (false = x) (.tt)) (.split (decide ((64 : Int) < (↑p.sub.length : Int))) (.ob (false = x) (.tt)) (.split (!decide (p.op = (7 : Int)) == decide ((↑p.test.length : Int) = (1 : Int))) (.ob (false = x) (.tt)) (.split (decide ((1 : Int) < (↑p.test.length : Int))) (.ob (false = x) (.tt)) (.head (pt Tryd.f24 0) ({ tmps := [(1, AV.int .i64 m), (2, AV.ptr 2 0), (7, AV.int .i64 (0 : Int))], heap := [(2, .var true (pthL p))], tags := [] }))))))) (.split (decide (p.op = (6 : Int))) (.split (decide ((↑p.sub.length : Int) < (1 : Int))) (.ob (false = x) (.tt)) (.split (decide ((1 : Int) < (↑p.sub.length : Int))) (.ob (false = x) (.tt)) (.split (!decide (p.op = (7 : Int)) == decide ((↑p.test.length : Int) = (1 : Int))) (.ob (false = x) (.tt)) (.split (decide ((1 : Int) < (↑p.test.length : Int))) (.ob (false = x) (.tt)) (.head (pt Tryd.f24 0) ({ tmps := [(1, AV.int .i64 m), (2, AV.ptr 2 0), (7, AV.int .i64 (0 : Int))], heap := [(2, .var true (pthL p))], tags := [] })))))) (.split (false) (.ob (false = x) (.tt)) (.split (decide ((0 : Int) < (↑p.sub.length : Int))) (.ob (false = x) (.tt)) (.split (!decide (p.op = (7 : Int)) == decide ((↑p.test.length : Int) = (1 : Int))) (.ob (false = x) (.tt)) (.split (decide ((1 : Int) < (↑p.test.length : Int))) (.ob (false = x) (.tt)) (.head (pt Tryd.f24 0) ({ tmps := [(1, AV.int .i64 m), (2, AV.ptr 2 0), (7, AV.int .i64 (0 : Int))], heap := [(2, .var true (pthL p))], tags := [] })))))))))))) := by
      simp only [PT.holds, true_implies, Bool.false_eq_true, Bool.true_eq_false, false_implies, true_and, and_true]
      (repeat' first | exact ⟨_, triv, rfl, trivial⟩ | exact ⟨_, triv, rfl⟩ | refine ex_split (fun _ => ?_) (fun _ => ?_) | refine ex_ob ?_ ?_)
      all_goals first | (first | exact ⟨_, (fun h => absurd h (by decide)), rfl, trivial⟩ | exact ⟨_, (fun h => absurd h (by decide)), rfl⟩) | (refine k ⟨?_, ?_, ?_, ?_, ?_, ?_⟩ <;> first | (intro _; (first | omega | (simp only [decide_eq_true_eq, decide_eq_false_iff_not, Bool.not_eq_true', Bool.not_eq_false', beq_iff_eq, beq_eq_false_iff_ne, decide_eq_decide, ne_eq, Bool.not_eq_eq_eq_not, Bool.not_true, Bool.not_false] at *; omega))) | (first | omega | (simp only [decide_eq_true_eq, decide_eq_false_iff_not, Bool.not_eq_true', Bool.not_eq_false', beq_iff_eq, beq_eq_false_iff_ne, decide_eq_decide, ne_eq, Bool.not_eq_eq_eq_not, Bool.not_true, Bool.not_false] at *; omega)))
    obtain ⟨x, hR, hx⟩ := H
    exact ⟨x, hR, Ctr.mk Γ_ok Tryd.func24 (by kernel_rfl) Tryd.call24 [] (by kernel_rfl) (HT.walk Γ_ok mo_ok (⟨annM, sp24, hd24 [] [] [] [], [], .pure [] (.bool x)⟩ : Wk) 4000 (by kernel_rfl) hx)⟩
theorem flt_17 (p : Flt) (m lo hi : Int) (h5 : ((4 ≤ p.op ∧ p.op ≤ 6) ↔ p.nm ≠ nm0) ∧ (4 ≤ p.op ∧ p.op ≤ 6 → NmOk p.nm)) (h7 : (¬ (p.op = 6 ∨ p.op = 7) → p.val = ⟨#[]⟩) ∧ (p.op = 7 → p.val ≠ ⟨#[]⟩) ∧ exB Tryd.prog 46 [.str p.val] = true) (ho : 1 ≤ p.op ∧ p.op ≤ 11) (hr : (p.op = 8 ∧ lo = 1 ∧ hi = 1) ∨ ((p.op = 9 ∨ p.op = 10) ∧ lo = 2 ∧ hi = 64) ∨ (p.op ≠ 8 ∧ p.op ≠ 9 ∧ p.op ≠ 10 ∧ lo = 0 ∧ hi = 0)) (k : p.r1 → ∃ x : Bool, (x = true → p.r) ∧ HT Tryd.prog Tryd.f49.ntmps (pt Tryd.f49 0) (stPf p m 0) (EndsA Γ (.pure [] (.bool x)) Tryd.f49)) : ∃ x : Bool, (x = true → p.r) ∧ HT Tryd.prog Tryd.f49.ntmps (pr Tryd.f49 17) (stG p m lo hi) (EndsA Γ (.pure [] (.bool x)) Tryd.f49) := by
    have H : ∃ x : Bool, (x = true → p.r) ∧ PT.holds Tryd.prog Tryd.f49.ntmps (EndsA Γ (.pure [] (.bool x)) Tryd.f49) (.split (decide ((↑p.sub.length : Int) < lo)) (.ob (false = x) (.tt)) (.split (decide (hi < (↑p.sub.length : Int))) (.ob (false = x) (.tt)) (.split (!decide (p.op = (11 : Int)) == decide ((↑p.way.length : Int) = (1 : Int))) (.ob (false = x) (.tt)) (.split (decide ((1 : Int) < (↑p.way.length : Int))) (.ob (false = x) (.tt)) (.head (pt Tryd.f49 0) ({ tmps := [(1, AV.int .i64 m), (2, AV.ptr 2 0), (9, AV.int .i64 (0 : Int))], heap := [(2, .var true (fltL p))], tags := [] })))))) := by
      simp only [PT.holds, true_implies, Bool.false_eq_true, Bool.true_eq_false, false_implies, true_and, and_true]
      (repeat' first | exact ⟨_, triv, rfl, trivial⟩ | exact ⟨_, triv, rfl⟩ | refine ex_split (fun _ => ?_) (fun _ => ?_) | refine ex_ob ?_ ?_)
      all_goals first | (first | exact ⟨_, (fun h => absurd h (by decide)), rfl, trivial⟩ | exact ⟨_, (fun h => absurd h (by decide)), rfl⟩) | (refine k ⟨?_, ?_, ?_, ?_, ?_, ?_, h5.1, h5.2, h7.1, h7.2.1, h7.2.2⟩ <;> first | (intro _; (first | omega | (simp only [decide_eq_true_eq, decide_eq_false_iff_not, Bool.not_eq_true', Bool.not_eq_false', beq_iff_eq, beq_eq_false_iff_ne, decide_eq_decide, ne_eq, Bool.not_eq_eq_eq_not, Bool.not_true, Bool.not_false] at *; omega))) | (first | omega | (simp only [decide_eq_true_eq, decide_eq_false_iff_not, Bool.not_eq_true', Bool.not_eq_false', beq_iff_eq, beq_eq_false_iff_ne, decide_eq_decide, ne_eq, Bool.not_eq_eq_eq_not, Bool.not_true, Bool.not_false] at *; omega)))
    obtain ⟨x, hR, hx⟩ := H
    exact ⟨x, hR, HT.walk Γ_ok mo_ok (⟨annM, sp49, hd49 [] [] [] [], [], .pure [] (.bool x)⟩ : Wk) 4000 (by kernel_rfl) hx⟩
theorem flt_9 (p : Flt) (m : Int) (ho : 1 ≤ p.op ∧ p.op ≤ 11) (k : ∀ lo hi : Int, ((p.op = 8 ∧ lo = 1 ∧ hi = 1) ∨ ((p.op = 9 ∨ p.op = 10) ∧ lo = 2 ∧ hi = 64) ∨ (p.op ≠ 8 ∧ p.op ≠ 9 ∧ p.op ≠ 10 ∧ lo = 0 ∧ hi = 0)) → ∃ x : Bool, (x = true → p.r) ∧ HT Tryd.prog Tryd.f49.ntmps (pr Tryd.f49 17) (stG p m lo hi) (EndsA Γ (.pure [] (.bool x)) Tryd.f49)) : ∃ x : Bool, (x = true → p.r) ∧ HT Tryd.prog Tryd.f49.ntmps (pr Tryd.f49 9) (stG9 p m) (EndsA Γ (.pure [] (.bool x)) Tryd.f49) := by
    have H : ∃ x : Bool, (x = true → p.r) ∧ PT.holds Tryd.prog Tryd.f49.ntmps (EndsA Γ (.pure [] (.bool x)) Tryd.f49) (.split (decide (p.op = (8 : Int))) (.split (decide (p.op = (9 : Int))) (.head (pr Tryd.f49 17) ({ tmps := [(1, AV.int .i64 m), (2, AV.ptr 2 0), (7, AV.int .i64 (2 : Int)), (8, AV.int .i64 (64 : Int))], heap := [(2, .var true (fltL p))], tags := [] })) (.split (decide (p.op = (10 : Int))) (.head (pr Tryd.f49 17) ({ tmps := [(1, AV.int .i64 m), (2, AV.ptr 2 0), (7, AV.int .i64 (2 : Int)), (8, AV.int .i64 (64 : Int))], heap := [(2, .var true (fltL p))], tags := [] })) (.head (pr Tryd.f49 17) ({ tmps := [(1, AV.int .i64 m), (2, AV.ptr 2 0), (7, AV.int .i64 (1 : Int)), (8, AV.int .i64 (1 : Int))], heap := [(2, .var true (fltL p))], tags := [] })))) (.split (decide (p.op = (9 : Int))) (.head (pr Tryd.f49 17) ({ tmps := [(1, AV.int .i64 m), (2, AV.ptr 2 0), (7, AV.int .i64 (2 : Int)), (8, AV.int .i64 (64 : Int))], heap := [(2, .var true (fltL p))], tags := [] })) (.split (decide (p.op = (10 : Int))) (.head (pr Tryd.f49 17) ({ tmps := [(1, AV.int .i64 m), (2, AV.ptr 2 0), (7, AV.int .i64 (2 : Int)), (8, AV.int .i64 (64 : Int))], heap := [(2, .var true (fltL p))], tags := [] })) (.head (pr Tryd.f49 17) ({ tmps := [(1, AV.int .i64 m), (2, AV.ptr 2 0), (7, AV.int .i64 (0 : Int)), (8, AV.int .i64 (0 : Int))], heap := [(2, .var true (fltL p))], tags := [] }))))) := by
      simp only [PT.holds, true_implies, Bool.false_eq_true, Bool.true_eq_false, false_implies, true_and, and_true]
      (repeat' first | exact ⟨_, triv, rfl, trivial⟩ | exact ⟨_, triv, rfl⟩ | refine ex_split (fun _ => ?_) (fun _ => ?_) | refine ex_ob ?_ ?_)
      all_goals (refine k _ _ ?_; first | exact .inl ⟨by (first | omega | (simp only [decide_eq_true_eq, decide_eq_false_iff_not, Bool.not_eq_true', Bool.not_eq_false'] at *; omega)), rfl, rfl⟩ | exact .inr (.inl ⟨by (first | omega | (simp only [decide_eq_true_eq, decide_eq_false_iff_not, Bool.not_eq_true', Bool.not_eq_false'] at *; omega)), rfl, rfl⟩) | exact .inr (.inr ⟨by (first | omega | (simp only [decide_eq_true_eq, decide_eq_false_iff_not, Bool.not_eq_true', Bool.not_eq_false'] at *; omega)), by (first | omega | (simp only [decide_eq_true_eq, decide_eq_false_iff_not, Bool.not_eq_true', Bool.not_eq_false'] at *; omega)), by (first | omega | (simp only [decide_eq_true_eq, decide_eq_false_iff_not, Bool.not_eq_true', Bool.not_eq_false'] at *; omega)), rfl, rfl⟩) | (exfalso; (first | omega | (simp only [decide_eq_true_eq, decide_eq_false_iff_not, Bool.not_eq_true', Bool.not_eq_false'] at *; omega))))
    obtain ⟨x, hR, hx⟩ := H
    exact ⟨x, hR, HT.walk Γ_ok mo_ok (⟨annM, sp49, (hd49 [] [] [] [] ++ [(7000017, ⟨[1, 2, 7, 8], [2], [], [], []⟩)]), [], .pure [] (.bool x)⟩ : Wk) 4000 (by kernel_rfl) hx⟩
theorem flt_7 (p : Flt) (m : Int) (hv : Bool) (hvi : hv = true ↔ p.op = 6 ∨ p.op = 7) (hok : p.ok) (k : (¬ (p.op = 6 ∨ p.op = 7) → p.val = ⟨#[]⟩) ∧ (p.op = 7 → p.val ≠ ⟨#[]⟩) ∧ exB Tryd.prog 46 [.str p.val] = true → ∃ x : Bool, (x = true → p.r) ∧ HT Tryd.prog Tryd.f49.ntmps (pr Tryd.f49 9) (stG9 p m) (EndsA Γ (.pure [] (.bool x)) Tryd.f49)) : ∃ x : Bool, (x = true → p.r) ∧ HT Tryd.prog Tryd.f49.ntmps (pr Tryd.f49 7) (stG7 p m hv) (EndsA Γ (.pure [] (.bool x)) Tryd.f49) := by
    have H : ∃ x : Bool, (x = true → p.r) ∧ PT.holds Tryd.prog Tryd.f49.ntmps (EndsA Γ (.pure [] (.bool x)) Tryd.f49) (.split (hv) (.split (false) (.split (!decide (p.val = (ByteArray.mk #[]))) (.ob (false = x) (.tt)) (.split (decide (p.op = (7 : Int))) (.split (decide (p.val = (ByteArray.mk #[]))) (.ob (false = x) (.tt)) (.ob (Ctr Tryd.prog 46 [AV.str p.val] (AV.bool (exB Tryd.prog (46 : FuncId) [AV.str p.val]))) (.split (exB Tryd.prog (46 : FuncId) [AV.str p.val]) (.head (pr Tryd.f49 9) ({ tmps := [(1, AV.int .i64 m), (2, AV.ptr 2 0)], heap := [(2, .var true (fltL p))], tags := [] })) (.ob (false = x) (.tt))))) (.ob (Ctr Tryd.prog 46 [AV.str p.val] (AV.bool (exB Tryd.prog (46 : FuncId) [AV.str p.val]))) (.split (exB Tryd.prog (46 : FuncId) [AV.str p.val]) (.head (pr Tryd.f49 9) ({ tmps := [(1, AV.int .i64 m), (2, AV.ptr 2 0)], heap := [(2, .var true (fltL p))], tags := [] })) (.ob (false = x) (.tt)))))) (.split (decide (p.op = (7 : Int))) (.split (decide (p.val = (ByteArray.mk #[]))) (.ob (false = x) (.tt)) (.ob (Ctr Tryd.prog 46 [AV.str p.val] (AV.bool (exB Tryd.prog (46 : FuncId) [AV.str p.val]))) (.split (exB Tryd.prog (46 : FuncId) [AV.str p.val]) (.head (pr Tryd.f49 9) ({ tmps := [(1, AV.int .i64 m), (2, AV.ptr 2 0)], heap := [(2, .var true (fltL p))], tags := [] })) (.ob (false = x) (.tt))))) (.ob (Ctr Tryd.prog 46 [AV.str p.val] (AV.bool (exB Tryd.prog (46 : FuncId) [AV.str p.val]))) (.split (exB Tryd.prog (46 : FuncId) [AV.str p.val]) (.head (pr Tryd.f49 9) ({ tmps := [(1, AV.int .i64 m), (2, AV.ptr 2 0)], heap := [(2, .var true (fltL p))], tags := [] })) (.ob (false = x) (.tt)))))) (.split (true) (.split (!decide (p.val = (ByteArray.mk #[]))) (.ob (false = x) (.tt)) (.split (decide (p.op = (7 : Int))) (.split (decide (p.val = (ByteArray.mk #[]))) (.ob (false = x) (.tt)) (.ob (Ctr Tryd.prog 46 [AV.str p.val] (AV.bool (exB Tryd.prog (46 : FuncId) [AV.str p.val]))) (.split (exB Tryd.prog (46 : FuncId) [AV.str p.val]) (.head (pr Tryd.f49 9) ({ tmps := [(1, AV.int .i64 m), (2, AV.ptr 2 0)], heap := [(2, .var true (fltL p))], tags := [] })) (.ob (false = x) (.tt))))) (.ob (Ctr Tryd.prog 46 [AV.str p.val] (AV.bool (exB Tryd.prog (46 : FuncId) [AV.str p.val]))) (.split (exB Tryd.prog (46 : FuncId) [AV.str p.val]) (.head (pr Tryd.f49 9) ({ tmps := [(1, AV.int .i64 m), (2, AV.ptr 2 0)], heap := [(2, .var true (fltL p))], tags := [] })) (.ob (false = x) (.tt)))))) (.split (decide (p.op = (7 : Int))) (.split (decide (p.val = (ByteArray.mk #[]))) (.ob (false = x) (.tt)) (.ob (Ctr Tryd.prog 46 [AV.str p.val] (AV.bool (exB Tryd.prog (46 : FuncId) [AV.str p.val]))) (.split (exB Tryd.prog (46 : FuncId) [AV.str p.val]) (.head (pr Tryd.f49 9) ({ tmps := [(1, AV.int .i64 m), (2, AV.ptr 2 0)], heap := [(2, .var true (fltL p))], tags := [] })) (.ob (false = x) (.tt))))) (.ob (Ctr Tryd.prog 46 [AV.str p.val] (AV.bool (exB Tryd.prog (46 : FuncId) [AV.str p.val]))) (.split (exB Tryd.prog (46 : FuncId) [AV.str p.val]) (.head (pr Tryd.f49 9) ({ tmps := [(1, AV.int .i64 m), (2, AV.ptr 2 0)], heap := [(2, .var true (fltL p))], tags := [] })) (.ob (false = x) (.tt))))))) := by
      simp only [PT.holds, true_implies, Bool.false_eq_true, Bool.true_eq_false, false_implies, true_and, and_true]
      (repeat' first | exact ⟨_, triv, rfl, trivial⟩ | exact ⟨_, triv, rfl⟩ | refine ex_split (fun _ => ?_) (fun _ => ?_) | refine ex_ob ?_ ?_)
      all_goals first | (first | exact ⟨_, (fun h => absurd h (by decide)), rfl, trivial⟩ | exact ⟨_, (fun h => absurd h (by decide)), rfl⟩) | exact exB_ctr (right_ex _ (Flt.ok_i hok).2.1) | (refine k ⟨fun hh => ?_, fun hh => ?_, by assumption⟩ <;> (clear k; simp_all; done))
    obtain ⟨x, hR, hx⟩ := H
    exact ⟨x, hR, HT.walk Γ_ok mo_ok (⟨annM, 54 :: sp49, (hd49 [] [] [] [] ++ [(7000009, ⟨[1, 2], [2], [], [], []⟩)]), [], .pure [] (.bool x)⟩ : Wk) 4000 (by kernel_rfl) hx⟩
theorem flt_5 (p : Flt) (m : Int) (hn hv : Bool) (hni : hn = true ↔ 4 ≤ p.op ∧ p.op ≤ 6) (xn : Bool) (hxn : (xn = true → NmOk p.nm) ∧ Ctr Tryd.prog 66 [.agg (nmC p.nm)] (.bool xn)) (hok : p.ok) (k : ((4 ≤ p.op ∧ p.op ≤ 6) ↔ p.nm ≠ nm0) ∧ (4 ≤ p.op ∧ p.op ≤ 6 → NmOk p.nm) → ∃ x : Bool, (x = true → p.r) ∧ HT Tryd.prog Tryd.f49.ntmps (pr Tryd.f49 7) (stG7 p m hv) (EndsA Γ (.pure [] (.bool x)) Tryd.f49)) : ∃ x : Bool, (x = true → p.r) ∧ HT Tryd.prog Tryd.f49.ntmps (pr Tryd.f49 5) (stG5 p m hn hv) (EndsA Γ (.pure [] (.bool x)) Tryd.f49) := by
    have H : ∃ x : Bool, (x = true → p.r) ∧ PT.holds Tryd.prog Tryd.f49.ntmps (EndsA Γ (.pure [] (.bool x)) Tryd.f49) (.ob ((3 : Nat) ≤ (6 : Nat)) (.split (!hn == !(decide (p.nm.sp = (ByteArray.mk #[])) && (decide (p.nm.lo = (ByteArray.mk #[])) && true))) (.ob (false = x) (.tt)) (.split (hn) (.ob ((3 : Nat) ≤ (6 : Nat)) (.ob (Ctr Tryd.prog 66 [AV.agg [AV.str p.nm.sp, AV.str p.nm.lo]] (AV.bool xn)) (.split (xn) (.head (pr Tryd.f49 7) ({ tmps := [(1, AV.int .i64 m), (2, AV.ptr 2 0), (6, AV.bool hv)], heap := [(2, .var true (fltL p))], tags := [] })) (.ob (false = x) (.tt))))) (.head (pr Tryd.f49 7) ({ tmps := [(1, AV.int .i64 m), (2, AV.ptr 2 0), (6, AV.bool hv)], heap := [(2, .var true (fltL p))], tags := [] }))))) := by
      simp only [PT.holds, nm_chk, true_implies, Bool.false_eq_true, Bool.true_eq_false, false_implies, true_and, and_true]
      (repeat' first | exact ⟨_, triv, rfl, trivial⟩ | exact ⟨_, triv, rfl⟩ | refine ex_split (fun _ => ?_) (fun _ => ?_) | refine ex_ob ?_ ?_)
      all_goals first | (first | exact ⟨_, (fun h => absurd h (by decide)), rfl, trivial⟩ | exact ⟨_, (fun h => absurd h (by decide)), rfl⟩) | exact hxn.2 | exact k (f5_of p hn hni (by assumption) (fun _ => hxn.1 (by assumption))) | exact k (f5_of p hn hni (by assumption) (fun h => by simp_all)) | omega
    obtain ⟨x, hR, hx⟩ := H
    exact ⟨x, hR, HT.walk Γ_ok mo_ok (⟨([(49, .call [] (.bool xn))] ++ annM), sp49, (hd49 [] [] [] [] ++ [(7000007, ⟨[1, 2, 6], [2], [], [], []⟩)]), [], .pure [] (.bool x)⟩ : Wk) 4000 (by kernel_rfl) hx⟩
theorem flt_4 (p : Flt) (m : Int) (hn : Bool) (k : ∀ hv : Bool, (hv = true ↔ p.op = 6 ∨ p.op = 7) → ∃ x : Bool, (x = true → p.r) ∧ HT Tryd.prog Tryd.f49.ntmps (pr Tryd.f49 5) (stG5 p m hn hv) (EndsA Γ (.pure [] (.bool x)) Tryd.f49)) : ∃ x : Bool, (x = true → p.r) ∧ HT Tryd.prog Tryd.f49.ntmps (pr Tryd.f49 4) (stG4 p m hn) (EndsA Γ (.pure [] (.bool x)) Tryd.f49) := by
    have H : ∃ x : Bool, (x = true → p.r) ∧ PT.holds Tryd.prog Tryd.f49.ntmps (EndsA Γ (.pure [] (.bool x)) Tryd.f49) (.split (decide (p.op = (6 : Int))) (.head (pr Tryd.f49 5) ({ tmps := [(1, AV.int .i64 m), (2, AV.ptr 2 0), (5, AV.bool hn), (6, AV.bool true)], heap := [(2, .var true (fltL p))], tags := [] })) (.head (pr Tryd.f49 5) ({ tmps := [(1, AV.int .i64 m), (2, AV.ptr 2 0), (5, AV.bool hn), (6, AV.bool (decide (p.op = (7 : Int))))], heap := [(2, .var true (fltL p))], tags := [] }))) := by
      simp only [PT.holds, true_implies, Bool.false_eq_true, Bool.true_eq_false, false_implies, true_and, and_true]
      (repeat' first | exact ⟨_, triv, rfl, trivial⟩ | exact ⟨_, triv, rfl⟩ | refine ex_split (fun _ => ?_) (fun _ => ?_) | refine ex_ob ?_ ?_)
      all_goals (refine k _ ?_; clear k; simp_all; done)
    obtain ⟨x, hR, hx⟩ := H
    exact ⟨x, hR, HT.walk Γ_ok mo_ok (⟨annM, sp49, (hd49 [] [] [] [] ++ [(7000005, ⟨[1, 2, 5, 6], [2], [], [], []⟩)]), [], .pure [] (.bool x)⟩ : Wk) 4000 (by kernel_rfl) hx⟩
theorem flt_p (p : Flt) (m : Int) (k : 1 ≤ p.op ∧ p.op ≤ 11 → ∀ hn : Bool, (hn = true ↔ 4 ≤ p.op ∧ p.op ≤ 6) → ∃ x : Bool, (x = true → p.r) ∧ HT Tryd.prog Tryd.f49.ntmps (pr Tryd.f49 4) (stG4 p m hn) (EndsA Γ (.pure [] (.bool x)) Tryd.f49)) : ∃ x : Bool, (x = true → p.r) ∧ Ctr Tryd.prog 49 [.agg (fltL p), .int .i64 m] (.bool x) := by
    have H : ∃ x : Bool, (x = true → p.r) ∧ PT.holds Tryd.prog Tryd.f49.ntmps (EndsA Γ (.pure [] (.bool x)) Tryd.f49) (.split (decide (m = (0 : Int))) (.ob (false = x) (.tt)) (.split (decide (p.op < (1 : Int))) (.ob (false = x) (.tt)) (.split (decide ((11 : Int) < p.op)) (.ob (false = x) (.tt)) (.split (decide ((4 : Int) ≤ p.op)) (.head (pr Tryd.f49 4) ({ tmps := [(1, AV.int .i64 m), (2, AV.ptr 2 0), (5, AV.bool (decide (p.op ≤ (6 : Int))))], heap := [(2, .var true (fltL p))], tags := [] })) (.head (pr Tryd.f49 4) ({ tmps := [(1, AV.int .i64 m), (2, AV.ptr 2 0), (5, AV.bool false)], heap := [(2, .var true (fltL p))], tags := [] })))))) := by
      simp only [PT.holds, true_implies, Bool.false_eq_true, Bool.true_eq_false, false_implies, true_and, and_true]
      (repeat' first | exact ⟨_, triv, rfl, trivial⟩ | exact ⟨_, triv, rfl⟩ | refine ex_split (fun _ => ?_) (fun _ => ?_) | refine ex_ob ?_ ?_)
      all_goals first | (first | exact ⟨_, (fun h => absurd h (by decide)), rfl, trivial⟩ | exact ⟨_, (fun h => absurd h (by decide)), rfl⟩) | (refine k (by (first | omega | (simp only [decide_eq_true_eq, decide_eq_false_iff_not, Bool.not_eq_true', Bool.not_eq_false'] at *; omega))) _ ?_; clear k; first | (simp_all; done) | (simp_all; omega))
    obtain ⟨x, hR, hx⟩ := H
    exact ⟨x, hR, Ctr.mk Γ_ok Tryd.func49 (by kernel_rfl) Tryd.call49 [] (by kernel_rfl) (HT.walk Γ_ok mo_ok (⟨annM, sp49, (hd49 [] [] [] [] ++ [(7000004, ⟨[1, 2, 5], [2], [], [], []⟩)]), [], .pure [] (.bool x)⟩ : Wk) 4000 (by kernel_rfl) hx)⟩
end Go.Proofs.YteimloiaipiadaaDoor
end

section
set_option linter.unusedVariables false
set_option linter.unusedSimpArgs false
set_option maxRecDepth 100000
namespace Go.Proofs.YteimloiaipiadaaDoor
open Go Go.AX

theorem path_l (p : Pth) (m : Int) (hl : p.sub.length ≤ 1048600) (h1 : p.r1) (hp : ∀ q ∈ p.sub, ∀ m, ∃ b : Bool, (b = true → q.r) ∧ Ctr Tryd.prog 24 [.agg (pthL q), .int .i64 m] (.bool b)) (hf : ∀ q ∈ p.test, ∀ m, ∃ b : Bool, (b = true → q.r) ∧ Ctr Tryd.prog 49 [.agg (fltL q), .int .i64 m] (.bool b)) : ∀ d i, i + d = p.sub.length → (∀ k, k < i → (p.sub.getD k pth0).r) → ∃ x : Bool, (x = true → p.r) ∧ HT Tryd.prog Tryd.f24.ntmps (pt Tryd.f24 0) (stPa p m i) (EndsA Γ (.pure [] (.bool x)) Tryd.f24) := by
  have hc : ∃ c : Bool, 0 < p.test.length → (c = true → (p.test.getD 0 flt0).r) ∧ Ctr Tryd.prog 49 [.agg (fltL (p.test.getD 0 flt0)), .int .i64 (IntKind.i64.wrap (m - 1))] (.bool c) := by
    by_cases h : 0 < p.test.length
    · obtain ⟨c, h2⟩ := hf _ (getD_mem _ _ flt0 h) (IntKind.i64.wrap (m - 1))
      exact ⟨c, fun _ => h2⟩
    · exact ⟨true, fun hh => absurd hh h⟩
  obtain ⟨c, hc⟩ := hc
  intro d
  induction d with
  | zero => exact fun i h hs => stPa_h p m i (by omega) hl h1 hs true c (fun hh => by omega) hc (fun hh => by omega)
  | succ d ih =>
    intro i h hs
    obtain ⟨b, hb⟩ := hp _ (getD_mem _ i pth0 (by omega)) (IntKind.i64.wrap (m - 1))
    refine stPa_h p m i (by omega) hl h1 hs b c (fun _ => hb) hc (fun hh hr => ih (i + 1) (by omega) fun k hk => ?_)
    rcases Nat.lt_or_eq_of_le (Nat.lt_succ_iff.1 hk) with h2 | h2
    · exact hs k h2
    · rw [h2]; exact hr
theorem flt_l (p : Flt) (m : Int) (hl : p.sub.length ≤ 1048600) (h1 : p.r1) (hp : ∀ q ∈ p.sub, ∀ m, ∃ b : Bool, (b = true → q.r) ∧ Ctr Tryd.prog 49 [.agg (fltL q), .int .i64 m] (.bool b)) (hf : ∀ q ∈ p.way, ∀ m, ∃ b : Bool, (b = true → q.r) ∧ Ctr Tryd.prog 24 [.agg (pthL q), .int .i64 m] (.bool b)) : ∀ d i, i + d = p.sub.length → (∀ k, k < i → (p.sub.getD k flt0).r) → ∃ x : Bool, (x = true → p.r) ∧ HT Tryd.prog Tryd.f49.ntmps (pt Tryd.f49 0) (stPf p m i) (EndsA Γ (.pure [] (.bool x)) Tryd.f49) := by
  have hc : ∃ c : Bool, 0 < p.way.length → (c = true → (p.way.getD 0 pth0).r) ∧ Ctr Tryd.prog 24 [.agg (pthL (p.way.getD 0 pth0)), .int .i64 (IntKind.i64.wrap (m - 1))] (.bool c) := by
    by_cases h : 0 < p.way.length
    · obtain ⟨c, h2⟩ := hf _ (getD_mem _ _ pth0 h) (IntKind.i64.wrap (m - 1))
      exact ⟨c, fun _ => h2⟩
    · exact ⟨true, fun hh => absurd hh h⟩
  obtain ⟨c, hc⟩ := hc
  intro d
  induction d with
  | zero => exact fun i h hs => stPf_h p m i (by omega) hl h1 hs true c (fun hh => by omega) hc (fun hh => by omega)
  | succ d ih =>
    intro i h hs
    obtain ⟨b, hb⟩ := hp _ (getD_mem _ i flt0 (by omega)) (IntKind.i64.wrap (m - 1))
    refine stPf_h p m i (by omega) hl h1 hs b c (fun _ => hb) hc (fun hh hr => ih (i + 1) (by omega) fun k hk => ?_)
    rcases Nat.lt_or_eq_of_le (Nat.lt_succ_iff.1 hk) with h2 | h2
    · exact hs k h2
    · rw [h2]; exact hr

mutual
theorem path_ex (p : Pth) (hok : p.ok) (m : Int) : ∃ b : Bool, (b = true → p.r) ∧ Ctr Tryd.prog 24 [.agg (pthL p), .int .i64 m] (.bool b) :=
  path_p p m fun h1 => path_l p m (Pth.ok_i hok).1 h1 (fun q hq m => have := sub_lt p q hq; path_ex q ((Pth.ok_i hok).2.2.1 q hq) m) (fun q hq m => have := test_lt p q hq; filter_ex q ((Pth.ok_i hok).2.2.2 q hq) m) _ 0 (Nat.zero_add _) (fun k hk => absurd hk (Nat.not_lt_zero _))
termination_by SizeOf.sizeOf p
theorem filter_ex (p : Flt) (hok : p.ok) (m : Int) : ∃ b : Bool, (b = true → p.r) ∧ Ctr Tryd.prog 49 [.agg (fltL p), .int .i64 m] (.bool b) :=
  flt_p p m fun ho hn hni => flt_4 p m hn fun hv hvi => (named12b_ex p.nm (Flt.ok_i hok).1).elim fun xn hxn => flt_5 p m hn hv hni xn hxn hok fun h5 => flt_7 p m hv hvi hok fun h7 => flt_9 p m ho fun lo hi hr => flt_17 p m lo hi h5 h7 ho hr fun h1 =>
    flt_l p m (Flt.ok_i hok).2.2.1 h1 (fun q hq m => have := fsub_lt p q hq; filter_ex q ((Flt.ok_i hok).2.2.2.2.1 q hq) m) (fun q hq m => have := way_lt p q hq; path_ex q ((Flt.ok_i hok).2.2.2.2.2 q hq) m) _ 0 (Nat.zero_add _) (fun k hk => absurd hk (Nat.not_lt_zero _))
termination_by SizeOf.sizeOf p
end

end Go.Proofs.YteimloiaipiadaaDoor
end

section
set_option linter.unusedVariables false
set_option linter.unusedSimpArgs false
set_option maxRecDepth 100000
namespace Go.Proofs.YteimloiaipiadaaDoor
open Go Go.AX

theorem sP0_h (p : Pth) (m n i : Nat) (R : Int) (y : Nat) (hi : i < p.sub.length) (hl : p.sub.length ≤ 1048600) (hm : m ≤ 1000) (hn : n ≤ m) (hy : y ≤ 2000) (hc : Ctr Tryd.prog 48 [.agg (pthL (p.sub.getD i pth0)), .int .i64 (m - n : Nat)] (.int .i64 y)) (k : HT Tryd.prog Tryd.f48.ntmps (pt Tryd.f48 0) (stP0 p m (n + y : Nat) (i + 1)) (EndsA Γ (.pure [] (.int .i64 R)) Tryd.f48)) : HT Tryd.prog Tryd.f48.ntmps (pt Tryd.f48 0) (stP0 p m n i) (EndsA Γ (.pure [] (.int .i64 R)) Tryd.f48) :=
  HT.walk Γ_ok mo_ok (⟨([(25, .val (.agg (pthL (p.sub.getD i pth0)))), (48, .val (.agg (fltL (p.test.getD i flt0)))), (29, .call [] (.int .i64 y)), (52, .call [] (.int .i64 y))] ++ []), sp48, hd48 [] [] [] [], [], .pure [] (.int .i64 R)⟩ : Wk) 4000 (T := .split (decide ((↑i : Int) < (↑p.sub.length : Int))) (.split (decide ((↑n : Int) ≤ (↑m : Int))) (.ob ((0 : Int) ≤ (↑i : Int) ∧ (↑i : Int) < (↑p.sub.length : Int) ∧ (↑i : Int).toNat * (3 : Nat) < (pthsC p.sub).length) (.ob (List.take (3 : Nat) (List.drop ((↑i : Int).toNat * (3 : Nat)) (pthsC p.sub)) = (pthL (p.sub.getD i pth0))) (.ob (Ctr Tryd.prog 48 [AV.agg (pthL (p.sub.getD i pth0)), AV.int .i64 (IntKind.i64.wrap ((↑m : Int) - (↑n : Int)))] (AV.int .i64 (↑y : Int))) (.head (pt Tryd.f48 0) ({ tmps := [(1, AV.int .i64 (↑m : Int)), (2, AV.ptr 2 0), (5, AV.int .i64 (IntKind.i64.wrap ((↑n : Int) + (↑y : Int)))), (6, AV.int .i64 (IntKind.i64.wrap ((↑i : Int) + (1 : Int))))], heap := [(2, .var true (pthL p))], tags := [] }))))) (.head (pt Tryd.f48 1) ({ tmps := [(1, AV.int .i64 (↑m : Int)), (2, AV.ptr 2 0), (5, AV.int .i64 (↑n : Int)), (7, AV.int .i64 (0 : Int))], heap := [(2, .var true (pthL p))], tags := [] }))) (.head (pt Tryd.f48 1) ({ tmps := [(1, AV.int .i64 (↑m : Int)), (2, AV.ptr 2 0), (5, AV.int .i64 (↑n : Int)), (7, AV.int .i64 (0 : Int))], heap := [(2, .var true (pthL p))], tags := [] }))) (by kernel_rfl) (by
    have w2 : IntKind.i64.wrap ((i : Int) + 1) = ((i + 1 : Nat) : Int) := by rw [i64_wrap (by omega) (by omega)]; rfl
    have w3 : IntKind.i64.wrap ((m : Int) - (n : Int)) = ((m - n : Nat) : Int) := by rw [i64_wrap (by omega) (by omega)]; omega
    have w4 : IntKind.i64.wrap ((n : Int) + (y : Int)) = ((n + y : Nat) : Int) := by rw [i64_wrap (by omega) (by omega)]; rfl
    have h0 : decide ((i : Int) < p.sub.length) = true := by simp; omega
    have h1 : decide ((n : Int) ≤ (m : Int)) = true := by simp; omega
    simp only [PT.holds, w2, w3, w4, h0, h1, Int.toNat_natCast, pthsC_len, fltsC_len, true_implies, Bool.false_eq_true, Bool.true_eq_false, false_implies, true_and, and_true]
    exact ⟨by omega, by ((try simp only [Nat.add_assoc, Nat.reduceAdd, Nat.add_zero]) <;> first | (rw [ats_take _ _ _ _ hi (by decide)]; rfl) | (rw [pths_take _ _ _ _ hi (by decide)]; rfl) | (rw [flts_take _ _ _ _ hi (by decide)]; rfl) | (rw [ats_take0 _ _ _ hi (by decide)]; rfl) | (rw [pths_take0 _ _ _ hi (by decide)]; rfl) | (rw [flts_take0 _ _ _ hi (by decide)]; rfl)), hc, head_eq k (by simp [stP0, pthL])⟩)
theorem sP0_e (p : Pth) (m n i : Nat) (R : Int) (h : p.sub.length ≤ i ∨ m < n) (k : HT Tryd.prog Tryd.f48.ntmps (pt Tryd.f48 1) (stP1 p m n 0) (EndsA Γ (.pure [] (.int .i64 R)) Tryd.f48)) : HT Tryd.prog Tryd.f48.ntmps (pt Tryd.f48 0) (stP0 p m n i) (EndsA Γ (.pure [] (.int .i64 R)) Tryd.f48) :=
  HT.walk Γ_ok mo_ok (⟨([(25, .val (.agg (pthL (p.sub.getD i pth0)))), (48, .val (.agg (fltL (p.test.getD i flt0)))), (29, .call [] (.int .i64 0)), (52, .call [] (.int .i64 0))] ++ []), sp48, hd48 [] [] [] [], [], .pure [] (.int .i64 R)⟩ : Wk) 4000 (T := .split (decide ((↑i : Int) < (↑p.sub.length : Int))) (.split (decide ((↑n : Int) ≤ (↑m : Int))) (.ob ((0 : Int) ≤ (↑i : Int) ∧ (↑i : Int) < (↑p.sub.length : Int) ∧ (↑i : Int).toNat * (3 : Nat) < (pthsC p.sub).length) (.ob (List.take (3 : Nat) (List.drop ((↑i : Int).toNat * (3 : Nat)) (pthsC p.sub)) = (pthL (p.sub.getD i pth0))) (.ob (Ctr Tryd.prog 48 [AV.agg (pthL (p.sub.getD i pth0)), AV.int .i64 (IntKind.i64.wrap ((↑m : Int) - (↑n : Int)))] (AV.int .i64 (0 : Int))) (.head (pt Tryd.f48 0) ({ tmps := [(1, AV.int .i64 (↑m : Int)), (2, AV.ptr 2 0), (5, AV.int .i64 (IntKind.i64.wrap ((↑n : Int) + (0 : Int)))), (6, AV.int .i64 (IntKind.i64.wrap ((↑i : Int) + (1 : Int))))], heap := [(2, .var true (pthL p))], tags := [] }))))) (.head (pt Tryd.f48 1) ({ tmps := [(1, AV.int .i64 (↑m : Int)), (2, AV.ptr 2 0), (5, AV.int .i64 (↑n : Int)), (7, AV.int .i64 (0 : Int))], heap := [(2, .var true (pthL p))], tags := [] }))) (.head (pt Tryd.f48 1) ({ tmps := [(1, AV.int .i64 (↑m : Int)), (2, AV.ptr 2 0), (5, AV.int .i64 (↑n : Int)), (7, AV.int .i64 (0 : Int))], heap := [(2, .var true (pthL p))], tags := [] }))) (by kernel_rfl) (by
    simp only [PT.holds, true_implies, Bool.false_eq_true, Bool.true_eq_false, false_implies, true_and, and_true]
    refine ⟨fun a => ⟨fun b => ?_, fun b => ?_⟩, fun a => ?_⟩
    · exfalso; have := of_decide_eq_true a; have := of_decide_eq_true b; omega
    · exact head_eq k (by simp [stP1, pthL])
    · exact head_eq k (by simp [stP1, pthL]))
theorem sP1_h (p : Pth) (m n i : Nat) (R : Int) (y : Nat) (hi : i < p.test.length) (hl : p.test.length ≤ 1048600) (hm : m ≤ 1000) (hn : n ≤ m) (hy : y ≤ 2000) (hc : Ctr Tryd.prog 65 [.agg (fltL (p.test.getD i flt0)), .int .i64 (m - n : Nat)] (.int .i64 y)) (k : HT Tryd.prog Tryd.f48.ntmps (pt Tryd.f48 1) (stP1 p m (n + y : Nat) (i + 1)) (EndsA Γ (.pure [] (.int .i64 R)) Tryd.f48)) : HT Tryd.prog Tryd.f48.ntmps (pt Tryd.f48 1) (stP1 p m n i) (EndsA Γ (.pure [] (.int .i64 R)) Tryd.f48) :=
  HT.walk Γ_ok mo_ok (⟨([(25, .val (.agg (pthL (p.sub.getD i pth0)))), (48, .val (.agg (fltL (p.test.getD i flt0)))), (29, .call [] (.int .i64 y)), (52, .call [] (.int .i64 y))] ++ []), sp48, hd48 [] [] [] [], [], .pure [] (.int .i64 R)⟩ : Wk) 4000 (T := .split (decide ((↑i : Int) < (↑p.test.length : Int))) (.split (decide ((↑n : Int) ≤ (↑m : Int))) (.ob ((0 : Int) ≤ (↑i : Int) ∧ (↑i : Int) < (↑p.test.length : Int) ∧ (↑i : Int).toNat * (6 : Nat) < (fltsC p.test).length) (.ob (List.take (6 : Nat) (List.drop ((↑i : Int).toNat * (6 : Nat)) (fltsC p.test)) = (fltL (p.test.getD i flt0))) (.ob (Ctr Tryd.prog 65 [AV.agg (fltL (p.test.getD i flt0)), AV.int .i64 (IntKind.i64.wrap ((↑m : Int) - (↑n : Int)))] (AV.int .i64 (↑y : Int))) (.head (pt Tryd.f48 1) ({ tmps := [(1, AV.int .i64 (↑m : Int)), (2, AV.ptr 2 0), (5, AV.int .i64 (IntKind.i64.wrap ((↑n : Int) + (↑y : Int)))), (7, AV.int .i64 (IntKind.i64.wrap ((↑i : Int) + (1 : Int))))], heap := [(2, .var true (pthL p))], tags := [] }))))) (.ob ((↑n : Int) = R) (.tt))) (.ob ((↑n : Int) = R) (.tt))) (by kernel_rfl) (by
    have w2 : IntKind.i64.wrap ((i : Int) + 1) = ((i + 1 : Nat) : Int) := by rw [i64_wrap (by omega) (by omega)]; rfl
    have w3 : IntKind.i64.wrap ((m : Int) - (n : Int)) = ((m - n : Nat) : Int) := by rw [i64_wrap (by omega) (by omega)]; omega
    have w4 : IntKind.i64.wrap ((n : Int) + (y : Int)) = ((n + y : Nat) : Int) := by rw [i64_wrap (by omega) (by omega)]; rfl
    have h0 : decide ((i : Int) < p.test.length) = true := by simp; omega
    have h1 : decide ((n : Int) ≤ (m : Int)) = true := by simp; omega
    simp only [PT.holds, w2, w3, w4, h0, h1, Int.toNat_natCast, pthsC_len, fltsC_len, true_implies, Bool.false_eq_true, Bool.true_eq_false, false_implies, true_and, and_true]
    exact ⟨by omega, by ((try simp only [Nat.add_assoc, Nat.reduceAdd, Nat.add_zero]) <;> first | (rw [ats_take _ _ _ _ hi (by decide)]; rfl) | (rw [pths_take _ _ _ _ hi (by decide)]; rfl) | (rw [flts_take _ _ _ _ hi (by decide)]; rfl) | (rw [ats_take0 _ _ _ hi (by decide)]; rfl) | (rw [pths_take0 _ _ _ hi (by decide)]; rfl) | (rw [flts_take0 _ _ _ hi (by decide)]; rfl)), hc, head_eq k (by simp [stP1, pthL])⟩)
theorem sP1_e (p : Pth) (m n i : Nat) (h : p.test.length ≤ i ∨ m < n) : HT Tryd.prog Tryd.f48.ntmps (pt Tryd.f48 1) (stP1 p m n i) (EndsA Γ (.pure [] (.int .i64 n)) Tryd.f48) :=
  HT.walk Γ_ok mo_ok (⟨([(25, .val (.agg (pthL (p.sub.getD i pth0)))), (48, .val (.agg (fltL (p.test.getD i flt0)))), (29, .call [] (.int .i64 0)), (52, .call [] (.int .i64 0))] ++ []), sp48, hd48 [] [] [] [], [], .pure [] (.int .i64 n)⟩ : Wk) 4000 (T := .split (decide ((↑i : Int) < (↑p.test.length : Int))) (.split (decide ((↑n : Int) ≤ (↑m : Int))) (.ob ((0 : Int) ≤ (↑i : Int) ∧ (↑i : Int) < (↑p.test.length : Int) ∧ (↑i : Int).toNat * (6 : Nat) < (fltsC p.test).length) (.ob (List.take (6 : Nat) (List.drop ((↑i : Int).toNat * (6 : Nat)) (fltsC p.test)) = (fltL (p.test.getD i flt0))) (.ob (Ctr Tryd.prog 65 [AV.agg (fltL (p.test.getD i flt0)), AV.int .i64 (IntKind.i64.wrap ((↑m : Int) - (↑n : Int)))] (AV.int .i64 (0 : Int))) (.head (pt Tryd.f48 1) ({ tmps := [(1, AV.int .i64 (↑m : Int)), (2, AV.ptr 2 0), (5, AV.int .i64 (IntKind.i64.wrap ((↑n : Int) + (0 : Int)))), (7, AV.int .i64 (IntKind.i64.wrap ((↑i : Int) + (1 : Int))))], heap := [(2, .var true (pthL p))], tags := [] }))))) (.ob ((↑n : Int) = (↑n : Int)) (.tt))) (.ob ((↑n : Int) = (↑n : Int)) (.tt))) (by kernel_rfl) (by
    simp only [PT.holds, true_implies, Bool.false_eq_true, Bool.true_eq_false, false_implies, true_and, and_true]
    refine ⟨fun a => ⟨fun b => ?_, fun b => trivial⟩, fun a => trivial⟩
    exfalso; have := of_decide_eq_true a; have := of_decide_eq_true b; omega)
theorem sP_p (p : Pth) (m : Nat) (R : Int) (k : HT Tryd.prog Tryd.f48.ntmps (pt Tryd.f48 0) (stP0 p m 1 0) (EndsA Γ (.pure [] (.int .i64 R)) Tryd.f48)) : Ctr Tryd.prog 48 [.agg (pthL p), .int .i64 m] (.int .i64 R) :=
  Ctr.mk Γ_ok Tryd.func48 (by kernel_rfl) Tryd.call48 [] (by kernel_rfl) (HT.walk Γ_ok mo_ok (⟨([] ++ []), sp48, hd48 [] [] [] [], [], .pure [] (.int .i64 R)⟩ : Wk) 4000 (T := .head (pt Tryd.f48 0) ({ tmps := [(1, AV.int .i64 (↑m : Int)), (2, AV.ptr 2 0), (5, AV.int .i64 (1 : Int)), (6, AV.int .i64 (0 : Int))], heap := [(2, .var true (pthL p))], tags := [] })) (by kernel_rfl) (by
    simp only [PT.holds, true_implies, Bool.false_eq_true, Bool.true_eq_false, false_implies, true_and, and_true]
    exact head_eq k (by simp [stP0, pthL])))
theorem sQ0_h (p : Flt) (m n i : Nat) (R : Int) (y : Nat) (hi : i < p.sub.length) (hl : p.sub.length ≤ 1048600) (hm : m ≤ 1000) (hn : n ≤ m) (hy : y ≤ 2000) (hc : Ctr Tryd.prog 65 [.agg (fltL (p.sub.getD i flt0)), .int .i64 (m - n : Nat)] (.int .i64 y)) (k : HT Tryd.prog Tryd.f65.ntmps (pt Tryd.f65 0) (stQ0 p m (n + y : Nat) (i + 1)) (EndsA Γ (.pure [] (.int .i64 R)) Tryd.f65)) : HT Tryd.prog Tryd.f65.ntmps (pt Tryd.f65 0) (stQ0 p m n i) (EndsA Γ (.pure [] (.int .i64 R)) Tryd.f65) :=
  HT.walk Γ_ok mo_ok (⟨([(25, .val (.agg (fltL (p.sub.getD i flt0)))), (48, .val (.agg (pthL (p.way.getD i pth0)))), (29, .call [] (.int .i64 y)), (52, .call [] (.int .i64 y))] ++ []), sp65, hd65 [] [] [] [], [], .pure [] (.int .i64 R)⟩ : Wk) 4000 (T := .split (decide ((↑i : Int) < (↑p.sub.length : Int))) (.split (decide ((↑n : Int) ≤ (↑m : Int))) (.ob ((0 : Int) ≤ (↑i : Int) ∧ (↑i : Int) < (↑p.sub.length : Int) ∧ (↑i : Int).toNat * (6 : Nat) < (fltsC p.sub).length) (.ob (List.take (6 : Nat) (List.drop ((↑i : Int).toNat * (6 : Nat)) (fltsC p.sub)) = (fltL (p.sub.getD i flt0))) (.ob (Ctr Tryd.prog 65 [AV.agg (fltL (p.sub.getD i flt0)), AV.int .i64 (IntKind.i64.wrap ((↑m : Int) - (↑n : Int)))] (AV.int .i64 (↑y : Int))) (.head (pt Tryd.f65 0) ({ tmps := [(1, AV.int .i64 (↑m : Int)), (2, AV.ptr 2 0), (5, AV.int .i64 (IntKind.i64.wrap ((↑n : Int) + (↑y : Int)))), (6, AV.int .i64 (IntKind.i64.wrap ((↑i : Int) + (1 : Int))))], heap := [(2, .var true (fltL p))], tags := [] }))))) (.head (pt Tryd.f65 1) ({ tmps := [(1, AV.int .i64 (↑m : Int)), (2, AV.ptr 2 0), (5, AV.int .i64 (↑n : Int)), (7, AV.int .i64 (0 : Int))], heap := [(2, .var true (fltL p))], tags := [] }))) (.head (pt Tryd.f65 1) ({ tmps := [(1, AV.int .i64 (↑m : Int)), (2, AV.ptr 2 0), (5, AV.int .i64 (↑n : Int)), (7, AV.int .i64 (0 : Int))], heap := [(2, .var true (fltL p))], tags := [] }))) (by kernel_rfl) (by
    have w2 : IntKind.i64.wrap ((i : Int) + 1) = ((i + 1 : Nat) : Int) := by rw [i64_wrap (by omega) (by omega)]; rfl
    have w3 : IntKind.i64.wrap ((m : Int) - (n : Int)) = ((m - n : Nat) : Int) := by rw [i64_wrap (by omega) (by omega)]; omega
    have w4 : IntKind.i64.wrap ((n : Int) + (y : Int)) = ((n + y : Nat) : Int) := by rw [i64_wrap (by omega) (by omega)]; rfl
    have h0 : decide ((i : Int) < p.sub.length) = true := by simp; omega
    have h1 : decide ((n : Int) ≤ (m : Int)) = true := by simp; omega
    simp only [PT.holds, w2, w3, w4, h0, h1, Int.toNat_natCast, pthsC_len, fltsC_len, true_implies, Bool.false_eq_true, Bool.true_eq_false, false_implies, true_and, and_true]
    exact ⟨by omega, by ((try simp only [Nat.add_assoc, Nat.reduceAdd, Nat.add_zero]) <;> first | (rw [ats_take _ _ _ _ hi (by decide)]; rfl) | (rw [pths_take _ _ _ _ hi (by decide)]; rfl) | (rw [flts_take _ _ _ _ hi (by decide)]; rfl) | (rw [ats_take0 _ _ _ hi (by decide)]; rfl) | (rw [pths_take0 _ _ _ hi (by decide)]; rfl) | (rw [flts_take0 _ _ _ hi (by decide)]; rfl)), hc, head_eq k (by simp [stQ0, fltL])⟩)
theorem sQ0_e (p : Flt) (m n i : Nat) (R : Int) (h : p.sub.length ≤ i ∨ m < n) (k : HT Tryd.prog Tryd.f65.ntmps (pt Tryd.f65 1) (stQ1 p m n 0) (EndsA Γ (.pure [] (.int .i64 R)) Tryd.f65)) : HT Tryd.prog Tryd.f65.ntmps (pt Tryd.f65 0) (stQ0 p m n i) (EndsA Γ (.pure [] (.int .i64 R)) Tryd.f65) :=
  HT.walk Γ_ok mo_ok (⟨([(25, .val (.agg (fltL (p.sub.getD i flt0)))), (48, .val (.agg (pthL (p.way.getD i pth0)))), (29, .call [] (.int .i64 0)), (52, .call [] (.int .i64 0))] ++ []), sp65, hd65 [] [] [] [], [], .pure [] (.int .i64 R)⟩ : Wk) 4000 (T := .split (decide ((↑i : Int) < (↑p.sub.length : Int))) (.split (decide ((↑n : Int) ≤ (↑m : Int))) (.ob ((0 : Int) ≤ (↑i : Int) ∧ (↑i : Int) < (↑p.sub.length : Int) ∧ (↑i : Int).toNat * (6 : Nat) < (fltsC p.sub).length) (.ob (List.take (6 : Nat) (List.drop ((↑i : Int).toNat * (6 : Nat)) (fltsC p.sub)) = (fltL (p.sub.getD i flt0))) (.ob (Ctr Tryd.prog 65 [AV.agg (fltL (p.sub.getD i flt0)), AV.int .i64 (IntKind.i64.wrap ((↑m : Int) - (↑n : Int)))] (AV.int .i64 (0 : Int))) (.head (pt Tryd.f65 0) ({ tmps := [(1, AV.int .i64 (↑m : Int)), (2, AV.ptr 2 0), (5, AV.int .i64 (IntKind.i64.wrap ((↑n : Int) + (0 : Int)))), (6, AV.int .i64 (IntKind.i64.wrap ((↑i : Int) + (1 : Int))))], heap := [(2, .var true (fltL p))], tags := [] }))))) (.head (pt Tryd.f65 1) ({ tmps := [(1, AV.int .i64 (↑m : Int)), (2, AV.ptr 2 0), (5, AV.int .i64 (↑n : Int)), (7, AV.int .i64 (0 : Int))], heap := [(2, .var true (fltL p))], tags := [] }))) (.head (pt Tryd.f65 1) ({ tmps := [(1, AV.int .i64 (↑m : Int)), (2, AV.ptr 2 0), (5, AV.int .i64 (↑n : Int)), (7, AV.int .i64 (0 : Int))], heap := [(2, .var true (fltL p))], tags := [] }))) (by kernel_rfl) (by
    simp only [PT.holds, true_implies, Bool.false_eq_true, Bool.true_eq_false, false_implies, true_and, and_true]
    refine ⟨fun a => ⟨fun b => ?_, fun b => ?_⟩, fun a => ?_⟩
    · exfalso; have := of_decide_eq_true a; have := of_decide_eq_true b; omega
    · exact head_eq k (by simp [stQ1, fltL])
    · exact head_eq k (by simp [stQ1, fltL]))
theorem sQ1_h (p : Flt) (m n i : Nat) (R : Int) (y : Nat) (hi : i < p.way.length) (hl : p.way.length ≤ 1048600) (hm : m ≤ 1000) (hn : n ≤ m) (hy : y ≤ 2000) (hc : Ctr Tryd.prog 48 [.agg (pthL (p.way.getD i pth0)), .int .i64 (m - n : Nat)] (.int .i64 y)) (k : HT Tryd.prog Tryd.f65.ntmps (pt Tryd.f65 1) (stQ1 p m (n + y : Nat) (i + 1)) (EndsA Γ (.pure [] (.int .i64 R)) Tryd.f65)) : HT Tryd.prog Tryd.f65.ntmps (pt Tryd.f65 1) (stQ1 p m n i) (EndsA Γ (.pure [] (.int .i64 R)) Tryd.f65) :=
  HT.walk Γ_ok mo_ok (⟨([(25, .val (.agg (fltL (p.sub.getD i flt0)))), (48, .val (.agg (pthL (p.way.getD i pth0)))), (29, .call [] (.int .i64 y)), (52, .call [] (.int .i64 y))] ++ []), sp65, hd65 [] [] [] [], [], .pure [] (.int .i64 R)⟩ : Wk) 4000 (T := .split (decide ((↑i : Int) < (↑p.way.length : Int))) (.split (decide ((↑n : Int) ≤ (↑m : Int))) (.ob ((0 : Int) ≤ (↑i : Int) ∧ (↑i : Int) < (↑p.way.length : Int) ∧ (↑i : Int).toNat * (3 : Nat) < (pthsC p.way).length) (.ob (List.take (3 : Nat) (List.drop ((↑i : Int).toNat * (3 : Nat)) (pthsC p.way)) = (pthL (p.way.getD i pth0))) (.ob (Ctr Tryd.prog 48 [AV.agg (pthL (p.way.getD i pth0)), AV.int .i64 (IntKind.i64.wrap ((↑m : Int) - (↑n : Int)))] (AV.int .i64 (↑y : Int))) (.head (pt Tryd.f65 1) ({ tmps := [(1, AV.int .i64 (↑m : Int)), (2, AV.ptr 2 0), (5, AV.int .i64 (IntKind.i64.wrap ((↑n : Int) + (↑y : Int)))), (7, AV.int .i64 (IntKind.i64.wrap ((↑i : Int) + (1 : Int))))], heap := [(2, .var true (fltL p))], tags := [] }))))) (.ob ((↑n : Int) = R) (.tt))) (.ob ((↑n : Int) = R) (.tt))) (by kernel_rfl) (by
    have w2 : IntKind.i64.wrap ((i : Int) + 1) = ((i + 1 : Nat) : Int) := by rw [i64_wrap (by omega) (by omega)]; rfl
    have w3 : IntKind.i64.wrap ((m : Int) - (n : Int)) = ((m - n : Nat) : Int) := by rw [i64_wrap (by omega) (by omega)]; omega
    have w4 : IntKind.i64.wrap ((n : Int) + (y : Int)) = ((n + y : Nat) : Int) := by rw [i64_wrap (by omega) (by omega)]; rfl
    have h0 : decide ((i : Int) < p.way.length) = true := by simp; omega
    have h1 : decide ((n : Int) ≤ (m : Int)) = true := by simp; omega
    simp only [PT.holds, w2, w3, w4, h0, h1, Int.toNat_natCast, pthsC_len, fltsC_len, true_implies, Bool.false_eq_true, Bool.true_eq_false, false_implies, true_and, and_true]
    exact ⟨by omega, by ((try simp only [Nat.add_assoc, Nat.reduceAdd, Nat.add_zero]) <;> first | (rw [ats_take _ _ _ _ hi (by decide)]; rfl) | (rw [pths_take _ _ _ _ hi (by decide)]; rfl) | (rw [flts_take _ _ _ _ hi (by decide)]; rfl) | (rw [ats_take0 _ _ _ hi (by decide)]; rfl) | (rw [pths_take0 _ _ _ hi (by decide)]; rfl) | (rw [flts_take0 _ _ _ hi (by decide)]; rfl)), hc, head_eq k (by simp [stQ1, fltL])⟩)
theorem sQ1_e (p : Flt) (m n i : Nat) (h : p.way.length ≤ i ∨ m < n) : HT Tryd.prog Tryd.f65.ntmps (pt Tryd.f65 1) (stQ1 p m n i) (EndsA Γ (.pure [] (.int .i64 n)) Tryd.f65) :=
  HT.walk Γ_ok mo_ok (⟨([(25, .val (.agg (fltL (p.sub.getD i flt0)))), (48, .val (.agg (pthL (p.way.getD i pth0)))), (29, .call [] (.int .i64 0)), (52, .call [] (.int .i64 0))] ++ []), sp65, hd65 [] [] [] [], [], .pure [] (.int .i64 n)⟩ : Wk) 4000 (T := .split (decide ((↑i : Int) < (↑p.way.length : Int))) (.split (decide ((↑n : Int) ≤ (↑m : Int))) (.ob ((0 : Int) ≤ (↑i : Int) ∧ (↑i : Int) < (↑p.way.length : Int) ∧ (↑i : Int).toNat * (3 : Nat) < (pthsC p.way).length) (.ob (List.take (3 : Nat) (List.drop ((↑i : Int).toNat * (3 : Nat)) (pthsC p.way)) = (pthL (p.way.getD i pth0))) (.ob (Ctr Tryd.prog 48 [AV.agg (pthL (p.way.getD i pth0)), AV.int .i64 (IntKind.i64.wrap ((↑m : Int) - (↑n : Int)))] (AV.int .i64 (0 : Int))) (.head (pt Tryd.f65 1) ({ tmps := [(1, AV.int .i64 (↑m : Int)), (2, AV.ptr 2 0), (5, AV.int .i64 (IntKind.i64.wrap ((↑n : Int) + (0 : Int)))), (7, AV.int .i64 (IntKind.i64.wrap ((↑i : Int) + (1 : Int))))], heap := [(2, .var true (fltL p))], tags := [] }))))) (.ob ((↑n : Int) = (↑n : Int)) (.tt))) (.ob ((↑n : Int) = (↑n : Int)) (.tt))) (by kernel_rfl) (by
    simp only [PT.holds, true_implies, Bool.false_eq_true, Bool.true_eq_false, false_implies, true_and, and_true]
    refine ⟨fun a => ⟨fun b => ?_, fun b => trivial⟩, fun a => trivial⟩
    exfalso; have := of_decide_eq_true a; have := of_decide_eq_true b; omega)
theorem sQ_p (p : Flt) (m : Nat) (R : Int) (k : HT Tryd.prog Tryd.f65.ntmps (pt Tryd.f65 0) (stQ0 p m 1 0) (EndsA Γ (.pure [] (.int .i64 R)) Tryd.f65)) : Ctr Tryd.prog 65 [.agg (fltL p), .int .i64 m] (.int .i64 R) :=
  Ctr.mk Γ_ok Tryd.func65 (by kernel_rfl) Tryd.call65 [] (by kernel_rfl) (HT.walk Γ_ok mo_ok (⟨([] ++ []), sp65, hd65 [] [] [] [], [], .pure [] (.int .i64 R)⟩ : Wk) 4000 (T := .head (pt Tryd.f65 0) ({ tmps := [(1, AV.int .i64 (↑m : Int)), (2, AV.ptr 2 0), (5, AV.int .i64 (1 : Int)), (6, AV.int .i64 (0 : Int))], heap := [(2, .var true (fltL p))], tags := [] })) (by kernel_rfl) (by
    simp only [PT.holds, true_implies, Bool.false_eq_true, Bool.true_eq_false, false_implies, true_and, and_true]
    exact head_eq k (by simp [stQ0, fltL])))
end Go.Proofs.YteimloiaipiadaaDoor
end

section
set_option linter.unusedVariables false
set_option linter.unusedSimpArgs false
set_option maxRecDepth 100000
namespace Go.Proofs.YteimloiaipiadaaDoor
open Go Go.AX

def nmsC (l : List Nm) : List AV := l.flatMap nmC
def strsC (l : List ByteArray) : List AV := l.map .str
theorem nmC_len (a : Nm) : (nmC a).length = 2 := rfl
theorem nmsC_len (l : List Nm) : (nmsC l).length = l.length * 2 := flat_len nmC_len l
theorem nms_take0 (l : List Nm) (i m : Nat) (hi : i < l.length) (hm : m ≤ 2) : ((nmsC l).drop (i * 2)).take m = (nmC (l.getD i nm0)).take m := by have := flat_take nmC_len nm0 l i 0 m hi (by omega); rw [Nat.add_zero] at this; simpa [nmsC] using this
theorem strsC_len (l : List ByteArray) : (strsC l).length = l.length := by simp [strsC]
theorem strs_nth (l : List ByteArray) (i : Nat) (hi : i < l.length) : (strsC l)[i]? = some (.str (l.getD i ⟨#[]⟩)) := by simp [strsC, List.getD_eq_getElem?_getD, hi]
theorem nmsC_app (l : List Nm) (n : Nm) : nmsC (l ++ [n]) = nmsC l ++ [.str n.sp, .str n.lo] := by simp [nmsC, nmC]
theorem strsC_app (l : List ByteArray) (n : ByteArray) : strsC (l ++ [n]) = strsC l ++ [.str n] := by simp [strsC]
theorem nm_eq (a b : Nm) : (decide (a.sp = b.sp) && (decide (a.lo = b.lo) && true)) = decide (a = b) := by
  cases a; cases b
  simp only [Bool.and_true, Nm.mk.injEq, Bool.decide_and]
def hasB (l : List ByteArray) (n : ByteArray) : Bool := l.any fun x => decide (x = n)
theorem hasB_iff (l : List ByteArray) (n : ByteArray) : hasB l n = true ↔ n ∈ l := by
  simp only [hasB, List.any_eq_true, decide_eq_true_eq]
  exact ⟨fun ⟨x, h, e⟩ => e ▸ h, fun h => ⟨n, h, rfl⟩⟩
theorem hasB_false (l : List ByteArray) (n : ByteArray) (h : n ∉ l) : hasB l n = false := by
  cases e : hasB l n with
  | false => rfl
  | true => exact absurd ((hasB_iff l n).1 e) h
def stHn (l : List Nm) (n : Nm) (i : Nat) : AS := ⟨[(0, .sl none l.length (nmsC l) .no), (3, .ptr 3 0), (5, .int .i64 i)], [(3, .var true (nmC n))], []⟩
def stHs (l : List ByteArray) (s : ByteArray) (i : Nat) : AS := ⟨[(0, .sl none l.length (strsC l) .no), (1, .str s), (5, .int .i64 i)], [], []⟩

theorem hn_h (l : List Nm) (n : Nm) (i : Nat) (R : Bool) (hi : i < l.length) (hl : l.length ≤ 1000000) (k : l.getD i nm0 ≠ n → HT Tryd.prog Tryd.f70.ntmps (pt Tryd.f70 0) (stHn l n (i + 1)) (EndsA Γ (.pure [] (.bool R)) Tryd.f70)) (hr : l.getD i nm0 = n → R = true) : HT Tryd.prog Tryd.f70.ntmps (pt Tryd.f70 0) (stHn l n i) (EndsA Γ (.pure [] (.bool R)) Tryd.f70) :=
  HT.walk Γ_ok mo_ok (⟨[(9, .val (.bool true)), (15, .val (.agg (nmC (l.getD i nm0))))], (sp70).filter (fun x => !Nat.beq x 9), hd70 [] [] [] [], dsp70, .pure [] (.bool R)⟩ : Wk) 4000 (T := .ob (decide ((↑i : Int) < (↑l.length : Int)) = true) (.or (.ob ((0 : Int) ≤ (↑i : Int) ∧ (↑i : Int) < (↑l.length : Int) ∧ (↑i : Int).toNat * (2 : Nat) < (nmsC l).length) (.ob (List.take (2 : Nat) (List.drop ((↑i : Int).toNat * (2 : Nat)) (nmsC l)) = [AV.str (l.getD i nm0).sp, AV.str (l.getD i nm0).lo]) (.ob ((2 : Nat) ≤ (2 : Nat)) (.ob ((decide ((l.getD i nm0).sp = n.sp) && (decide ((l.getD i nm0).lo = n.lo) && true)) = true) (.ob (true = R) (.tt)))))) (.ob ((0 : Int) ≤ (↑i : Int) ∧ (↑i : Int) < (↑l.length : Int) ∧ (↑i : Int).toNat * (2 : Nat) < (nmsC l).length) (.ob (List.take (2 : Nat) (List.drop ((↑i : Int).toNat * (2 : Nat)) (nmsC l)) = [AV.str (l.getD i nm0).sp, AV.str (l.getD i nm0).lo]) (.ob ((2 : Nat) ≤ (2 : Nat)) (.ob ((decide ((l.getD i nm0).sp = n.sp) && (decide ((l.getD i nm0).lo = n.lo) && true)) = false) (.head (pt Tryd.f70 0) ({ tmps := [(0, AV.sl none l.length (nmsC l) .no), (3, AV.ptr 3 0), (5, AV.int .i64 (IntKind.i64.wrap ((↑i : Int) + (1 : Int))))], heap := [(3, .var true [AV.str n.sp, AV.str n.lo])], tags := [] })))))))) (by kernel_rfl) (by
    have w2 : IntKind.i64.wrap ((i : Int) + 1) = ((i + 1 : Nat) : Int) := by rw [i64_wrap (by omega) (by omega)]; rfl
    have h0 : decide ((i : Int) < l.length) = true := by simp; omega
    simp only [PT.holds, w2, h0, nm_eq, Int.toNat_natCast, nmsC_len, true_implies, Bool.false_eq_true, Bool.true_eq_false, false_implies, true_and, and_true]
    by_cases h : l.getD i nm0 = n
    · exact .inl ⟨by omega, by rw [nms_take0 _ _ _ hi (by decide)]; rfl, by omega, decide_eq_true h, (hr h).symm⟩
    · exact .inr ⟨by omega, by rw [nms_take0 _ _ _ hi (by decide)]; rfl, by omega, decide_eq_false h, head_eq (k h) (by simp [stHn, nmC])⟩)
theorem hn_e (l : List Nm) (n : Nm) (i : Nat) (hi : i = l.length) : HT Tryd.prog Tryd.f70.ntmps (pt Tryd.f70 0) (stHn l n i) (EndsA Γ (.pure [] (.bool false)) Tryd.f70) :=
  HT.walk Γ_ok mo_ok (⟨[(9, .val (.bool false)), (15, .val (.agg (nmC (l.getD i nm0))))], (sp70).filter (fun x => !Nat.beq x 9), hd70 [] [] [] [], dsp70, .pure [] (.bool false)⟩ : Wk) 4000 (T := .ob (decide ((↑i : Int) < (↑l.length : Int)) = false) (.ob (false = false) (.tt))) (by kernel_rfl) (by
    have h0 : decide ((i : Int) < l.length) = false := by simp; omega
    simp only [PT.holds, h0, true_implies, Bool.false_eq_true, Bool.true_eq_false, false_implies, true_and, and_true])
theorem hn_l (l : List Nm) (n : Nm) (hl : l.length ≤ 1000000) : ∀ d i, i + d = l.length → (∀ j, j < i → l.getD j nm0 ≠ n) → HT Tryd.prog Tryd.f70.ntmps (pt Tryd.f70 0) (stHn l n i) (EndsA Γ (.pure [] (.bool (decide (n ∈ l)))) Tryd.f70) := by
  intro d
  induction d with
  | zero =>
    intro i h hj
    have e : decide (n ∈ l) = false := decide_eq_false fun hm => by
      obtain ⟨j, hj1, rfl⟩ := List.getElem_of_mem hm
      exact hj j (by omega) (by rw [List.getD_eq_getElem?_getD, List.getElem?_eq_getElem hj1]; rfl)
    rw [e]
    exact hn_e l n i (by omega)
  | succ d ih =>
    intro i h hj
    refine hn_h l n i _ (by omega) hl (fun hne => ih (i + 1) (by omega) fun j hj' => ?_) (fun he => ?_)
    · rcases Nat.lt_or_eq_of_le (Nat.lt_succ_iff.1 hj') with h1 | h1
      · exact hj j h1
      · rw [h1]; exact hne
    · exact decide_eq_true (he ▸ getD_mem l i nm0 (by omega))

theorem hn_ctr (l : List Nm) (n : Nm) (hl : l.length ≤ 1000000) : Ctr Tryd.prog 70 [.sl none l.length (nmsC l) .no, .agg (nmC n)] (.bool (decide (n ∈ l))) :=
  Ctr.mk Γ_ok Tryd.func70 (by kernel_rfl) Tryd.call70 [] (by kernel_rfl) (HT.walk Γ_ok mo_ok (⟨[], sp70, hd70 [] [] [] [], dsp70, .pure [] (.bool (decide (n ∈ l)))⟩ : Wk) 4000 (T := .head (pt Tryd.f70 0) ({ tmps := [(0, AV.sl none l.length (nmsC l) .no), (3, AV.ptr 3 0), (5, AV.int .i64 (0 : Int))], heap := [(3, .var true [AV.str n.sp, AV.str n.lo])], tags := [] })) (by kernel_rfl) (by
    simp only [PT.holds]
    exact head_eq (hn_l l n hl l.length 0 (Nat.zero_add _) (fun j hj => absurd hj (Nat.not_lt_zero j))) (by simp [stHn, nmC])))
theorem hs_h (l : List ByteArray) (n : ByteArray) (i : Nat) (R : Bool) (hi : i < l.length) (hl : l.length ≤ 1000000) (k : l.getD i ⟨#[]⟩ ≠ n → HT Tryd.prog Tryd.f34.ntmps (pt Tryd.f34 0) (stHs l n (i + 1)) (EndsA Γ (.pure [] (.bool R)) Tryd.f34)) (hr : l.getD i ⟨#[]⟩ = n → R = true) : HT Tryd.prog Tryd.f34.ntmps (pt Tryd.f34 0) (stHs l n i) (EndsA Γ (.pure [] (.bool R)) Tryd.f34) :=
  HT.walk Γ_ok mo_ok (⟨[(9, .val (.bool true)), (15, .val (.str (l.getD i ⟨#[]⟩)))], (sp34).filter (fun x => !Nat.beq x 9), hd34 [] [] [] [], [], .pure [] (.bool R)⟩ : Wk) 4000 (T := .ob (decide ((↑i : Int) < (↑l.length : Int)) = true) (.ob ((0 : Int) ≤ (↑i : Int) ∧ (↑i : Int) < (↑l.length : Int) ∧ (↑i : Int).toNat * (1 : Nat) < (strsC l).length) (.ob ((strsC l)[(↑i : Int).toNat * (1 : Nat)]? = some (AV.str (l.getD i (ByteArray.mk #[])))) (.split (decide (l.getD i (ByteArray.mk #[]) = n)) (.ob (true = R) (.tt)) (.head (pt Tryd.f34 0) ({ tmps := [(0, AV.sl none l.length (strsC l) .no), (1, AV.str n), (5, AV.int .i64 (IntKind.i64.wrap ((↑i : Int) + (1 : Int))))], heap := [], tags := [] })))))) (by kernel_rfl) (by
    have w2 : IntKind.i64.wrap ((i : Int) + 1) = ((i + 1 : Nat) : Int) := by rw [i64_wrap (by omega) (by omega)]; rfl
    have h0 : decide ((i : Int) < l.length) = true := by simp; omega
    simp only [PT.holds, w2, h0, Int.toNat_natCast, Nat.mul_one, strsC_len, strs_nth l i hi, decide_eq_true_eq, decide_eq_false_iff_not, true_implies, Bool.false_eq_true, Bool.true_eq_false, false_implies, true_and, and_true]
    exact ⟨by omega, fun h => (hr h).symm, fun h => head_eq (k h) (by simp [stHs])⟩)
theorem hs_e (l : List ByteArray) (n : ByteArray) (i : Nat) (hi : i = l.length) : HT Tryd.prog Tryd.f34.ntmps (pt Tryd.f34 0) (stHs l n i) (EndsA Γ (.pure [] (.bool false)) Tryd.f34) :=
  HT.walk Γ_ok mo_ok (⟨[(9, .val (.bool false)), (15, .val (.str (l.getD i ⟨#[]⟩)))], (sp34).filter (fun x => !Nat.beq x 9), hd34 [] [] [] [], [], .pure [] (.bool false)⟩ : Wk) 4000 (T := .ob (decide ((↑i : Int) < (↑l.length : Int)) = false) (.ob (false = false) (.tt))) (by kernel_rfl) (by
    have h0 : decide ((i : Int) < l.length) = false := by simp; omega
    simp only [PT.holds, h0, true_implies, Bool.false_eq_true, Bool.true_eq_false, false_implies, true_and, and_true])
theorem hs_l (l : List ByteArray) (n : ByteArray) (hl : l.length ≤ 1000000) : ∀ d i, i + d = l.length → (∀ j, j < i → l.getD j ⟨#[]⟩ ≠ n) → HT Tryd.prog Tryd.f34.ntmps (pt Tryd.f34 0) (stHs l n i) (EndsA Γ (.pure [] (.bool (hasB l n))) Tryd.f34) := by
  intro d
  induction d with
  | zero =>
    intro i h hj
    have e : hasB l n = false := hasB_false l n fun hm => by
      obtain ⟨j, hj1, rfl⟩ := List.getElem_of_mem hm
      exact hj j (by omega) (by rw [List.getD_eq_getElem?_getD, List.getElem?_eq_getElem hj1]; rfl)
    rw [e]
    exact hs_e l n i (by omega)
  | succ d ih =>
    intro i h hj
    refine hs_h l n i _ (by omega) hl (fun hne => ih (i + 1) (by omega) fun j hj' => ?_) (fun he => ?_)
    · rcases Nat.lt_or_eq_of_le (Nat.lt_succ_iff.1 hj') with h1 | h1
      · exact hj j h1
      · rw [h1]; exact hne
    · exact (hasB_iff l n).2 (he ▸ getD_mem l i ⟨#[]⟩ (by omega))

theorem hs_ctr (l : List ByteArray) (n : ByteArray) (hl : l.length ≤ 1000000) : Ctr Tryd.prog 34 [.sl none l.length (strsC l) .no, .str n] (.bool (hasB l n)) :=
  Ctr.mk Γ_ok Tryd.func34 (by kernel_rfl) Tryd.call34 [] (by kernel_rfl) (HT.walk Γ_ok mo_ok (⟨[], sp34, hd34 [] [] [] [], [], .pure [] (.bool (hasB l n))⟩ : Wk) 4000 (T := .head (pt Tryd.f34 0) ({ tmps := [(0, AV.sl none l.length (strsC l) .no), (1, AV.str n), (5, AV.int .i64 (0 : Int))], heap := [], tags := [] })) (by kernel_rfl) (by
    simp only [PT.holds]
    exact head_eq (hs_l l n hl l.length 0 (Nat.zero_add _) (fun j hj => absurd hj (Nat.not_lt_zero j))) (by simp [stHs])))
end Go.Proofs.YteimloiaipiadaaDoor
end
