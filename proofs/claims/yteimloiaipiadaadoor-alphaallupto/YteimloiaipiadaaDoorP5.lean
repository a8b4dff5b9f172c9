import Derived.Test.YteimloiaipiadaaDoorP4
import Derived.Test.YteimloiaipiadaaDoorProg
import Derived.Test.YteimloiaipiadaaDoorP3
section
set_option linter.unusedVariables false
set_option linter.unusedSimpArgs false
set_option maxRecDepth 100000
namespace Go.Proofs.YteimloiaipiadaaDoor
open Go Go.AX
theorem ti2 : TIok Tryd.prog 2 ⟨1, 8, .int .i64, [.int .i64 0], none⟩ := TIok.ofPlain (TIbase.of Tryd.t2 _ (.int .i64 0) (by kernel_rfl) Tryd.underlying2 (by kernel_rfl) (by kernel_rfl) (by kernel_rfl) (by kernel_rfl) (by kernel_rfl) (by kernel_rfl) (by kernel_rfl) (by first | exact rfl | exact trivial)) rfl
theorem ti3 : TIok Tryd.prog 3 ⟨1, 8, .int .i64, [.int .i64 0], none⟩ := TIok.ofPlain (TIbase.of Tryd.t3 _ (.int .i64 0) (by kernel_rfl) Tryd.underlying3 (by kernel_rfl) (by kernel_rfl) (by kernel_rfl) (by kernel_rfl) (by kernel_rfl) (by kernel_rfl) (by kernel_rfl) (by first | exact rfl | exact trivial)) rfl
theorem ti4 : TIok Tryd.prog 4 ⟨1, 1, .bool, [.bool false], none⟩ := TIok.ofPlain (TIbase.of Tryd.t4 _ (.bool false) (by kernel_rfl) Tryd.underlying4 (by kernel_rfl) (by kernel_rfl) (by kernel_rfl) (by kernel_rfl) (by kernel_rfl) (by kernel_rfl) (by kernel_rfl) (by first | exact rfl | exact trivial)) rfl
theorem ti5 : TIok Tryd.prog 5 ⟨1, 1, .int .u8, [.int .u8 0], none⟩ := TIok.ofPlain (TIbase.of Tryd.t5 _ (.int .u8 0) (by kernel_rfl) Tryd.underlying5 (by kernel_rfl) (by kernel_rfl) (by kernel_rfl) (by kernel_rfl) (by kernel_rfl) (by kernel_rfl) (by kernel_rfl) (by first | exact rfl | exact trivial)) rfl
theorem ti9 : TIok Tryd.prog 9 ⟨1, 16, .str, [.str ⟨#[]⟩], none⟩ := TIok.ofPlain (TIbase.of Tryd.t9 _ (.string ⟨#[]⟩) (by kernel_rfl) Tryd.underlying9 (by kernel_rfl) (by kernel_rfl) (by kernel_rfl) (by kernel_rfl) (by kernel_rfl) (by kernel_rfl) (by kernel_rfl) (by first | exact rfl | exact trivial)) rfl
theorem ti21 : TIok Tryd.prog 21 ⟨1, 4, .int .i32, [.int .i32 0], none⟩ := TIok.ofPlain (TIbase.of Tryd.t21 _ (.int .i32 0) (by kernel_rfl) Tryd.underlying21 (by kernel_rfl) (by kernel_rfl) (by kernel_rfl) (by kernel_rfl) (by kernel_rfl) (by kernel_rfl) (by kernel_rfl) (by first | exact rfl | exact trivial)) rfl
theorem ti22 : TIok Tryd.prog 22 ⟨1, 24, .slice 25, [.sl (some true) 0 [] .clip], none⟩ := TIok.ofPlain (TIbase.of Tryd.t22 _ (.slice none 0 0) (by kernel_rfl) Tryd.underlying22 (by kernel_rfl) (by kernel_rfl) (by kernel_rfl) (by kernel_rfl) (by kernel_rfl) (by kernel_rfl) (by kernel_rfl) (by first | exact rfl | exact trivial)) rfl
theorem ti23 : TIok Tryd.prog 23 ⟨1, 24, .slice 55, [.sl (some true) 0 [] .clip], none⟩ := TIok.ofPlain (TIbase.of Tryd.t23 _ (.slice none 0 0) (by kernel_rfl) Tryd.underlying23 (by kernel_rfl) (by kernel_rfl) (by kernel_rfl) (by kernel_rfl) (by kernel_rfl) (by kernel_rfl) (by kernel_rfl) (by first | exact rfl | exact trivial)) rfl
theorem ti25 : TIok Tryd.prog 25 ⟨3, 56, .struct [(0, 3), (1, 22), (2, 23)], [.int .i64 0, .sl (some true) 0 [] .clip, .sl (some true) 0 [] .clip], none⟩ := TIok.ofPlain (TIbase.of Tryd.t25 _ (.agg #[.int .i64 0, .slice none 0 0, .slice none 0 0]) (by kernel_rfl) Tryd.underlying25 (by kernel_rfl) (by kernel_rfl) (by kernel_rfl) (by kernel_rfl) (by kernel_rfl) (by kernel_rfl) (by kernel_rfl) (by first | exact rfl | exact trivial)) rfl
theorem ti28 : TIok Tryd.prog 28 ⟨1, 24, .slice 39, [.sl (some true) 0 [] .clip], none⟩ := TIok.ofPlain (TIbase.of Tryd.t28 _ (.slice none 0 0) (by kernel_rfl) Tryd.underlying28 (by kernel_rfl) (by kernel_rfl) (by kernel_rfl) (by kernel_rfl) (by kernel_rfl) (by kernel_rfl) (by kernel_rfl) (by first | exact rfl | exact trivial)) rfl
theorem ti29 : TIok Tryd.prog 29 ⟨1, 8, .int .i64, [.int .i64 0], none⟩ := TIok.ofPlain (TIbase.of Tryd.t29 _ (.int .i64 0) (by kernel_rfl) Tryd.underlying29 (by kernel_rfl) (by kernel_rfl) (by kernel_rfl) (by kernel_rfl) (by kernel_rfl) (by kernel_rfl) (by kernel_rfl) (by first | exact rfl | exact trivial)) rfl
set_option maxHeartbeats 2000000 in
theorem eqq36 (w : World) (xs ys : List Value) (b : Bool) (hh : Forms [.str, .str] xs ys b) : (Op.equal 36 (.agg xs.toArray) (.agg ys.toArray)).run Tryd.prog w = .ok b w := by
  have h36 : Tryd.prog.stoodInHeld 36 = false := by kernel_rfl
  cases hh with
  | cons g0 hh =>
  cases g0
  cases hh with
  | cons g1 hh =>
  cases g1
  cases hh
  rename_i a0 b0 a1 b1
  have key : ∀ n, (Op.equalIn (n + 2) 36 (.agg #[.string a0, .string a1]) (.agg #[.string b0, .string b1])).run Tryd.prog w = .ok ((a0 == b0 && (a1 == b1 && true))) w := fun n => by
    simp [Op.equalIn, run_underlying Tryd.underlying9, run_underlying Tryd.underlying36, part, isAgg, h36]
    cases (a0 == b0) <;> cases (a1 == b1) <;> simp
  exact key 9998
theorem ti36 : TIok Tryd.prog 36 ⟨2, 32, .struct [(0, 9), (1, 9)], [.str ⟨#[]⟩, .str ⟨#[]⟩], some [.str, .str]⟩ := TIok.ofEq (TIbase.of Tryd.t36 _ (.agg #[.string ⟨#[]⟩, .string ⟨#[]⟩]) (by kernel_rfl) Tryd.underlying36 (by kernel_rfl) (by kernel_rfl) (by kernel_rfl) (by kernel_rfl) (by kernel_rfl) (by kernel_rfl) (by kernel_rfl) (by first | exact rfl | exact trivial)) rfl rfl (by kernel_rfl) eqq36
theorem ti37 : TIok Tryd.prog 37 ⟨1, 24, .slice 58, [.sl (some true) 0 [] .clip], none⟩ := TIok.ofPlain (TIbase.of Tryd.t37 _ (.slice none 0 0) (by kernel_rfl) Tryd.underlying37 (by kernel_rfl) (by kernel_rfl) (by kernel_rfl) (by kernel_rfl) (by kernel_rfl) (by kernel_rfl) (by kernel_rfl) (by first | exact rfl | exact trivial)) rfl
theorem ti39 : TIok Tryd.prog 39 ⟨5, 80, .struct [(0, 3), (1, 36), (3, 37), (4, 9)], [.int .i64 0, .str ⟨#[]⟩, .str ⟨#[]⟩, .sl (some true) 0 [] .clip, .str ⟨#[]⟩], none⟩ := TIok.ofPlain (TIbase.of Tryd.t39 _ (.agg #[.int .i64 0, .string ⟨#[]⟩, .string ⟨#[]⟩, .slice none 0 0, .string ⟨#[]⟩]) (by kernel_rfl) Tryd.underlying39 (by kernel_rfl) (by kernel_rfl) (by kernel_rfl) (by kernel_rfl) (by kernel_rfl) (by kernel_rfl) (by kernel_rfl) (by first | exact rfl | exact trivial)) rfl
theorem ti40 : TIok Tryd.prog 40 ⟨1, 8, .other, [.nilFn], none⟩ := TIok.ofPlain (TIbase.of Tryd.t40 _ .nilFunc (by kernel_rfl) Tryd.underlying40 (by kernel_rfl) (by kernel_rfl) (by kernel_rfl) (by kernel_rfl) (by kernel_rfl) (by kernel_rfl) (by kernel_rfl) (by first | exact rfl | exact trivial)) rfl
theorem ti42 : TIok Tryd.prog 42 ⟨1, 24, .slice 46, [.sl (some true) 0 [] .clip], none⟩ := TIok.ofPlain (TIbase.of Tryd.t42 _ (.slice none 0 0) (by kernel_rfl) Tryd.underlying42 (by kernel_rfl) (by kernel_rfl) (by kernel_rfl) (by kernel_rfl) (by kernel_rfl) (by kernel_rfl) (by kernel_rfl) (by first | exact rfl | exact trivial)) rfl
theorem ti43 : TIok Tryd.prog 43 ⟨1, 24, .slice 3, [.sl (some true) 0 [] .clip], none⟩ := TIok.ofPlain (TIbase.of Tryd.t43 _ (.slice none 0 0) (by kernel_rfl) Tryd.underlying43 (by kernel_rfl) (by kernel_rfl) (by kernel_rfl) (by kernel_rfl) (by kernel_rfl) (by kernel_rfl) (by kernel_rfl) (by first | exact rfl | exact trivial)) rfl
theorem ti44 : TIok Tryd.prog 44 ⟨1, 24, .slice 126, [.sl (some true) 0 [] .clip], none⟩ := TIok.ofPlain (TIbase.of Tryd.t44 _ (.slice none 0 0) (by kernel_rfl) Tryd.underlying44 (by kernel_rfl) (by kernel_rfl) (by kernel_rfl) (by kernel_rfl) (by kernel_rfl) (by kernel_rfl) (by kernel_rfl) (by first | exact rfl | exact trivial)) rfl
theorem ti46 : TIok Tryd.prog 46 ⟨5, 72, .struct [(0, 3), (1, 3), (2, 3), (3, 44), (4, 23)], [.int .i64 0, .int .i64 0, .int .i64 0, .sl (some true) 0 [] .clip, .sl (some true) 0 [] .clip], none⟩ := TIok.ofPlain (TIbase.of Tryd.t46 _ (.agg #[.int .i64 0, .int .i64 0, .int .i64 0, .slice none 0 0, .slice none 0 0]) (by kernel_rfl) Tryd.underlying46 (by kernel_rfl) (by kernel_rfl) (by kernel_rfl) (by kernel_rfl) (by kernel_rfl) (by kernel_rfl) (by kernel_rfl) (by first | exact rfl | exact trivial)) rfl
theorem ti48 : TIok Tryd.prog 48 ⟨8, 144, .struct [(0, 22), (1, 42), (2, 43), (3, 46)], [.sl (some true) 0 [] .clip, .sl (some true) 0 [] .clip, .sl (some true) 0 [] .clip, .int .i64 0, .int .i64 0, .int .i64 0, .sl (some true) 0 [] .clip, .sl (some true) 0 [] .clip], none⟩ := TIok.ofPlain (TIbase.of Tryd.t48 _ (.agg #[.slice none 0 0, .slice none 0 0, .slice none 0 0, .int .i64 0, .int .i64 0, .int .i64 0, .slice none 0 0, .slice none 0 0]) (by kernel_rfl) Tryd.underlying48 (by kernel_rfl) (by kernel_rfl) (by kernel_rfl) (by kernel_rfl) (by kernel_rfl) (by kernel_rfl) (by kernel_rfl) (by first | exact rfl | exact trivial)) rfl
theorem ti50 : TIok Tryd.prog 50 ⟨1, 24, .slice 5, [.sl (some true) 0 [] .clip], none⟩ := TIok.ofPlain (TIbase.of Tryd.t50 _ (.slice none 0 0) (by kernel_rfl) Tryd.underlying50 (by kernel_rfl) (by kernel_rfl) (by kernel_rfl) (by kernel_rfl) (by kernel_rfl) (by kernel_rfl) (by kernel_rfl) (by first | exact rfl | exact trivial)) rfl
theorem ti55 : TIok Tryd.prog 55 ⟨6, 104, .struct [(0, 3), (1, 36), (3, 9), (4, 23), (5, 22)], [.int .i64 0, .str ⟨#[]⟩, .str ⟨#[]⟩, .str ⟨#[]⟩, .sl (some true) 0 [] .clip, .sl (some true) 0 [] .clip], none⟩ := TIok.ofPlain (TIbase.of Tryd.t55 _ (.agg #[.int .i64 0, .string ⟨#[]⟩, .string ⟨#[]⟩, .string ⟨#[]⟩, .slice none 0 0, .slice none 0 0]) (by kernel_rfl) Tryd.underlying55 (by kernel_rfl) (by kernel_rfl) (by kernel_rfl) (by kernel_rfl) (by kernel_rfl) (by kernel_rfl) (by kernel_rfl) (by first | exact rfl | exact trivial)) rfl
set_option maxHeartbeats 2000000 in
theorem eqq58 (w : World) (xs ys : List Value) (b : Bool) (hh : Forms [.str, .str, .str] xs ys b) : (Op.equal 58 (.agg xs.toArray) (.agg ys.toArray)).run Tryd.prog w = .ok b w := by
  have h36 : Tryd.prog.stoodInHeld 36 = false := by kernel_rfl
  have h58 : Tryd.prog.stoodInHeld 58 = false := by kernel_rfl
  have i36 : ∀ w : World, (sizeOf 36).run Tryd.prog w = .ok 2 w := fun w => by
    have : Tryd.prog.info? 36 = some Tryd.t36 := by kernel_rfl
    simp only [sizeOf, typeInfo, this, Sem.run_bind]
    rfl
  cases hh with
  | cons g0 hh =>
  cases g0
  cases hh with
  | cons g1 hh =>
  cases g1
  cases hh with
  | cons g2 hh =>
  cases g2
  cases hh
  rename_i a0 b0 a1 b1 a2 b2
  have key : ∀ n, (Op.equalIn (n + 3) 58 (.agg #[.string a0, .string a1, .string a2]) (.agg #[.string b0, .string b1, .string b2])).run Tryd.prog w = .ok ((a0 == b0 && (a1 == b1 && (a2 == b2 && true)))) w := fun n => by
    simp [Op.equalIn, run_underlying Tryd.underlying9, run_underlying Tryd.underlying36, run_underlying Tryd.underlying58, part, isAgg, h36, h58, i36]
    cases (a0 == b0) <;> cases (a1 == b1) <;> cases (a2 == b2) <;> simp
  exact key 9997
theorem ti58 : TIok Tryd.prog 58 ⟨3, 48, .struct [(0, 36), (2, 9)], [.str ⟨#[]⟩, .str ⟨#[]⟩, .str ⟨#[]⟩], some [.str, .str, .str]⟩ := TIok.ofEq (TIbase.of Tryd.t58 _ (.agg #[.string ⟨#[]⟩, .string ⟨#[]⟩, .string ⟨#[]⟩]) (by kernel_rfl) Tryd.underlying58 (by kernel_rfl) (by kernel_rfl) (by kernel_rfl) (by kernel_rfl) (by kernel_rfl) (by kernel_rfl) (by kernel_rfl) (by first | exact rfl | exact trivial)) rfl rfl (by kernel_rfl) eqq58
theorem ti62 : TIok Tryd.prog 62 ⟨1, 24, .slice 36, [.sl (some true) 0 [] .clip], none⟩ := TIok.ofPlain (TIbase.of Tryd.t62 _ (.slice none 0 0) (by kernel_rfl) Tryd.underlying62 (by kernel_rfl) (by kernel_rfl) (by kernel_rfl) (by kernel_rfl) (by kernel_rfl) (by kernel_rfl) (by kernel_rfl) (by first | exact rfl | exact trivial)) rfl
theorem ti63 : TIok Tryd.prog 63 ⟨1, 24, .slice 64, [.sl (some true) 0 [] .clip], none⟩ := TIok.ofPlain (TIbase.of Tryd.t63 _ (.slice none 0 0) (by kernel_rfl) Tryd.underlying63 (by kernel_rfl) (by kernel_rfl) (by kernel_rfl) (by kernel_rfl) (by kernel_rfl) (by kernel_rfl) (by kernel_rfl) (by first | exact rfl | exact trivial)) rfl
theorem ti64 : TIok Tryd.prog 64 ⟨1, 24, .slice 9, [.sl (some true) 0 [] .clip], none⟩ := TIok.ofPlain (TIbase.of Tryd.t64 _ (.slice none 0 0) (by kernel_rfl) Tryd.underlying64 (by kernel_rfl) (by kernel_rfl) (by kernel_rfl) (by kernel_rfl) (by kernel_rfl) (by kernel_rfl) (by kernel_rfl) (by first | exact rfl | exact trivial)) rfl
theorem ti66 : TIok Tryd.prog 66 ⟨4, 96, .struct [(0, 62), (1, 62), (2, 63), (3, 64)], [.sl (some true) 0 [] .clip, .sl (some true) 0 [] .clip, .sl (some true) 0 [] .clip, .sl (some true) 0 [] .clip], none⟩ := TIok.ofPlain (TIbase.of Tryd.t66 _ (.agg #[.slice none 0 0, .slice none 0 0, .slice none 0 0, .slice none 0 0]) (by kernel_rfl) Tryd.underlying66 (by kernel_rfl) (by kernel_rfl) (by kernel_rfl) (by kernel_rfl) (by kernel_rfl) (by kernel_rfl) (by kernel_rfl) (by first | exact rfl | exact trivial)) rfl
theorem ti69 : TIok Tryd.prog 69 ⟨1, 8, .other, [.nilFn], none⟩ := TIok.ofPlain (TIbase.of Tryd.t69 _ .nilFunc (by kernel_rfl) Tryd.underlying69 (by kernel_rfl) (by kernel_rfl) (by kernel_rfl) (by kernel_rfl) (by kernel_rfl) (by kernel_rfl) (by kernel_rfl) (by first | exact rfl | exact trivial)) rfl
theorem ti74 : TIok Tryd.prog 74 ⟨4, 96, .struct [(0, 62), (1, 62), (2, 63), (3, 64)], [.sl (some true) 0 [] .clip, .sl (some true) 0 [] .clip, .sl (some true) 0 [] .clip, .sl (some true) 0 [] .clip], none⟩ := TIok.ofPlain (TIbase.of Tryd.t74 _ (.agg #[.slice none 0 0, .slice none 0 0, .slice none 0 0, .slice none 0 0]) (by kernel_rfl) Tryd.underlying74 (by kernel_rfl) (by kernel_rfl) (by kernel_rfl) (by kernel_rfl) (by kernel_rfl) (by kernel_rfl) (by kernel_rfl) (by first | exact rfl | exact trivial)) rfl
theorem ti92 : TIok Tryd.prog 92 ⟨4, 96, .struct [(0, 66)], [.sl (some true) 0 [] .clip, .sl (some true) 0 [] .clip, .sl (some true) 0 [] .clip, .sl (some true) 0 [] .clip], none⟩ := TIok.ofPlain (TIbase.of Tryd.t92 _ (.agg #[.slice none 0 0, .slice none 0 0, .slice none 0 0, .slice none 0 0]) (by kernel_rfl) Tryd.underlying92 (by kernel_rfl) (by kernel_rfl) (by kernel_rfl) (by kernel_rfl) (by kernel_rfl) (by kernel_rfl) (by kernel_rfl) (by first | exact rfl | exact trivial)) rfl
theorem ti102 : TIok Tryd.prog 102 ⟨7, 88, .struct [(0, 46), (5, 3), (6, 3)], [.int .i64 0, .int .i64 0, .int .i64 0, .sl (some true) 0 [] .clip, .sl (some true) 0 [] .clip, .int .i64 0, .int .i64 0], none⟩ := TIok.ofPlain (TIbase.of Tryd.t102 _ (.agg #[.int .i64 0, .int .i64 0, .int .i64 0, .slice none 0 0, .slice none 0 0, .int .i64 0, .int .i64 0]) (by kernel_rfl) Tryd.underlying102 (by kernel_rfl) (by kernel_rfl) (by kernel_rfl) (by kernel_rfl) (by kernel_rfl) (by kernel_rfl) (by kernel_rfl) (by first | exact rfl | exact trivial)) rfl
theorem ti106 : TIok Tryd.prog 106 ⟨1, 24, .slice 21, [.sl (some true) 0 [] .clip], none⟩ := TIok.ofPlain (TIbase.of Tryd.t106 _ (.slice none 0 0) (by kernel_rfl) Tryd.underlying106 (by kernel_rfl) (by kernel_rfl) (by kernel_rfl) (by kernel_rfl) (by kernel_rfl) (by kernel_rfl) (by kernel_rfl) (by first | exact rfl | exact trivial)) rfl
theorem ti111 : TIok Tryd.prog 111 ⟨1, 8, .other, [.nilp], none⟩ := TIok.ofPlain (TIbase.of Tryd.t111 _ (.pointer none) (by kernel_rfl) Tryd.underlying111 (by kernel_rfl) (by kernel_rfl) (by kernel_rfl) (by kernel_rfl) (by kernel_rfl) (by kernel_rfl) (by kernel_rfl) (by first | exact rfl | exact trivial)) rfl
theorem ti126 : TIok Tryd.prog 126 ⟨4, 32, .struct [(0, 3), (1, 3), (2, 3), (3, 3)], [.int .i64 0, .int .i64 0, .int .i64 0, .int .i64 0], none⟩ := TIok.ofPlain (TIbase.of Tryd.t126 _ (.agg #[.int .i64 0, .int .i64 0, .int .i64 0, .int .i64 0]) (by kernel_rfl) Tryd.underlying126 (by kernel_rfl) (by kernel_rfl) (by kernel_rfl) (by kernel_rfl) (by kernel_rfl) (by kernel_rfl) (by kernel_rfl) (by first | exact rfl | exact trivial)) rfl
theorem ti132 : TIok Tryd.prog 132 ⟨1, 8, .int .u64, [.int .u64 0], none⟩ := TIok.ofPlain (TIbase.of Tryd.t132 _ (.int .u64 0) (by kernel_rfl) Tryd.underlying132 (by kernel_rfl) (by kernel_rfl) (by kernel_rfl) (by kernel_rfl) (by kernel_rfl) (by kernel_rfl) (by kernel_rfl) (by first | exact rfl | exact trivial)) rfl
theorem ti140 : TIok Tryd.prog 140 ⟨1, 4, .int .u32, [.int .u32 0], none⟩ := TIok.ofPlain (TIbase.of Tryd.t140 _ (.int .u32 0) (by kernel_rfl) Tryd.underlying140 (by kernel_rfl) (by kernel_rfl) (by kernel_rfl) (by kernel_rfl) (by kernel_rfl) (by kernel_rfl) (by kernel_rfl) (by first | exact rfl | exact trivial)) rfl
theorem ti142 : TIok Tryd.prog 142 ⟨1, 8, .int .u64, [.int .u64 0], none⟩ := TIok.ofPlain (TIbase.of Tryd.t142 _ (.int .u64 0) (by kernel_rfl) Tryd.underlying142 (by kernel_rfl) (by kernel_rfl) (by kernel_rfl) (by kernel_rfl) (by kernel_rfl) (by kernel_rfl) (by kernel_rfl) (by first | exact rfl | exact trivial)) rfl
/-- The types, as the walk reads them. -/
def Γ : TT := [(2, ⟨1, 8, .int .i64, [.int .i64 0], none⟩),
  (3, ⟨1, 8, .int .i64, [.int .i64 0], none⟩),
  (4, ⟨1, 1, .bool, [.bool false], none⟩),
  (5, ⟨1, 1, .int .u8, [.int .u8 0], none⟩),
  (9, ⟨1, 16, .str, [.str ⟨#[]⟩], none⟩),
  (21, ⟨1, 4, .int .i32, [.int .i32 0], none⟩),
  (22, ⟨1, 24, .slice 25, [.sl (some true) 0 [] .clip], none⟩),
  (23, ⟨1, 24, .slice 55, [.sl (some true) 0 [] .clip], none⟩),
  (25, ⟨3, 56, .struct [(0, 3), (1, 22), (2, 23)], [.int .i64 0, .sl (some true) 0 [] .clip, .sl (some true) 0 [] .clip], none⟩),
  (28, ⟨1, 24, .slice 39, [.sl (some true) 0 [] .clip], none⟩),
  (29, ⟨1, 8, .int .i64, [.int .i64 0], none⟩),
  (36, ⟨2, 32, .struct [(0, 9), (1, 9)], [.str ⟨#[]⟩, .str ⟨#[]⟩], some [.str, .str]⟩),
  (37, ⟨1, 24, .slice 58, [.sl (some true) 0 [] .clip], none⟩),
  (39, ⟨5, 80, .struct [(0, 3), (1, 36), (3, 37), (4, 9)], [.int .i64 0, .str ⟨#[]⟩, .str ⟨#[]⟩, .sl (some true) 0 [] .clip, .str ⟨#[]⟩], none⟩),
  (40, ⟨1, 8, .other, [.nilFn], none⟩),
  (42, ⟨1, 24, .slice 46, [.sl (some true) 0 [] .clip], none⟩),
  (43, ⟨1, 24, .slice 3, [.sl (some true) 0 [] .clip], none⟩),
  (44, ⟨1, 24, .slice 126, [.sl (some true) 0 [] .clip], none⟩),
  (46, ⟨5, 72, .struct [(0, 3), (1, 3), (2, 3), (3, 44), (4, 23)], [.int .i64 0, .int .i64 0, .int .i64 0, .sl (some true) 0 [] .clip, .sl (some true) 0 [] .clip], none⟩),
  (48, ⟨8, 144, .struct [(0, 22), (1, 42), (2, 43), (3, 46)], [.sl (some true) 0 [] .clip, .sl (some true) 0 [] .clip, .sl (some true) 0 [] .clip, .int .i64 0, .int .i64 0, .int .i64 0, .sl (some true) 0 [] .clip, .sl (some true) 0 [] .clip], none⟩),
  (50, ⟨1, 24, .slice 5, [.sl (some true) 0 [] .clip], none⟩),
  (55, ⟨6, 104, .struct [(0, 3), (1, 36), (3, 9), (4, 23), (5, 22)], [.int .i64 0, .str ⟨#[]⟩, .str ⟨#[]⟩, .str ⟨#[]⟩, .sl (some true) 0 [] .clip, .sl (some true) 0 [] .clip], none⟩),
  (58, ⟨3, 48, .struct [(0, 36), (2, 9)], [.str ⟨#[]⟩, .str ⟨#[]⟩, .str ⟨#[]⟩], some [.str, .str, .str]⟩),
  (62, ⟨1, 24, .slice 36, [.sl (some true) 0 [] .clip], none⟩),
  (63, ⟨1, 24, .slice 64, [.sl (some true) 0 [] .clip], none⟩),
  (64, ⟨1, 24, .slice 9, [.sl (some true) 0 [] .clip], none⟩),
  (66, ⟨4, 96, .struct [(0, 62), (1, 62), (2, 63), (3, 64)], [.sl (some true) 0 [] .clip, .sl (some true) 0 [] .clip, .sl (some true) 0 [] .clip, .sl (some true) 0 [] .clip], none⟩),
  (69, ⟨1, 8, .other, [.nilFn], none⟩),
  (74, ⟨4, 96, .struct [(0, 62), (1, 62), (2, 63), (3, 64)], [.sl (some true) 0 [] .clip, .sl (some true) 0 [] .clip, .sl (some true) 0 [] .clip, .sl (some true) 0 [] .clip], none⟩),
  (92, ⟨4, 96, .struct [(0, 66)], [.sl (some true) 0 [] .clip, .sl (some true) 0 [] .clip, .sl (some true) 0 [] .clip, .sl (some true) 0 [] .clip], none⟩),
  (102, ⟨7, 88, .struct [(0, 46), (5, 3), (6, 3)], [.int .i64 0, .int .i64 0, .int .i64 0, .sl (some true) 0 [] .clip, .sl (some true) 0 [] .clip, .int .i64 0, .int .i64 0], none⟩),
  (106, ⟨1, 24, .slice 21, [.sl (some true) 0 [] .clip], none⟩),
  (111, ⟨1, 8, .other, [.nilp], none⟩),
  (126, ⟨4, 32, .struct [(0, 3), (1, 3), (2, 3), (3, 3)], [.int .i64 0, .int .i64 0, .int .i64 0, .int .i64 0], none⟩),
  (132, ⟨1, 8, .int .u64, [.int .u64 0], none⟩),
  (140, ⟨1, 4, .int .u32, [.int .u32 0], none⟩),
  (142, ⟨1, 8, .int .u64, [.int .u64 0], none⟩)]
theorem Γ_ok : Γok Tryd.prog Γ := gok_of ⟨ti2, ti3, ti4, ti5, ti9, ti21, ti22, ti23, ti25, ti28, ti29, ti36, ti37, ti39, ti40, ti42, ti43, ti44, ti46, ti48, ti50, ti55, ti58, ti62, ti63, ti64, ti66, ti69, ti74, ti92, ti102, ti106, ti111, ti126, ti132, ti140, ti142, trivial⟩
end Go.Proofs.YteimloiaipiadaaDoor
end

section
set_option linter.unusedVariables false
set_option maxRecDepth 100000
namespace Go.Proofs.YteimloiaipiadaaDoor
open Go Go.AX
theorem mo_ok : Tryd.prog.follows .mixedOrders = true := by kernel_rfl
def sp2 : List Nat := []
def sp3 : List Nat := [7, 11, 27]
def sp4 : List Nat := [12, 16, 21, 31, 37, 48, 70]
def hd4 (tg : List (Nat × Nat × TypeId × Nat)) (cv : List (Bool × Nat × Nat × Nat × TypeId × Nat)) (xh xg : List Nat) : List (Nat × Hd) := [(13, ⟨[3, 5, 7, 8, 9, 10, 11], [2, 3, 8, 42] ++ xh, (tg.map fun x => x.2.1) ++ [12, 1012, 2012, 3012, 4012, 16, 1016, 2016, 3016, 4016, 21, 1021, 2021, 3021, 4021, 24, 1024, 2024, 3024, 4024, 27, 1027, 2027, 3027, 4027, 35, 1035, 2035, 3035, 4035, 39, 1039, 2039, 3039, 4039, 41, 1041, 2041, 3041, 4041, 44, 1044, 2044, 3044, 4044] ++ xg, tg, cv⟩)]
def dsp4 : List (Nat × List (List (Nat × Bool))) := [(15, [[(70, true)], [(70, false)]])]
def sp5 : List Nat := [11, 15, 27, 41, 64]
def hd5 (tg : List (Nat × Nat × TypeId × Nat)) (cv : List (Bool × Nat × Nat × Nat × TypeId × Nat)) (xh xg : List Nat) : List (Nat × Hd) := [(5, ⟨[1, 3, 5], [1] ++ xh, (tg.map fun x => x.2.1) ++ [11, 1011, 2011, 3011, 4011, 15, 1015, 2015, 3015, 4015, 18, 1018, 2018, 3018, 4018, 21, 1021, 2021, 3021, 4021, 54, 1054, 2054, 3054, 4054, 59, 1059, 2059, 3059, 4059, 64, 1064, 2064, 3064, 4064, 67, 1067, 2067, 3067, 4067] ++ xg, tg, cv⟩), (9, ⟨[1, 3, 5, 6], [1] ++ xh, (tg.map fun x => x.2.1) ++ [11, 1011, 2011, 3011, 4011, 15, 1015, 2015, 3015, 4015, 18, 1018, 2018, 3018, 4018, 21, 1021, 2021, 3021, 4021, 26, 54, 1054, 2054, 3054, 4054, 59, 1059, 2059, 3059, 4059, 64, 1064, 2064, 3064, 4064, 67, 1067, 2067, 3067, 4067] ++ xg, tg, cv⟩)]
def sp6 : List Nat := [9, 13, 18, 23, 31, 37, 45, 51]
def sp7 : List Nat := [9, 13, 18, 28, 30, 39, 48, 59, 66, 69, 75]
def hd7 (tg : List (Nat × Nat × TypeId × Nat)) (cv : List (Bool × Nat × Nat × Nat × TypeId × Nat)) (xh xg : List Nat) : List (Nat × Hd) := [(8, ⟨[2, 3, 5, 7, 8], [2, 3] ++ xh, (tg.map fun x => x.2.1) ++ [9, 1009, 2009, 3009, 4009, 13, 1013, 2013, 3013, 4013, 18, 1018, 2018, 3018, 4018, 21, 1021, 2021, 3021, 4021, 24, 1024, 2024, 3024, 4024, 33, 74, 1074, 2074, 3074, 4074, 79] ++ xg, tg, cv⟩)]
def dsp7 : List (Nat × List (List (Nat × Bool))) := [(10, [[(48, true)], [(48, false)]]), (12, [[(59, true)], [(59, false), (66, true)], [(59, false), (66, false)]])]
def sp8 : List Nat := [9, 13, 23, 27, 34, 42, 49, 56, 68, 70]
def hd8 (tg : List (Nat × Nat × TypeId × Nat)) (cv : List (Bool × Nat × Nat × Nat × TypeId × Nat)) (xh xg : List Nat) : List (Nat × Hd) := [(9, ⟨[1, 3, 5, 6, 7], [1] ++ xh, (tg.map fun x => x.2.1) ++ [9, 1009, 2009, 3009, 4009, 13, 1013, 2013, 3013, 4013, 16, 1016, 2016, 3016, 4016, 19, 1019, 2019, 3019, 4019] ++ xg, tg, cv⟩), (17, ⟨[1, 3, 5, 6, 7, 8], [1] ++ xh, (tg.map fun x => x.2.1) ++ [9, 1009, 2009, 3009, 4009, 13, 1013, 2013, 3013, 4013, 16, 1016, 2016, 3016, 4016, 19, 1019, 2019, 3019, 4019, 26, 34, 1034, 2034, 3034, 4034] ++ xg, tg, cv⟩)]
def dsp8 : List (Nat × List (List (Nat × Bool))) := [(19, [[(68, true)], [(68, false)]])]
def sp9 : List Nat := [14, 18, 26, 34, 41]
def sp10 : List Nat := [5]
def sp11 : List Nat := [16, 27, 44]
def hd11 (tg : List (Nat × Nat × TypeId × Nat)) (cv : List (Bool × Nat × Nat × Nat × TypeId × Nat)) (xh xg : List Nat) : List (Nat × Hd) := [(8, ⟨[4, 5, 6, 24, 25, 26], [1, 4, 5, 6] ++ xh, (tg.map fun x => x.2.1) ++ [13, 1013, 2013, 3013, 4013, 15, 1015, 2015, 3015, 4015, 22, 1022, 2022, 3022, 4022, 24, 25, 39, 1039, 2039, 3039, 4039, 41, 42, 51] ++ xg, tg, cv⟩), (13, ⟨[5, 41, 42, 43], [1, 4, 5, 6, 8] ++ xh, (tg.map fun x => x.2.1) ++ [13, 1013, 2013, 3013, 4013, 15, 1015, 2015, 3015, 4015, 22, 1022, 2022, 3022, 4022, 24, 25, 33, 1033, 2033, 3033, 4033, 39, 1039, 2039, 3039, 4039, 41, 42] ++ xg, tg, cv⟩)]
def sp12 : List Nat := [31, 44, 55, 67, 80, 111, 127, 140]
def hd12 (tg : List (Nat × Nat × TypeId × Nat)) (cv : List (Bool × Nat × Nat × Nat × TypeId × Nat)) (xh xg : List Nat) : List (Nat × Hd) := [(5, ⟨[4, 5, 6, 7], [1, 4] ++ xh, (tg.map fun x => x.2.1) ++ [18, 1018, 2018, 3018, 4018, 22, 25, 1025, 2025, 3025, 4025, 27, 118, 121, 1121, 2121, 3121, 4121, 123, 126, 137, 139] ++ xg, tg, cv⟩), (9, ⟨[4, 5, 6, 7, 8, 9], [1, 4] ++ xh, (tg.map fun x => x.2.1) ++ [18, 1018, 2018, 3018, 4018, 22, 25, 1025, 2025, 3025, 4025, 27, 30, 114, 118, 121, 1121, 2121, 3121, 4121, 123, 126, 137, 139] ++ xg, tg, cv⟩), (17, ⟨[4, 5, 6, 7, 8, 9, 10, 11, 12], [1, 4] ++ xh, (tg.map fun x => x.2.1) ++ [18, 1018, 2018, 3018, 4018, 22, 25, 1025, 2025, 3025, 4025, 27, 30, 43, 53, 55, 1055, 2055, 3055, 4055, 58, 1058, 2058, 3058, 4058, 60, 63, 110, 114, 118, 121, 1121, 2121, 3121, 4121, 123, 126, 137, 139] ++ xg, tg, cv⟩), (21, ⟨[4, 5, 6, 7, 8, 9, 10, 11, 12, 13], [1, 4] ++ xh, (tg.map fun x => x.2.1) ++ [18, 1018, 2018, 3018, 4018, 22, 25, 1025, 2025, 3025, 4025, 27, 30, 43, 53, 55, 1055, 2055, 3055, 4055, 58, 1058, 2058, 3058, 4058, 60, 63, 66, 76, 110, 114, 118, 121, 1121, 2121, 3121, 4121, 123, 126, 137, 139] ++ xg, tg, cv⟩), (32, ⟨[5, 15, 16], [1, 4, 14] ++ xh, (tg.map fun x => x.2.1) ++ [18, 1018, 2018, 3018, 4018, 22, 25, 1025, 2025, 3025, 4025, 27, 30, 43, 53, 55, 1055, 2055, 3055, 4055, 58, 1058, 2058, 3058, 4058, 60, 63, 66, 76, 79, 90, 102, 107, 110, 114, 118, 121, 1121, 2121, 3121, 4121, 123, 139] ++ xg, tg, cv⟩)]
def sp13 : List Nat := [10, 14, 25]
def hd13 (tg : List (Nat × Nat × TypeId × Nat)) (cv : List (Bool × Nat × Nat × Nat × TypeId × Nat)) (xh xg : List Nat) : List (Nat × Hd) := [(4, ⟨[0, 1, 5], [] ++ xh, (tg.map fun x => x.2.1) ++ [7, 9] ++ xg, tg, cv⟩)]
def dsp13 : List (Nat × List (List (Nat × Bool))) := [(6, [[(25, true)], [(25, false)]])]
def sp14 : List Nat := [4, 8]
def sp15 : List Nat := []
def sp16 : List Nat := [16, 25]
def hd16 (tg : List (Nat × Nat × TypeId × Nat)) (cv : List (Bool × Nat × Nat × Nat × TypeId × Nat)) (xh xg : List Nat) : List (Nat × Hd) := [(5, ⟨[2, 3, 4, 5, 6], [1, 2, 3] ++ xh, (tg.map fun x => x.2.1) ++ [9, 1009, 2009, 3009, 4009, 12, 1012, 2012, 3012, 4012] ++ xg, tg, cv⟩)]
def dsp16 : List (Nat × List (List (Nat × Bool))) := [(7, [[(25, true)], [(25, false)]])]
def sp17 : List Nat := [9]
def hd17 (tg : List (Nat × Nat × TypeId × Nat)) (cv : List (Bool × Nat × Nat × Nat × TypeId × Nat)) (xh xg : List Nat) : List (Nat × Hd) := [(3, ⟨[1, 3, 4], [1] ++ xh, (tg.map fun x => x.2.1) ++ [] ++ xg, tg, cv⟩)]
def sp18 : List Nat := [10, 25]
def hd18 (tg : List (Nat × Nat × TypeId × Nat)) (cv : List (Bool × Nat × Nat × Nat × TypeId × Nat)) (xh xg : List Nat) : List (Nat × Hd) := [(3, ⟨[1, 3, 4], [1] ++ xh, (tg.map fun x => x.2.1) ++ [24, 34, 1034, 2034, 3034, 4034, 35] ++ xg, tg, cv⟩), (7, ⟨[1, 3, 5], [1] ++ xh, (tg.map fun x => x.2.1) ++ [9, 19, 1019, 2019, 3019, 4019, 20] ++ xg, tg, cv⟩)]
def sp19 : List Nat := [17, 29, 33, 39, 53, 57, 61, 63, 68, 75, 83, 104, 107, 111, 115, 119, 130, 133, 143, 147, 159, 162]
def hd19 (tg : List (Nat × Nat × TypeId × Nat)) (cv : List (Bool × Nat × Nat × Nat × TypeId × Nat)) (xh xg : List Nat) : List (Nat × Hd) := [(7, ⟨[3, 4, 5, 6, 9, 10, 11], [4, 5, 6] ++ xh, (tg.map fun x => x.2.1) ++ [25, 1025, 2025, 3025, 4025, 81, 1081, 2081, 3081, 4081, 142] ++ xg, tg, cv⟩), (25, ⟨[5, 6, 14], [4, 5, 6] ++ xh, (tg.map fun x => x.2.1) ++ [25, 1025, 2025, 3025, 4025, 38, 50, 1050, 2050, 3050, 4050, 81, 1081, 2081, 3081, 4081] ++ xg, tg, cv⟩)]
def dsp19 : List (Nat × List (List (Nat × Bool))) := [(15, [[(83, true)], [(83, false)]]), (27, [[(159, true)], [(159, false)]]), (28, [[(162, true)], [(162, false)]])]
def sp20 : List Nat := [17, 20, 25, 44, 49, 68, 73, 100]
def hd20 (tg : List (Nat × Nat × TypeId × Nat)) (cv : List (Bool × Nat × Nat × Nat × TypeId × Nat)) (xh xg : List Nat) : List (Nat × Hd) := [(6, ⟨[4, 5, 7, 8], [3, 4, 5, 7] ++ xh, (tg.map fun x => x.2.1) ++ [12, 1012, 2012, 3012, 4012, 48, 72, 87, 1087, 2087, 3087, 4087, 99, 1099, 2099, 3099, 4099] ++ xg, tg, cv⟩), (12, ⟨[4, 5, 7, 9], [3, 4, 5, 7] ++ xh, (tg.map fun x => x.2.1) ++ [12, 1012, 2012, 3012, 4012, 24, 72, 87, 1087, 2087, 3087, 4087, 99, 1099, 2099, 3099, 4099] ++ xg, tg, cv⟩), (17, ⟨[4, 5, 7, 10], [3, 4, 5, 7] ++ xh, (tg.map fun x => x.2.1) ++ [12, 1012, 2012, 3012, 4012, 24, 48] ++ xg, tg, cv⟩)]
def dsp20 : List (Nat × List (List (Nat × Bool))) := [(8, [[(44, true)], [(44, false)]]), (14, [[(68, true)], [(68, false)]]), (19, [[(100, true)], [(100, false)]])]
def sp21 : List Nat := []
def sp22 : List Nat := [9, 18, 19, 23, 32, 33, 41, 45, 50, 57, 63, 72, 81, 86, 101]
def hd22 (tg : List (Nat × Nat × TypeId × Nat)) (cv : List (Bool × Nat × Nat × Nat × TypeId × Nat)) (xh xg : List Nat) : List (Nat × Hd) := [(9, ⟨[1, 4], [1] ++ xh, (tg.map fun x => x.2.1) ++ [13, 28, 1028, 2028, 3028, 4028, 50, 1050, 2050, 3050, 4050, 56] ++ xg, tg, cv⟩), (14, ⟨[1, 4, 5], [1] ++ xh, (tg.map fun x => x.2.1) ++ [13, 28, 1028, 2028, 3028, 4028, 50, 1050, 2050, 3050, 4050, 56, 62, 72, 1072, 2072, 3072, 4072, 81, 1081, 2081, 3081, 4081] ++ xg, tg, cv⟩)]
def dsp22 : List (Nat × List (List (Nat × Bool))) := [(16, [[(101, true)], [(101, false)]])]
def sp23 : List Nat := []
def sp24 : List Nat := [9, 13, 18, 22, 26, 30, 35, 41, 51, 57, 63, 73, 78]
def hd24 (tg : List (Nat × Nat × TypeId × Nat)) (cv : List (Bool × Nat × Nat × Nat × TypeId × Nat)) (xh xg : List Nat) : List (Nat × Hd) := [(14, ⟨[1, 2, 7], [2] ++ xh, (tg.map fun x => x.2.1) ++ [33, 39, 49, 56, 77, 86, 1086, 2086, 3086, 4086] ++ xg, tg, cv⟩)]
def sp25 : List Nat := [9]
def hd25 (tg : List (Nat × Nat × TypeId × Nat)) (cv : List (Bool × Nat × Nat × Nat × TypeId × Nat)) (xh xg : List Nat) : List (Nat × Hd) := [(3, ⟨[2, 3, 6, 7, 8], [2, 3] ++ xh, (tg.map fun x => x.2.1) ++ [7] ++ xg, tg, cv⟩)]
def sp26 : List Nat := [14]
def hd26 (tg : List (Nat × Nat × TypeId × Nat)) (cv : List (Bool × Nat × Nat × Nat × TypeId × Nat)) (xh xg : List Nat) : List (Nat × Hd) := [(3, ⟨[1, 3, 11, 12, 13], [1] ++ xh, (tg.map fun x => x.2.1) ++ [8, 12, 27] ++ xg, tg, cv⟩)]
def sp27 : List Nat := [15, 43]
def hd27 (tg : List (Nat × Nat × TypeId × Nat)) (cv : List (Bool × Nat × Nat × Nat × TypeId × Nat)) (xh xg : List Nat) : List (Nat × Hd) := [(6, ⟨[1, 2, 4, 5, 40, 41, 42], [5] ++ xh, (tg.map fun x => x.2.1) ++ [14, 19, 24, 1024, 2024, 3024, 4024, 30, 1030, 2030, 3030, 4030, 37, 1037, 2037, 3037, 4037, 39, 41] ++ xg, tg, cv⟩)]
def sp28 : List Nat := [4]
def sp29 : List Nat := [14, 19, 31]
def hd29 (tg : List (Nat × Nat × TypeId × Nat)) (cv : List (Bool × Nat × Nat × Nat × TypeId × Nat)) (xh xg : List Nat) : List (Nat × Hd) := [(2, ⟨[0, 1, 11, 12, 13], [] ++ xh, (tg.map fun x => x.2.1) ++ [12, 27, 1027, 2027, 3027, 4027, 31, 1031, 2031, 3031, 4031] ++ xg, tg, cv⟩), (9, ⟨[0, 1, 9], [] ++ xh, (tg.map fun x => x.2.1) ++ [12, 19, 1019, 2019, 3019, 4019] ++ xg, tg, cv⟩)]
def sp30 : List Nat := [4]
def sp31 : List Nat := [9, 14]
def hd31 (tg : List (Nat × Nat × TypeId × Nat)) (cv : List (Bool × Nat × Nat × Nat × TypeId × Nat)) (xh xg : List Nat) : List (Nat × Hd) := [(3, ⟨[2, 3, 6, 7, 8], [2] ++ xh, (tg.map fun x => x.2.1) ++ [7, 23, 26, 1026, 2026, 3026, 4026] ++ xg, tg, cv⟩)]
def sp32 : List Nat := [20]
def hd32 (tg : List (Nat × Nat × TypeId × Nat)) (cv : List (Bool × Nat × Nat × Nat × TypeId × Nat)) (xh xg : List Nat) : List (Nat × Hd) := [(4, ⟨[2, 3, 4, 5], [1, 2, 4] ++ xh, (tg.map fun x => x.2.1) ++ [7, 1007, 2007, 3007, 4007, 9, 1009, 2009, 3009, 4009, 11, 1011, 2011, 3011, 4011, 14, 1014, 2014, 3014, 4014] ++ xg, tg, cv⟩)]
def sp33 : List Nat := [9, 17, 27, 29]
def hd33 (tg : List (Nat × Nat × TypeId × Nat)) (cv : List (Bool × Nat × Nat × Nat × TypeId × Nat)) (xh xg : List Nat) : List (Nat × Hd) := [(2, ⟨[0, 2, 3], [2] ++ xh, (tg.map fun x => x.2.1) ++ [] ++ xg, tg, cv⟩), (7, ⟨[0, 2, 3, 4, 5, 6], [2, 4] ++ xh, (tg.map fun x => x.2.1) ++ [11, 1011, 2011, 3011, 4011] ++ xg, tg, cv⟩)]
def dsp33 : List (Nat × List (List (Nat × Bool))) := [(9, [[]])]
def sp34 : List Nat := [9, 17]
def hd34 (tg : List (Nat × Nat × TypeId × Nat)) (cv : List (Bool × Nat × Nat × Nat × TypeId × Nat)) (xh xg : List Nat) : List (Nat × Hd) := [(2, ⟨[0, 1, 5], [] ++ xh, (tg.map fun x => x.2.1) ++ [] ++ xg, tg, cv⟩)]
def sp35 : List Nat := [7]
def hd35 (tg : List (Nat × Nat × TypeId × Nat)) (cv : List (Bool × Nat × Nat × Nat × TypeId × Nat)) (xh xg : List Nat) : List (Nat × Hd) := [(2, ⟨[0, 3], [] ++ xh, (tg.map fun x => x.2.1) ++ [11, 1011, 2011, 3011, 4011] ++ xg, tg, cv⟩)]
def sp36 : List Nat := [10, 16, 23, 32, 38, 51]
def hd36 (tg : List (Nat × Nat × TypeId × Nat)) (cv : List (Bool × Nat × Nat × Nat × TypeId × Nat)) (xh xg : List Nat) : List (Nat × Hd) := [(4, ⟨[2, 3, 5], [2, 3] ++ xh, (tg.map fun x => x.2.1) ++ [28, 31] ++ xg, tg, cv⟩)]
def dsp36 : List (Nat × List (List (Nat × Bool))) := [(6, [[(51, true)], [(51, false)]])]
def sp37 : List Nat := [11, 14, 32, 41, 51, 60, 63, 77, 90, 104]
def hd37 (tg : List (Nat × Nat × TypeId × Nat)) (cv : List (Bool × Nat × Nat × Nat × TypeId × Nat)) (xh xg : List Nat) : List (Nat × Hd) := [(3, ⟨[0, 3, 4], [] ++ xh, (tg.map fun x => x.2.1) ++ [7] ++ xg, tg, cv⟩), (9, ⟨[0, 3, 4, 5], [] ++ xh, (tg.map fun x => x.2.1) ++ [7, 10, 24, 31, 40, 50] ++ xg, tg, cv⟩)]
def sp38 : List Nat := [9, 16]
def hd38 (tg : List (Nat × Nat × TypeId × Nat)) (cv : List (Bool × Nat × Nat × Nat × TypeId × Nat)) (xh xg : List Nat) : List (Nat × Hd) := [(2, ⟨[0, 1, 7, 8], [] ++ xh, (tg.map fun x => x.2.1) ++ [7] ++ xg, tg, cv⟩)]
def sp39 : List Nat := []
def sp40 : List Nat := [17, 25, 35, 42, 60, 69]
def hd40 (tg : List (Nat × Nat × TypeId × Nat)) (cv : List (Bool × Nat × Nat × Nat × TypeId × Nat)) (xh xg : List Nat) : List (Nat × Hd) := [(4, ⟨[3, 4, 5, 39, 40, 41], [3, 4, 5] ++ xh, (tg.map fun x => x.2.1) ++ [25, 1025, 2025, 3025, 4025, 35, 1035, 2035, 3035, 4035, 40] ++ xg, tg, cv⟩)]
def sp41 : List Nat := []
def sp42 : List Nat := [10, 25]
def hd42 (tg : List (Nat × Nat × TypeId × Nat)) (cv : List (Bool × Nat × Nat × Nat × TypeId × Nat)) (xh xg : List Nat) : List (Nat × Hd) := [(3, ⟨[1, 3, 4], [1] ++ xh, (tg.map fun x => x.2.1) ++ [24, 34, 1034, 2034, 3034, 4034, 35] ++ xg, tg, cv⟩), (7, ⟨[1, 3, 5], [1] ++ xh, (tg.map fun x => x.2.1) ++ [9, 19, 1019, 2019, 3019, 4019, 20] ++ xg, tg, cv⟩)]
def sp43 : List Nat := [10, 19]
def hd43 (tg : List (Nat × Nat × TypeId × Nat)) (cv : List (Bool × Nat × Nat × Nat × TypeId × Nat)) (xh xg : List Nat) : List (Nat × Hd) := [(2, ⟨[2, 3, 5], [2, 3] ++ xh, (tg.map fun x => x.2.1) ++ [] ++ xg, tg, cv⟩)]
def dsp43 : List (Nat × List (List (Nat × Bool))) := [(4, [[(19, true)], [(19, false)]])]
def sp44 : List Nat := [12, 27]
def hd44 (tg : List (Nat × Nat × TypeId × Nat)) (cv : List (Bool × Nat × Nat × Nat × TypeId × Nat)) (xh xg : List Nat) : List (Nat × Hd) := [(3, ⟨[1, 3, 4], [1] ++ xh, (tg.map fun x => x.2.1) ++ [26, 36, 1036, 2036, 3036, 4036, 37] ++ xg, tg, cv⟩), (7, ⟨[1, 3, 5], [1] ++ xh, (tg.map fun x => x.2.1) ++ [11, 21, 1021, 2021, 3021, 4021, 22] ++ xg, tg, cv⟩)]
def sp45 : List Nat := [13, 23, 27, 40]
def hd45 (tg : List (Nat × Nat × TypeId × Nat)) (cv : List (Bool × Nat × Nat × Nat × TypeId × Nat)) (xh xg : List Nat) : List (Nat × Hd) := [(2, ⟨[2, 3, 4, 7], [3, 4] ++ xh, (tg.map fun x => x.2.1) ++ [] ++ xg, tg, cv⟩), (6, ⟨[2, 3, 7, 8], [3, 4] ++ xh, (tg.map fun x => x.2.1) ++ [12, 43] ++ xg, tg, cv⟩)]
def dsp45 : List (Nat × List (List (Nat × Bool))) := [(4, [[(23, true)], [(23, false)]]), (8, [[(40, true)], [(40, false)]])]
def sp46 : List Nat := [16, 24]
def hd46 (tg : List (Nat × Nat × TypeId × Nat)) (cv : List (Bool × Nat × Nat × Nat × TypeId × Nat)) (xh xg : List Nat) : List (Nat × Hd) := [(3, ⟨[3, 5, 6], [] ++ xh, (tg.map fun x => x.2.1) ++ [9, 1009, 2009, 3009, 4009] ++ xg, tg, cv⟩)]
def sp47 : List Nat := [5, 9, 14]
def sp48 : List Nat := [12, 16, 35, 39]
def hd48 (tg : List (Nat × Nat × TypeId × Nat)) (cv : List (Bool × Nat × Nat × Nat × TypeId × Nat)) (xh xg : List Nat) : List (Nat × Hd) := [(3, ⟨[1, 2, 5, 6], [2] ++ xh, (tg.map fun x => x.2.1) ++ [34, 52, 1052, 2052, 3052, 4052] ++ xg, tg, cv⟩), (7, ⟨[1, 2, 5, 7], [2] ++ xh, (tg.map fun x => x.2.1) ++ [11, 29, 1029, 2029, 3029, 4029] ++ xg, tg, cv⟩)]
def sp49 : List Nat := [11, 15, 20, 24, 32, 43, 45, 49, 53, 58, 63, 67, 73, 78, 81, 85, 91, 97, 107, 113, 119, 129, 134]
def hd49 (tg : List (Nat × Nat × TypeId × Nat)) (cv : List (Bool × Nat × Nat × Nat × TypeId × Nat)) (xh xg : List Nat) : List (Nat × Hd) := [(20, ⟨[1, 2, 9], [2] ++ xh, (tg.map fun x => x.2.1) ++ [49, 1049, 2049, 3049, 4049, 73, 1073, 2073, 3073, 4073, 89, 95, 105, 112, 133, 142, 1142, 2142, 3142, 4142] ++ xg, tg, cv⟩)]
def sp50 : List Nat := [12, 23]
def hd50 (tg : List (Nat × Nat × TypeId × Nat)) (cv : List (Bool × Nat × Nat × Nat × TypeId × Nat)) (xh xg : List Nat) : List (Nat × Hd) := [(2, ⟨[0, 3, 9, 10, 11], [3, 7] ++ xh, (tg.map fun x => x.2.1) ++ [10, 21, 28, 1028, 2028, 3028, 4028] ++ xg, tg, cv⟩), (7, ⟨[0, 20, 21, 22], [3, 5] ++ xh, (tg.map fun x => x.2.1) ++ [10, 17, 1017, 2017, 3017, 4017, 21] ++ xg, tg, cv⟩)]
def sp51 : List Nat := []
def sp52 : List Nat := []
def sp53 : List Nat := [12, 21, 29, 38]
def hd53 (tg : List (Nat × Nat × TypeId × Nat)) (cv : List (Bool × Nat × Nat × Nat × TypeId × Nat)) (xh xg : List Nat) : List (Nat × Hd) := [(3, ⟨[0, 1, 2, 7, 8], [] ++ xh, (tg.map fun x => x.2.1) ++ [] ++ xg, tg, cv⟩)]
def sp54 : List Nat := [12, 21, 29, 38]
def hd54 (tg : List (Nat × Nat × TypeId × Nat)) (cv : List (Bool × Nat × Nat × Nat × TypeId × Nat)) (xh xg : List Nat) : List (Nat × Hd) := [(3, ⟨[0, 1, 5, 7, 8], [5] ++ xh, (tg.map fun x => x.2.1) ++ [] ++ xg, tg, cv⟩)]
def dsp54 : List (Nat × List (List (Nat × Bool))) := [(5, [[(21, true), (29, true), (38, true)], [(21, true), (29, true), (38, false)], [(21, true), (29, false)], [(21, false)]])]
def sp55 : List Nat := [4]
def sp56 : List Nat := [9, 13]
def sp57 : List Nat := [9, 13]
def sp58 : List Nat := [12, 18]
def hd58 (tg : List (Nat × Nat × TypeId × Nat)) (cv : List (Bool × Nat × Nat × Nat × TypeId × Nat)) (xh xg : List Nat) : List (Nat × Hd) := [(2, ⟨[3, 9, 10, 11], [2, 3] ++ xh, (tg.map fun x => x.2.1) ++ [10] ++ xg, tg, cv⟩)]
def sp59 : List Nat := [22, 35, 60, 68, 98, 114, 143, 146, 149]
def hd59 (tg : List (Nat × Nat × TypeId × Nat)) (cv : List (Bool × Nat × Nat × Nat × TypeId × Nat)) (xh xg : List Nat) : List (Nat × Hd) := [(6, ⟨[3, 4, 6, 7, 8], [2, 3, 4, 6, 12, 15] ++ xh, (tg.map fun x => x.2.1) ++ [28, 1028, 2028, 3028, 4028, 67, 77, 1077, 2077, 3077, 4077, 83, 1083, 2083, 3083, 4083, 88, 97, 107, 1107, 2107, 3107, 4107, 123, 1123, 2123, 3123, 4123, 129, 1129, 2129, 3129, 4129, 133, 1133, 2133, 3133, 4133, 152, 156, 162, 170, 1170, 2170, 3170, 4170] ++ xg, tg, cv⟩), (15, ⟨[2, 3, 4, 5, 10, 11], [2, 3, 4, 6, 9, 15] ++ xh, (tg.map fun x => x.2.1) ++ [28, 1028, 2028, 3028, 4028, 34, 45, 1045, 2045, 3045, 4045, 52, 1052, 2052, 3052, 4052, 97, 107, 1107, 2107, 3107, 4107, 123, 1123, 2123, 3123, 4123, 129, 1129, 2129, 3129, 4129, 133, 1133, 2133, 3133, 4133, 152, 156, 162, 170, 1170, 2170, 3170, 4170] ++ xg, tg, cv⟩), (23, ⟨[2, 4, 5, 10, 13, 14], [2, 3, 4, 6, 9, 12, 15] ++ xh, (tg.map fun x => x.2.1) ++ [28, 1028, 2028, 3028, 4028, 34, 45, 1045, 2045, 3045, 4045, 52, 1052, 2052, 3052, 4052, 67, 77, 1077, 2077, 3077, 4077, 83, 1083, 2083, 3083, 4083, 88, 123, 1123, 2123, 3123, 4123, 129, 1129, 2129, 3129, 4129, 133, 1133, 2133, 3133, 4133, 152, 156, 162, 170, 1170, 2170, 3170, 4170] ++ xg, tg, cv⟩)]
def sp60 : List Nat := [9, 22]
def hd60 (tg : List (Nat × Nat × TypeId × Nat)) (cv : List (Bool × Nat × Nat × Nat × TypeId × Nat)) (xh xg : List Nat) : List (Nat × Hd) := [(3, ⟨[1, 3, 4], [1] ++ xh, (tg.map fun x => x.2.1) ++ [28, 1028, 2028, 3028, 4028, 29, 36] ++ xg, tg, cv⟩)]
def sp61 : List Nat := [11, 19, 28, 34, 47, 53, 66]
def hd61 (tg : List (Nat × Nat × TypeId × Nat)) (cv : List (Bool × Nat × Nat × Nat × TypeId × Nat)) (xh xg : List Nat) : List (Nat × Hd) := [(4, ⟨[2, 3, 5], [2, 3] ++ xh, (tg.map fun x => x.2.1) ++ [15, 18, 24, 27, 52, 66, 1066, 2066, 3066, 4066] ++ xg, tg, cv⟩), (9, ⟨[2, 3, 6], [2, 3] ++ xh, (tg.map fun x => x.2.1) ++ [15, 18, 24, 27, 33, 47, 1047, 2047, 3047, 4047] ++ xg, tg, cv⟩)]
def dsp61 : List (Nat × List (List (Nat × Bool))) := [(6, [[(47, true)], [(47, false)]]), (11, [[(66, true)], [(66, false)]])]
def sp62 : List Nat := [13, 22]
def hd62 (tg : List (Nat × Nat × TypeId × Nat)) (cv : List (Bool × Nat × Nat × Nat × TypeId × Nat)) (xh xg : List Nat) : List (Nat × Hd) := [(3, ⟨[0, 5, 6], [] ++ xh, (tg.map fun x => x.2.1) ++ [] ++ xg, tg, cv⟩)]
def sp63 : List Nat := [4, 8, 11, 15, 19]
def sp64 : List Nat := [9, 15, 21, 29]
def hd64 (tg : List (Nat × Nat × TypeId × Nat)) (cv : List (Bool × Nat × Nat × Nat × TypeId × Nat)) (xh xg : List Nat) : List (Nat × Hd) := [(5, ⟨[3, 4], [] ++ xh, (tg.map fun x => x.2.1) ++ [8, 15, 1015, 2015, 3015, 4015] ++ xg, tg, cv⟩)]
def sp65 : List Nat := [12, 16, 35, 39]
def hd65 (tg : List (Nat × Nat × TypeId × Nat)) (cv : List (Bool × Nat × Nat × Nat × TypeId × Nat)) (xh xg : List Nat) : List (Nat × Hd) := [(3, ⟨[1, 2, 5, 6], [2] ++ xh, (tg.map fun x => x.2.1) ++ [34, 52, 1052, 2052, 3052, 4052] ++ xg, tg, cv⟩), (7, ⟨[1, 2, 5, 7], [2] ++ xh, (tg.map fun x => x.2.1) ++ [11, 29, 1029, 2029, 3029, 4029] ++ xg, tg, cv⟩)]
def sp66 : List Nat := [5, 9, 14, 19, 25]
def sp67 : List Nat := [12, 26, 32, 56, 73, 84]
def hd67 (tg : List (Nat × Nat × TypeId × Nat)) (cv : List (Bool × Nat × Nat × Nat × TypeId × Nat)) (xh xg : List Nat) : List (Nat × Hd) := [(12, ⟨[0, 3, 70, 71, 72], [3, 8] ++ xh, (tg.map fun x => x.2.1) ++ [21, 1021, 2021, 3021, 4021, 30, 1030, 2030, 3030, 4030, 36, 1036, 2036, 3036, 4036, 53, 1053, 2053, 3053, 4053, 65, 1065, 2065, 3065, 4065, 71, 82, 89, 1089, 2089, 3089, 4089] ++ xg, tg, cv⟩), (17, ⟨[0, 81, 82, 83], [3, 6] ++ xh, (tg.map fun x => x.2.1) ++ [21, 1021, 2021, 3021, 4021, 30, 1030, 2030, 3030, 4030, 36, 1036, 2036, 3036, 4036, 53, 1053, 2053, 3053, 4053, 65, 1065, 2065, 3065, 4065, 71, 78, 1078, 2078, 3078, 4078, 82] ++ xg, tg, cv⟩)]
def sp68 : List Nat := [9, 16]
def hd68 (tg : List (Nat × Nat × TypeId × Nat)) (cv : List (Bool × Nat × Nat × Nat × TypeId × Nat)) (xh xg : List Nat) : List (Nat × Hd) := [(2, ⟨[0, 1, 7, 8], [] ++ xh, (tg.map fun x => x.2.1) ++ [7] ++ xg, tg, cv⟩)]
def sp69 : List Nat := []
def sp70 : List Nat := [9, 17]
def hd70 (tg : List (Nat × Nat × TypeId × Nat)) (cv : List (Bool × Nat × Nat × Nat × TypeId × Nat)) (xh xg : List Nat) : List (Nat × Hd) := [(2, ⟨[0, 3, 5], [3] ++ xh, (tg.map fun x => x.2.1) ++ [] ++ xg, tg, cv⟩)]
def dsp70 : List (Nat × List (List (Nat × Bool))) := [(4, [[(17, true)], [(17, false)]])]
def sp71 : List Nat := []
def sp72 : List Nat := []
def sp73 : List Nat := [11, 17, 24, 33, 42, 48, 61, 67, 80]
def hd73 (tg : List (Nat × Nat × TypeId × Nat)) (cv : List (Bool × Nat × Nat × Nat × TypeId × Nat)) (xh xg : List Nat) : List (Nat × Hd) := [(4, ⟨[2, 3, 5], [2, 3] ++ xh, (tg.map fun x => x.2.1) ++ [29, 32, 38, 41, 66, 80, 1080, 2080, 3080, 4080] ++ xg, tg, cv⟩), (9, ⟨[2, 3, 6], [2, 3] ++ xh, (tg.map fun x => x.2.1) ++ [29, 32, 38, 41, 47, 61, 1061, 2061, 3061, 4061] ++ xg, tg, cv⟩)]
def dsp73 : List (Nat × List (List (Nat × Bool))) := [(6, [[(61, true)], [(61, false)]]), (11, [[(80, true)], [(80, false)]])]
def sp74 : List Nat := [11, 16, 19, 26, 35, 45, 50, 56]
def hd74 (tg : List (Nat × Nat × TypeId × Nat)) (cv : List (Bool × Nat × Nat × Nat × TypeId × Nat)) (xh xg : List Nat) : List (Nat × Hd) := [(4, ⟨[0, 1, 7], [] ++ xh, (tg.map fun x => x.2.1) ++ [15, 56, 1056, 2056, 3056, 4056] ++ xg, tg, cv⟩)]
def sp75 : List Nat := [4, 7, 11]
def sp76 : List Nat := [4, 7, 10, 12, 15, 19, 26, 29, 33, 36, 38, 41, 44, 46, 48, 54, 56, 58, 60, 62, 64, 66, 68, 70]
def sp77 : List Nat := [4, 7, 11, 15, 18, 23, 27, 30, 35]
def sp78 : List Nat := [15, 26]
def hd78 (tg : List (Nat × Nat × TypeId × Nat)) (cv : List (Bool × Nat × Nat × Nat × TypeId × Nat)) (xh xg : List Nat) : List (Nat × Hd) := [(2, ⟨[0, 2, 7], [] ++ xh, (tg.map fun x => x.2.1) ++ [] ++ xg, tg, cv⟩)]
def sp79 : List Nat := [7]
def sp80 : List Nat := [14]
def sp81 : List Nat := [7]
def sp82 : List Nat := [11, 13, 16, 23, 34]
def sp83 : List Nat := [9, 16]
def hd83 (tg : List (Nat × Nat × TypeId × Nat)) (cv : List (Bool × Nat × Nat × Nat × TypeId × Nat)) (xh xg : List Nat) : List (Nat × Hd) := [(2, ⟨[0, 3, 7, 8], [3] ++ xh, (tg.map fun x => x.2.1) ++ [7] ++ xg, tg, cv⟩)]
def dsp83 : List (Nat × List (List (Nat × Bool))) := [(4, [[(16, true)], [(16, false)]])]
def sp84 : List Nat := [12, 22, 25, 30, 33, 38, 41, 46]
def hd84 (tg : List (Nat × Nat × TypeId × Nat)) (cv : List (Bool × Nat × Nat × Nat × TypeId × Nat)) (xh xg : List Nat) : List (Nat × Hd) := [(3, ⟨[0, 1, 2, 7, 8], [] ++ xh, (tg.map fun x => x.2.1) ++ [] ++ xg, tg, cv⟩)]
def sp85 : List Nat := [4, 7, 11, 14, 18, 23, 34]
def sp86 : List Nat := [10, 18, 23, 35]
def hd86 (tg : List (Nat × Nat × TypeId × Nat)) (cv : List (Bool × Nat × Nat × Nat × TypeId × Nat)) (xh xg : List Nat) : List (Nat × Hd) := [(4, ⟨[0, 1, 2, 7], [] ++ xh, (tg.map fun x => x.2.1) ++ [9, 14, 17] ++ xg, tg, cv⟩)]
def dsp86 : List (Nat × List (List (Nat × Bool))) := [(6, [[(35, true)], [(35, false)]])]
def sp87 : List Nat := [23, 26, 31, 42, 55, 65, 73, 76, 81, 87, 91, 96, 102, 107, 112, 121, 124, 128, 140, 147, 154]
def hd87 (tg : List (Nat × Nat × TypeId × Nat)) (cv : List (Bool × Nat × Nat × Nat × TypeId × Nat)) (xh xg : List Nat) : List (Nat × Hd) := [(5, ⟨[0, 1, 5, 6], [] ++ xh, (tg.map fun x => x.2.1) ++ [19] ++ xg, tg, cv⟩), (10, ⟨[0, 1, 5, 6, 7, 8, 9], [] ++ xh, (tg.map fun x => x.2.1) ++ [19, 49, 1049, 2049, 3049, 4049, 52, 1052, 2052, 3052, 4052, 143, 1143, 2143, 3143, 4143, 145, 154, 1154, 2154, 3154, 4154] ++ xg, tg, cv⟩), (17, ⟨[0, 1, 5, 6, 7, 10, 11, 12, 13], [] ++ xh, (tg.map fun x => x.2.1) ++ [19, 40, 49, 1049, 2049, 3049, 4049, 52, 1052, 2052, 3052, 4052, 143, 1143, 2143, 3143, 4143, 145, 154, 1154, 2154, 3154, 4154] ++ xg, tg, cv⟩), (23, ⟨[0, 1, 5, 6, 7, 10, 11, 15], [] ++ xh, (tg.map fun x => x.2.1) ++ [19, 40, 49, 1049, 2049, 3049, 4049, 52, 1052, 2052, 3052, 4052] ++ xg, tg, cv⟩)]
def sp88 : List Nat := [4]
def sp89 : List Nat := []
def sp90 : List Nat := [20, 99, 139, 161]
def hd90 (tg : List (Nat × Nat × TypeId × Nat)) (cv : List (Bool × Nat × Nat × Nat × TypeId × Nat)) (xh xg : List Nat) : List (Nat × Hd) := [(1, ⟨[0, 1, 4], [] ++ xh, (tg.map fun x => x.2.1) ++ [18] ++ xg, tg, cv⟩)]
def sp91 : List Nat := [20, 23, 27, 30, 34, 46, 68, 89, 94]
def hd91 (tg : List (Nat × Nat × TypeId × Nat)) (cv : List (Bool × Nat × Nat × Nat × TypeId × Nat)) (xh xg : List Nat) : List (Nat × Hd) := [(11, ⟨[0, 1, 3, 4, 10, 11, 12, 13, 14, 15, 16], [12] ++ xh, (tg.map fun x => x.2.1) ++ [34, 1034, 2034, 3034, 4034, 37, 1037, 2037, 3037, 4037, 98] ++ xg, tg, cv⟩), (18, ⟨[0, 1, 3, 4, 10, 11, 12, 13, 17], [12] ++ xh, (tg.map fun x => x.2.1) ++ [34, 1034, 2034, 3034, 4034, 37, 1037, 2037, 3037, 4037, 98] ++ xg, tg, cv⟩)]
def sp92 : List Nat := []
def sp93 : List Nat := [4, 8, 14]
def sp94 : List Nat := [3]
def sp95 : List Nat := []
def sp96 : List Nat := []
def sp97 : List Nat := [4]
def sp98 : List Nat := [4]
end Go.Proofs.YteimloiaipiadaaDoor
end

section
set_option linter.unusedVariables false
set_option linter.unusedSimpArgs false
namespace Go.AX
open Go Go.RowKit

/-! ### Walks whose result need only be -/
def Triv : Prop := True
theorem triv : Triv := trivial
theorem ex_split {α : Type} {R : α → Prop} {b : Bool} {T F : α → Prop} (h1 : b = true → ∃ x, R x ∧ T x) (h2 : b = false → ∃ x, R x ∧ F x) : ∃ x, R x ∧ ((b = true → T x) ∧ (b = false → F x)) := by
  cases b
  · obtain ⟨x, hr, hx⟩ := h2 rfl
    exact ⟨x, hr, (fun h => by cases h), fun _ => hx⟩
  · obtain ⟨x, hr, hx⟩ := h1 rfl
    exact ⟨x, hr, (fun _ => hx), fun h => by cases h⟩
theorem ex_ob {α : Type} {R : α → Prop} {p : Prop} {T : α → Prop} (h : p) (k : ∃ x, R x ∧ T x) : ∃ x, R x ∧ (p ∧ T x) := by
  obtain ⟨x, hr, hx⟩ := k
  exact ⟨x, hr, h, hx⟩
theorem ex_or1 {α : Type} {R : α → Prop} {T F : α → Prop} (k : ∃ x, R x ∧ T x) : ∃ x, R x ∧ (T x ∨ F x) := by
  obtain ⟨x, hr, hx⟩ := k
  exact ⟨x, hr, .inl hx⟩
theorem ex_or2 {α : Type} {R : α → Prop} {T F : α → Prop} (k : ∃ x, R x ∧ F x) : ∃ x, R x ∧ (T x ∨ F x) := by
  obtain ⟨x, hr, hx⟩ := k
  exact ⟨x, hr, .inr hx⟩
theorem ex_head {α : Type} {R : α → Prop} {P : Program} {nt : Nat} {todo : List Item} {Q : α → AS → Prop} {s t : AS} (h : ∃ x, R x ∧ HT P nt todo t (Q x)) (e : s = t) : ∃ x, R x ∧ HT P nt todo s (Q x) := e ▸ h
theorem head_eq {P : Program} {nt : Nat} {todo : List Item} {Q : AS → Prop} {s t : AS} (h : HT P nt todo t Q) (e : s = t) : HT P nt todo s Q := e ▸ h
/-! Results that are, chosen. -/
open Classical in
noncomputable def exB (P : Program) (f : FuncId) (args : List AV) : Bool := if h : ∃ x, Triv ∧ Ctr P f args (.bool x) then h.choose else false
open Classical in
noncomputable def exI (P : Program) (f : FuncId) (args : List AV) : Int := if h : ∃ x, Triv ∧ Ctr P f args (.int .i64 x) then h.choose else 0
theorem exB_ctr {P : Program} {f : FuncId} {args : List AV} (h : ∃ x, Triv ∧ Ctr P f args (.bool x)) : Ctr P f args (.bool (exB P f args)) := by
  unfold exB
  rw [dif_pos h]
  exact h.choose_spec.2
theorem exI_ctr {P : Program} {f : FuncId} {args : List AV} (h : ∃ x, Triv ∧ Ctr P f args (.int .i64 x)) : Ctr P f args (.int .i64 (exI P f args)) := by
  unfold exI
  rw [dif_pos h]
  exact h.choose_spec.2
theorem ex_mono {α : Type} {R : α → Prop} {T : α → Prop} (h : ∃ x, R x ∧ T x) : ∃ x, Triv ∧ T x := by
  obtain ⟨x, _, hx⟩ := h
  exact ⟨x, triv, hx⟩
/-! A slice that has elements is not nil. -/
theorem Rep.nn {w : World} {G : Env} {l : Bool} {n : Nat} {cells : List AV} {o : Own} {v : Value} (hn : 0 < n) (h : Rep w G l (.sl none n cells o) v) : Rep w G l (.sl (some false) n cells o) v := by
  cases h with
  | sl _ nl _ _ _ A c vs hnl hpos hc hcell hrep hclip hown =>
    exact .sl _ _ _ _ _ A c vs (fun b hb => by
      cases hb
      obtain ⟨ad, hA, _⟩ := hpos hn
      rw [hA]
      rfl) hpos hc hcell hrep hclip hown
theorem CtrM.nn {P : Program} {f : FuncId} {M M' : MemS} {n : Nat} {cells : List AV} {o : Own} {r : List AV} {res : AV} (hn : 0 < n) (h : CtrM P f M (.sl (some false) n cells o :: r) M' res) : CtrM P f M (.sl none n cells o :: r) M' res := by
  refine ⟨h.1, fun C vs hst hl ha => h.2 C vs hst (by simpa using hl) fun i c v hc hv => ?_⟩
  match i, hc with
  | 0, hc =>
    simp at hc
    subst hc
    exact Rep.nn hn (ha 0 _ v rfl hv)
  | i + 1, hc => exact ha (i + 1) c v hc hv
attribute [irreducible] exB exI
end Go.AX
end

section
set_option linter.unusedVariables false
set_option linter.unusedSimpArgs false
set_option maxRecDepth 100000
namespace Go.Proofs.YteimloiaipiadaaDoor
open Go Go.AX

noncomputable def annJ : List (Nat × Ann) := [(1000075, .callF [] (fun args => .bool (exB Tryd.prog 75 args))), (1000076, .callF [] (fun args => .bool (exB Tryd.prog 76 args))), (1000063, .callF [] (fun args => .bool (exB Tryd.prog 63 args))), (1000077, .callF [] (fun args => .bool (exB Tryd.prog 77 args))), (1000084, .callF [] (fun args => .int .i64 (exI Tryd.prog 84 args)))]

theorem blank_ex (r : Int) : ∃ x : Bool, (Triv) ∧ Ctr Tryd.prog 75 [.int .i64 r] (.bool x) := by
    have H : ∃ x : Bool, (Triv) ∧ PT.holds Tryd.prog Tryd.f75.ntmps (EndsA Γ (.pure [] (.bool x)) Tryd.f75) (.split (decide (r = (9 : Int))) (.ob (true = x) (.tt)) (.split (decide (r = (10 : Int))) (.ob (true = x) (.tt)) (.split (decide (r = (13 : Int))) (.ob (true = x) (.tt)) (.ob (decide (r = (32 : Int)) = x) (.tt))))) := by
      simp only [PT.holds]
      (repeat' first | exact ⟨_, triv, rfl, trivial⟩ | exact ⟨_, triv, rfl⟩ | refine ex_split (fun _ => ?_) (fun _ => ?_) | refine ex_ob ?_ ?_)
    obtain ⟨x, hR, hx⟩ := H
    exact ⟨x, hR, Ctr.mk Γ_ok Tryd.func75 (by kernel_rfl) Tryd.call75 [] (by kernel_rfl) (HT.walk Γ_ok mo_ok (⟨annJ, sp75, [], [], .pure [] (.bool x)⟩ : Wk) 4000 (by kernel_rfl) hx)⟩
theorem start_ex (r : Int) : ∃ x : Bool, (Triv) ∧ Ctr Tryd.prog 76 [.int .i64 r] (.bool x) := by
    have H : ∃ x : Bool, (Triv) ∧ PT.holds Tryd.prog Tryd.f76.ntmps (EndsA Γ (.pure [] (.bool x)) Tryd.f76) (.split (decide (r < (65 : Int))) (.ob (false = x) (.tt)) (.split (decide ((983039 : Int) < r)) (.ob (false = x) (.tt)) (.split (decide (r < (128 : Int))) (.split (decide (r ≤ (90 : Int))) (.ob (true = x) (.tt)) (.split (decide (r = (95 : Int))) (.ob (true = x) (.tt)) (.split (decide ((97 : Int) ≤ r)) (.ob (decide (r ≤ (122 : Int)) = x) (.tt)) (.ob (false = x) (.tt))))) (.split (decide (r < (192 : Int))) (.ob (false = x) (.tt)) (.split (decide (r = (215 : Int))) (.ob (false = x) (.tt)) (.split (decide (r = (247 : Int))) (.ob (false = x) (.tt)) (.split (decide (r < (768 : Int))) (.ob (true = x) (.tt)) (.split (decide (r < (880 : Int))) (.ob (false = x) (.tt)) (.split (decide (r = (894 : Int))) (.ob (false = x) (.tt)) (.split (decide (r < (8192 : Int))) (.ob (true = x) (.tt)) (.split (decide (r < (8304 : Int))) (.split (decide (r = (8204 : Int))) (.ob (true = x) (.tt)) (.ob (decide (r = (8205 : Int)) = x) (.tt))) (.split (decide (r < (8592 : Int))) (.ob (true = x) (.tt)) (.split (decide (r < (11264 : Int))) (.ob (false = x) (.tt)) (.split (decide (r < (12272 : Int))) (.ob (true = x) (.tt)) (.split (decide (r < (12289 : Int))) (.ob (false = x) (.tt)) (.split (decide (r < (55296 : Int))) (.ob (true = x) (.tt)) (.split (decide (r < (63744 : Int))) (.ob (false = x) (.tt)) (.split (decide (r < (64976 : Int))) (.ob (true = x) (.tt)) (.split (decide (r < (65008 : Int))) (.ob (false = x) (.tt)) (.split (decide (r ≤ (65533 : Int))) (.ob (true = x) (.tt)) (.ob (decide ((65536 : Int) ≤ r) = x) (.tt)))))))))))))))))))))) := by
      simp only [PT.holds]
      (repeat' first | exact ⟨_, triv, rfl, trivial⟩ | exact ⟨_, triv, rfl⟩ | refine ex_split (fun _ => ?_) (fun _ => ?_) | refine ex_ob ?_ ?_)
    obtain ⟨x, hR, hx⟩ := H
    exact ⟨x, hR, Ctr.mk Γ_ok Tryd.func76 (by kernel_rfl) Tryd.call76 [] (by kernel_rfl) (HT.walk Γ_ok mo_ok (⟨annJ, sp76, [], [], .pure [] (.bool x)⟩ : Wk) 4000 (by kernel_rfl) hx)⟩
theorem char_ex (r : Int) : ∃ x : Bool, (Triv) ∧ Ctr Tryd.prog 63 [.int .i64 r] (.bool x) := by
    have H : ∃ x : Bool, (Triv) ∧ PT.holds Tryd.prog Tryd.f63.ntmps (EndsA Γ (.pure [] (.bool x)) Tryd.f63) (.split (decide (r < (32 : Int))) (.ob (Ctr Tryd.prog 75 [AV.int .i64 r] (AV.bool (exB Tryd.prog (75 : FuncId) [AV.int .i64 r]))) (.ob (exB Tryd.prog (75 : FuncId) [AV.int .i64 r] = x) (.tt))) (.split (decide ((55296 : Int) ≤ r)) (.split (decide (r < (57344 : Int))) (.ob (false = x) (.tt)) (.split (decide (r = (65534 : Int))) (.ob (false = x) (.tt)) (.split (decide (r = (65535 : Int))) (.ob (false = x) (.tt)) (.ob (decide (r ≤ (1114111 : Int)) = x) (.tt))))) (.split (decide (r = (65534 : Int))) (.ob (false = x) (.tt)) (.split (decide (r = (65535 : Int))) (.ob (false = x) (.tt)) (.ob (decide (r ≤ (1114111 : Int)) = x) (.tt)))))) := by
      simp only [PT.holds]
      (repeat' first | exact ⟨_, triv, rfl, trivial⟩ | exact ⟨_, triv, rfl⟩ | refine ex_split (fun _ => ?_) (fun _ => ?_) | refine ex_ob ?_ ?_)
      exact exB_ctr (blank_ex _)
    obtain ⟨x, hR, hx⟩ := H
    exact ⟨x, hR, Ctr.mk Γ_ok Tryd.func63 (by kernel_rfl) Tryd.call63 [] (by kernel_rfl) (HT.walk Γ_ok mo_ok (⟨annJ, sp63, [], [], .pure [] (.bool x)⟩ : Wk) 4000 (by kernel_rfl) hx)⟩
theorem part_ex (r : Int) : ∃ x : Bool, (Triv) ∧ Ctr Tryd.prog 77 [.int .i64 r] (.bool x) := by
    have H : ∃ x : Bool, (Triv) ∧ PT.holds Tryd.prog Tryd.f77.ntmps (EndsA Γ (.pure [] (.bool x)) Tryd.f77) (.ob (Ctr Tryd.prog 76 [AV.int .i64 r] (AV.bool (exB Tryd.prog (76 : FuncId) [AV.int .i64 r]))) (.split (exB Tryd.prog (76 : FuncId) [AV.int .i64 r]) (.ob (true = x) (.tt)) (.split (decide (r = (45 : Int))) (.ob (true = x) (.tt)) (.split (decide (r = (46 : Int))) (.ob (true = x) (.tt)) (.split (decide ((48 : Int) ≤ r)) (.split (decide (r ≤ (57 : Int))) (.ob (true = x) (.tt)) (.split (decide (r = (183 : Int))) (.ob (true = x) (.tt)) (.split (decide ((768 : Int) ≤ r)) (.split (decide (r ≤ (879 : Int))) (.ob (true = x) (.tt)) (.split (decide (r = (8255 : Int))) (.ob (true = x) (.tt)) (.ob (decide (r = (8256 : Int)) = x) (.tt)))) (.split (decide (r = (8255 : Int))) (.ob (true = x) (.tt)) (.ob (decide (r = (8256 : Int)) = x) (.tt)))))) (.split (decide (r = (183 : Int))) (.ob (true = x) (.tt)) (.split (decide ((768 : Int) ≤ r)) (.split (decide (r ≤ (879 : Int))) (.ob (true = x) (.tt)) (.split (decide (r = (8255 : Int))) (.ob (true = x) (.tt)) (.ob (decide (r = (8256 : Int)) = x) (.tt)))) (.split (decide (r = (8255 : Int))) (.ob (true = x) (.tt)) (.ob (decide (r = (8256 : Int)) = x) (.tt)))))))))) := by
      simp only [PT.holds]
      (repeat' first | exact ⟨_, triv, rfl, trivial⟩ | exact ⟨_, triv, rfl⟩ | refine ex_split (fun _ => ?_) (fun _ => ?_) | refine ex_ob ?_ ?_)
      exact exB_ctr (start_ex _)
    obtain ⟨x, hR, hx⟩ := H
    exact ⟨x, hR, Ctr.mk Γ_ok Tryd.func77 (by kernel_rfl) Tryd.call77 [] (by kernel_rfl) (HT.walk Γ_ok mo_ok (⟨annJ, sp77, [], [], .pure [] (.bool x)⟩ : Wk) 4000 (by kernel_rfl) hx)⟩
def stV (s : ByteArray) (at_ n i : Nat) (v : Int) : AS := ⟨[(0, .str s), (1, .int .i64 at_), (2, .int .i64 n), (7, .int .i64 v), (8, .int .i64 i)], [], []⟩
theorem value_h (s : ByteArray) (at_ n i : Nat) (v : Int) (hs : at_ + n ≤ s.size) (hss : s.size ≤ 1048600) (ih : i < n → ∀ v', ∃ x : Int, Triv ∧ HT Tryd.prog Tryd.f84.ntmps (pt Tryd.f84 0) (stV s at_ n (i + 1) v') (EndsA Γ (.pure [] (.int .i64 x)) Tryd.f84)) : ∃ x : Int, (Triv) ∧ HT Tryd.prog Tryd.f84.ntmps (pt Tryd.f84 0) (stV s at_ n i v) (EndsA Γ (.pure [] (.int .i64 x)) Tryd.f84) := by
    have H : ∃ x : Int, (Triv) ∧ PT.holds Tryd.prog Tryd.f84.ntmps (EndsA Γ (.pure [] (.int .i64 x)) Tryd.f84) (.split (decide ((↑i : Int) < (↑n : Int))) (.ob ((0 : Int) ≤ IntKind.i64.wrap ((↑at_ : Int) + (↑i : Int)) ∧ IntKind.i64.wrap ((↑at_ : Int) + (↑i : Int)) < (↑s.size : Int)) (.split (decide ((↑i : Int) = (0 : Int))) (.split (decide ((↑n : Int) = (2 : Int))) (.split (decide ((↑i : Int) = (0 : Int))) (.split (decide ((↑n : Int) = (3 : Int))) (.split (decide ((↑i : Int) = (0 : Int))) (.split (decide ((↑n : Int) = (4 : Int))) (.split (decide ((0 : Int) < (↑i : Int))) (.head (pt Tryd.f84 0) ({ tmps := [(0, AV.str s), (1, AV.int .i64 (↑at_ : Int)), (2, AV.int .i64 (↑n : Int)), (7, AV.int .i64 (IntKind.i64.wrap (IntKind.i64.wrap (v * (64 : Int)) + IntKind.i64.wrap (IntKind.i64.wrap (IntKind.i64.wrap (IntKind.i64.wrap (IntKind.i64.wrap (byteAt s (IntKind.i64.wrap ((↑at_ : Int) + (↑i : Int)))) - (192 : Int)) - (224 : Int)) - (240 : Int)) - (128 : Int))))), (8, AV.int .i64 (IntKind.i64.wrap ((↑i : Int) + (1 : Int))))], heap := [], tags := [] })) (.head (pt Tryd.f84 0) ({ tmps := [(0, AV.str s), (1, AV.int .i64 (↑at_ : Int)), (2, AV.int .i64 (↑n : Int)), (7, AV.int .i64 (IntKind.i64.wrap (IntKind.i64.wrap (v * (64 : Int)) + IntKind.i64.wrap (IntKind.i64.wrap (IntKind.i64.wrap (IntKind.i64.wrap (byteAt s (IntKind.i64.wrap ((↑at_ : Int) + (↑i : Int)))) - (192 : Int)) - (224 : Int)) - (240 : Int))))), (8, AV.int .i64 (IntKind.i64.wrap ((↑i : Int) + (1 : Int))))], heap := [], tags := [] }))) (.split (decide ((0 : Int) < (↑i : Int))) (.head (pt Tryd.f84 0) ({ tmps := [(0, AV.str s), (1, AV.int .i64 (↑at_ : Int)), (2, AV.int .i64 (↑n : Int)), (7, AV.int .i64 (IntKind.i64.wrap (IntKind.i64.wrap (v * (64 : Int)) + IntKind.i64.wrap (IntKind.i64.wrap (IntKind.i64.wrap (IntKind.i64.wrap (byteAt s (IntKind.i64.wrap ((↑at_ : Int) + (↑i : Int)))) - (192 : Int)) - (224 : Int)) - (128 : Int))))), (8, AV.int .i64 (IntKind.i64.wrap ((↑i : Int) + (1 : Int))))], heap := [], tags := [] })) (.head (pt Tryd.f84 0) ({ tmps := [(0, AV.str s), (1, AV.int .i64 (↑at_ : Int)), (2, AV.int .i64 (↑n : Int)), (7, AV.int .i64 (IntKind.i64.wrap (IntKind.i64.wrap (v * (64 : Int)) + IntKind.i64.wrap (IntKind.i64.wrap (IntKind.i64.wrap (byteAt s (IntKind.i64.wrap ((↑at_ : Int) + (↑i : Int)))) - (192 : Int)) - (224 : Int))))), (8, AV.int .i64 (IntKind.i64.wrap ((↑i : Int) + (1 : Int))))], heap := [], tags := [] })))) (.split (decide ((0 : Int) < (↑i : Int))) (.head (pt Tryd.f84 0) ({ tmps := [(0, AV.str s), (1, AV.int .i64 (↑at_ : Int)), (2, AV.int .i64 (↑n : Int)), (7, AV.int .i64 (IntKind.i64.wrap (IntKind.i64.wrap (v * (64 : Int)) + IntKind.i64.wrap (IntKind.i64.wrap (IntKind.i64.wrap (IntKind.i64.wrap (byteAt s (IntKind.i64.wrap ((↑at_ : Int) + (↑i : Int)))) - (192 : Int)) - (224 : Int)) - (128 : Int))))), (8, AV.int .i64 (IntKind.i64.wrap ((↑i : Int) + (1 : Int))))], heap := [], tags := [] })) (.head (pt Tryd.f84 0) ({ tmps := [(0, AV.str s), (1, AV.int .i64 (↑at_ : Int)), (2, AV.int .i64 (↑n : Int)), (7, AV.int .i64 (IntKind.i64.wrap (IntKind.i64.wrap (v * (64 : Int)) + IntKind.i64.wrap (IntKind.i64.wrap (IntKind.i64.wrap (byteAt s (IntKind.i64.wrap ((↑at_ : Int) + (↑i : Int)))) - (192 : Int)) - (224 : Int))))), (8, AV.int .i64 (IntKind.i64.wrap ((↑i : Int) + (1 : Int))))], heap := [], tags := [] })))) (.split (decide ((↑i : Int) = (0 : Int))) (.split (decide ((↑n : Int) = (4 : Int))) (.split (decide ((0 : Int) < (↑i : Int))) (.head (pt Tryd.f84 0) ({ tmps := [(0, AV.str s), (1, AV.int .i64 (↑at_ : Int)), (2, AV.int .i64 (↑n : Int)), (7, AV.int .i64 (IntKind.i64.wrap (IntKind.i64.wrap (v * (64 : Int)) + IntKind.i64.wrap (IntKind.i64.wrap (IntKind.i64.wrap (IntKind.i64.wrap (byteAt s (IntKind.i64.wrap ((↑at_ : Int) + (↑i : Int)))) - (192 : Int)) - (240 : Int)) - (128 : Int))))), (8, AV.int .i64 (IntKind.i64.wrap ((↑i : Int) + (1 : Int))))], heap := [], tags := [] })) (.head (pt Tryd.f84 0) ({ tmps := [(0, AV.str s), (1, AV.int .i64 (↑at_ : Int)), (2, AV.int .i64 (↑n : Int)), (7, AV.int .i64 (IntKind.i64.wrap (IntKind.i64.wrap (v * (64 : Int)) + IntKind.i64.wrap (IntKind.i64.wrap (IntKind.i64.wrap (byteAt s (IntKind.i64.wrap ((↑at_ : Int) + (↑i : Int)))) - (192 : Int)) - (240 : Int))))), (8, AV.int .i64 (IntKind.i64.wrap ((↑i : Int) + (1 : Int))))], heap := [], tags := [] }))) (.split (decide ((0 : Int) < (↑i : Int))) (.head (pt Tryd.f84 0) ({ tmps := [(0, AV.str s), (1, AV.int .i64 (↑at_ : Int)), (2, AV.int .i64 (↑n : Int)), (7, AV.int .i64 (IntKind.i64.wrap (IntKind.i64.wrap (v * (64 : Int)) + IntKind.i64.wrap (IntKind.i64.wrap (IntKind.i64.wrap (byteAt s (IntKind.i64.wrap ((↑at_ : Int) + (↑i : Int)))) - (192 : Int)) - (128 : Int))))), (8, AV.int .i64 (IntKind.i64.wrap ((↑i : Int) + (1 : Int))))], heap := [], tags := [] })) (.head (pt Tryd.f84 0) ({ tmps := [(0, AV.str s), (1, AV.int .i64 (↑at_ : Int)), (2, AV.int .i64 (↑n : Int)), (7, AV.int .i64 (IntKind.i64.wrap (IntKind.i64.wrap (v * (64 : Int)) + IntKind.i64.wrap (IntKind.i64.wrap (byteAt s (IntKind.i64.wrap ((↑at_ : Int) + (↑i : Int)))) - (192 : Int))))), (8, AV.int .i64 (IntKind.i64.wrap ((↑i : Int) + (1 : Int))))], heap := [], tags := [] })))) (.split (decide ((0 : Int) < (↑i : Int))) (.head (pt Tryd.f84 0) ({ tmps := [(0, AV.str s), (1, AV.int .i64 (↑at_ : Int)), (2, AV.int .i64 (↑n : Int)), (7, AV.int .i64 (IntKind.i64.wrap (IntKind.i64.wrap (v * (64 : Int)) + IntKind.i64.wrap (IntKind.i64.wrap (IntKind.i64.wrap (byteAt s (IntKind.i64.wrap ((↑at_ : Int) + (↑i : Int)))) - (192 : Int)) - (128 : Int))))), (8, AV.int .i64 (IntKind.i64.wrap ((↑i : Int) + (1 : Int))))], heap := [], tags := [] })) (.head (pt Tryd.f84 0) ({ tmps := [(0, AV.str s), (1, AV.int .i64 (↑at_ : Int)), (2, AV.int .i64 (↑n : Int)), (7, AV.int .i64 (IntKind.i64.wrap (IntKind.i64.wrap (v * (64 : Int)) + IntKind.i64.wrap (IntKind.i64.wrap (byteAt s (IntKind.i64.wrap ((↑at_ : Int) + (↑i : Int)))) - (192 : Int))))), (8, AV.int .i64 (IntKind.i64.wrap ((↑i : Int) + (1 : Int))))], heap := [], tags := [] }))))) (.split (decide ((↑i : Int) = (0 : Int))) (.split (decide ((↑n : Int) = (4 : Int))) (.split (decide ((0 : Int) < (↑i : Int))) (.head (pt Tryd.f84 0) ({ tmps := [(0, AV.str s), (1, AV.int .i64 (↑at_ : Int)), (2, AV.int .i64 (↑n : Int)), (7, AV.int .i64 (IntKind.i64.wrap (IntKind.i64.wrap (v * (64 : Int)) + IntKind.i64.wrap (IntKind.i64.wrap (IntKind.i64.wrap (IntKind.i64.wrap (byteAt s (IntKind.i64.wrap ((↑at_ : Int) + (↑i : Int)))) - (192 : Int)) - (240 : Int)) - (128 : Int))))), (8, AV.int .i64 (IntKind.i64.wrap ((↑i : Int) + (1 : Int))))], heap := [], tags := [] })) (.head (pt Tryd.f84 0) ({ tmps := [(0, AV.str s), (1, AV.int .i64 (↑at_ : Int)), (2, AV.int .i64 (↑n : Int)), (7, AV.int .i64 (IntKind.i64.wrap (IntKind.i64.wrap (v * (64 : Int)) + IntKind.i64.wrap (IntKind.i64.wrap (IntKind.i64.wrap (byteAt s (IntKind.i64.wrap ((↑at_ : Int) + (↑i : Int)))) - (192 : Int)) - (240 : Int))))), (8, AV.int .i64 (IntKind.i64.wrap ((↑i : Int) + (1 : Int))))], heap := [], tags := [] }))) (.split (decide ((0 : Int) < (↑i : Int))) (.head (pt Tryd.f84 0) ({ tmps := [(0, AV.str s), (1, AV.int .i64 (↑at_ : Int)), (2, AV.int .i64 (↑n : Int)), (7, AV.int .i64 (IntKind.i64.wrap (IntKind.i64.wrap (v * (64 : Int)) + IntKind.i64.wrap (IntKind.i64.wrap (IntKind.i64.wrap (byteAt s (IntKind.i64.wrap ((↑at_ : Int) + (↑i : Int)))) - (192 : Int)) - (128 : Int))))), (8, AV.int .i64 (IntKind.i64.wrap ((↑i : Int) + (1 : Int))))], heap := [], tags := [] })) (.head (pt Tryd.f84 0) ({ tmps := [(0, AV.str s), (1, AV.int .i64 (↑at_ : Int)), (2, AV.int .i64 (↑n : Int)), (7, AV.int .i64 (IntKind.i64.wrap (IntKind.i64.wrap (v * (64 : Int)) + IntKind.i64.wrap (IntKind.i64.wrap (byteAt s (IntKind.i64.wrap ((↑at_ : Int) + (↑i : Int)))) - (192 : Int))))), (8, AV.int .i64 (IntKind.i64.wrap ((↑i : Int) + (1 : Int))))], heap := [], tags := [] })))) (.split (decide ((0 : Int) < (↑i : Int))) (.head (pt Tryd.f84 0) ({ tmps := [(0, AV.str s), (1, AV.int .i64 (↑at_ : Int)), (2, AV.int .i64 (↑n : Int)), (7, AV.int .i64 (IntKind.i64.wrap (IntKind.i64.wrap (v * (64 : Int)) + IntKind.i64.wrap (IntKind.i64.wrap (IntKind.i64.wrap (byteAt s (IntKind.i64.wrap ((↑at_ : Int) + (↑i : Int)))) - (192 : Int)) - (128 : Int))))), (8, AV.int .i64 (IntKind.i64.wrap ((↑i : Int) + (1 : Int))))], heap := [], tags := [] })) (.head (pt Tryd.f84 0) ({ tmps := [(0, AV.str s), (1, AV.int .i64 (↑at_ : Int)), (2, AV.int .i64 (↑n : Int)), (7, AV.int .i64 (IntKind.i64.wrap (IntKind.i64.wrap (v * (64 : Int)) + IntKind.i64.wrap (IntKind.i64.wrap (byteAt s (IntKind.i64.wrap ((↑at_ : Int) + (↑i : Int)))) - (192 : Int))))), (8, AV.int .i64 (IntKind.i64.wrap ((↑i : Int) + (1 : Int))))], heap := [], tags := [] }))))) (.split (decide ((↑i : Int) = (0 : Int))) (.split (decide ((↑n : Int) = (3 : Int))) (.split (decide ((↑i : Int) = (0 : Int))) (.split (decide ((↑n : Int) = (4 : Int))) (.split (decide ((0 : Int) < (↑i : Int))) (.head (pt Tryd.f84 0) ({ tmps := [(0, AV.str s), (1, AV.int .i64 (↑at_ : Int)), (2, AV.int .i64 (↑n : Int)), (7, AV.int .i64 (IntKind.i64.wrap (IntKind.i64.wrap (v * (64 : Int)) + IntKind.i64.wrap (IntKind.i64.wrap (IntKind.i64.wrap (IntKind.i64.wrap (byteAt s (IntKind.i64.wrap ((↑at_ : Int) + (↑i : Int)))) - (224 : Int)) - (240 : Int)) - (128 : Int))))), (8, AV.int .i64 (IntKind.i64.wrap ((↑i : Int) + (1 : Int))))], heap := [], tags := [] })) (.head (pt Tryd.f84 0) ({ tmps := [(0, AV.str s), (1, AV.int .i64 (↑at_ : Int)), (2, AV.int .i64 (↑n : Int)), (7, AV.int .i64 (IntKind.i64.wrap (IntKind.i64.wrap (v * (64 : Int)) + IntKind.i64.wrap (IntKind.i64.wrap (IntKind.i64.wrap (byteAt s (IntKind.i64.wrap ((↑at_ : Int) + (↑i : Int)))) - (224 : Int)) - (240 : Int))))), (8, AV.int .i64 (IntKind.i64.wrap ((↑i : Int) + (1 : Int))))], heap := [], tags := [] }))) (.split (decide ((0 : Int) < (↑i : Int))) (.head (pt Tryd.f84 0) ({ tmps := [(0, AV.str s), (1, AV.int .i64 (↑at_ : Int)), (2, AV.int .i64 (↑n : Int)), (7, AV.int .i64 (IntKind.i64.wrap (IntKind.i64.wrap (v * (64 : Int)) + IntKind.i64.wrap (IntKind.i64.wrap (IntKind.i64.wrap (byteAt s (IntKind.i64.wrap ((↑at_ : Int) + (↑i : Int)))) - (224 : Int)) - (128 : Int))))), (8, AV.int .i64 (IntKind.i64.wrap ((↑i : Int) + (1 : Int))))], heap := [], tags := [] })) (.head (pt Tryd.f84 0) ({ tmps := [(0, AV.str s), (1, AV.int .i64 (↑at_ : Int)), (2, AV.int .i64 (↑n : Int)), (7, AV.int .i64 (IntKind.i64.wrap (IntKind.i64.wrap (v * (64 : Int)) + IntKind.i64.wrap (IntKind.i64.wrap (byteAt s (IntKind.i64.wrap ((↑at_ : Int) + (↑i : Int)))) - (224 : Int))))), (8, AV.int .i64 (IntKind.i64.wrap ((↑i : Int) + (1 : Int))))], heap := [], tags := [] })))) (.split (decide ((0 : Int) < (↑i : Int))) (.head (pt Tryd.f84 0) ({ tmps := [(0, AV.str s), (1, AV.int .i64 (↑at_ : Int)), (2, AV.int .i64 (↑n : Int)), (7, AV.int .i64 (IntKind.i64.wrap (IntKind.i64.wrap (v * (64 : Int)) + IntKind.i64.wrap (IntKind.i64.wrap (IntKind.i64.wrap (byteAt s (IntKind.i64.wrap ((↑at_ : Int) + (↑i : Int)))) - (224 : Int)) - (128 : Int))))), (8, AV.int .i64 (IntKind.i64.wrap ((↑i : Int) + (1 : Int))))], heap := [], tags := [] })) (.head (pt Tryd.f84 0) ({ tmps := [(0, AV.str s), (1, AV.int .i64 (↑at_ : Int)), (2, AV.int .i64 (↑n : Int)), (7, AV.int .i64 (IntKind.i64.wrap (IntKind.i64.wrap (v * (64 : Int)) + IntKind.i64.wrap (IntKind.i64.wrap (byteAt s (IntKind.i64.wrap ((↑at_ : Int) + (↑i : Int)))) - (224 : Int))))), (8, AV.int .i64 (IntKind.i64.wrap ((↑i : Int) + (1 : Int))))], heap := [], tags := [] })))) (.split (decide ((↑i : Int) = (0 : Int))) (.split (decide ((↑n : Int) = (4 : Int))) (.split (decide ((0 : Int) < (↑i : Int))) (.head (pt Tryd.f84 0) ({ tmps := [(0, AV.str s), (1, AV.int .i64 (↑at_ : Int)), (2, AV.int .i64 (↑n : Int)), (7, AV.int .i64 (IntKind.i64.wrap (IntKind.i64.wrap (v * (64 : Int)) + IntKind.i64.wrap (IntKind.i64.wrap (IntKind.i64.wrap (byteAt s (IntKind.i64.wrap ((↑at_ : Int) + (↑i : Int)))) - (240 : Int)) - (128 : Int))))), (8, AV.int .i64 (IntKind.i64.wrap ((↑i : Int) + (1 : Int))))], heap := [], tags := [] })) (.head (pt Tryd.f84 0) ({ tmps := [(0, AV.str s), (1, AV.int .i64 (↑at_ : Int)), (2, AV.int .i64 (↑n : Int)), (7, AV.int .i64 (IntKind.i64.wrap (IntKind.i64.wrap (v * (64 : Int)) + IntKind.i64.wrap (IntKind.i64.wrap (byteAt s (IntKind.i64.wrap ((↑at_ : Int) + (↑i : Int)))) - (240 : Int))))), (8, AV.int .i64 (IntKind.i64.wrap ((↑i : Int) + (1 : Int))))], heap := [], tags := [] }))) (.split (decide ((0 : Int) < (↑i : Int))) (.head (pt Tryd.f84 0) ({ tmps := [(0, AV.str s), (1, AV.int .i64 (↑at_ : Int)), (2, AV.int .i64 (↑n : Int)), (7, AV.int .i64 (IntKind.i64.wrap (IntKind.i64.wrap (v * (64 : Int)) + IntKind.i64.wrap (IntKind.i64.wrap (byteAt s (IntKind.i64.wrap ((↑at_ : Int) + (↑i : Int)))) - (128 : Int))))), (8, AV.int .i64 (IntKind.i64.wrap ((↑i : Int) + (1 : Int))))], heap := [], tags := [] })) (.head (pt Tryd.f84 0) ({ tmps := [(0, AV.str s), (1, AV.int .i64 (↑at_ : Int)), (2, AV.int .i64 (↑n : Int)), (7, AV.int .i64 (IntKind.i64.wrap (IntKind.i64.wrap (v * (64 : Int)) + IntKind.i64.wrap (byteAt s (IntKind.i64.wrap ((↑at_ : Int) + (↑i : Int))))))), (8, AV.int .i64 (IntKind.i64.wrap ((↑i : Int) + (1 : Int))))], heap := [], tags := [] })))) (.split (decide ((0 : Int) < (↑i : Int))) (.head (pt Tryd.f84 0) ({ tmps := [(0, AV.str s), (1, AV.int .i64 (↑at_ : Int)), (2, AV.int .i64 (↑n : Int)), (7, AV.int .i64 (IntKind.i64.wrap (IntKind.i64.wrap (v * (64 : Int)) + IntKind.i64.wrap (IntKind.i64.wrap (byteAt s (IntKind.i64.wrap ((↑at_ : Int) + (↑i : Int)))) - (128 : Int))))), (8, AV.int .i64 (IntKind.i64.wrap ((↑i : Int) + (1 : Int))))], heap := [], tags := [] })) (.head (pt Tryd.f84 0) ({ tmps := [(0, AV.str s), (1, AV.int .i64 (↑at_ : Int)), (2, AV.int .i64 (↑n : Int)), (7, AV.int .i64 (IntKind.i64.wrap (IntKind.i64.wrap (v * (64 : Int)) + IntKind.i64.wrap (byteAt s (IntKind.i64.wrap ((↑at_ : Int) + (↑i : Int))))))), (8, AV.int .i64 (IntKind.i64.wrap ((↑i : Int) + (1 : Int))))], heap := [], tags := [] }))))) (.split (decide ((↑i : Int) = (0 : Int))) (.split (decide ((↑n : Int) = (4 : Int))) (.split (decide ((0 : Int) < (↑i : Int))) (.head (pt Tryd.f84 0) ({ tmps := [(0, AV.str s), (1, AV.int .i64 (↑at_ : Int)), (2, AV.int .i64 (↑n : Int)), (7, AV.int .i64 (IntKind.i64.wrap (IntKind.i64.wrap (v * (64 : Int)) + IntKind.i64.wrap (IntKind.i64.wrap (IntKind.i64.wrap (byteAt s (IntKind.i64.wrap ((↑at_ : Int) + (↑i : Int)))) - (240 : Int)) - (128 : Int))))), (8, AV.int .i64 (IntKind.i64.wrap ((↑i : Int) + (1 : Int))))], heap := [], tags := [] })) (.head (pt Tryd.f84 0) ({ tmps := [(0, AV.str s), (1, AV.int .i64 (↑at_ : Int)), (2, AV.int .i64 (↑n : Int)), (7, AV.int .i64 (IntKind.i64.wrap (IntKind.i64.wrap (v * (64 : Int)) + IntKind.i64.wrap (IntKind.i64.wrap (byteAt s (IntKind.i64.wrap ((↑at_ : Int) + (↑i : Int)))) - (240 : Int))))), (8, AV.int .i64 (IntKind.i64.wrap ((↑i : Int) + (1 : Int))))], heap := [], tags := [] }))) (.split (decide ((0 : Int) < (↑i : Int))) (.head (pt Tryd.f84 0) ({ tmps := [(0, AV.str s), (1, AV.int .i64 (↑at_ : Int)), (2, AV.int .i64 (↑n : Int)), (7, AV.int .i64 (IntKind.i64.wrap (IntKind.i64.wrap (v * (64 : Int)) + IntKind.i64.wrap (IntKind.i64.wrap (byteAt s (IntKind.i64.wrap ((↑at_ : Int) + (↑i : Int)))) - (128 : Int))))), (8, AV.int .i64 (IntKind.i64.wrap ((↑i : Int) + (1 : Int))))], heap := [], tags := [] })) (.head (pt Tryd.f84 0) ({ tmps := [(0, AV.str s), (1, AV.int .i64 (↑at_ : Int)), (2, AV.int .i64 (↑n : Int)), (7, AV.int .i64 (IntKind.i64.wrap (IntKind.i64.wrap (v * (64 : Int)) + IntKind.i64.wrap (byteAt s (IntKind.i64.wrap ((↑at_ : Int) + (↑i : Int))))))), (8, AV.int .i64 (IntKind.i64.wrap ((↑i : Int) + (1 : Int))))], heap := [], tags := [] })))) (.split (decide ((0 : Int) < (↑i : Int))) (.head (pt Tryd.f84 0) ({ tmps := [(0, AV.str s), (1, AV.int .i64 (↑at_ : Int)), (2, AV.int .i64 (↑n : Int)), (7, AV.int .i64 (IntKind.i64.wrap (IntKind.i64.wrap (v * (64 : Int)) + IntKind.i64.wrap (IntKind.i64.wrap (byteAt s (IntKind.i64.wrap ((↑at_ : Int) + (↑i : Int)))) - (128 : Int))))), (8, AV.int .i64 (IntKind.i64.wrap ((↑i : Int) + (1 : Int))))], heap := [], tags := [] })) (.head (pt Tryd.f84 0) ({ tmps := [(0, AV.str s), (1, AV.int .i64 (↑at_ : Int)), (2, AV.int .i64 (↑n : Int)), (7, AV.int .i64 (IntKind.i64.wrap (IntKind.i64.wrap (v * (64 : Int)) + IntKind.i64.wrap (byteAt s (IntKind.i64.wrap ((↑at_ : Int) + (↑i : Int))))))), (8, AV.int .i64 (IntKind.i64.wrap ((↑i : Int) + (1 : Int))))], heap := [], tags := [] })))))) (.split (decide ((↑i : Int) = (0 : Int))) (.split (decide ((↑n : Int) = (3 : Int))) (.split (decide ((↑i : Int) = (0 : Int))) (.split (decide ((↑n : Int) = (4 : Int))) (.split (decide ((0 : Int) < (↑i : Int))) (.head (pt Tryd.f84 0) ({ tmps := [(0, AV.str s), (1, AV.int .i64 (↑at_ : Int)), (2, AV.int .i64 (↑n : Int)), (7, AV.int .i64 (IntKind.i64.wrap (IntKind.i64.wrap (v * (64 : Int)) + IntKind.i64.wrap (IntKind.i64.wrap (IntKind.i64.wrap (IntKind.i64.wrap (byteAt s (IntKind.i64.wrap ((↑at_ : Int) + (↑i : Int)))) - (224 : Int)) - (240 : Int)) - (128 : Int))))), (8, AV.int .i64 (IntKind.i64.wrap ((↑i : Int) + (1 : Int))))], heap := [], tags := [] })) (.head (pt Tryd.f84 0) ({ tmps := [(0, AV.str s), (1, AV.int .i64 (↑at_ : Int)), (2, AV.int .i64 (↑n : Int)), (7, AV.int .i64 (IntKind.i64.wrap (IntKind.i64.wrap (v * (64 : Int)) + IntKind.i64.wrap (IntKind.i64.wrap (IntKind.i64.wrap (byteAt s (IntKind.i64.wrap ((↑at_ : Int) + (↑i : Int)))) - (224 : Int)) - (240 : Int))))), (8, AV.int .i64 (IntKind.i64.wrap ((↑i : Int) + (1 : Int))))], heap := [], tags := [] }))) (.split (decide ((0 : Int) < (↑i : Int))) (.head (pt Tryd.f84 0) ({ tmps := [(0, AV.str s), (1, AV.int .i64 (↑at_ : Int)), (2, AV.int .i64 (↑n : Int)), (7, AV.int .i64 (IntKind.i64.wrap (IntKind.i64.wrap (v * (64 : Int)) + IntKind.i64.wrap (IntKind.i64.wrap (IntKind.i64.wrap (byteAt s (IntKind.i64.wrap ((↑at_ : Int) + (↑i : Int)))) - (224 : Int)) - (128 : Int))))), (8, AV.int .i64 (IntKind.i64.wrap ((↑i : Int) + (1 : Int))))], heap := [], tags := [] })) (.head (pt Tryd.f84 0) ({ tmps := [(0, AV.str s), (1, AV.int .i64 (↑at_ : Int)), (2, AV.int .i64 (↑n : Int)), (7, AV.int .i64 (IntKind.i64.wrap (IntKind.i64.wrap (v * (64 : Int)) + IntKind.i64.wrap (IntKind.i64.wrap (byteAt s (IntKind.i64.wrap ((↑at_ : Int) + (↑i : Int)))) - (224 : Int))))), (8, AV.int .i64 (IntKind.i64.wrap ((↑i : Int) + (1 : Int))))], heap := [], tags := [] })))) (.split (decide ((0 : Int) < (↑i : Int))) (.head (pt Tryd.f84 0) ({ tmps := [(0, AV.str s), (1, AV.int .i64 (↑at_ : Int)), (2, AV.int .i64 (↑n : Int)), (7, AV.int .i64 (IntKind.i64.wrap (IntKind.i64.wrap (v * (64 : Int)) + IntKind.i64.wrap (IntKind.i64.wrap (IntKind.i64.wrap (byteAt s (IntKind.i64.wrap ((↑at_ : Int) + (↑i : Int)))) - (224 : Int)) - (128 : Int))))), (8, AV.int .i64 (IntKind.i64.wrap ((↑i : Int) + (1 : Int))))], heap := [], tags := [] })) (.head (pt Tryd.f84 0) ({ tmps := [(0, AV.str s), (1, AV.int .i64 (↑at_ : Int)), (2, AV.int .i64 (↑n : Int)), (7, AV.int .i64 (IntKind.i64.wrap (IntKind.i64.wrap (v * (64 : Int)) + IntKind.i64.wrap (IntKind.i64.wrap (byteAt s (IntKind.i64.wrap ((↑at_ : Int) + (↑i : Int)))) - (224 : Int))))), (8, AV.int .i64 (IntKind.i64.wrap ((↑i : Int) + (1 : Int))))], heap := [], tags := [] })))) (.split (decide ((↑i : Int) = (0 : Int))) (.split (decide ((↑n : Int) = (4 : Int))) (.split (decide ((0 : Int) < (↑i : Int))) (.head (pt Tryd.f84 0) ({ tmps := [(0, AV.str s), (1, AV.int .i64 (↑at_ : Int)), (2, AV.int .i64 (↑n : Int)), (7, AV.int .i64 (IntKind.i64.wrap (IntKind.i64.wrap (v * (64 : Int)) + IntKind.i64.wrap (IntKind.i64.wrap (IntKind.i64.wrap (byteAt s (IntKind.i64.wrap ((↑at_ : Int) + (↑i : Int)))) - (240 : Int)) - (128 : Int))))), (8, AV.int .i64 (IntKind.i64.wrap ((↑i : Int) + (1 : Int))))], heap := [], tags := [] })) (.head (pt Tryd.f84 0) ({ tmps := [(0, AV.str s), (1, AV.int .i64 (↑at_ : Int)), (2, AV.int .i64 (↑n : Int)), (7, AV.int .i64 (IntKind.i64.wrap (IntKind.i64.wrap (v * (64 : Int)) + IntKind.i64.wrap (IntKind.i64.wrap (byteAt s (IntKind.i64.wrap ((↑at_ : Int) + (↑i : Int)))) - (240 : Int))))), (8, AV.int .i64 (IntKind.i64.wrap ((↑i : Int) + (1 : Int))))], heap := [], tags := [] }))) (.split (decide ((0 : Int) < (↑i : Int))) (.head (pt Tryd.f84 0) ({ tmps := [(0, AV.str s), (1, AV.int .i64 (↑at_ : Int)), (2, AV.int .i64 (↑n : Int)), (7, AV.int .i64 (IntKind.i64.wrap (IntKind.i64.wrap (v * (64 : Int)) + IntKind.i64.wrap (IntKind.i64.wrap (byteAt s (IntKind.i64.wrap ((↑at_ : Int) + (↑i : Int)))) - (128 : Int))))), (8, AV.int .i64 (IntKind.i64.wrap ((↑i : Int) + (1 : Int))))], heap := [], tags := [] })) (.head (pt Tryd.f84 0) ({ tmps := [(0, AV.str s), (1, AV.int .i64 (↑at_ : Int)), (2, AV.int .i64 (↑n : Int)), (7, AV.int .i64 (IntKind.i64.wrap (IntKind.i64.wrap (v * (64 : Int)) + IntKind.i64.wrap (byteAt s (IntKind.i64.wrap ((↑at_ : Int) + (↑i : Int))))))), (8, AV.int .i64 (IntKind.i64.wrap ((↑i : Int) + (1 : Int))))], heap := [], tags := [] })))) (.split (decide ((0 : Int) < (↑i : Int))) (.head (pt Tryd.f84 0) ({ tmps := [(0, AV.str s), (1, AV.int .i64 (↑at_ : Int)), (2, AV.int .i64 (↑n : Int)), (7, AV.int .i64 (IntKind.i64.wrap (IntKind.i64.wrap (v * (64 : Int)) + IntKind.i64.wrap (IntKind.i64.wrap (byteAt s (IntKind.i64.wrap ((↑at_ : Int) + (↑i : Int)))) - (128 : Int))))), (8, AV.int .i64 (IntKind.i64.wrap ((↑i : Int) + (1 : Int))))], heap := [], tags := [] })) (.head (pt Tryd.f84 0) ({ tmps := [(0, AV.str s), (1, AV.int .i64 (↑at_ : Int)), (2, AV.int .i64 (↑n : Int)), (7, AV.int .i64 (IntKind.i64.wrap (IntKind.i64.wrap (v * (64 : Int)) + IntKind.i64.wrap (byteAt s (IntKind.i64.wrap ((↑at_ : Int) + (↑i : Int))))))), (8, AV.int .i64 (IntKind.i64.wrap ((↑i : Int) + (1 : Int))))], heap := [], tags := [] }))))) (.split (decide ((↑i : Int) = (0 : Int))) (.split (decide ((↑n : Int) = (4 : Int))) (.split (decide ((0 : Int) < (↑i : Int))) (.head (pt Tryd.f84 0) ({ tmps := [(0, AV.str s), (1, AV.int .i64 (↑at_ : Int)), (2, AV.int .i64 (↑n : Int)), (7, AV.int .i64 (IntKind.i64.wrap (IntKind.i64.wrap (v * (64 : Int)) + IntKind.i64.wrap (IntKind.i64.wrap (IntKind.i64.wrap (byteAt s (IntKind.i64.wrap ((↑at_ : Int) + (↑i : Int)))) - (240 : Int)) - (128 : Int))))), (8, AV.int .i64 (IntKind.i64.wrap ((↑i : Int) + (1 : Int))))], heap := [], tags := [] })) (.head (pt Tryd.f84 0) ({ tmps := [(0, AV.str s), (1, AV.int .i64 (↑at_ : Int)), (2, AV.int .i64 (↑n : Int)), (7, AV.int .i64 (IntKind.i64.wrap (IntKind.i64.wrap (v * (64 : Int)) + IntKind.i64.wrap (IntKind.i64.wrap (byteAt s (IntKind.i64.wrap ((↑at_ : Int) + (↑i : Int)))) - (240 : Int))))), (8, AV.int .i64 (IntKind.i64.wrap ((↑i : Int) + (1 : Int))))], heap := [], tags := [] }))) (.split (decide ((0 : Int) < (↑i : Int))) (.head (pt Tryd.f84 0) ({ tmps := [(0, AV.str s), (1, AV.int .i64 (↑at_ : Int)), (2, AV.int .i64 (↑n : Int)), (7, AV.int .i64 (IntKind.i64.wrap (IntKind.i64.wrap (v * (64 : Int)) + IntKind.i64.wrap (IntKind.i64.wrap (byteAt s (IntKind.i64.wrap ((↑at_ : Int) + (↑i : Int)))) - (128 : Int))))), (8, AV.int .i64 (IntKind.i64.wrap ((↑i : Int) + (1 : Int))))], heap := [], tags := [] })) (.head (pt Tryd.f84 0) ({ tmps := [(0, AV.str s), (1, AV.int .i64 (↑at_ : Int)), (2, AV.int .i64 (↑n : Int)), (7, AV.int .i64 (IntKind.i64.wrap (IntKind.i64.wrap (v * (64 : Int)) + IntKind.i64.wrap (byteAt s (IntKind.i64.wrap ((↑at_ : Int) + (↑i : Int))))))), (8, AV.int .i64 (IntKind.i64.wrap ((↑i : Int) + (1 : Int))))], heap := [], tags := [] })))) (.split (decide ((0 : Int) < (↑i : Int))) (.head (pt Tryd.f84 0) ({ tmps := [(0, AV.str s), (1, AV.int .i64 (↑at_ : Int)), (2, AV.int .i64 (↑n : Int)), (7, AV.int .i64 (IntKind.i64.wrap (IntKind.i64.wrap (v * (64 : Int)) + IntKind.i64.wrap (IntKind.i64.wrap (byteAt s (IntKind.i64.wrap ((↑at_ : Int) + (↑i : Int)))) - (128 : Int))))), (8, AV.int .i64 (IntKind.i64.wrap ((↑i : Int) + (1 : Int))))], heap := [], tags := [] })) (.head (pt Tryd.f84 0) ({ tmps := [(0, AV.str s), (1, AV.int .i64 (↑at_ : Int)), (2, AV.int .i64 (↑n : Int)), (7, AV.int .i64 (IntKind.i64.wrap (IntKind.i64.wrap (v * (64 : Int)) + IntKind.i64.wrap (byteAt s (IntKind.i64.wrap ((↑at_ : Int) + (↑i : Int))))))), (8, AV.int .i64 (IntKind.i64.wrap ((↑i : Int) + (1 : Int))))], heap := [], tags := [] }))))))) (.ob (v = x) (.tt))) := by
      by_cases hi : i < n
      · have w1 : IntKind.i64.wrap ((at_ : Int) + i) = at_ + i := i64_wrap (by omega) (by omega)
        have w2 : IntKind.i64.wrap ((i : Int) + 1) = ((i + 1 : Nat) : Int) := by rw [i64_wrap (by omega) (by omega)]; rfl
        have ih := ih hi
        simp only [PT.holds, w1, w2]
        (repeat' first | exact ⟨_, triv, rfl, trivial⟩ | exact ⟨_, triv, rfl⟩ | refine ex_split (fun _ => ?_) (fun _ => ?_) | refine ex_ob ?_ ?_)
        all_goals first | exact ih _ | omega | simp_all
      · simp only [PT.holds]
        (repeat' first | exact ⟨_, triv, rfl, trivial⟩ | exact ⟨_, triv, rfl⟩ | refine ex_split (fun _ => ?_) (fun _ => ?_) | refine ex_ob ?_ ?_)
        all_goals (exfalso; simp only [decide_eq_true_eq, decide_eq_false_iff_not] at *; omega)
    obtain ⟨x, hR, hx⟩ := H
    exact ⟨x, hR, HT.walk Γ_ok mo_ok (⟨annJ, sp84, hd84 [] [] [] [], [], .pure [] (.int .i64 x)⟩ : Wk) 4000 (by kernel_rfl) hx⟩
theorem value_l (s : ByteArray) (at_ n : Nat) (hs : at_ + n ≤ s.size) (hss : s.size ≤ 1048600) : ∀ d i v, n ≤ i + d → ∃ x : Int, Triv ∧ HT Tryd.prog Tryd.f84.ntmps (pt Tryd.f84 0) (stV s at_ n i v) (EndsA Γ (.pure [] (.int .i64 x)) Tryd.f84) := by
  intro d
  induction d with
  | zero => exact fun i v h => value_h s at_ n i v hs hss (fun hi => by omega)
  | succ d ih => exact fun i v h => value_h s at_ n i v hs hss (fun hi v' => ih (i + 1) v' (by omega))

theorem value_ex (s : ByteArray) (at_ n : Nat) (hs : at_ + n ≤ s.size) (hss : s.size ≤ 1048600) : ∃ x : Int, (Triv) ∧ Ctr Tryd.prog 84 [.str s, .int .i64 at_, .int .i64 n] (.int .i64 x) := by
    have H : ∃ x : Int, (Triv) ∧ PT.holds Tryd.prog Tryd.f84.ntmps (EndsA Γ (.pure [] (.int .i64 x)) Tryd.f84) (.head (pt Tryd.f84 0) ({ tmps := [(0, AV.str s), (1, AV.int .i64 (↑at_ : Int)), (2, AV.int .i64 (↑n : Int)), (7, AV.int .i64 (0 : Int)), (8, AV.int .i64 (0 : Int))], heap := [], tags := [] })) := by
      simp only [PT.holds]
      exact value_l s at_ n hs hss n 0 0 (by omega)
    obtain ⟨x, hR, hx⟩ := H
    exact ⟨x, hR, Ctr.mk Γ_ok Tryd.func84 (by kernel_rfl) Tryd.call84 [] (by kernel_rfl) (HT.walk Γ_ok mo_ok (⟨annJ, sp84, hd84 [] [] [] [], [], .pure [] (.int .i64 x)⟩ : Wk) 4000 (by kernel_rfl) hx)⟩
theorem put_ex (r : Int) : ∃ x : List AV, (∃ ns : List Int, x = ns.map (.int .u8) ∧ ns.length ≤ 4) ∧ Ctr Tryd.prog 85 [.int .i64 r] (.sl none x.length x .no) := by
    have H : ∃ x : List AV, (∃ ns : List Int, x = ns.map (.int .u8) ∧ ns.length ≤ 4) ∧ PT.holds Tryd.prog Tryd.f85.ntmps (EndsA Γ (.pure [] (.sl none x.length x .no)) Tryd.f85) (.split (decide (r < (0 : Int))) (.ob ((0 : Nat) = x.length) (.ob ([] = x) (.tt))) (.split (decide ((1114111 : Int) < r)) (.ob ((0 : Nat) = x.length) (.ob ([] = x) (.tt))) (.split (decide ((55296 : Int) ≤ r)) (.split (decide (r ≤ (57343 : Int))) (.ob ((0 : Nat) = x.length) (.ob ([] = x) (.tt))) (.split (decide (r < (128 : Int))) (.ob ((1 : Nat) = x.length) (.ob ([AV.int .u8 (IntKind.u8.wrap r)] = x) (.tt))) (.split (decide (r < (2048 : Int))) (.ob ((64 : Int) ≠ (0 : Int)) (.ob ((64 : Int) ≠ (0 : Int)) (.ob ((2 : Nat) = x.length) (.ob ([AV.int .u8 (IntKind.u8.wrap (IntKind.i64.wrap ((192 : Int) + IntKind.i64.wrap (r.tdiv (64 : Int))))), AV.int .u8 (IntKind.u8.wrap (IntKind.i64.wrap ((128 : Int) + r.tmod (64 : Int))))] = x) (.tt))))) (.split (decide (r < (65536 : Int))) (.ob ((4096 : Int) ≠ (0 : Int)) (.ob ((64 : Int) ≠ (0 : Int)) (.ob ((64 : Int) ≠ (0 : Int)) (.ob ((64 : Int) ≠ (0 : Int)) (.ob ((3 : Nat) = x.length) (.ob ([AV.int .u8 (IntKind.u8.wrap (IntKind.i64.wrap ((224 : Int) + IntKind.i64.wrap (r.tdiv (4096 : Int))))), AV.int .u8 (IntKind.u8.wrap (IntKind.i64.wrap ((128 : Int) + (IntKind.i64.wrap (r.tdiv (64 : Int))).tmod (64 : Int)))), AV.int .u8 (IntKind.u8.wrap (IntKind.i64.wrap ((128 : Int) + r.tmod (64 : Int))))] = x) (.tt))))))) (.ob ((262144 : Int) ≠ (0 : Int)) (.ob ((4096 : Int) ≠ (0 : Int)) (.ob ((64 : Int) ≠ (0 : Int)) (.ob ((64 : Int) ≠ (0 : Int)) (.ob ((64 : Int) ≠ (0 : Int)) (.ob ((64 : Int) ≠ (0 : Int)) (.ob ((4 : Nat) = x.length) (.ob ([AV.int .u8 (IntKind.u8.wrap (IntKind.i64.wrap ((240 : Int) + IntKind.i64.wrap (r.tdiv (262144 : Int))))), AV.int .u8 (IntKind.u8.wrap (IntKind.i64.wrap ((128 : Int) + (IntKind.i64.wrap (r.tdiv (4096 : Int))).tmod (64 : Int)))), AV.int .u8 (IntKind.u8.wrap (IntKind.i64.wrap ((128 : Int) + (IntKind.i64.wrap (r.tdiv (64 : Int))).tmod (64 : Int)))), AV.int .u8 (IntKind.u8.wrap (IntKind.i64.wrap ((128 : Int) + r.tmod (64 : Int))))] = x) (.tt))))))))))))) (.split (decide (r < (128 : Int))) (.ob ((1 : Nat) = x.length) (.ob ([AV.int .u8 (IntKind.u8.wrap r)] = x) (.tt))) (.split (decide (r < (2048 : Int))) (.ob ((64 : Int) ≠ (0 : Int)) (.ob ((64 : Int) ≠ (0 : Int)) (.ob ((2 : Nat) = x.length) (.ob ([AV.int .u8 (IntKind.u8.wrap (IntKind.i64.wrap ((192 : Int) + IntKind.i64.wrap (r.tdiv (64 : Int))))), AV.int .u8 (IntKind.u8.wrap (IntKind.i64.wrap ((128 : Int) + r.tmod (64 : Int))))] = x) (.tt))))) (.split (decide (r < (65536 : Int))) (.ob ((4096 : Int) ≠ (0 : Int)) (.ob ((64 : Int) ≠ (0 : Int)) (.ob ((64 : Int) ≠ (0 : Int)) (.ob ((64 : Int) ≠ (0 : Int)) (.ob ((3 : Nat) = x.length) (.ob ([AV.int .u8 (IntKind.u8.wrap (IntKind.i64.wrap ((224 : Int) + IntKind.i64.wrap (r.tdiv (4096 : Int))))), AV.int .u8 (IntKind.u8.wrap (IntKind.i64.wrap ((128 : Int) + (IntKind.i64.wrap (r.tdiv (64 : Int))).tmod (64 : Int)))), AV.int .u8 (IntKind.u8.wrap (IntKind.i64.wrap ((128 : Int) + r.tmod (64 : Int))))] = x) (.tt))))))) (.ob ((262144 : Int) ≠ (0 : Int)) (.ob ((4096 : Int) ≠ (0 : Int)) (.ob ((64 : Int) ≠ (0 : Int)) (.ob ((64 : Int) ≠ (0 : Int)) (.ob ((64 : Int) ≠ (0 : Int)) (.ob ((64 : Int) ≠ (0 : Int)) (.ob ((4 : Nat) = x.length) (.ob ([AV.int .u8 (IntKind.u8.wrap (IntKind.i64.wrap ((240 : Int) + IntKind.i64.wrap (r.tdiv (262144 : Int))))), AV.int .u8 (IntKind.u8.wrap (IntKind.i64.wrap ((128 : Int) + (IntKind.i64.wrap (r.tdiv (4096 : Int))).tmod (64 : Int)))), AV.int .u8 (IntKind.u8.wrap (IntKind.i64.wrap ((128 : Int) + (IntKind.i64.wrap (r.tdiv (64 : Int))).tmod (64 : Int)))), AV.int .u8 (IntKind.u8.wrap (IntKind.i64.wrap ((128 : Int) + r.tmod (64 : Int))))] = x) (.tt))))))))))))))) := by
      simp only [PT.holds]
      (repeat' first | exact ⟨_, triv, rfl, trivial⟩ | exact ⟨_, triv, rfl⟩ | refine ex_split (fun _ => ?_) (fun _ => ?_) | refine ex_ob ?_ ?_)
      all_goals first | decide | (refine ⟨_, ?_, rfl, rfl, trivial⟩; first | exact ⟨[], rfl, by decide⟩ | exact ⟨[_], rfl, by simp⟩ | exact ⟨[_, _], rfl, by simp⟩ | exact ⟨[_, _, _], rfl, by simp⟩ | exact ⟨[_, _, _, _], rfl, by simp⟩)
    obtain ⟨x, hR, hx⟩ := H
    exact ⟨x, hR, Ctr.mk Γ_ok Tryd.func85 (by kernel_rfl) Tryd.call85 [] (by kernel_rfl) (HT.walk Γ_ok mo_ok (⟨annJ, sp85, [], [], .pure [] (.sl none x.length x .no)⟩ : Wk) 4000 (by kernel_rfl) hx)⟩
def stBg (s : ByteArray) (at_ : Nat) (b : List Int) (i : Nat) : AS := ⟨[(0, .str s), (1, .int .i64 at_), (2, .sl none b.length (b.map (.int .u8)) .no), (7, .int .i64 i)], [], []⟩
theorem begins_h (s : ByteArray) (at_ : Nat) (b : List Int) (i : Nat) (hb : b.length ≤ 1000) (hs : at_ + b.length ≤ s.size) (hss : s.size ≤ 1048600) (ih : i < b.length → ∃ x : Bool, Triv ∧ HT Tryd.prog Tryd.f86.ntmps (pt Tryd.f86 0) (stBg s at_ b (i + 1)) (EndsA Γ (.pure [] (.bool x)) Tryd.f86)) : ∃ x : Bool, (Triv) ∧ HT Tryd.prog Tryd.f86.ntmps (pt Tryd.f86 0) (stBg s at_ b i) (EndsA Γ (.pure [] (.bool x)) Tryd.f86) := by
    have H : ∃ x : Bool, (Triv) ∧ PT.holds Tryd.prog Tryd.f86.ntmps (EndsA Γ (.pure [] (.bool x)) Tryd.f86) (.split (decide ((↑i : Int) < (↑b.length : Int))) (.or (.ob ((0 : Int) ≤ IntKind.i64.wrap ((↑at_ : Int) + (↑i : Int)) ∧ IntKind.i64.wrap ((↑at_ : Int) + (↑i : Int)) < (↑s.size : Int)) (.ob ((0 : Int) ≤ (↑i : Int) ∧ (↑i : Int) < (↑b.length : Int) ∧ (↑i : Int).toNat * (1 : Nat) < (List.map (AV.int .u8) b).length) (.ob ((List.map (AV.int .u8) b)[(↑i : Int).toNat * (1 : Nat)]? = some (AV.int .u8 (b.getD i (0 : Int)))) (.ob ((!decide (byteAt s (IntKind.i64.wrap ((↑at_ : Int) + (↑i : Int))) = b.getD i (0 : Int))) = true) (.ob (false = x) (.tt)))))) (.ob ((0 : Int) ≤ IntKind.i64.wrap ((↑at_ : Int) + (↑i : Int)) ∧ IntKind.i64.wrap ((↑at_ : Int) + (↑i : Int)) < (↑s.size : Int)) (.ob ((0 : Int) ≤ (↑i : Int) ∧ (↑i : Int) < (↑b.length : Int) ∧ (↑i : Int).toNat * (1 : Nat) < (List.map (AV.int .u8) b).length) (.ob ((List.map (AV.int .u8) b)[(↑i : Int).toNat * (1 : Nat)]? = some (AV.int .u8 (b.getD i (0 : Int)))) (.ob ((!decide (byteAt s (IntKind.i64.wrap ((↑at_ : Int) + (↑i : Int))) = b.getD i (0 : Int))) = false) (.head (pt Tryd.f86 0) ({ tmps := [(0, AV.str s), (1, AV.int .i64 (↑at_ : Int)), (2, AV.sl none b.length (List.map (AV.int .u8) b) .no), (7, AV.int .i64 (IntKind.i64.wrap ((↑i : Int) + (1 : Int))))], heap := [], tags := [] }))))))) (.ob (true = x) (.tt))) := by
      by_cases hi : i < b.length
      · have w1 : IntKind.i64.wrap ((at_ : Int) + i) = at_ + i := i64_wrap (by omega) (by omega)
        have w2 : IntKind.i64.wrap ((i : Int) + 1) = ((i + 1 : Nat) : Int) := by rw [i64_wrap (by omega) (by omega)]; rfl
        have ih := ih hi
        have w3 : (List.map (AV.int IntKind.u8) b)[(i : Int).toNat * 1]? = some (AV.int IntKind.u8 (b.getD i 0)) := by simp [hi]
        simp only [PT.holds, w1, w2, w3]
        by_cases hc : byteAt s (at_ + i) = b.getD i 0
        · refine ex_split (fun _ => ex_or2 ?_) (fun _ => ?_)
          all_goals (repeat' first | exact ⟨_, triv, rfl, trivial⟩ | exact ⟨_, triv, rfl⟩ | refine ex_split (fun _ => ?_) (fun _ => ?_) | refine ex_ob ?_ ?_)
          all_goals first | exact ih | omega | (simp only [hc, decide_true, Bool.not_true]; done) | simp [hi]
        · refine ex_split (fun _ => ex_or1 ?_) (fun _ => ?_)
          all_goals (repeat' first | exact ⟨_, triv, rfl, trivial⟩ | exact ⟨_, triv, rfl⟩ | refine ex_split (fun _ => ?_) (fun _ => ?_) | refine ex_ob ?_ ?_)
          all_goals first | exact ih | omega | (simp only [hc, decide_false, Bool.not_false]; done) | simp [hi]
      · simp only [PT.holds]
        (repeat' first | exact ⟨_, triv, rfl, trivial⟩ | exact ⟨_, triv, rfl⟩ | refine ex_split (fun _ => ?_) (fun _ => ?_) | refine ex_ob ?_ ?_)
        all_goals (exfalso; simp only [decide_eq_true_eq, decide_eq_false_iff_not] at *; omega)
    obtain ⟨x, hR, hx⟩ := H
    exact ⟨x, hR, HT.walk Γ_ok mo_ok (⟨([(34, .val (.int .u8 (b.getD i 0)))] ++ annJ), sp86, hd86 [] [] [] [], dsp86, .pure [] (.bool x)⟩ : Wk) 4000 (by kernel_rfl) hx⟩
theorem begins_l (s : ByteArray) (at_ : Nat) (b : List Int) (hb : b.length ≤ 1000) (hs : at_ + b.length ≤ s.size) (hss : s.size ≤ 1048600) : ∀ d i, b.length ≤ i + d → ∃ x : Bool, Triv ∧ HT Tryd.prog Tryd.f86.ntmps (pt Tryd.f86 0) (stBg s at_ b i) (EndsA Γ (.pure [] (.bool x)) Tryd.f86) := by
  intro d
  induction d with
  | zero => exact fun i h => begins_h s at_ b i hb hs hss (fun hi => by omega)
  | succ d ih => exact fun i h => begins_h s at_ b i hb hs hss (fun hi => ih (i + 1) (by omega))

theorem begins_ex (s : ByteArray) (at_ : Nat) (b : List Int) (ha : at_ ≤ 1048600) (hb : b.length ≤ 1000) (hss : s.size ≤ 1048600) : ∃ x : Bool, (Triv) ∧ Ctr Tryd.prog 86 [.str s, .int .i64 at_, .sl none b.length (b.map (.int .u8)) .no] (.bool x) := by
    have H : ∃ x : Bool, (Triv) ∧ PT.holds Tryd.prog Tryd.f86.ntmps (EndsA Γ (.pure [] (.bool x)) Tryd.f86) (.split (decide ((↑b.length : Int) = (0 : Int))) (.ob (false = x) (.tt)) (.split (decide ((↑s.size : Int) < IntKind.i64.wrap ((↑at_ : Int) + (↑b.length : Int)))) (.ob (false = x) (.tt)) (.head (pt Tryd.f86 0) ({ tmps := [(0, AV.str s), (1, AV.int .i64 (↑at_ : Int)), (2, AV.sl none b.length (List.map (AV.int .u8) b) .no), (7, AV.int .i64 (0 : Int))], heap := [], tags := [] })))) := by
      have w1 : IntKind.i64.wrap ((at_ : Int) + b.length) = at_ + b.length := i64_wrap (by omega) (by omega)
      simp only [PT.holds, w1]
      (repeat' first | exact ⟨_, triv, rfl, trivial⟩ | exact ⟨_, triv, rfl⟩ | refine ex_split (fun _ => ?_) (fun _ => ?_) | refine ex_ob ?_ ?_)
      exact begins_l s at_ b hb (by simp only [decide_eq_true_eq, decide_eq_false_iff_not] at *; omega) hss b.length 0 (by omega)
    obtain ⟨x, hR, hx⟩ := H
    exact ⟨x, hR, Ctr.mk Γ_ok Tryd.func86 (by kernel_rfl) Tryd.call86 [] (by kernel_rfl) (HT.walk Γ_ok mo_ok (⟨annJ, sp86, hd86 [] [] [] [], dsp86, .pure [] (.bool x)⟩ : Wk) 4000 (by kernel_rfl) hx)⟩
noncomputable def putL (r : Int) : List Int := (put_ex r).choose_spec.1.choose
theorem putL_le (r : Int) : (putL r).length ≤ 4 := (put_ex r).choose_spec.1.choose_spec.2
theorem put_ctr (r : Int) : Ctr Tryd.prog 85 [.int .i64 r] (.sl none (putL r).length ((putL r).map (.int .u8)) .no) := by
  have h := (put_ex r).choose_spec.2
  have e := (put_ex r).choose_spec.1.choose_spec.1
  rw [e, List.length_map] at h
  exact h
noncomputable def annK : List (Nat × Ann) := (1000085, .callF [] (fun | [.int _ r] => .sl none (putL r).length ((putL r).map (.int .u8)) .no | _ => .undef)) :: (1000086, .callF [] (fun args => .bool (exB Tryd.prog 86 args))) :: (1000087, .callF [] (fun args => .bool (exB Tryd.prog 87 args))) :: annJ
end Go.Proofs.YteimloiaipiadaaDoor
end
