import Derived.Test.YtbedjjckfmhdfaaAxR
import Derived.Test.YtbedjjckfmhdfaaProg
set_option linter.unusedVariables false
set_option linter.unusedSimpArgs false
namespace Go.Proofs.Ytbedjjckfmhdfaa
open Go Go.AX
theorem ti3 : TIok Try.prog 3 ⟨1, 8, .int .i64, [.int .i64 0], none⟩ := TIok.ofPlain (TIbase.of Try.t3 _ (.int .i64 0) (by kernel_rfl) Try.underlying3 (by kernel_rfl) (by kernel_rfl) (by kernel_rfl) (by kernel_rfl) (by kernel_rfl) (by kernel_rfl) (by kernel_rfl) (by first | exact rfl | exact trivial)) rfl
theorem ti4 : TIok Try.prog 4 ⟨1, 1, .bool, [.bool false], none⟩ := TIok.ofPlain (TIbase.of Try.t4 _ (.bool false) (by kernel_rfl) Try.underlying4 (by kernel_rfl) (by kernel_rfl) (by kernel_rfl) (by kernel_rfl) (by kernel_rfl) (by kernel_rfl) (by kernel_rfl) (by first | exact rfl | exact trivial)) rfl
theorem ti5 : TIok Try.prog 5 ⟨1, 1, .int .u8, [.int .u8 0], none⟩ := TIok.ofPlain (TIbase.of Try.t5 _ (.int .u8 0) (by kernel_rfl) Try.underlying5 (by kernel_rfl) (by kernel_rfl) (by kernel_rfl) (by kernel_rfl) (by kernel_rfl) (by kernel_rfl) (by kernel_rfl) (by first | exact rfl | exact trivial)) rfl
theorem ti9 : TIok Try.prog 9 ⟨1, 16, .str, [.str ⟨#[]⟩], none⟩ := TIok.ofPlain (TIbase.of Try.t9 _ (.string ⟨#[]⟩) (by kernel_rfl) Try.underlying9 (by kernel_rfl) (by kernel_rfl) (by kernel_rfl) (by kernel_rfl) (by kernel_rfl) (by kernel_rfl) (by kernel_rfl) (by first | exact rfl | exact trivial)) rfl
theorem ti21 : TIok Try.prog 21 ⟨1, 4, .int .i32, [.int .i32 0], none⟩ := TIok.ofPlain (TIbase.of Try.t21 _ (.int .i32 0) (by kernel_rfl) Try.underlying21 (by kernel_rfl) (by kernel_rfl) (by kernel_rfl) (by kernel_rfl) (by kernel_rfl) (by kernel_rfl) (by kernel_rfl) (by first | exact rfl | exact trivial)) rfl
theorem ti23 : TIok Try.prog 23 ⟨1, 8, .other, [.nilFn], none⟩ := TIok.ofPlain (TIbase.of Try.t23 _ .nilFunc (by kernel_rfl) Try.underlying23 (by kernel_rfl) (by kernel_rfl) (by kernel_rfl) (by kernel_rfl) (by kernel_rfl) (by kernel_rfl) (by kernel_rfl) (by first | exact rfl | exact trivial)) rfl
theorem ti25 : TIok Try.prog 25 ⟨1, 24, .slice 21, [.sl (some true) 0 [] .clip], none⟩ := TIok.ofPlain (TIbase.of Try.t25 _ (.slice none 0 0) (by kernel_rfl) Try.underlying25 (by kernel_rfl) (by kernel_rfl) (by kernel_rfl) (by kernel_rfl) (by kernel_rfl) (by kernel_rfl) (by kernel_rfl) (by first | exact rfl | exact trivial)) rfl
theorem ti31 : TIok Try.prog 31 ⟨2, 8, .struct [(0, 21), (1, 21)], [.int .i32 0, .int .i32 0], none⟩ := TIok.ofPlain (TIbase.of Try.t31 _ (.agg #[.int .i32 0, .int .i32 0]) (by kernel_rfl) Try.underlying31 (by kernel_rfl) (by kernel_rfl) (by kernel_rfl) (by kernel_rfl) (by kernel_rfl) (by kernel_rfl) (by kernel_rfl) (by first | exact rfl | exact trivial)) rfl
theorem ti32 : TIok Try.prog 32 ⟨1, 24, .slice 31, [.sl (some true) 0 [] .clip], none⟩ := TIok.ofPlain (TIbase.of Try.t32 _ (.slice none 0 0) (by kernel_rfl) Try.underlying32 (by kernel_rfl) (by kernel_rfl) (by kernel_rfl) (by kernel_rfl) (by kernel_rfl) (by kernel_rfl) (by kernel_rfl) (by first | exact rfl | exact trivial)) rfl
theorem ti33 : TIok Try.prog 33 ⟨1, 24, .slice 23, [.sl (some true) 0 [] .clip], none⟩ := TIok.ofPlain (TIbase.of Try.t33 _ (.slice none 0 0) (by kernel_rfl) Try.underlying33 (by kernel_rfl) (by kernel_rfl) (by kernel_rfl) (by kernel_rfl) (by kernel_rfl) (by kernel_rfl) (by kernel_rfl) (by first | exact rfl | exact trivial)) rfl
/-- The types, as the walk reads them. -/
def Γ : TT := [(3, ⟨1, 8, .int .i64, [.int .i64 0], none⟩),
  (4, ⟨1, 1, .bool, [.bool false], none⟩),
  (5, ⟨1, 1, .int .u8, [.int .u8 0], none⟩),
  (9, ⟨1, 16, .str, [.str ⟨#[]⟩], none⟩),
  (21, ⟨1, 4, .int .i32, [.int .i32 0], none⟩),
  (23, ⟨1, 8, .other, [.nilFn], none⟩),
  (25, ⟨1, 24, .slice 21, [.sl (some true) 0 [] .clip], none⟩),
  (31, ⟨2, 8, .struct [(0, 21), (1, 21)], [.int .i32 0, .int .i32 0], none⟩),
  (32, ⟨1, 24, .slice 31, [.sl (some true) 0 [] .clip], none⟩),
  (33, ⟨1, 24, .slice 23, [.sl (some true) 0 [] .clip], none⟩)]
theorem Γ_ok : Γok Try.prog Γ := gok_of ⟨ti3, ti4, ti5, ti9, ti21, ti23, ti25, ti31, ti32, ti33, trivial⟩
end Go.Proofs.Ytbedjjckfmhdfaa
