import Derived.Test.YtbedjjckfmhdfaaAxQ
set_option linter.unusedVariables false
set_option linter.unusedSimpArgs false
namespace Go.AX
open Go Go.RowKit

/-! ### A table of types, out of closed facts -/
structure TIbase (P : Program) (t : Nat) (ti : TI) : Prop where
  ex : ∃ i d z, P.info? t = some i ∧ P.underlying t = some d ∧ i.size = ti.size ∧ i.bytes = ti.bytes ∧ i.zero = some z ∧ z.cells.size = ti.size ∧ ti.zero = z.cells.toList.map zAV ∧ (∀ v ∈ z.cells, v.oneCell' = true) ∧
    (ti.agg = true ↔ ∃ cs, z = .agg cs) ∧ kindOk P d ti.kind
def isAggV : Value → Bool
  | .agg _ => true
  | _ => false
theorem TIbase.of {P : Program} {t : Nat} {ti : TI} (i : TypeInfo) (d : TypeDesc) (z : Value) (h0 : P.info? t = some i) (h1 : P.underlying t = some d) (h2 : i.size = ti.size) (h3 : i.bytes = ti.bytes) (h4 : i.zero = some z) (h5 : z.cells.size = ti.size) (h6 : ti.zero = z.cells.toList.map zAV)
    (h7 : z.cells.all (·.oneCell') = true) (h8 : ti.agg = isAggV z) (h9 : kindOk P d ti.kind) : TIbase P t ti :=
  ⟨i, d, z, h0, h1, h2, h3, h4, h5, h6, fun v hv => by
    obtain ⟨k, hk, rfl⟩ := Array.mem_iff_getElem.1 hv
    exact Array.all_eq_true.1 h7 k hk, by
    rw [h8]
    cases z <;> simp [isAggV], h9⟩
theorem TIok.ofPlain {P : Program} {t : Nat} {ti : TI} (h : TIbase P t ti) (he : ti.eq = none) : TIok P t ti := ⟨h.ex, fun ks hk => by rw [he] at hk; cases hk⟩

def AllTI (P : Program) : TT → Prop
  | [] => True
  | (t, ti) :: r => TIok P t ti ∧ AllTI P r
theorem gok_of {P : Program} : ∀ {Γ : TT}, AllTI P Γ → Γok P Γ
  | [], _ => fun t ti h => by simp [look] at h
  | (j, x) :: r, h => fun t ti ht => by
    rw [look_cons] at ht
    split at ht
    · rename_i e
      subst e
      cases ht
      exact h.1
    · exact gok_of h.2 t ti ht

end Go.AX
