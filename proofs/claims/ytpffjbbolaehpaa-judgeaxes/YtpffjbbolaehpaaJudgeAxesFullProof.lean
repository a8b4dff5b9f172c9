/- JudgeAxes: called with whatever arguments, the law returns true; its arguments stay as they were. No condition. -/
import Derived.Test.YtpffjbbolaehpaaP10
import Derived.ProofKit
import Derived.SizedLaws
import Derived.Test.YtpffjbbolaehpaaP6
section
set_option linter.unusedVariables false
set_option linter.unusedSimpArgs false
namespace Go.Proofs.Ytpffjbbolaehpaa
namespace judgeAxes
open Go Go.AX
open Go.ChangeShapes Go.WideShapes Go.ChangeAt Go.RowKit

theorem own : ownKnob Try.prog.godebug = none := by kernel_rfl
set_option maxRecDepth 100000 in
theorem contract (H : Type) (enc : TypeId × Value → H) (W : World) (base : Nat) (args : Array Value) (ds gs : List (DataW H)) (before : List MemPlace)
    (hval : ∀ (j : Nat) t v, Try.f6.params[j]? = some t → args[j]? = some v → Value.okWide Try.prog W .any base t v)
    (hW : DataW.Whole enc Try.prog Try.f6.params.toList Rows.judgeAxesSpec.vars false W args.toList ds gs before)
    (hz : (DataW.weightsEach Try.prog (Try.f6.params.toList ++ Rows.judgeAxesSpec.plain.varTypes Try.prog) (ds ++ gs)).all (· ≤ reachBytes) = true) :
    Calls Try.prog 6 args W fun e W' => ∃ v, e = .returned v ∧ Rows.judgeAxesSpec.post enc Try.prog Try.f6 false true false false W args v W' := by
  have hW' := hW
  obtain ⟨p, q, hA0, hV, rfl, hfz, hnd⟩ := hW
  have hA : DataW.TrodAll enc Try.prog W 0 (fun _ => true) true Try.f6.params.toList args.toList ds p := hA0
  rw [Try.params6] at hA hval hz
  obtain ⟨v0, vs0, d0, ds0, p0, q0, hargs, rfl, rfl, h0, r0⟩ := trodAll_cons hA
  obtain ⟨v1, vs1, d1, ds1, p1, q1, rfl, rfl, rfl, h1, r1⟩ := trodAll_cons r0
  obtain ⟨rfl, rfl, rfl⟩ := trodAll_nil r1
  obtain rfl : args = #[v0, v1] := by cases args; simp_all
  obtain ⟨rfl, rfl⟩ := trodVars_none hV
  have b0 : Wgt H 26 d0 := fun m hm => by
    have := List.all_eq_true.1 hz m (DataW.weights_mem_each (j := 0) (t := 26) (d := d0) rfl rfl m hm)
    simpa using this
  have h0k := h0
  obtain ⟨a0, g0, w0⟩ := opn_events (hval 0 26 v0 rfl rfl) h0 b0
  obtain ⟨a1, rfl, rfl, rfl, w1⟩ := open_int Try.underlying5 (hval 1 5 v1 rfl rfl) h1
  clear hA0
  simp only [List.append_nil] at hW'
  have hlt : ∀ x ∈ ((p0 ++ (([] : List MemPlace) ++ ([] : List MemPlace)))), x.block < W.heap.size := fun x hx => hW'.lt x (by simpa using hx)
  refine ((axes_ctr a0 w0 a1 (by simpa [Lit.wf, IntKind.min, IntKind.max, IntKind.signed, IntKind.bits] using w1)).calls (F := heldAt W) heldAt_lt (args_cons g0 (args_cons (.int _ _ _) (args_nil _ _)))).mono fun e W' ⟨he, hb⟩ => ?_
  subst he
  exact ⟨_, rfl, AX.post_of_below (pa := ((p0 ++ (([] : List MemPlace) ++ ([] : List MemPlace))))) (pv := []) hW' (fun _ _ _ => (trodAll_cons_mk (shut_bool Try.underlying4 _) trodAll_mk0)) (fun sp hall => ((trodAll_cons_mk (backS sp (by kernel_rfl) (by kernel_rfl) (of_decide_eq_true (by kernel_rfl)) hb h0k (fun x hx => hall x (by simp [hx])) (fun x hx => hlt x (by simp [hx]))) (trodAll_cons_mk (shut_int Try.underlying5 w1) trodAll_mk0)))) (fun _ _ => rfl) (by simp)
    hb (ok_one (by kernel_rfl) rfl (okWide_bool_mk Try.underlying4 _))⟩

set_option maxRecDepth 100000 in
theorem lifted (os : Os) (started : os.Started) (H : Type) (enc : TypeId × Value → H) :
    ReturnsInHanded {} Try.checked os 6 .any (Rows.judgeAxesSpec.pre6 enc Try.prog Try.f6 Rows.judgeAxesRow.domain false) (Rows.judgeAxesSpec.post enc Try.prog Try.f6 false true false false) := by
  refine returnsInHanded_of_change_sized (C := Try.checked) own started (by kernel_rfl) Try.func6
    (ChangeSpec.witness6 (enc := enc) (C := Try.checked) false ⟨#[], #[.slice none 0 0, .int .u8 0], []⟩ 8 (by kernel_rfl) (by kernel_rfl) (by kernel_rfl) (by kernel_rfl)) ?_
  intro W base args ds gs before hval hW _ hz _
  exact contract H enc W base args ds gs before hval hW hz

theorem over : Rows.judgeAxesRow.holds Try.pinned (OpenSpec.ofChange Rows.judgeAxesSpec) :=
  OpenClaim.holds_of_wide 6 Try.f6 rfl rfl rfl rfl rfl rfl rfl ⟨rfl, rfl, rfl, rfl, rfl⟩ rfl rfl rfl rfl rfl (by kernel_rfl) Try.func6 (by kernel_rfl)
    (of_decide_eq_true (by kernel_rfl)) (by unfold Func.isWrapper; first | (rw [if_pos (by decide +kernel)]; kernel_rfl) | (rw [if_neg (by decide +kernel)]; exact ⟨rfl, rfl⟩))
    (fun os started H enc _ => lifted os started H enc)
end judgeAxes
/-- The statement. -/
theorem judgeAxes_holds : Rows.JudgeAxesSaid := judgeAxes.over
end Go.Proofs.Ytpffjbbolaehpaa
end
