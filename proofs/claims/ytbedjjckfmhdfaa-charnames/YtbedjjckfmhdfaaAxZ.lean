import Derived.Test.YtbedjjckfmhdfaaAxT
import Derived.ChangeSame
import Derived.ProofKit
set_option linter.unusedVariables false
set_option linter.unusedSimpArgs false
namespace Go.AX
open Go Go.RowKit Go.WideShapes Go.ChangeShapes

/-! ### From a contract to a statement -/
theorem Ctr.calls {P : Program} {f : FuncId} {args : List AV} {b : Bool} (h : Ctr P f args (.bool b)) {w : World} {F : Nat → Nat → Prop} {vs : Array Value} (hF : ∀ b o, F b o → b < w.heap.size) (ha : Args w F args vs) :
    Calls P f vs w fun e w' => e = .returned (.bool b) ∧ Below w.heap.size w w' := by
  refine (h.2 w F vs hF ha).mono fun e w' hh => ?_
  obtain ⟨v, rs, rfl, hr⟩ := hh
  have := hr.rep
  cases this
  exact ⟨rfl, hr.below⟩

theorem args_nil (w : World) (F : Nat → Nat → Prop) : Args w F [] #[] := ⟨rfl, fun i c v h => by simp at h⟩
theorem args_cons {w : World} {F : Nat → Nat → Prop} {x : AV} {v : Value} {xs : List AV} {vs : List Value} (h : Rep w (envF F) false x v) (hs : Args w F xs vs.toArray) : Args w F (x :: xs) (v :: vs).toArray := by
  refine ⟨by simpa using hs.1, fun i c u hc hu => ?_⟩
  match i, hc, hu with
  | 0, hc, hu =>
    simp at hc hu
    subst hc; subst hu
    exact h
  | n + 1, hc, hu => exact hs.2 n c u (by simpa using hc) (by simpa using hu)

section
variable {H : Type} {enc : TypeId × Value → H} {P : Program}
theorem post_of_below {f : Func} {s : ChangeSpec} {apart fresh handsOn again : Bool} {W W' : World} {args : Array Value} {v : Value} {ds gs : List (DataW H)} {before pa pv : List MemPlace}
    (hW : DataW.Whole enc P f.params.toList s.vars apart W args.toList ds gs before)
    (hres : ∀ (b : Nat) (sp : Nat → Bool) (hd : Bool), DataW.TrodAll enc P W' b sp hd f.resultTypes.toList (v.resultList f.resultTypes.size) (s.fn H (ds ++ gs)).results [])
    (hargs : ∀ sp : Nat → Bool, (∀ p ∈ before, sp p.block = true) → DataW.TrodAll enc P W' 0 sp true f.params.toList args.toList (s.fn H (ds ++ gs)).args pa)
    (hvars : ∀ sp : Nat → Bool, (∀ p ∈ before, sp p.block = true) → DataW.TrodVars enc P W' sp s.vars (s.fn H (ds ++ gs)).vars pv)
    (hps : before = pa ++ pv) (hb : Below W.heap.size W W')
    (hok : ∀ (j : Nat) (t : TypeId) (r : Value), f.resultTypes[j]? = some t → (v.resultList f.resultTypes.size)[j]? = some r → Value.okWide P W' .any 0 t r) :
    s.post enc P f apart fresh handsOn again W args v W' := by
  have hlt : ∀ p ∈ before, p.block < W.heap.size := fun p hp => hW.lt p hp
  have hold : ∀ p ∈ before, (fun b => decide (b < W.heap.size)) p.block = true := fun p hp => by simpa using hlt p hp
  refine ⟨ds, gs, before, [], pa, pv, hW, hres _ _ _, hargs _ hold, hvars _ hold, World.keptBut_mono (fun p hp => ⟨hp, ?_⟩) (hb.frame (· ∈ before)), fun _ => ?_⟩
  · rw [hps, List.mem_append] at hp
    exact Or.inr hp
  · obtain ⟨_, _, _, _, _, hz, hn⟩ := hW
    refine ⟨hok, _, _, ([] ++ pa) ++ pv, ⟨[] ++ pa, pv, trodAll_append (hargs _ (fun _ _ => rfl)) (hres _ _ _), hvars _ (fun _ _ => rfl), rfl, ?_, ?_⟩, ?_⟩
    · intro b off hp
      have hin : MemPlace.cell b off ∈ before := by rw [hps]; simpa using hp
      rw [hb.frozen (hlt _ hin)]
      exact hz b off hin
    · intro ha
      have := hn ha
      rw [hps] at this
      simpa using this
    · intro p hp _
      rw [hps]
      simpa using hp
end
end Go.AX
