import Derived.Test.YtbedjjckfmhdfaaAxR
set_option linter.unusedVariables false
set_option linter.unusedSimpArgs false
namespace Go.AX
open Go Go.RowKit

def fbody (f : Func) : Code := f.body.getD .skip
/-- The loops of a text, each as what is to be done at its head. -/
def heads : Code → List Item → List (List Item)
  | .seq a b, k => heads a (.code b :: k) ++ heads b k
  | .cond _ t e, k => heads t k ++ heads e k
  | .block id c, k => heads c (.inBlock id :: k)
  | .loop c, k => (.code c :: .inLoop c :: k) :: heads c (.inLoop c :: k)
  | .scope c, k => heads c (.inScope c :: k)
  | _, _ => []
def pt (f : Func) (i : Nat) : List Item := (heads (fbody f) []).getD i []
def p0 (f : Func) : List Item := [.code (fbody f)]

/-- The function's end, with this result. -/
def EndsA (Γ : TT) (zs : List Nat) (f : Func) (res : AV) (s : AS) : Prop := ∃ os, retP Γ zs s f.results.toList res = some os ∧ All os
def checkE (P : Program) (Γ : TT) (f : Func) (ann : List (Nat × Ann)) (k : Nat) (todo : List Item) (s : AS) (zs : List Nat) (res : AV) : Option (List Prop) :=
  match run P Γ f.ntmps ann k todo s [] with
  | some ([], s', os) => match retP Γ zs s' f.results.toList res with
    | some os' => some (os ++ os')
    | none => none
  | _ => none
theorem HT.fin {P : Program} {Γ : TT} (hΓ : Γok P Γ) {f : Func} (ann : List (Nat × Ann)) (k : Nat) {todo : List Item} {s : AS} {zs : List Nat} {res : AV} {os : List Prop} (h : checkE P Γ f ann k todo s zs res = some os) (ho : All os) : HT P f.ntmps todo s (EndsA Γ zs f res) := by
  unfold checkE at h
  split at h
  · rename_i s' os1 h1
    split at h
    · rename_i os2 h2
      cases h
      obtain ⟨ho1, ho2⟩ := All_append.1 ho
      exact run_sound hΓ h1 ho1 ⟨os2, h2, ho2⟩
    · cases h
  · cases h
def checkS (P : Program) (Γ : TT) (f : Func) (ann : List (Nat × Ann)) (k : Nat) (ch : List Nat) (todo : List Item) (s s1 : AS) : Option (List Item × AS × List Prop) := check P Γ f.ntmps ann k ch todo s s1
theorem HT.to {P : Program} {Γ : TT} (hΓ : Γok P Γ) {f : Func} (ann : List (Nat × Ann)) (k : Nat) (ch : List Nat) (i : Nat) {todo : List Item} {s : AS} (s1 : AS) {Q : AS → Prop} {os : List Prop} (h : checkS P Γ f ann k ch todo s s1 = some (pt f i, s1, os)) (hne : (pt f i).isEmpty = false) (ho : All os) (hk : HT P f.ntmps (pt f i) s1 Q) : HT P f.ntmps todo s Q :=
  HT.seg hΓ ann k ch h ho (fun e => by rw [e] at hne; cases hne) hk
theorem Ctr.mk {P : Program} {Γ : TT} (hΓ : Γok P Γ) {f : FuncId} {fn : Func} (hf : P.funcs[f]? = some fn) (hb : fn.body = some (fbody fn)) (hcall : ∀ vs w, (callFunc f vs).run P w = .ok (.enter f vs) w) (zs : List Nat) {args : List AV} {res : AV} (hl : Nat.ble args.length fn.ntmps = true)
    (h : HT P fn.ntmps (p0 fn) (st0 args) (EndsA Γ zs fn res)) : Ctr P f args res :=
  Ctr.of hΓ hf hb hcall zs (Nat.le_of_ble_eq_true hl) h

/-- Arguments of which more is known. -/
theorem Ctr.args {P : Program} {f : FuncId} {xs ys : List AV} {res : AV} (h : Ctr P f xs res) {os : List Prop} (hl : leL ys xs = some os) (ho : All os) : Ctr P f ys res := by
  refine ⟨h.1, fun w F vs hF ha => h.2 w F vs hF ?_⟩
  obtain ⟨h1, h2⟩ := leL_get hl ho
  refine ⟨by rw [← h1]; exact ha.1, fun i c v hc hv => ?_⟩
  have hlt : i < ys.length := by rw [h1]; exact (List.getElem?_eq_some_iff.1 hc).1
  obtain ⟨os', h3, h4⟩ := h2 i ys[i] c (List.getElem?_eq_getElem hlt) hc
  exact leP_rep (ha.2 i ys[i] v (List.getElem?_eq_getElem hlt) hv) h3 h4

theorem i64_wrap {i : Int} (h0 : -9223372036854775808 ≤ i) (h : i ≤ 9223372036854775807) : IntKind.i64.wrap i = i := IntWalk.i64_in _ (by omega)
theorem i32_wrap {i : Int} (h0 : -2147483648 ≤ i) (h : i ≤ 2147483647) : IntKind.i32.wrap i = i := by
  unfold IntKind.wrap
  simp [IntKind.bits, IntKind.signed]
  omega
end Go.AX
