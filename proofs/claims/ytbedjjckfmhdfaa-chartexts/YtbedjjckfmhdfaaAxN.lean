import Derived.Test.YtbedjjckfmhdfaaAxM
set_option linter.unusedVariables false
set_option linter.unusedSimpArgs false
namespace Go.AX
open Go Go.RowKit

def lookO {α : Type} (l : List (Nat × α)) : Option Nat → Option α
  | some d => look l d
  | none => none

/-- The hint of a call: at its slot, or at the function's number. -/
def annC (ann : List (Nat × Ann)) (f : AV) (d : Option Nat) : Option Ann :=
  match lookO ann d with
  | some a => some a
  | none => match f with
    | .fn fid _ => look ann (1000000 + fid)
    | _ => none
def finO (nt : Nat) (r : SR) (d : Option Nat) : Option (AS × List Prop) :=
  match r, d with
  | some (s', v, os), some d => match Nat.blt d nt with
    | true => some (s'.put d v, os)
    | false => none
  | _, _ => none
/-- One operation. -/
def stepOp (P : Program) (Γ : TT) (nt : Nat) (ann : List (Nat × Ann)) (s : AS) (o : Oper) : Option (AS × List Prop) :=
  match o.op with
  | .store t p x => match s.ev p, s.ev x, o.dst with
    | some u, some v, none => storeA Γ s t u v
    | _, _, _ => none
  | .call ⟨.value f, args, _⟩ => match s.ev f, evs s args.toList with
    | some u, some vs => finO nt (callA P s (o.dst.getD 0) u vs (annC ann u o.dst)) o.dst
    | _, _ => none
  | op => finO nt (stepV Γ s (o.dst.getD 0) op (Ann.v? (lookO ann o.dst))) o.dst

theorem fin_spec {dd : Option Nat} {nt : Nat} {r : SR} {s' : AS} {os : List Prop} (h : finO nt r dd = some (s', os)) : ∃ s1 v d, r = some (s1, v, os) ∧ dd = some d ∧ d < nt ∧ s' = s1.put d v := by
  unfold finO at h
  split at h
  · rename_i s1 v os1 d
    split at h
    · rename_i hb
      cases h
      exact ⟨s1, v, d, rfl, rfl, Nat.le_of_ble_eq_true hb, rfl⟩
    · cases h
  · cases h

theorem stepOp_sound {P : Program} {Γ : TT} (hΓ : Γok P Γ) {C : Ctx} {G : Env} {s s' : AS} {a : Act} {w : World} (h : RelG C G s a w) {ann : List (Nat × Ann)} {o : Oper} {os : List Prop} (hs : stepOp P Γ C.nt ann s o = some (s', os)) (ho : All os) {K : Act → World → Prop} {Q : Exit → Act → World → Prop}
    (hK : ∀ G' a' w', RelG C G' s' a' w' → K a' w') : o.wp P a w K Q := by
  have viaV : ∀ {s1 : AS} {v : AV} {d : Nat}, OpV P C s1 a w o v → o.dst = some d → d < C.nt → s' = s1.put d v → o.wp P a w K Q := by
    intro s1 v d hv hd hlt e
    obtain ⟨x, w', G', h1, h2, h3⟩ := hv
    unfold Oper.wp
    rw [h1, Oper.upon_value, hd]
    subst e
    exact hK _ _ _ (h2.put hlt h3)
  unfold stepOp at hs
  split at hs
  · rename_i t p x hop
    split at hs
    · rename_i u v hu hv hd
      obtain ⟨w', h1, h2⟩ := storeA_sound (P := P) hΓ h (h.ev hu) (h.ev hv) hs ho
      unfold Oper.wp
      have : (execOp a.eval o).run P w = .ok .skip w' := by
        simp only [execOp, hop, Sem.run_bind, h1, Result.andThen_ok, Sem.run_pure]
      rw [this, Oper.upon_skip, hd]
      exact hK _ _ _ h2
    · cases hs
  · rename_i f args ts hop
    split at hs
    · rename_i u vs hu hvs
      obtain ⟨s1, v, d, h1, hd, hlt, e⟩ := fin_spec hs
      obtain ⟨hl, hx⟩ := evs_sound h hvs
      obtain ⟨fid, caps, hf, hcf, hc⟩ := callA_sound h (us := args.map a.eval) (h.ev hu) (by simp [hl]) (fun i c v hc hv => hx i c v hc (by simpa using hv)) h1 ho
      unfold Oper.wp
      have : (execOp a.eval o).run P w = .ok (.enter fid (args.map a.eval ++ caps)) w := by
        simp only [execOp, hop, resolve, Deferred.ofValue, hf, Sem.run_bind, Sem.run_pure, Result.andThen_ok, invoke, Array.empty_append]
        exact hcf
      rw [this, Oper.upon_enter]
      refine hc.mono fun e' w' hh => ?_
      obtain ⟨v', G', rfl, h2, h3⟩ := hh
      simp only [hd]
      subst e
      exact hK _ _ _ (h2.put hlt h3)
    · cases hs
  · obtain ⟨s1, v, d, h1, hd, hlt, e⟩ := fin_spec hs
    exact viaV (stepV_sound hΓ h h1 ho) hd hlt e

/-! ### Regions in the order of the text -/
def gval (s : AS) (ops : Array Oper) (j : Nat) : Option (Option Bool) :=
  match ops[j]? with
  | some o => match lookO s.tmps o.dst with
    | some (.bool b) => some (some b)
    | some (.tup []) => some none
    | _ => none
  | none => none
def skipO (nt : Nat) (s : AS) : Option Nat → Option AS
  | some d => match Nat.blt d nt with
    | true => some (s.put d (.tup []))
    | false => none
  | none => some s
def oper1 (P : Program) (Γ : TT) (nt : Nat) (ann : List (Nat × Ann)) (ops : Array Oper) (s : AS) (o : Oper) : Option (AS × List Prop) :=
  match o.guard with
  | none => stepOp P Γ nt ann s o
  | some (j, want) => match gval s ops j with
    | some (some true) => match want with
      | true => stepOp P Γ nt ann s o
      | false => (skipO nt s o.dst).map fun s' => (s', [])
    | some (some false) => match want with
      | true => (skipO nt s o.dst).map fun s' => (s', [])
      | false => stepOp P Γ nt ann s o
    | some none => (skipO nt s o.dst).map fun s' => (s', [])
    | none => none
def runIdx (P : Program) (Γ : TT) (nt : Nat) (ann : List (Nat × Ann)) (ops : Array Oper) : List Nat → AS → List Prop → Option (AS × List Prop)
  | [], s, os => some (s, os)
  | i :: rest, s, os => match ops[i]? with
    | none => none
    | some o => match oper1 P Γ nt ann ops s o with
      | some (s', os') => runIdx P Γ nt ann ops rest s' (os ++ os')
      | none => none

theorem gval_sound {C : Ctx} {G : Env} {s : AS} {a : Act} {w : World} (h : RelG C G s a w) {ops : Array Oper} {j : Nat} {b : Option Bool} (hg : gval s ops j = some b) : yielded ops a.tmps j = b := by
  unfold gval at hg
  split at hg
  · rename_i o ho
    split at hg
    · rename_i b' hb
      cases hg
      cases hd : o.dst with
      | none => rw [hd] at hb; cases hb
      | some d =>
        rw [hd] at hb
        obtain ⟨x, hx, hr⟩ := h.slots d _ hb
        cases hr
        simp [yielded, ho, hd, hx]
    · rename_i hb
      cases hg
      cases hd : o.dst with
      | none => rw [hd] at hb; cases hb
      | some d =>
        rw [hd] at hb
        obtain ⟨x, hx, hr⟩ := h.slots d _ hb
        cases hr
        simp [yielded, ho, hd, hx]
    · cases hg
  · cases hg

theorem skipO_sound {C : Ctx} {G : Env} {s s' : AS} {a : Act} {w : World} (h : RelG C G s a w) {d : Option Nat} (hs : skipO C.nt s d = some s') : RelG C G s' (a.put d undef) w := by
  cases d with
  | none => cases hs; exact h
  | some d =>
    simp only [skipO] at hs
    split at hs
    · rename_i hb
      cases hs
      exact h.put (Nat.le_of_ble_eq_true hb) (.tup _ _ _ rfl (fun i c v hc _ => by simp at hc))
    · cases hs

/-- An operation under its guard, as the model's list of operations has it. -/
theorem oper1_sound {P : Program} {Γ : TT} (hΓ : Γok P Γ) {C : Ctx} {G : Env} {s s' : AS} {a : Act} {w : World} (h : RelG C G s a w) {ann : List (Nat × Ann)} {ops : Array Oper} {o : Oper} {os : List Prop} (hs : oper1 P Γ C.nt ann ops s o = some (s', os)) (ho : All os) {K : Act → World → Prop} {Q : Exit → Act → World → Prop}
    (hK : ∀ G' a' w', RelG C G' s' a' w' → K a' w') : if Region.wanted o (yielded ops a.tmps) then o.wp P a w K Q else K (a.put o.dst undef) w := by
  unfold oper1 at hs
  split at hs
  · rename_i hgd
    have : Region.wanted o (yielded ops a.tmps) = true := by simp [Region.wanted, hgd]
    rw [if_pos this]
    exact stepOp_sound hΓ h hs ho hK
  · rename_i j want hgd
    have hw : ∀ b, gval s ops j = some b → Region.wanted o (yielded ops a.tmps) = (b == some want) := fun b hb => by
      simp [Region.wanted, hgd, gval_sound h hb]
    have sk : Region.wanted o (yielded ops a.tmps) = false → (skipO C.nt s o.dst).map (fun s' => (s', ([] : List Prop))) = some (s', os) → if Region.wanted o (yielded ops a.tmps) then o.wp P a w K Q else K (a.put o.dst undef) w := by
      intro hf hm
      rw [if_neg (by rw [hf]; decide)]
      rw [Option.map_eq_some_iff] at hm
      obtain ⟨s1, h1, h2⟩ := hm
      cases h2
      exact hK _ _ _ (skipO_sound h h1)
    split at hs
    · rename_i hg
      split at hs
      · rw [if_pos (by rw [hw _ hg]; rfl)]
        exact stepOp_sound hΓ h hs ho hK
      · exact sk (by rw [hw _ hg]; rfl) hs
    · rename_i hg
      split at hs
      · exact sk (by rw [hw _ hg]; rfl) hs
      · rw [if_pos (by rw [hw _ hg]; rfl)]
        exact stepOp_sound hΓ h hs ho hK
    · rename_i hg
      exact sk (by rw [hw _ hg]; rfl) hs
    · cases hs

theorem runIdx_os {P : Program} {Γ : TT} {nt : Nat} {ann : List (Nat × Ann)} {ops : Array Oper} : ∀ {l : List Nat} {s s' : AS} {os os' : List Prop}, runIdx P Γ nt ann ops l s os = some (s', os') → All os' → All os
  | [], s, s', os, os', h, ho => by cases h; exact ho
  | i :: rest, s, s', os, os', h, ho => by
    simp only [runIdx] at h
    split at h
    · cases h
    · split at h
      · exact (All_append.1 (runIdx_os h ho)).1
      · cases h

theorem runIdx_sound {P : Program} {Γ : TT} (hΓ : Γok P Γ) {C : Ctx} {ann : List (Nat × Ann)} {ops : Array Oper} {Q : Exit → Act → World → Prop} : ∀ {l : List Nat} {G : Env} {s s' : AS} {a : Act} {w : World} {os os' : List Prop}, RelG C G s a w → runIdx P Γ C.nt ann ops l s os = some (s', os') → All os' →
    (∀ G' a' w', RelG C G' s' a' w' → Q .normal a' w') → wpOps P ops Q l a w
  | [], G, s, s', a, w, os, os', h, hs, ho, hQ => by cases hs; exact hQ _ _ _ h
  | i :: rest, G, s, s', a, w, os, os', h, hs, ho, hQ => by
    simp only [runIdx] at hs
    split at hs
    · cases hs
    · rename_i o hoi
      split at hs
      · rename_i s1 os1 h1
        have hos1 := (All_append.1 (runIdx_os hs ho)).2
        have key := oper1_sound (Q := Q) (K := wpOps P ops Q rest) hΓ h h1 hos1 (fun G' a' w' h' => runIdx_sound hΓ h' hs ho hQ)
        simp only [wpOps, hoi]
        split at key
        · rename_i hw
          rw [if_pos hw]
          exact .inl key
        · rename_i hw
          rw [if_neg hw]
          exact key
      · cases hs

/-! ### What is still to be done of a function's text -/
def TW (P : Program) (todo : List Item) (R : Act → World → Prop) (a : Act) (w : World) : Prop :=
  ∀ (b : Frame) (cs : List Frame), ∃ a' w' todo', R a' w' ∧ Steps P (lone (b.at a todo) cs w) (lone { b.at a' todo' with mode := .returning } cs w')

def HT0 (P : Program) (nt : Nat) (todo : List Item) (s : AS) (Q : AS → Prop) : Prop :=
  ∀ (C : Ctx) (G : Env) (a : Act) (w : World), C.nt = nt → RelG C G s a w → TW P todo (fun a' w' => ∃ s' G', Q s' ∧ RelG C G' s' a' w') a w
/-- Out of a state: the text that is left comes to the end, in a state of Q. -/
def HT (P : Program) (nt : Nat) (todo : List Item) (s : AS) (Q : AS → Prop) : Prop :=
  match todo with
  | [] => Q s
  | x :: r => HT0 P nt (x :: r) s Q
theorem HT.tw {P : Program} {nt : Nat} {todo : List Item} {s : AS} {Q : AS → Prop} (h : HT P nt todo s Q) : HT0 P nt todo s Q := by
  cases todo with
  | nil => exact fun C G a w hnt hR b cs => ⟨a, w, [], ⟨s, G, h, hR⟩, .one step_end⟩
  | cons x r => exact h

theorem TW.step {P : Program} {todo todo' : List Item} {R : Act → World → Prop} {a : Act} {w : World} (hs : ∀ (b : Frame) (cs : List Frame), step P (lone (b.at a todo) cs w) = .next (lone (b.at a todo') cs w)) (h : TW P todo' R a w) : TW P todo R a w := by
  intro b cs
  obtain ⟨a', w', t, h1, h2⟩ := h b cs
  exact ⟨a', w', t, h1, .head (hs b cs) h2⟩

theorem TW.ops {P : Program} {ops : Array Oper} {l : List Nat} {k : List Item} {R : Act → World → Prop} {a : Act} {w : World} (h : wpOps P ops (fun e a w => e = .normal ∧ TW P k R a w) l a w) : TW P (.inRegion ops l :: k) R a w := by
  intro b cs
  obtain ⟨e, a', w', ⟨rfl, hq⟩, harr⟩ := wp_ops l a w h b k cs
  obtain ⟨a2, w2, t, h1, h2⟩ := hq b cs
  exact ⟨a2, w2, t, h1, Steps.trans harr h2⟩

def run (P : Program) (Γ : TT) (nt : Nat) (ann : List (Nat × Ann)) : Nat → List Item → AS → List Prop → Option (List Item × AS × List Prop)
  | 0, _, _, _ => none
  | _ + 1, [], s, os => some ([], s, os)
  | k + 1, x :: r, s, os => match x with
    | .code .ret => some ([], s, os)
    | .code .skip => run P Γ nt ann k r s os
    | .code (.label _) => run P Γ nt ann k r s os
    | .inBlock _ => run P Γ nt ann k r s os
    | .code (.seq a b) => run P Γ nt ann k (.code a :: .code b :: r) s os
    | .code (.cond c t e) => match s.ev c with
      | some (.bool true) => run P Γ nt ann k (.code t :: r) s os
      | some (.bool false) => run P Γ nt ann k (.code e :: r) s os
      | _ => none
    | .code (.block id body) => run P Γ nt ann k (.code body :: .inBlock id :: r) s os
    | .code (.loop body) => some (.code body :: .inLoop body :: r, s, os)
    | .inLoop body => some (.code body :: .inLoop body :: r, s, os)
    | .code (.exit id) => match exitTo id r with
      | some r' => run P Γ nt ann k r' s os
      | none => none
    | .code (.region _ ops false) => match runIdx P Γ nt ann ops (List.range ops.size) s os with
      | some (s', os') => run P Γ nt ann k r s' os'
      | none => none
    | _ => none

theorem run_os {P : Program} {Γ : TT} {nt : Nat} {ann : List (Nat × Ann)} : ∀ {k : Nat} {todo todo' : List Item} {s s' : AS} {os os' : List Prop}, run P Γ nt ann k todo s os = some (todo', s', os') → All os' → All os := by
  intro k
  induction k with
  | zero => intro todo todo' s s' os os' h ho; simp [run] at h
  | succ k ih =>
    intro todo todo' s s' os os' h ho
    cases todo with
    | nil => simp only [run] at h; cases h; exact ho
    | cons x r =>
      simp only [run] at h
      repeat' split at h
      all_goals first
        | (cases h; exact ho)
        | exact ih h ho
        | (cases h; done)
        | (rename_i s1 os1 h1; exact runIdx_os h1 (ih h ho))

theorem run_sound {P : Program} {Γ : TT} (hΓ : Γok P Γ) {nt : Nat} {ann : List (Nat × Ann)} {Q : AS → Prop} : ∀ {k : Nat} {todo todo' : List Item} {s s' : AS} {os os' : List Prop}, run P Γ nt ann k todo s os = some (todo', s', os') → All os' → HT P nt todo' s' Q → HT P nt todo s Q := by
  intro k
  induction k with
  | zero => intro todo todo' s s' os os' h ho; simp [run] at h
  | succ k ih =>
    intro todo todo' s s' os os' h ho hQ
    cases todo with
    | nil => simp only [run] at h; cases h; exact hQ
    | cons x r =>
      simp only [run] at h
      split at h
      · cases h
        exact fun C G a w hnt hR b cs => ⟨a, w, .code .ret :: r, ⟨s, G, hQ, hR⟩, .one step_ret⟩
      · exact fun C G a w hnt hR => TW.step (fun b cs => step_skip) ((ih h ho hQ).tw C G a w hnt hR)
      · exact fun C G a w hnt hR => TW.step (fun b cs => step_label) ((ih h ho hQ).tw C G a w hnt hR)
      · exact fun C G a w hnt hR => TW.step (fun b cs => step_inBlock) ((ih h ho hQ).tw C G a w hnt hR)
      · exact fun C G a w hnt hR => TW.step (fun b cs => step_seq) ((ih h ho hQ).tw C G a w hnt hR)
      · rename_i c t e
        split at h
        · rename_i hc
          intro C G a w hnt hR
          have hv := hR.ev hc
          generalize hcv : a.eval c = cv at hv
          cases hv
          exact TW.step (todo' := .code t :: r) (fun b cs => by rw [step_cond hcv, if_pos rfl]) ((ih h ho hQ).tw C G a w hnt hR)
        · rename_i hc
          intro C G a w hnt hR
          have hv := hR.ev hc
          generalize hcv : a.eval c = cv at hv
          cases hv
          exact TW.step (todo' := .code e :: r) (fun b cs => by rw [step_cond hcv, if_neg (by decide)]) ((ih h ho hQ).tw C G a w hnt hR)
        · cases h
      · exact fun C G a w hnt hR => TW.step (fun b cs => step_block) ((ih h ho hQ).tw C G a w hnt hR)
      · cases h
        exact fun C G a w hnt hR => TW.step (fun b cs => step_loop) (hQ.tw C G a w hnt hR)
      · cases h
        exact fun C G a w hnt hR => TW.step (fun b cs => step_inLoop) (hQ.tw C G a w hnt hR)
      · split at h
        · rename_i r' hr'
          exact fun C G a w hnt hR => TW.step (fun b cs => step_exit hr') ((ih h ho hQ).tw C G a w hnt hR)
        · cases h
      · rename_i id ops
        split at h
        · rename_i s1 os1 h1
          have hos1 := run_os h ho
          intro C G a w hnt hR
          subst hnt
          refine TW.step (fun b cs => step_region) (TW.ops ?_)
          exact runIdx_sound hΓ hR h1 hos1 (fun G' a' w' h' => ⟨rfl, (ih h ho hQ).tw C G' a' w' rfl h'⟩)
        · cases h
      · cases h

end Go.AX
