import Derived.Test.YtbedjjckfmhdfaaAxC
set_option linter.unusedVariables false
set_option linter.unusedSimpArgs false
namespace Go.AX
open Go Go.RowKit

/-- Value of an operation on two whole numbers. -/
def intA (op : BinOp) (k : IntKind) (a b : Int) : VR :=
  match op with
  | .add => some (.int k (k.wrap (a + b)), [])
  | .sub => some (.int k (k.wrap (a - b)), [])
  | .mul => some (.int k (k.wrap (a * b)), [])
  | .quo => some (.int k (k.wrap (a.tdiv b)), [b ≠ 0])
  | .rem => some (.int k (a.tmod b), [b ≠ 0])
  | .and => some (.int k (k.wrap (BitVec.ofInt k.bits a &&& BitVec.ofInt k.bits b).toNat), [])
  | .or => some (.int k (k.wrap (BitVec.ofInt k.bits a ||| BitVec.ofInt k.bits b).toNat), [])
  | .xor => some (.int k (k.wrap (BitVec.ofInt k.bits a ^^^ BitVec.ofInt k.bits b).toNat), [])
  | .eql => some (.bool (decide (a = b)), [])
  | .neq => some (.bool (!decide (a = b)), [])
  | .lss => some (.bool (decide (a < b)), [])
  | .leq => some (.bool (decide (a ≤ b)), [])
  | .gtr => some (.bool (decide (b < a)), [])
  | .geq => some (.bool (decide (b ≤ a)), [])
  | _ => none
theorem intA_sound {P : Program} {op : BinOp} {k : IntKind} {a b : Int} {v : AV} {os : List Prop} (h : intA op k a b = some (v, os)) (ho : All os) (t : TypeId) (w : World) (G : Env) :
    ∃ x, (binOp op t (.int k a) (.int k b)).run P w = .ok x w ∧ Rep w G true v x := by
  cases op <;> simp only [intA] at h <;> cases h
  · exact ⟨_, by simp [binOp, Op.intArith], .int _ _ _⟩
  · exact ⟨_, by simp [binOp, Op.intArith], .int _ _ _⟩
  · exact ⟨_, by simp [binOp, Op.intArith], .int _ _ _⟩
  · exact ⟨.int k (k.wrap (a.tdiv b)), by simp only [All] at ho; simp [binOp, Op.intDiv, ho], .int _ _ _⟩
  · exact ⟨.int k (a.tmod b), by simp only [All] at ho; simp [binOp, Op.intDiv, ho], .int _ _ _⟩
  · exact ⟨_, by simp [binOp, Op.intBits], .int _ _ _⟩
  · exact ⟨_, by simp [binOp, Op.intBits], .int _ _ _⟩
  · exact ⟨_, by simp [binOp, Op.intBits], .int _ _ _⟩
  · refine ⟨.bool (a == b), by simp [binOp, Op.intCmp], ?_⟩
    have : (a == b) = decide (a = b) := by by_cases h : a = b <;> simp [h]
    rw [this]; exact .bool _ _
  · refine ⟨.bool (a != b), by simp [binOp, Op.intCmp], ?_⟩
    have : (a != b) = !decide (a = b) := by by_cases h : a = b <;> simp [h]
    rw [this]; exact .bool _ _
  · exact ⟨.bool (decide (a < b)), by simp [binOp, Op.intCmp], .bool _ _⟩
  · exact ⟨.bool (decide (a ≤ b)), by simp [binOp, Op.intCmp], .bool _ _⟩
  · exact ⟨.bool (decide (b < a)), by simp [binOp, Op.intCmp], .bool _ _⟩
  · exact ⟨.bool (decide (b ≤ a)), by simp [binOp, Op.intCmp], .bool _ _⟩

theorem toList_inj (a b : ByteArray) : (a.toList == b.toList) = decide (a = b) := by
  rw [ByteArray.toList_eq, ByteArray.toList_eq]
  by_cases h : a = b
  · subst h; simp
  · have : a.data.toList ≠ b.data.toList := fun e => h (by
      cases a; cases b
      simp at e
      rw [e])
    have h2 : a.data ≠ b.data := fun e => this (by rw [e])
    simp [h, h2]

def strA (op : BinOp) (a b : ByteArray) : VR :=
  match op with
  | .add => some (.str (a ++ b), [a.size + b.size ≤ 9223372036854775807])
  | .eql => some (.bool (decide (a = b)), [])
  | .neq => some (.bool (!decide (a = b)), [])
  | .lss => some (.bool (Op.bytesLess a.toList b.toList), [])
  | .leq => some (.bool (Op.bytesLess a.toList b.toList || decide (a = b)), [])
  | .gtr => some (.bool (!(Op.bytesLess a.toList b.toList || decide (a = b))), [])
  | .geq => some (.bool (!Op.bytesLess a.toList b.toList), [])
  | _ => none
theorem strA_sound {P : Program} {op : BinOp} {a b : ByteArray} {v : AV} {os : List Prop} (h : strA op a b = some (v, os)) (ho : All os) (t : TypeId) (w : World) (G : Env) :
    ∃ x, (binOp op t (.string a) (.string b)).run P w = .ok x w ∧ Rep w G true v x := by
  have hm : IntKind.i64.max = 9223372036854775807 := rfl
  cases op <;> simp only [strA] at h <;> cases h
  · simp only [All] at ho
    refine ⟨.string (a ++ b), ?_, .str _ _⟩
    have : ¬ (((a.size + b.size : Nat) : Int) > IntKind.i64.max) := by rw [hm]; omega
    simp only [binOp, Op.stringOp, this, if_false]
    rfl
  all_goals (refine ⟨.bool _, ?_, .bool _ _⟩; simp only [binOp, Op.stringOp, ← toList_inj]; rfl)

theorem eqGuard_plain {P : Program} {op : BinOp} {t : TypeId} {x y : Operand} {a b : Value} {w : World} (h1 : a ≠ .nilIface ∨ b ≠ .nilIface) (h2 : ∀ cs, a ≠ .agg cs) : (eqGuard op t x y a b).run P w = .ok () w := by
  cases op <;> first
    | rfl
    | (simp only [eqGuard, Bool.not_true, Bool.false_eq_true, if_false]
       split
       · simp_all
       · exact absurd rfl (h2 _)
       · rfl)

/-- '==', '!=' and the rest. -/
def binA (Γ : TT) (op : BinOp) (t : TypeId) (x y : AV) (ann : Option AV) : VR :=
  match x, y with
  | .int k a, .int k' b => if k = k' then intA op k a b else none
  | .str a, .str b => strA op a b
  | .bool a, .bool b => match look Γ t with
    | some ti => match ti.kind, op with
      | .bool, .eql => some (.bool (a == b), [])
      | .bool, .neq => some (.bool (!(a == b)), [])
      | _, _ => none
    | none => none
  | .agg xs, .agg ys => match look Γ t with
    | some ti => match ti.eq, op with
      | some ks, .eql => match eqL ks xs ys with
        | some b => some (.bool b, [])
        | none => none
      | some ks, .neq => match eqL ks xs ys with
        | some b => some (.bool (!b), [])
        | none => none
      | _, _ => none
    | none => none
  | .sl nl n _ _, .sl (some true) 0 [] _ => match look Γ t with
    | some ti => match ti.kind, op with
      | .slice _, .eql => match nl with
        | some b => some (.bool b, [])
        | none => match ann with
          | some (.bool false) => some (.bool false, [0 < n])
          | _ => none
      | .slice _, .neq => match nl with
        | some b => some (.bool (!b), [])
        | none => match ann with
          | some (.bool true) => some (.bool true, [0 < n])
          | _ => none
      | _, _ => none
    | none => none
  | _, _ => none

theorem eq1_val {k : SK} {w : World} {G : Env} {l : Bool} {x y : AV} {b : Bool} (h : eq1 k x y = some b) {v u : Value} (hv : Rep w G l x v) (hu : Rep w G l y u) : zAV v = x ∧ zAV u = y := by
  cases k <;> cases x <;> cases y <;> simp only [eq1] at h <;> first | (cases h; done) | (cases hv; cases hu; exact ⟨rfl, rfl⟩)
theorem eqL_val {ks : List SK} {w : World} {G : Env} {l : Bool} {xs ys : List AV} {b : Bool} (h : eqL ks xs ys = some b) : ∀ {vs us : List Value}, vs.length = xs.length → us.length = ys.length → (∀ (i : Nat) (c : AV) (v : Value), xs[i]? = some c → vs[i]? = some v → Rep w G l c v) →
    (∀ (i : Nat) (c : AV) (v : Value), ys[i]? = some c → us[i]? = some v → Rep w G l c v) → vs.map zAV = xs ∧ us.map zAV = ys := by
  induction ks generalizing xs ys b with
  | nil =>
    intro vs us h1 h2 h3 h4
    cases xs <;> cases ys <;> simp only [eqL] at h <;> first | cases h | skip
    obtain rfl := List.eq_nil_of_length_eq_zero h1
    obtain rfl := List.eq_nil_of_length_eq_zero h2
    exact ⟨rfl, rfl⟩
  | cons k ks ih =>
    intro vs us h1 h2 h3 h4
    cases xs with
    | nil => cases ys <;> simp [eqL] at h
    | cons x xs =>
      cases ys with
      | nil => simp [eqL] at h
      | cons y ys =>
        cases vs with
        | nil => simp at h1
        | cons v vs =>
          cases us with
          | nil => simp at h2
          | cons u us =>
            simp only [eqL] at h
            split at h
            · rename_i a b ha hb
              obtain ⟨e1, e2⟩ := eq1_val ha (h3 0 x v rfl rfl) (h4 0 y u rfl rfl)
              obtain ⟨e3, e4⟩ := ih hb (by simpa using h1) (by simpa using h2) (fun i c v a b => h3 (i + 1) c v (by simpa using a) (by simpa using b)) (fun i c v a b => h4 (i + 1) c v (by simpa using a) (by simpa using b))
              simp [e1, e2, e3, e4]
            · cases h

theorem equal_bool {P : Program} {t : TypeId} {w : World} (hd : P.underlying t = some .bool) (a b : Bool) : (Op.equal t (.bool a) (.bool b)).run P w = .ok (a == b) w := by
  have : ∀ d, (Op.equalIn (d + 1) t (.bool a) (.bool b)).run P w = .ok (a == b) w := fun d => by simp [Op.equalIn, run_underlying hd]
  exact this 9999
theorem equal_nil {P : Program} {t e : TypeId} {w : World} (hd : P.underlying t = some (.slice e)) (A : Option Addr) (n c m k : Nat) : (Op.equal t (.slice A n c) (.slice none m k)).run P w = .ok A.isNone w := by
  have : ∀ d, (Op.equalIn (d + 1) t (.slice A n c) (.slice none m k)).run P w = .ok A.isNone w := fun d => by cases A <;> simp [Op.equalIn, run_underlying hd]
  exact this 9999
theorem bin_equal {P : Program} {t : TypeId} {x y : Value} {w : World} {b : Bool} (h : (Op.equal t x y).run P w = .ok b w) (hx : (∃ b, x = .bool b) ∨ (∃ A n c, x = .slice A n c) ∨ ∃ cs, x = .agg cs) (hy : (∃ b, y = .bool b) ∨ (∃ A n c, y = .slice A n c) ∨ ∃ cs, y = .agg cs) :
    (binOp .eql t x y).run P w = .ok (.bool b) w ∧ (binOp .neq t x y).run P w = .ok (.bool (!b)) w := by
  rcases hx with ⟨_, rfl⟩ | ⟨_, _, _, rfl⟩ | ⟨_, rfl⟩ <;> rcases hy with ⟨_, rfl⟩ | ⟨_, _, _, rfl⟩ | ⟨_, rfl⟩ <;> exact ⟨by simp [binOp, h, Sem.run_bind], by simp [binOp, h, Sem.run_bind]⟩

theorem binA_sound {P : Program} {Γ : TT} (hΓ : Γok P Γ) {op : BinOp} {t : TypeId} {x y : AV} {ann : Option AV} {v : AV} {os : List Prop} (h : binA Γ op t x y ann = some (v, os)) (ho : All os) {w : World} {G : Env} {ox oy : Operand} {vx vy : Value}
    (hx : Rep w G true x vx) (hy : Rep w G true y vy) : ∃ u, (do eqGuard op t ox oy vx vy; binOp op t vx vy : Sem Value).run P w = .ok u w ∧ Rep w G true v u := by
  unfold binA at h
  split at h
  · cases hx; cases hy
    split at h
    · rename_i k a k' b hk
      subst hk
      obtain ⟨u, h1, h2⟩ := intA_sound (P := P) h ho t w G
      refine ⟨u, ?_, h2⟩
      rw [Sem.run_bind, eqGuard_plain (.inl (by simp)) (by simp)]
      exact h1
    · cases h
  · cases hx; cases hy
    obtain ⟨u, h1, h2⟩ := strA_sound (P := P) h ho t w G
    refine ⟨u, ?_, h2⟩
    rw [Sem.run_bind, eqGuard_plain (.inl (by simp)) (by simp)]
    exact h1
  · cases hx; cases hy
    split at h
    · rename_i ti hti
      obtain ⟨i, d, z, hi, hd, hsz, hby, hz, hzs, hz0, hz1, hag, hk⟩ := (hΓ t ti hti).ex
      split at h
      · rename_i a b _ hkk
        cases h
        have hdb : d = .bool := by rw [hkk] at hk; cases d <;> simp_all [kindOk]
        subst hdb
        refine ⟨_, ?_, .bool _ _⟩
        rw [Sem.run_bind, eqGuard_plain (.inl (by simp)) (by simp)]
        exact (bin_equal (equal_bool hd _ _) (.inl ⟨_, rfl⟩) (.inl ⟨_, rfl⟩)).1
      · rename_i a b _ hkk
        cases h
        have hdb : d = .bool := by rw [hkk] at hk; cases d <;> simp_all [kindOk]
        subst hdb
        refine ⟨_, ?_, .bool _ _⟩
        rw [Sem.run_bind, eqGuard_plain (.inl (by simp)) (by simp)]
        exact (bin_equal (equal_bool hd _ _) (.inl ⟨_, rfl⟩) (.inl ⟨_, rfl⟩)).2
      · cases h
    · cases h
  · rename_i xs ys
    cases hx with
    | agg _ _ vs hl hr h1 =>
      cases hy with
      | agg _ _ us hl' hr' h1' =>
        split at h
        · rename_i ti hti
          have hok := hΓ t ti hti
          split at h
          · rename_i ks hks
            split at h
            · rename_i b hb
              cases h
              obtain ⟨e1, e2⟩ := eqL_val hb (vs := vs.toList) (us := us.toList) (by simpa using hl) (by simpa using hl') (fun i c v a b => hr i c v a (by simpa using b)) (fun i c v a b => hr' i c v a (by simpa using b))
              obtain ⟨_, h2⟩ := hok.eqok ks hks
              obtain ⟨h3, h4⟩ := h2 w vs us xs ys b e1 e2 hb
              refine ⟨_, ?_, .bool _ _⟩
              rw [Sem.run_bind, (h3 ox oy).1]
              exact (bin_equal h4 (.inr (.inr ⟨_, rfl⟩)) (.inr (.inr ⟨_, rfl⟩))).1
            · cases h
          · rename_i ks hks
            split at h
            · rename_i b hb
              cases h
              obtain ⟨e1, e2⟩ := eqL_val hb (vs := vs.toList) (us := us.toList) (by simpa using hl) (by simpa using hl') (fun i c v a b => hr i c v a (by simpa using b)) (fun i c v a b => hr' i c v a (by simpa using b))
              obtain ⟨_, h2⟩ := hok.eqok ks hks
              obtain ⟨h3, h4⟩ := h2 w vs us xs ys b e1 e2 hb
              refine ⟨_, ?_, .bool _ _⟩
              rw [Sem.run_bind, (h3 ox oy).2]
              exact (bin_equal h4 (.inr (.inr ⟨_, rfl⟩)) (.inr (.inr ⟨_, rfl⟩))).2
            · cases h
          · cases h
        · cases h
  · rename_i nl n cells o' o''
    cases hx with
    | sl _ _ _ _ _ A c vs hnl hpos hc hcell hrep hclip hown =>
      cases hy with
      | sl _ _ _ _ _ A' c' vs' hnl' hpos' hc' _ _ _ _ =>
        have hA' : A' = none := by have := hnl' true rfl; simpa using this
        subst hA'
        split at h
        · rename_i ti hti
          obtain ⟨i, d, z, hi, hd, hsz, hby, hz, hzs, hz0, hz1, hag, hk⟩ := (hΓ t ti hti).ex
          have main : ∀ e, ti.kind = .slice e → ∀ b, A.isNone = b → (∃ u, (do eqGuard .eql t ox oy (.slice A n c) (.slice none 0 c'); binOp .eql t (.slice A n c) (.slice none 0 c') : Sem Value).run P w = .ok u w ∧ Rep w G true (.bool b) u) ∧
              (∃ u, (do eqGuard .neq t ox oy (.slice A n c) (.slice none 0 c'); binOp .neq t (.slice A n c) (.slice none 0 c') : Sem Value).run P w = .ok u w ∧ Rep w G true (.bool (!b)) u) := by
            intro e hkk b hb
            have hdb : ∃ e, d = .slice e := by rw [hkk] at hk; cases d <;> simp_all [kindOk]
            obtain ⟨e', rfl⟩ := hdb
            constructor
            · refine ⟨.bool b, ?_, .bool _ _⟩
              rw [Sem.run_bind, eqGuard_plain (.inl (by simp)) (by simp), ← hb]
              exact (bin_equal (equal_nil hd A n c 0 c') (.inr (.inl ⟨_, _, _, rfl⟩)) (.inr (.inl ⟨_, _, _, rfl⟩))).1
            · refine ⟨.bool (!b), ?_, .bool _ _⟩
              rw [Sem.run_bind, eqGuard_plain (.inl (by simp)) (by simp), ← hb]
              exact (bin_equal (equal_nil hd A n c 0 c') (.inr (.inl ⟨_, _, _, rfl⟩)) (.inr (.inl ⟨_, _, _, rfl⟩))).2
          have hposA : 0 < n → A.isNone = false := fun hp => by obtain ⟨ad, e, _⟩ := hpos hp; rw [e]; rfl
          split at h
          · rename_i e _ hkk
            split at h
            · rename_i b
              cases h
              exact (main _ hkk b (hnl b rfl)).1
            · split at h
              · cases h
                simp only [All] at ho
                exact (main _ hkk false (hposA ho)).1
              · cases h
          · rename_i e _ hkk
            split at h
            · rename_i b
              cases h
              exact (main _ hkk b (hnl b rfl)).2
            · split at h
              · cases h
                simp only [All] at ho
                exact (main _ hkk false (hposA ho)).2
              · cases h
          · cases h
        · cases h
  · cases h

end Go.AX
