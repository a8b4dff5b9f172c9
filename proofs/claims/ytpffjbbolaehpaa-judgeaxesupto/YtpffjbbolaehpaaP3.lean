import Derived.Test.YtpffjbbolaehpaaP2
import Derived.Orders
section
set_option linter.unusedVariables false
set_option linter.unusedSimpArgs false
namespace Go.AX
open Go Go.RowKit

/-! ### Slices in a variable come under tags -/
def conv1 (s : AS) (x : Bool × Nat × Nat × Nat × TypeId × Nat) : Option AS :=
  match look s.heap x.2.1 with
  | some (.var true cs) => match cs[x.2.2.1]? with
    | some (.sl nl n cells .clip) => match look s.tags x.2.2.2.1 with
      | none => match x.1 with
        | true => match nl, n, cells with
          | some true, 0, [] => some ((s.tag x.2.2.2.1 ⟨0, x.2.2.2.2.1, x.2.2.2.2.2, some (true, [])⟩).blk x.2.1 (.var true (cs.set x.2.2.1 (.vec x.2.2.2.1 0))))
          | _, _, _ => none
        | false => some ((s.tag x.2.2.2.1 ⟨n, x.2.2.2.2.1, x.2.2.2.2.2, none⟩).blk x.2.1 (.var true (cs.set x.2.2.1 (.sl none n cells (.own x.2.2.2.1)))))
      | some _ => none
    | some (.vec t n) => some s
    | some (.sl nl n cells (.own t)) => some s
    | _ => none
  | _ => none
def convAll (s : AS) : List (Bool × Nat × Nat × Nat × TypeId × Nat) → Option AS
  | [] => some s
  | x :: r => match conv1 s x with
    | some s1 => convAll s1 r
    | none => none

theorem clip_nil {A : Option Addr} {c : Nat} (hpos : 0 < c → ∃ ad : Addr, A = some ad ∧ ad.spot = none) : A = none → c = 0 := fun hA => by
  rcases Nat.eq_zero_or_pos c with h0 | h0
  · exact h0
  · obtain ⟨ad, e, _⟩ := hpos h0
    rw [hA] at e
    cases e

theorem conv1_sound {C : Ctx} {G : Env} {s s' : AS} {a : Act} {w : World} (h : RelG C G s a w) {x : Bool × Nat × Nat × Nat × TypeId × Nat} (hs : conv1 s x = some s') : ∃ G', RelG C G' s' a w ∧ Env.Le w G w G' := by
  obtain ⟨b, id, off, t, e, sz⟩ := x
  simp only [conv1] at hs
  split at hs
  · rename_i cs hb
    obtain ⟨g, hg, hbase, ⟨vs, ty, h1, h2, h3, h4, _⟩, hnF⟩ := h.blocks _ _ hb
    -- the variable's cell says something else
    have fin : ∀ (G1 : Env) (m : Tag) (y : AV) (u : Value), RelG C G1 (s.tag t m) a w → Env.Le w G w G1 → vs[off]? = some u → Rep w G1 true y u → ∃ G', RelG C G' ((s.tag t m).blk id (.var true (cs.set off y))) a w ∧ Env.Le w G w G' := by
      intro G1 m y u h5 hle hu hy
      refine ⟨G1, (h5.setBlk (b := .var true cs) (b' := .var true (cs.set off y)) (w' := w) hb (hle.φ _ _ hg) rfl rfl rfl rfl rfl (fun _ _ => rfl) (fun _ => ⟨vs, ty, h1, by simpa using h2, fun i c v hc hv => ?_, h4, fun o ho hw => by cases hw⟩) rfl).1, hle⟩
      rw [List.getElem?_set] at hc
      split at hc
      · rename_i ei
        subst ei
        split at hc
        · cases hc
          rw [hu] at hv
          cases hv
          exact hy
        · cases hc
      · exact (h3 i c v hc hv).mono hle
    split at hs
    · rename_i nl n cells hc
      have hlt : off < vs.size := by rw [h2]; exact (List.getElem?_eq_some_iff.1 hc).1
      have hu := Array.getElem?_eq_getElem hlt
      have hr := h3 off _ _ hc hu
      generalize vs[off] = u at hu hr
      split at hs
      · rename_i ht
        cases hr with
        | sl _ _ _ _ _ A c us hnl hpos hcc hcell hrep hclip hown =>
        have hcn := hclip rfl
        subst hcn
        split at hs
        · split at hs
          · rename_i e1 _ _ _
            cases hs
            have hA : A = none := by have := hnl true rfl; simpa using this
            subst hA
            obtain ⟨h5, hle⟩ := h.addTag (t := t) (m := ⟨0, e, sz, some (true, [])⟩) (r := ⟨true, .slice none 0 0, 0, e, sz, []⟩) ht rfl rfl rfl (fun ho => by cases ho) (fun _ => ⟨⟨by simp, .inl ⟨rfl, rfl⟩⟩, fun u hu => by simp at hu, fun g hg => by cases hg⟩) (fun b cells hc => by
              cases hc
              exact ⟨rfl, rfl, fun i c v hi => by simp at hi, fun hb => by cases hb⟩)
            exact fin _ _ _ _ h5 hle hu (.vec _ _ _ _ _ ⟨true, .slice none 0 0, 0, e, sz, []⟩ (by simp [Env.setT]) (Nat.le_refl _) (fun _ => rfl))
          · cases hs
        · cases hs
          obtain ⟨h5, hle⟩ := h.addTag (t := t) (m := ⟨c, e, sz, none⟩) (r := ⟨false, .slice A c c, c, e, sz, []⟩) ht rfl rfl rfl (fun _ => ⟨rfl, A, rfl, clip_nil hpos⟩) (fun ho => by cases ho) (fun b cs hc => by cases hc)
          refine fin _ _ _ _ h5 hle hu (.sl _ _ _ _ _ A c us (fun b e => by cases e) hpos hcc (fun j z hz => ?_) (fun j z hz => (hrep j z hz).mono hle) (fun e => by cases e) (fun t' e' => ?_))
          · obtain ⟨ad, h6, h7, h8, h9, h10⟩ := hcell j z hz
            exact ⟨ad, h6, h7, hle.F _ _ h8, h9, h10⟩
          · cases e'
            exact ⟨rfl, ⟨false, .slice A c c, c, e, sz, []⟩, by simp [Env.setT], Nat.le_refl _, fun _ => rfl⟩
      · cases hs
    · cases hs; exact ⟨G, h, Env.Le.refl _ _⟩
    · cases hs; exact ⟨G, h, Env.Le.refl _ _⟩
    · cases hs
  · cases hs
theorem convAll_sound {C : Ctx} {a : Act} {w : World} : ∀ {l : List (Bool × Nat × Nat × Nat × TypeId × Nat)} {G : Env} {s s' : AS}, RelG C G s a w → convAll s l = some s' → ∃ G', RelG C G' s' a w ∧ Env.Le w G w G'
  | [], G, s, s', h, hs => by cases hs; exact ⟨G, h, Env.Le.refl _ _⟩
  | x :: r, G, s, s', h, hs => by
    simp only [convAll] at hs
    split at hs
    · rename_i s1 h1
      obtain ⟨G1, r1, r2⟩ := conv1_sound h h1
      obtain ⟨G2, r3, r4⟩ := convAll_sound r1 hs
      exact ⟨G2, r3, r2.trans r4⟩
    · cases hs

/-! ### A call over memory that is lent -/
def argsM (s M : AS) : List AV → Option (List AV × List Prop)
  | [] => some ([], [])
  | x :: r => match idsOk M x with
    | true => match argsM s M r with
      | some (ys, b) => some (x :: ys, b)
      | none => none
    | false => match treeH s x, argsM s M r with
      | some (y, a), some (ys, b) => some (y :: ys, a ++ b)
      | _, _ => none
theorem argsM_get {s M : AS} : ∀ {xs ys : List AV} {os : List Prop}, argsM s M xs = some (ys, os) → All os → ys.length = xs.length ∧ ∀ (i : Nat) (y : AV), ys[i]? = some y → ∃ x : AV, xs[i]? = some x ∧ ((idsOk M x = true ∧ y = x) ∨ ∃ os', treeH s x = some (y, os') ∧ All os')
  | [], ys, os, h, ho => by cases h; exact ⟨rfl, fun i y h => by simp at h⟩
  | x :: xs, ys, os, h, ho => by
    simp only [argsM] at h
    split at h
    · rename_i hid
      split at h
      · rename_i ys' b h1
        cases h
        obtain ⟨h2, h3⟩ := argsM_get h1 ho
        refine ⟨by simp [h2], fun i y hy => ?_⟩
        match i, hy with
        | 0, hy =>
          simp at hy
          exact ⟨x, rfl, .inl ⟨hid, hy.symm⟩⟩
        | n + 1, hy => simpa using h3 n y (by simpa using hy)
      · cases h
    · split at h
      · rename_i y' a ys' b h1 h2
        cases h
        obtain ⟨ho1, ho2⟩ := All_append.1 ho
        obtain ⟨h3, h4⟩ := argsM_get h2 ho2
        refine ⟨by simp [h3], fun i y hy => ?_⟩
        match i, hy with
        | 0, hy =>
          simp at hy
          subst hy
          exact ⟨x, rfl, .inr ⟨a, h1, ho1⟩⟩
        | n + 1, hy => simpa using h4 n y (by simpa using hy)
      · cases h

def lendOk (s : AS) (M : MemS) (h' : List (Nat × Blk)) (t' : List (Nat × Tag)) : Bool :=
  keysGe M.heap && (keysGe M.tags && (idsH M.as M.heap && (keysIn h' M.heap && (keysIn t' M.tags && (keysNew M.heap s.heap h' && keysNew M.tags s.tags t')))))

def callMA (P : Program) (s : AS) (f : AV) (xs : List AV) (ann : Option Ann) : SR :=
  match f, ann with
  | .fn fid caps, some (.callM cv zs hs gs h' t' res) => match convAll s cv with
    | some s0 => match freezeAll s0 zs with
      | some (s1, a) => match argsM s1 (MemS.as ⟨pickK hs s1.heap, pickK gs s1.tags⟩) (xs ++ caps), lendOk s1 ⟨pickK hs s1.heap, pickK gs s1.tags⟩ h' t' with
        | some (ys, b), true => some (⟨s1.tmps, h' ++ s1.heap, t' ++ s1.tags⟩, res, a ++ (b ++ [CtrM P fid ⟨pickK hs s1.heap, pickK gs s1.tags⟩ ys ⟨h', t'⟩ res]))
        | _, _ => none
      | none => none
    | none => none
  | _, _ => none

theorem callMA_sound {P : Program} {C : Ctx} {G : Env} {s s' : AS} {a : Act} {w : World} (h : RelG C G s a w) {f y : AV} {xs : List AV} {ann : Option Ann} {vf : Value} {us : Array Value} (hf : Rep w G true f vf) (hl : us.size = xs.length) (hx : ∀ (i : Nat) (c : AV) (v : Value), xs[i]? = some c → us[i]? = some v → Rep w G true c v)
    {os : List Prop} (hn : callMA P s f xs ann = some (s', y, os)) (ho : All os) : ∃ fid caps, vf = .func (.func fid) #[] caps ∧ (callFunc fid (us ++ caps)).run P w = .ok (.enter fid (us ++ caps)) w ∧
      Calls P fid (us ++ caps) w fun e w' => ∃ v G', e = .returned v ∧ RelG C G' s' a w' ∧ Rep w' G' true y v := by
  unfold callMA at hn
  split at hn
  · rename_i fid caps cv zs hs gs h' t' res
    cases hf with
    | fn _ _ _ cvs hcl hcr =>
    split at hn
    · rename_i s0 hs0
      obtain ⟨G0, hR0, hle0⟩ := convAll_sound h hs0
      split at hn
      · rename_i s1 a1 hs1
        split at hn
        · rename_i ys b1 hys hok
          cases hn
          obtain ⟨ho1, ho2⟩ := All_append.1 ho
          obtain ⟨ho2, hctr⟩ := All_append.1 ho2
          simp only [All] at hctr
          obtain ⟨G1, hR1, hle1⟩ := freezeAll_sound hR0 hs1 ho1
          obtain ⟨hy1, hy2⟩ := argsM_get hys ho2
          simp only [lendOk, Bool.and_eq_true] at hok
          obtain ⟨k1, k2, k3, k4, k5, k6, k7⟩ := hok
          let M : MemS := ⟨pickK hs s1.heap, pickK gs s1.tags⟩
          have hH : ∀ i b, look M.heap i = some b → look s1.heap i = some b := fun i b hb => pickK_look hb
          have hT : ∀ t n, look M.tags t = some n → look s1.tags t = some n := fun t n hn => pickK_look hn
          have hst := lend_start hR1.mem k1 k2 hH hT k3
          have hargs : ∀ (i : Nat) (c : AV) (v : Value), ys[i]? = some c → (us ++ cvs)[i]? = some v → Rep w (G1.cut M.as) true c v := by
            intro i c v hc hv
            obtain ⟨x, hx', hor⟩ := hy2 i c hc
            have hrx : Rep w G1 true x v := by
              by_cases hi : i < xs.length
              · rw [List.getElem?_append_left hi] at hx'
                rw [Array.getElem?_append_left (by omega)] at hv
                exact ((hx i x v hx' hv).mono hle0).mono hle1
              · rw [List.getElem?_append_right (by omega)] at hx'
                rw [Array.getElem?_append_right (by omega), hl] at hv
                exact ((hcr _ x v hx' hv).mono hle0).mono hle1
            rcases hor with ⟨h1, rfl⟩ | ⟨os', h1, h2⟩
            · exact idsOk_rep hrx h1
            · exact (Rep.tree (G' := G1.cut M.as) (treeH_sound hR1 hrx h1 h2) (fun b o hf => hf)).up
          refine ⟨_, cvs, rfl, hctr.1 _ _, (hctr.2 (lendC w G1 M k1 k2) (us ++ cvs) hst (by rw [hy1]; simp [hl, hcl]) hargs).mono fun e w' hh => ?_⟩
          obtain ⟨v, G2, rfl, hm, hr⟩ := hh
          obtain ⟨G3, h3, h4, h5⟩ := lend_end hR1.mem k1 k2 hH hT hm (fun i hi => keysIn_look k4 hi) (fun i hi => keysIn_look k5 hi) (fun i hi => keysNew_look k6 hi) (fun i hi => keysNew_look k7 hi)
          exact ⟨v, G3, rfl, hR1.mv h3 h4, hr.mono h5⟩
        · cases hn
      · cases hn
    · cases hn
  · cases hn

def callB (P : Program) (s : AS) (d : Nat) (f : AV) (xs : List AV) (ann : Option Ann) : SR :=
  match ann with
  | some (.callM cv zs hs gs h' t' res) => callMA P s f xs (some (.callM cv zs hs gs h' t' res))
  | x => callA P s d f xs x
theorem callB_sound {P : Program} {C : Ctx} {G : Env} {s s' : AS} {a : Act} {w : World} (h : RelG C G s a w) {d : Nat} {f y : AV} {xs : List AV} {ann : Option Ann} {vf : Value} {us : Array Value} (hf : Rep w G true f vf) (hl : us.size = xs.length) (hx : ∀ (i : Nat) (c : AV) (v : Value), xs[i]? = some c → us[i]? = some v → Rep w G true c v)
    {os : List Prop} (hn : callB P s d f xs ann = some (s', y, os)) (ho : All os) : ∃ fid caps, vf = .func (.func fid) #[] caps ∧ (callFunc fid (us ++ caps)).run P w = .ok (.enter fid (us ++ caps)) w ∧
      Calls P fid (us ++ caps) w fun e w' => ∃ v G', e = .returned v ∧ RelG C G' s' a w' ∧ Rep w' G' true y v := by
  unfold callB at hn
  split at hn
  · exact callMA_sound h hf hl hx hn ho
  · exact callA_sound h hf hl hx hn ho
end Go.AX
end

section
set_option linter.unusedVariables false
set_option linter.unusedSimpArgs false
namespace Go.AX
open Go Go.RowKit

def lookO {α : Type} (l : List (Nat × α)) : Option Nat → Option α
  | some d => look l d
  | none => none

/-- The hint of a call: at its slot, or at the function's number. -/
def annC (ann : List (Nat × Ann)) (f : AV) (d : Option Nat) : Option Ann :=
  match lookO ann d with
  | some a => some a
  | none => match f with
    | .fn fid _ => look ann (1000000 + fid)
    | _ => none
/-- The number under which what is new is kept. -/
def annI (a : Option Ann) (d : Nat) : Nat :=
  match a with
  | some (.id i) => i
  | _ => d
def finO (nt : Nat) (r : SR) (d : Option Nat) : Option (AS × List Prop) :=
  match r, d with
  | some (s', v, os), some d => match Nat.blt d nt with
    | true => some (s'.put d v, os)
    | false => none
  | _, _ => none
/-- A test that is said to come out so. -/
def litK (ann : List (Nat × Ann)) : Option Nat → Option Ann
  | some d => look ann (2000000 + d)
  | none => none
def litV (a : Option Ann) (r : SR) : SR :=
  match a with
  | some (.val (.bool b)) => match r with
    | some (s, .bool e, os) => some (s, .bool b, os ++ [e = b])
    | x => x
  | _ => r
theorem litV_spec {a : Option Ann} {r : SR} {s : AS} {v : AV} {os : List Prop} (h : litV a r = some (s, v, os)) (ho : All os) : ∃ os', r = some (s, v, os') ∧ All os' := by
  unfold litV at h
  split at h
  · split at h
    · rename_i e os1
      cases h
      obtain ⟨h1, h2⟩ := All_append.1 ho
      simp only [All] at h2
      subst h2
      exact ⟨os1, rfl, h1⟩
    · exact ⟨os, h, ho⟩
  · exact ⟨os, h, ho⟩
/-- One operation. -/
def stepOp (P : Program) (Γ : TT) (nt : Nat) (ann : List (Nat × Ann)) (s : AS) (o : Oper) : Option (AS × List Prop) :=
  match o.op with
  | .store t p x => match s.ev p, s.ev x, o.dst with
    | some u, some v, none => storeA Γ s t u v
    | _, _, _ => none
  | .call ⟨.value f, args, _⟩ => match s.ev f, evs s args.toList with
    | some u, some vs => finO nt (litV (litK ann o.dst) (callB P s (o.dst.getD 0) u vs (annC ann u o.dst))) o.dst
    | _, _ => none
  | op => finO nt (litV (litK ann o.dst) (stepV Γ s (annI (lookO ann o.dst) (o.dst.getD 0)) op (Ann.v? (lookO ann o.dst)))) o.dst

theorem fin_spec {dd : Option Nat} {nt : Nat} {r : SR} {s' : AS} {os : List Prop} (h : finO nt r dd = some (s', os)) : ∃ s1 v d, r = some (s1, v, os) ∧ dd = some d ∧ d < nt ∧ s' = s1.put d v := by
  unfold finO at h
  split at h
  · rename_i s1 v os1 d
    split at h
    · rename_i hb
      cases h
      exact ⟨s1, v, d, rfl, rfl, Nat.le_of_ble_eq_true hb, rfl⟩
    · cases h
  · cases h

theorem stepOp_sound {P : Program} {Γ : TT} (hΓ : Γok P Γ) {C : Ctx} {G : Env} {s s' : AS} {a : Act} {w : World} (h : RelG C G s a w) {ann : List (Nat × Ann)} {o : Oper} {os : List Prop} (hs : stepOp P Γ C.nt ann s o = some (s', os)) (ho : All os) {K : Act → World → Prop} {Q : Exit → Act → World → Prop}
    (hK : ∀ G' a' w', RelG C G' s' a' w' → K a' w') : o.wp P a w K Q := by
  have viaV : ∀ {s1 : AS} {v : AV} {d : Nat}, OpV P C s1 a w o v → o.dst = some d → d < C.nt → s' = s1.put d v → o.wp P a w K Q := by
    intro s1 v d hv hd hlt e
    obtain ⟨x, w', G', h1, h2, h3⟩ := hv
    unfold Oper.wp
    rw [h1, Oper.upon_value, hd]
    subst e
    exact hK _ _ _ (h2.put hlt h3)
  unfold stepOp at hs
  split at hs
  · rename_i t p x hop
    split at hs
    · rename_i u v hu hv hd
      obtain ⟨w', G', h1, h2⟩ := storeA_sound (P := P) hΓ h (h.ev hu) (h.ev hv) hs ho
      unfold Oper.wp
      have : (execOp a.eval o).run P w = .ok .skip w' := by
        simp only [execOp, hop, Sem.run_bind, h1, Result.andThen_ok, Sem.run_pure]
      rw [this, Oper.upon_skip, hd]
      exact hK _ _ _ h2
    · cases hs
  · rename_i f args ts hop
    split at hs
    · rename_i u vs hu hvs
      obtain ⟨s1, v, d, h1, hd, hlt, e⟩ := fin_spec hs
      obtain ⟨os', h1, ho⟩ := litV_spec h1 ho
      obtain ⟨hl, hx⟩ := evs_sound h hvs
      obtain ⟨fid, caps, hf, hcf, hc⟩ := callB_sound h (us := args.map a.eval) (h.ev hu) (by simp [hl]) (fun i c v hc hv => hx i c v hc (by simpa using hv)) h1 ho
      unfold Oper.wp
      have : (execOp a.eval o).run P w = .ok (.enter fid (args.map a.eval ++ caps)) w := by
        simp only [execOp, hop, resolve, Deferred.ofValue, hf, Sem.run_bind, Sem.run_pure, Result.andThen_ok, invoke, Array.empty_append]
        exact hcf
      rw [this, Oper.upon_enter]
      refine hc.mono fun e' w' hh => ?_
      obtain ⟨v', G', rfl, h2, h3⟩ := hh
      simp only [hd]
      subst e
      exact hK _ _ _ (h2.put hlt h3)
    · cases hs
  · obtain ⟨s1, v, d, h1, hd, hlt, e⟩ := fin_spec hs
    obtain ⟨os', h1, ho⟩ := litV_spec h1 ho
    exact viaV (stepV_sound hΓ h h1 ho) hd hlt e

/-! ### Regions in the order of the text -/
def gval (s : AS) (ops : Array Oper) (j : Nat) : Option (Option Bool) :=
  match ops[j]? with
  | some o => match lookO s.tmps o.dst with
    | some (.bool b) => some (some b)
    | some (.tup []) => some none
    | _ => none
  | none => none
def skipO (nt : Nat) (s : AS) : Option Nat → Option AS
  | some d => match Nat.blt d nt with
    | true => some (s.put d (.tup []))
    | false => none
  | none => some s
def oper1 (P : Program) (Γ : TT) (nt : Nat) (ann : List (Nat × Ann)) (ops : Array Oper) (s : AS) (o : Oper) : Option (AS × List Prop) :=
  match o.guard with
  | none => stepOp P Γ nt ann s o
  | some (j, want) => match gval s ops j with
    | some (some true) => match want with
      | true => stepOp P Γ nt ann s o
      | false => (skipO nt s o.dst).map fun s' => (s', [])
    | some (some false) => match want with
      | true => (skipO nt s o.dst).map fun s' => (s', [])
      | false => stepOp P Γ nt ann s o
    | some none => (skipO nt s o.dst).map fun s' => (s', [])
    | none => none
def runIdx (P : Program) (Γ : TT) (nt : Nat) (ann : List (Nat × Ann)) (ops : Array Oper) : List Nat → AS → List Prop → Option (AS × List Prop)
  | [], s, os => some (s, os)
  | i :: rest, s, os => match ops[i]? with
    | none => none
    | some o => match oper1 P Γ nt ann ops s o with
      | some (s', os') => runIdx P Γ nt ann ops rest s' (os ++ os')
      | none => none

theorem gval_sound {C : Ctx} {G : Env} {s : AS} {a : Act} {w : World} (h : RelG C G s a w) {ops : Array Oper} {j : Nat} {b : Option Bool} (hg : gval s ops j = some b) : yielded ops a.tmps j = b := by
  unfold gval at hg
  split at hg
  · rename_i o ho
    split at hg
    · rename_i b' hb
      cases hg
      cases hd : o.dst with
      | none => rw [hd] at hb; cases hb
      | some d =>
        rw [hd] at hb
        obtain ⟨x, hx, hr⟩ := h.slots d _ hb
        cases hr
        simp [yielded, ho, hd, hx]
    · rename_i hb
      cases hg
      cases hd : o.dst with
      | none => rw [hd] at hb; cases hb
      | some d =>
        rw [hd] at hb
        obtain ⟨x, hx, hr⟩ := h.slots d _ hb
        cases hr
        simp [yielded, ho, hd, hx]
    · cases hg
  · cases hg

theorem skipO_sound {C : Ctx} {G : Env} {s s' : AS} {a : Act} {w : World} (h : RelG C G s a w) {d : Option Nat} (hs : skipO C.nt s d = some s') : RelG C G s' (a.put d undef) w := by
  cases d with
  | none => cases hs; exact h
  | some d =>
    simp only [skipO] at hs
    split at hs
    · rename_i hb
      cases hs
      exact h.put (Nat.le_of_ble_eq_true hb) (.tup _ _ _ rfl (fun i c v hc _ => by simp at hc))
    · cases hs

/-- An operation under its guard, as the model's list of operations has it. -/
theorem oper1_sound {P : Program} {Γ : TT} (hΓ : Γok P Γ) {C : Ctx} {G : Env} {s s' : AS} {a : Act} {w : World} (h : RelG C G s a w) {ann : List (Nat × Ann)} {ops : Array Oper} {o : Oper} {os : List Prop} (hs : oper1 P Γ C.nt ann ops s o = some (s', os)) (ho : All os) {K : Act → World → Prop} {Q : Exit → Act → World → Prop}
    (hK : ∀ G' a' w', RelG C G' s' a' w' → K a' w') : if Region.wanted o (yielded ops a.tmps) then o.wp P a w K Q else K (a.put o.dst undef) w := by
  unfold oper1 at hs
  split at hs
  · rename_i hgd
    have : Region.wanted o (yielded ops a.tmps) = true := by simp [Region.wanted, hgd]
    rw [if_pos this]
    exact stepOp_sound hΓ h hs ho hK
  · rename_i j want hgd
    have hw : ∀ b, gval s ops j = some b → Region.wanted o (yielded ops a.tmps) = (b == some want) := fun b hb => by
      simp [Region.wanted, hgd, gval_sound h hb]
    have sk : Region.wanted o (yielded ops a.tmps) = false → (skipO C.nt s o.dst).map (fun s' => (s', ([] : List Prop))) = some (s', os) → if Region.wanted o (yielded ops a.tmps) then o.wp P a w K Q else K (a.put o.dst undef) w := by
      intro hf hm
      rw [if_neg (by rw [hf]; decide)]
      rw [Option.map_eq_some_iff] at hm
      obtain ⟨s1, h1, h2⟩ := hm
      cases h2
      exact hK _ _ _ (skipO_sound h h1)
    split at hs
    · rename_i hg
      split at hs
      · rw [if_pos (by rw [hw _ hg]; rfl)]
        exact stepOp_sound hΓ h hs ho hK
      · exact sk (by rw [hw _ hg]; rfl) hs
    · rename_i hg
      split at hs
      · exact sk (by rw [hw _ hg]; rfl) hs
      · rw [if_pos (by rw [hw _ hg]; rfl)]
        exact stepOp_sound hΓ h hs ho hK
    · rename_i hg
      exact sk (by rw [hw _ hg]; rfl) hs
    · cases hs

theorem runIdx_os {P : Program} {Γ : TT} {nt : Nat} {ann : List (Nat × Ann)} {ops : Array Oper} : ∀ {l : List Nat} {s s' : AS} {os os' : List Prop}, runIdx P Γ nt ann ops l s os = some (s', os') → All os' → All os
  | [], s, s', os, os', h, ho => by cases h; exact ho
  | i :: rest, s, s', os, os', h, ho => by
    simp only [runIdx] at h
    split at h
    · cases h
    · split at h
      · exact (All_append.1 (runIdx_os h ho)).1
      · cases h

theorem runIdx_sound {P : Program} {Γ : TT} (hΓ : Γok P Γ) {C : Ctx} {ann : List (Nat × Ann)} {ops : Array Oper} {Q : Exit → Act → World → Prop} : ∀ {l : List Nat} {G : Env} {s s' : AS} {a : Act} {w : World} {os os' : List Prop}, RelG C G s a w → runIdx P Γ C.nt ann ops l s os = some (s', os') → All os' →
    (∀ G' a' w', RelG C G' s' a' w' → Q .normal a' w') → wpOps P ops Q l a w
  | [], G, s, s', a, w, os, os', h, hs, ho, hQ => by cases hs; exact hQ _ _ _ h
  | i :: rest, G, s, s', a, w, os, os', h, hs, ho, hQ => by
    simp only [runIdx] at hs
    split at hs
    · cases hs
    · rename_i o hoi
      split at hs
      · rename_i s1 os1 h1
        have hos1 := (All_append.1 (runIdx_os hs ho)).2
        have key := oper1_sound (Q := Q) (K := wpOps P ops Q rest) hΓ h h1 hos1 (fun G' a' w' h' => runIdx_sound hΓ h' hs ho hQ)
        simp only [wpOps, hoi]
        split at key
        · rename_i hw
          rw [if_pos hw]
          exact .inl key
        · rename_i hw
          rw [if_neg hw]
          exact key
      · cases hs

/-! ### What is still to be done of a function's text -/
def TW (P : Program) (todo : List Item) (R : Act → World → Prop) (a : Act) (w : World) : Prop :=
  ∀ (b : Frame) (cs : List Frame), ∃ a' w' todo', R a' w' ∧ Steps P (lone (b.at a todo) cs w) (lone { b.at a' todo' with mode := .returning } cs w')

def HT0 (P : Program) (nt : Nat) (todo : List Item) (s : AS) (Q : AS → Prop) : Prop :=
  ∀ (C : Ctx) (G : Env) (a : Act) (w : World), C.nt = nt → RelG C G s a w → TW P todo (fun a' w' => ∃ s' G', Q s' ∧ RelG C G' s' a' w') a w
/-- Out of a state: the text that is left comes to the end, in a state of Q. -/
def HT (P : Program) (nt : Nat) (todo : List Item) (s : AS) (Q : AS → Prop) : Prop :=
  match todo with
  | [] => Q s
  | x :: r => HT0 P nt (x :: r) s Q
theorem HT.tw {P : Program} {nt : Nat} {todo : List Item} {s : AS} {Q : AS → Prop} (h : HT P nt todo s Q) : HT0 P nt todo s Q := by
  cases todo with
  | nil => exact fun C G a w hnt hR b cs => ⟨a, w, [], ⟨s, G, h, hR⟩, .one step_end⟩
  | cons x r => exact h

theorem TW.step {P : Program} {todo todo' : List Item} {R : Act → World → Prop} {a : Act} {w : World} (hs : ∀ (b : Frame) (cs : List Frame), step P (lone (b.at a todo) cs w) = .next (lone (b.at a todo') cs w)) (h : TW P todo' R a w) : TW P todo R a w := by
  intro b cs
  obtain ⟨a', w', t, h1, h2⟩ := h b cs
  exact ⟨a', w', t, h1, .head (hs b cs) h2⟩

theorem TW.ops {P : Program} {ops : Array Oper} {l : List Nat} {k : List Item} {R : Act → World → Prop} {a : Act} {w : World} (h : wpOps P ops (fun e a w => e = .normal ∧ TW P k R a w) l a w) : TW P (.inRegion ops l :: k) R a w := by
  intro b cs
  obtain ⟨e, a', w', ⟨rfl, hq⟩, harr⟩ := wp_ops l a w h b k cs
  obtain ⟨a2, w2, t, h1, h2⟩ := hq b cs
  exact ⟨a2, w2, t, h1, Steps.trans harr h2⟩

def run (P : Program) (Γ : TT) (nt : Nat) (ann : List (Nat × Ann)) : Nat → List Item → AS → List Prop → Option (List Item × AS × List Prop)
  | 0, _, _, _ => none
  | _ + 1, [], s, os => some ([], s, os)
  | k + 1, x :: r, s, os => match x with
    | .code .ret => some ([], s, os)
    | .code .skip => run P Γ nt ann k r s os
    | .code (.label _) => run P Γ nt ann k r s os
    | .inBlock _ => run P Γ nt ann k r s os
    | .code (.seq a b) => run P Γ nt ann k (.code a :: .code b :: r) s os
    | .code (.cond c t e) => match s.ev c with
      | some (.bool true) => run P Γ nt ann k (.code t :: r) s os
      | some (.bool false) => run P Γ nt ann k (.code e :: r) s os
      | _ => none
    | .code (.block id body) => run P Γ nt ann k (.code body :: .inBlock id :: r) s os
    | .code (.loop body) => some (.code body :: .inLoop body :: r, s, os)
    | .inLoop body => some (.code body :: .inLoop body :: r, s, os)
    | .code (.exit id) => match exitTo id r with
      | some r' => run P Γ nt ann k r' s os
      | none => none
    | .code (.region _ ops false) => match runIdx P Γ nt ann ops (List.range ops.size) s os with
      | some (s', os') => run P Γ nt ann k r s' os'
      | none => none
    | _ => none

theorem run_os {P : Program} {Γ : TT} {nt : Nat} {ann : List (Nat × Ann)} : ∀ {k : Nat} {todo todo' : List Item} {s s' : AS} {os os' : List Prop}, run P Γ nt ann k todo s os = some (todo', s', os') → All os' → All os := by
  intro k
  induction k with
  | zero => intro todo todo' s s' os os' h ho; simp [run] at h
  | succ k ih =>
    intro todo todo' s s' os os' h ho
    cases todo with
    | nil => simp only [run] at h; cases h; exact ho
    | cons x r =>
      simp only [run] at h
      repeat' split at h
      all_goals first
        | (cases h; exact ho)
        | exact ih h ho
        | (cases h; done)
        | (rename_i s1 os1 h1; exact runIdx_os h1 (ih h ho))

theorem run_sound {P : Program} {Γ : TT} (hΓ : Γok P Γ) {nt : Nat} {ann : List (Nat × Ann)} {Q : AS → Prop} : ∀ {k : Nat} {todo todo' : List Item} {s s' : AS} {os os' : List Prop}, run P Γ nt ann k todo s os = some (todo', s', os') → All os' → HT P nt todo' s' Q → HT P nt todo s Q := by
  intro k
  induction k with
  | zero => intro todo todo' s s' os os' h ho; simp [run] at h
  | succ k ih =>
    intro todo todo' s s' os os' h ho hQ
    cases todo with
    | nil => simp only [run] at h; cases h; exact hQ
    | cons x r =>
      simp only [run] at h
      split at h
      · cases h
        exact fun C G a w hnt hR b cs => ⟨a, w, .code .ret :: r, ⟨s, G, hQ, hR⟩, .one step_ret⟩
      · exact fun C G a w hnt hR => TW.step (fun b cs => step_skip) ((ih h ho hQ).tw C G a w hnt hR)
      · exact fun C G a w hnt hR => TW.step (fun b cs => step_label) ((ih h ho hQ).tw C G a w hnt hR)
      · exact fun C G a w hnt hR => TW.step (fun b cs => step_inBlock) ((ih h ho hQ).tw C G a w hnt hR)
      · exact fun C G a w hnt hR => TW.step (fun b cs => step_seq) ((ih h ho hQ).tw C G a w hnt hR)
      · rename_i c t e
        split at h
        · rename_i hc
          intro C G a w hnt hR
          have hv := hR.ev hc
          generalize hcv : a.eval c = cv at hv
          cases hv
          exact TW.step (todo' := .code t :: r) (fun b cs => by rw [step_cond hcv, if_pos rfl]) ((ih h ho hQ).tw C G a w hnt hR)
        · rename_i hc
          intro C G a w hnt hR
          have hv := hR.ev hc
          generalize hcv : a.eval c = cv at hv
          cases hv
          exact TW.step (todo' := .code e :: r) (fun b cs => by rw [step_cond hcv, if_neg (by decide)]) ((ih h ho hQ).tw C G a w hnt hR)
        · cases h
      · exact fun C G a w hnt hR => TW.step (fun b cs => step_block) ((ih h ho hQ).tw C G a w hnt hR)
      · cases h
        exact fun C G a w hnt hR => TW.step (fun b cs => step_loop) (hQ.tw C G a w hnt hR)
      · cases h
        exact fun C G a w hnt hR => TW.step (fun b cs => step_inLoop) (hQ.tw C G a w hnt hR)
      · split at h
        · rename_i r' hr'
          exact fun C G a w hnt hR => TW.step (fun b cs => step_exit hr') ((ih h ho hQ).tw C G a w hnt hR)
        · cases h
      · rename_i id ops
        split at h
        · rename_i s1 os1 h1
          have hos1 := run_os h ho
          intro C G a w hnt hR
          subst hnt
          refine TW.step (fun b cs => step_region) (TW.ops ?_)
          exact runIdx_sound hΓ hR h1 hos1 (fun G' a' w' h' => ⟨rfl, (ih h ho hQ).tw C G' a' w' rfl h'⟩)
        · cases h
      · cases h

end Go.AX
end

section
set_option linter.unusedVariables false
set_option linter.unusedSimpArgs false
namespace Go.AX
open Go Go.RowKit

/-! ### A state that says less -/
def nlLe : Option Bool → Option Bool → Bool
  | _, none => true
  | some a, some b => a == b
  | none, some _ => false
def ownLe : Own → Own → Bool
  | _, .no => true
  | .clip, .clip => true
  | .own t, .own u => Nat.beq t u
  | _, _ => false
mutual
def leP : AV → AV → Option (List Prop)
  | _, .undef => some []
  | .int k a, .int k' b => if k = k' then some [a = b] else none
  | .bool a, .bool b => some [a = b]
  | .str a, .str b => some [a = b]
  | .sl nl n c o, .sl nl' n' c' o' => match nlLe nl nl', ownLe o o' with
    | true, true => some [n = n', c = c']
    | _, _ => none
  | .agg xs, .agg ys => leL xs ys
  | .tup xs, .tup ys => leL xs ys
  | .fn f xs, .fn g ys => match Nat.beq f g with
    | true => leL xs ys
    | false => none
  | .rop c o, .rop c' o' => some [c = c', o = o']
  | .ptr b o, .ptr b' o' => match Nat.beq b b' with
    | true => some [o = o']
    | false => none
  | .row b o n, .row b' o' n' => match Nat.beq b b' with
    | true => some [o = o', n = n']
    | false => none
  | .nilp, .nilp => some []
  | .nilFn, .nilFn => some []
  | .vec t n, .vec t' n' => match Nat.beq t t' with
    | true => some [n = n']
    | false => none
  | _, _ => none
def leL : List AV → List AV → Option (List Prop)
  | [], [] => some []
  | x :: xs, y :: ys => match leP x y, leL xs ys with
    | some a, some b => some (a ++ b)
    | _, _ => none
  | _, _ => none
end

theorem leL_get : ∀ {xs ys : List AV} {os : List Prop}, leL xs ys = some os → All os → xs.length = ys.length ∧ ∀ (i : Nat) (x y : AV), xs[i]? = some x → ys[i]? = some y → ∃ os', leP x y = some os' ∧ All os'
  | [], [], os, h, ho => ⟨rfl, fun i x y hx => by simp at hx⟩
  | [], _ :: _, os, h, ho => by simp [leL] at h
  | _ :: _, [], os, h, ho => by simp [leL] at h
  | x :: xs, y :: ys, os, h, ho => by
    simp only [leL] at h
    split at h
    · rename_i a b h1 h2
      cases h
      obtain ⟨ho1, ho2⟩ := All_append.1 ho
      obtain ⟨h3, h4⟩ := leL_get h2 ho2
      refine ⟨by simp [h3], fun i x' y' hx hy => ?_⟩
      match i, hx, hy with
      | 0, hx, hy =>
        simp at hx hy
        subst hx; subst hy
        exact ⟨a, h1, ho1⟩
      | n + 1, hx, hy => exact h4 n x' y' (by simpa using hx) (by simpa using hy)
    · cases h

theorem leP_rep {w : World} {G : Env} {l : Bool} {x : AV} {v : Value} (h : Rep w G l x v) : ∀ {y : AV} {os : List Prop}, leP x y = some os → All os → Rep w G l y v := by
  have lists : ∀ (xs ys : List AV) (vs : Array Value) (os : List Prop), vs.size = xs.length → leL xs ys = some os → All os → (∀ (i : Nat) (c : AV) (v : Value), xs[i]? = some c → vs[i]? = some v → ∀ {y : AV} {os : List Prop}, leP c y = some os → All os → Rep w G l y v) →
      vs.size = ys.length ∧ ∀ (i : Nat) (c : AV) (v : Value), ys[i]? = some c → vs[i]? = some v → Rep w G l c v := by
    intro xs ys vs os hl h1 ho ih
    obtain ⟨h2, h3⟩ := leL_get h1 ho
    refine ⟨by omega, fun i c v hc hv => ?_⟩
    have hlt : i < xs.length := by rw [h2]; exact (List.getElem?_eq_some_iff.1 hc).1
    obtain ⟨os', h4, h5⟩ := h3 i xs[i] c (List.getElem?_eq_getElem hlt) hc
    exact ih i xs[i] v (List.getElem?_eq_getElem hlt) hv h4 h5
  have hh := h
  induction h with
  | undef l v =>
    intro y os hy ho
    cases y <;> simp only [leP] at hy <;> first | cases hy | exact .undef _ _
    exact .undef _ _
  | int l k n =>
    intro y os hy ho
    cases y <;> simp only [leP] at hy <;> first | (cases hy; done) | skip
    · exact .undef _ _
    · split at hy
      · cases hy
        simp only [All] at ho
        subst ho
        rename_i e
        subst e
        exact hh
      · cases hy
  | bool l b =>
    intro y os hy ho
    cases y <;> simp only [leP] at hy <;> first | (cases hy; done) | skip
    · exact .undef _ _
    · cases hy
      simp only [All] at ho
      subst ho
      exact hh
  | str l s =>
    intro y os hy ho
    cases y <;> simp only [leP] at hy <;> first | (cases hy; done) | skip
    · exact .undef _ _
    · cases hy
      simp only [All] at ho
      subst ho
      exact hh
  | agg l cs vs hl h h1 ih =>
    intro y os hy ho
    cases y <;> simp only [leP] at hy <;> first | (cases hy; done) | skip
    · exact .undef _ _
    · obtain ⟨h2, h3⟩ := lists cs _ vs os hl hy ho (fun i c v a b => ih i c v a b (fun xs ys vs os e1 e2 e3 e4 => lists xs ys vs os e1 e2 e3 e4) (h i c v a b))
      exact .agg _ _ _ h2 h3 h1
  | tup l cs vs hl h ih =>
    intro y os hy ho
    cases y <;> simp only [leP] at hy <;> first | (cases hy; done) | skip
    · exact .undef _ _
    · obtain ⟨h2, h3⟩ := lists cs _ vs os hl hy ho (fun i c v a b => ih i c v a b (fun xs ys vs os e1 e2 e3 e4 => lists xs ys vs os e1 e2 e3 e4) (h i c v a b))
      exact .tup _ _ _ h2 h3
  | fn l f cs vs hl h ih =>
    intro y os hy ho
    cases y <;> simp only [leP] at hy <;> first | (cases hy; done) | skip
    · exact .undef _ _
    · split at hy
      · rename_i hb
        have e := Nat.eq_of_beq_eq_true hb
        subst e
        obtain ⟨h2, h3⟩ := lists cs _ vs os hl hy ho (fun i c v a b => ih i c v a b (fun xs ys vs os e1 e2 e3 e4 => lists xs ys vs os e1 e2 e3 e4) (h i c v a b))
        exact .fn _ _ _ _ h2 h3
      · cases hy
  | nilFn l =>
    intro y os hy ho
    cases y <;> simp only [leP] at hy <;> first | (cases hy; done) | skip
    · exact .undef _ _
    · exact hh
  | sl l nl n cells o A c vs hnl hpos hc hcell hrep hclip hown ih =>
    intro y os hy ho
    cases y <;> simp only [leP] at hy <;> first | (cases hy; done) | skip
    · exact .undef _ _
    · split at hy
      · rename_i h1 h2
        cases hy
        simp only [All] at ho
        obtain ⟨rfl, rfl⟩ := ho
        refine .sl _ _ _ _ _ _ _ vs (fun b hb => ?_) hpos hc hcell hrep (fun e => ?_) (fun t e => ?_)
        · subst hb
          cases nl with
          | none => simp [nlLe] at h1
          | some a =>
            simp [nlLe] at h1
            exact hnl b (by rw [h1])
        · subst e
          cases o <;> simp [ownLe] at h2
          exact hclip rfl
        · subst e
          cases o <;> simp [ownLe] at h2
          subst h2
          exact hown _ rfl
      · cases hy
  | rop l cells off ad vs hcell hrep ih =>
    intro y os hy ho
    cases y <;> simp only [leP] at hy <;> first | (cases hy; done) | skip
    · exact .undef _ _
    · cases hy
      simp only [All] at ho
      obtain ⟨rfl, rfl⟩ := ho
      exact hh
  | nilp l =>
    intro y os hy ho
    cases y <;> simp only [leP] at hy <;> first | (cases hy; done) | skip
    · exact .undef _ _
    · exact hh
  | ptr id off g h =>
    intro y os hy ho
    cases y <;> simp only [leP] at hy <;> first | (cases hy; done) | skip
    · exact .undef _ _
    · split at hy
      · rename_i hb
        have e := Nat.eq_of_beq_eq_true hb
        subst e
        cases hy
        simp only [All] at ho
        subst ho
        exact hh
      · cases hy
  | row id off n g c h hc =>
    intro y os hy ho
    cases y <;> simp only [leP] at hy <;> first | (cases hy; done) | skip
    · exact .undef _ _
    · split at hy
      · rename_i hb
        have e := Nat.eq_of_beq_eq_true hb
        subst e
        cases hy
        simp only [All] at ho
        obtain ⟨rfl, rfl⟩ := ho
        exact hh
      · cases hy
  | vec t n A m c r h hle hv =>
    intro y os hy ho
    cases y <;> simp only [leP] at hy <;> first | (cases hy; done) | skip
    · exact .undef _ _
    · split at hy
      · rename_i hb
        have e := Nat.eq_of_beq_eq_true hb
        subst e
        cases hy
        simp only [All] at ho
        subst ho
        exact hh
      · cases hy
  | vptr t n off p r h hle hv =>
    intro y os hy ho
    cases y <;> simp only [leP] at hy <;> first | (cases hy; done) | skip
    exact .undef _ _

def leB : Blk → Blk → Option (List Prop)
  | .var wr xs, .var wr' ys => match wr == wr' with
    | true => leL xs ys
    | false => none
  | .rows wr xs, .rows wr' ys => match wr == wr' with
    | true => some [xs = ys]
    | false => none
  | .iter s p, .iter s' p' => some [s = s', p = p']
  | _, _ => none
def leT (u v : Tag) : Option (List Prop) :=
  match Nat.beq u.e v.e, Nat.beq u.sz v.sz with
  | true, true => match u.cs, v.cs with
    | none, none => some [u.n = v.n]
    | some (b, c), some (b', c') => match b == b' with
      | true => some [u.n = v.n, c = c']
      | false => none
    | _, _ => none
  | _, _ => none
def among (l : List Nat) (i : Nat) : Bool := l.any (Nat.beq i)
/-- What must hold for this memory to be what the state has. -/
def weakH (s M : AS) : List (Nat × Blk) → Option (List Prop)
  | [] => some []
  | (i, v) :: r => match look s.heap i, idsB M v with
    | some u, true => match leB u v, weakH s M r with
      | some a, some b => some (a ++ b)
      | _, _ => none
    | _, _ => none
def weakG (s : AS) : List (Nat × Tag) → Option (List Prop)
  | [] => some []
  | (i, v) :: r => match look s.tags i with
    | some u => match leT u v, weakG s r with
      | some a, some b => some (a ++ b)
      | _, _ => none
    | none => none
theorem weakH_get {s M : AS} : ∀ {l : List (Nat × Blk)} {os : List Prop}, weakH s M l = some os → All os → ∀ i v, look l i = some v → ∃ u os', look s.heap i = some u ∧ idsB M v = true ∧ leB u v = some os' ∧ All os'
  | [], os, h, ho, i, v, hv => by simp [look] at hv
  | (j, x) :: r, os, h, ho, i, v, hv => by
    simp only [weakH] at h
    split at h
    · rename_i u hu hid
      split at h
      · rename_i a b h1 h2
        cases h
        obtain ⟨ho1, ho2⟩ := All_append.1 ho
        rw [look_cons] at hv
        split at hv
        · rename_i e
          cases hv
          subst e
          exact ⟨u, a, hu, hid, h1, ho1⟩
        · exact weakH_get h2 ho2 i v hv
      · cases h
    · cases h
theorem weakG_get {s : AS} : ∀ {l : List (Nat × Tag)} {os : List Prop}, weakG s l = some os → All os → ∀ i v, look l i = some v → ∃ u os', look s.tags i = some u ∧ leT u v = some os' ∧ All os'
  | [], os, h, ho, i, v, hv => by simp [look] at hv
  | (j, x) :: r, os, h, ho, i, v, hv => by
    simp only [weakG] at h
    split at h
    · rename_i u hu
      split at h
      · rename_i a b h1 h2
        cases h
        obtain ⟨ho1, ho2⟩ := All_append.1 ho
        rw [look_cons] at hv
        split at hv
        · rename_i e
          cases hv
          subst e
          exact ⟨u, a, hu, h1, ho1⟩
        · exact weakG_get h2 ho2 i v hv
      · cases h
    · cases h
theorem leB_ok {w : World} {G : Env} {g : Nat} {u v : Blk} (h : BlkOk w G g u) {os : List Prop} (hl : leB u v = some os) (ho : All os) : BlkOk w G g v ∧ v.rw = u.rw := by
  cases u with
  | var wr xs =>
    cases v with
    | var wr' ys =>
      simp only [leB] at hl
      split at hl
      · rename_i hw
        have hw' : wr = wr' := by simpa using hw
        subst hw'
        obtain ⟨hl, hget⟩ := leL_get hl ho
        obtain ⟨vs, e, k1, k2, k3, k4, k5⟩ := h
        refine ⟨⟨vs, e, k1, by omega, fun j c v hc hv => ?_, k4, fun o ho hw => k5 o (by omega) hw⟩, rfl⟩
        have hlt : j < xs.length := by rw [hl]; exact (List.getElem?_eq_some_iff.1 hc).1
        obtain ⟨os2, h4, h5⟩ := hget j xs[j] c (List.getElem?_eq_getElem hlt) hc
        exact leP_rep (k3 j xs[j] v (List.getElem?_eq_getElem hlt) hv) h4 h5
      · cases hl
    | _ => simp [leB] at hl
  | rows wr xs =>
    cases v with
    | rows wr' ys =>
      simp only [leB] at hl
      split at hl
      · rename_i hw
        have hw' : wr = wr' := by simpa using hw
        subst hw'
        cases hl
        simp only [All] at ho
        subst ho
        exact ⟨h, rfl⟩
      · cases hl
    | _ => simp [leB] at hl
  | iter s p =>
    cases v with
    | iter s' p' =>
      simp only [leB] at hl
      cases hl
      simp only [All] at ho
      obtain ⟨rfl, rfl⟩ := ho
      exact ⟨h, rfl⟩
    | _ => simp [leB] at hl
theorem leT_eq {u v : Tag} {os : List Prop} (hl : leT u v = some os) (ho : All os) : u = v := by
  obtain ⟨n, e, sz, cs⟩ := u
  obtain ⟨n', e', sz', cs'⟩ := v
  simp only [leT] at hl
  split at hl
  · rename_i h1 h2
    have e1 := Nat.eq_of_beq_eq_true h1
    have e2 := Nat.eq_of_beq_eq_true h2
    subst e1; subst e2
    split at hl
    · cases hl
      simp only [All] at ho
      subst ho
      rfl
    · split at hl
      · rename_i b1 c1 b2 c2 _ hb
        cases hl
        simp only [All] at ho
        obtain ⟨rfl, rfl⟩ := ho
        have e3 : b1 = b2 := by simpa using hb
        subst e3
        rfl
      · cases hl
    · cases hl
  · cases hl

theorem RelM.weak {C : Ctx} {G : Env} {s : AS} {w : World} (h : RelM C G s.heap s.tags w) {M : AS} {a b : List Prop} (hH : weakH s M M.heap = some a) (hoH : All a) (hG : weakG s M.tags = some b) (hoG : All b)
    (k1 : ∀ i, C.G0.φ i ≠ none → isS (look M.heap i) = true) (k2 : ∀ t, C.G0.τ t ≠ none → isS (look M.tags t) = true) : RelM C (G.cut M) M.heap M.tags w := by
  refine ⟨h.keep, ⟨h.le.F, h.le.cell, fun i g hg => ?_, fun t r hr => ?_⟩, h.fdom, h.fold, fun i v hv => ?_, fun i hi => by simp [Env.cut, hi, isS], fun i j g hi hj => h.inj i j g (cut_φ hi).1 (cut_φ hj).1, fun t n hn => ?_, fun t ht => by simp [Env.cut, ht, isS]⟩
  · have := h.le.φ i g hg
    simp [Env.cut, k1 i (by rw [hg]; simp), this]
  · obtain ⟨r', hr', h1⟩ := h.le.τ t r hr
    exact ⟨r', by simp [Env.cut, k2 t (by rw [hr]; simp), hr'], h1⟩
  · obtain ⟨u, os', h1, h2, h3, h4⟩ := weakH_get hH hoH i v hv
    obtain ⟨g, hg, hbase, hok, hnF⟩ := h.blocks i u h1
    obtain ⟨k3, k4⟩ := leB_ok hok h3 h4
    exact ⟨g, by simp [Env.cut, hv, isS, hg], hbase, k3.cut h2, by rw [k4]; exact hnF⟩
  · obtain ⟨u, os', h1, h2, h3⟩ := weakG_get hG hoG t n hn
    have := leT_eq h2 h3
    subst this
    obtain ⟨r, hr, hok⟩ := h.tags t u h1
    refine ⟨r, by simp [Env.cut, hn, isS, hr], ⟨hok.hn, hok.he, hok.hsz, hok.clip, hok.own, hok.one, hok.base, hok.hF, fun ho g hg i hi => hok.hφ ho g hg i (cut_φ hi).1, fun ho g hg t' r' hr' => hok.hτ ho g hg t' r' (cut_τ hr').1, fun b cells hc => ?_⟩⟩
    obtain ⟨k1, k2, k3, k4⟩ := hok.hcs b cells hc
    exact ⟨k1, k2, fun i c v hi hv => (k3 i c v hi hv).tree (fun b o hf => hf), k4⟩

end Go.AX
end

section
set_option linter.unusedVariables false
set_option linter.unusedSimpArgs false
namespace Go.AX
open Go Go.RowKit

/-! ### A function's begin -/
def number {α : Type} : Nat → List α → List (Nat × α)
  | _, [] => []
  | i, x :: r => (i, x) :: number (i + 1) r
theorem number_get {α : Type} : ∀ (l : List α) (k i : Nat), look (number k l) i = if k ≤ i then l[i - k]? else none
  | [], k, i => by simp [number, look]
  | x :: r, k, i => by
    simp only [number, look_cons, number_get r (k + 1) i]
    by_cases h : k = i
    · subst h; simp
    · rw [if_neg h]
      by_cases h2 : k + 1 ≤ i
      · rw [if_pos h2, if_pos (by omega)]
        have : i - k = (i - (k + 1)) + 1 := by omega
        rw [this, List.getElem?_cons_succ]
      · rw [if_neg h2, if_neg (by omega)]
def st0 (args : List AV) : AS := ⟨number 0 args, [], []⟩

def ctx0 (w : World) (F : Nat → Nat → Prop) (nt : Nat) : Ctx := ⟨w, envF F, nt, fun _ => False, fun _ _ => rfl, fun _ _ => rfl⟩
theorem start_rel {w : World} {F : Nat → Nat → Prop} {args : List AV} {vs : Array Value} (hF : ∀ b o, F b o → b < w.heap.size) (ha : Args w F args vs) {nt : Nat} (hnt : args.length ≤ nt) :
    RelG (ctx0 w F nt) (envF F) (st0 args) { tmps := vs ++ Array.replicate (nt - vs.size) undef, defers := [] } w := by
  obtain ⟨h1, h2⟩ := ha
  refine ⟨rfl, by simp [ctx0]; omega, ?_, ⟨Keep.refl _ _, Env.Le.refl _ _, hF, fun b o hf _ => .inl hf, fun i b hb => by simp [st0, look] at hb, fun i _ => rfl, fun i j g hi => by simp [envF] at hi, fun t n ht => by simp [st0, look] at ht, fun t _ => rfl⟩⟩
  intro i v hv
  simp only [st0, number_get, Nat.zero_le, if_true, Nat.sub_zero] at hv
  have hlt : i < vs.size := by rw [h1]; exact (List.getElem?_eq_some_iff.1 hv).1
  refine ⟨vs[i], by rw [Array.getElem?_append_left hlt, Array.getElem?_eq_getElem hlt], (h2 i v vs[i] hv (Array.getElem?_eq_getElem hlt)).up⟩
/-- A state where memory is lent. -/
def stM (args : List AV) (M : MemS) : AS := ⟨number 0 args, M.heap, M.tags⟩
theorem startM_rel {C : Ctx} {M : MemS} {args : List AV} {vs : Array Value} (hm : RelM C C.G0 M.heap M.tags C.w0) (h1 : vs.size = args.length) (h2 : ∀ (i : Nat) (c : AV) (v : Value), args[i]? = some c → vs[i]? = some v → Rep C.w0 C.G0 true c v) {nt : Nat} (hnt : args.length ≤ nt) :
    RelG { C with nt := nt } C.G0 (stM args M) { tmps := vs ++ Array.replicate (nt - vs.size) undef, defers := [] } C.w0 := by
  refine ⟨rfl, by simp; omega, ?_, ⟨hm.keep, hm.le, hm.fdom, hm.fold, hm.blocks, hm.noblock, hm.inj, fun t n hn => ?_, hm.notag⟩⟩
  · intro i v hv
    simp only [stM, number_get, Nat.zero_le, if_true, Nat.sub_zero] at hv
    have hlt : i < vs.size := by rw [h1]; exact (List.getElem?_eq_some_iff.1 hv).1
    exact ⟨vs[i], by rw [Array.getElem?_append_left hlt, Array.getElem?_eq_getElem hlt], h2 i v vs[i] hv (Array.getElem?_eq_getElem hlt)⟩
  · obtain ⟨r, hr, hok⟩ := hm.tags t n hn
    exact ⟨r, hr, ⟨hok.hn, hok.he, hok.hsz, hok.clip, hok.own, hok.one, hok.base, hok.hF, hok.hφ, hok.hτ, hok.hcs⟩⟩

/-! ### A function's end -/
def ret1 (Γ : TT) (s : AS) : ResultVar → Option AV
  | .tmp t => look s.tmps t
  | .cell a t => match look s.tmps a with
    | some (.ptr id off) => match loadA Γ s t (.ptr id off) none with
      | some (v, []) => some v
      | some (v, [_]) => match look Γ t, look s.heap id with
        | some ti, some (.var _ cs) => match Nat.ble (off + ti.size) cs.length with
          | true => some v
          | false => none
        | _, _ => none
      | _ => none
    | _ => none
def retL (Γ : TT) (s : AS) : List ResultVar → Option (List AV)
  | [] => some []
  | r :: rs => match ret1 Γ s r, retL Γ s rs with
    | some v, some l => some (v :: l)
    | _, _ => none
def retA (Γ : TT) (s : AS) (rs : List ResultVar) : Option AV :=
  match retL Γ s rs with
  | some [v] => some v
  | some l => some (.tup l)
  | none => none

/-- A part of what is handed back, as the contract has it. -/
def finT (s : AS) (x y : AV) : Option (List Prop) :=
  match y with
  | .sl nl' n' c' (.fresh e sz) => match x with
    | .sl nl n c (.own t) => match look s.tags t, nlLe nl nl' with
      | some g, true => match Nat.beq g.e e, Nat.beq g.sz sz with
        | true, true => some [n = n', c = c', g.n = n]
        | _, _ => none
      | _, _ => none
    | .sl nl n c .clip => match nlLe nl nl' with
      | true => some [n = n', c = c']
      | false => none
    | _ => none
  | _ => match treeH s x with
    | some (z, a) => match leP z y with
      | some b => some (a ++ b)
      | none => none
    | none => none
def finL (s : AS) : List AV → List AV → Option (List Prop)
  | [], [] => some []
  | x :: xs, y :: ys => match finT s x y, finL s xs ys with
    | some a, some b => some (a ++ b)
    | _, _ => none
  | _, _ => none
/-- The tags that are given away. -/
def given : List AV → List AV → List Nat
  | .sl _ _ _ (.own t) :: xs, .sl _ _ _ (.fresh _ _) :: ys => t :: given xs ys
  | _ :: xs, _ :: ys => given xs ys
  | _, _ => []
def nodupB : List Nat → Bool
  | [] => true
  | x :: xs => !(xs.any (Nat.beq x)) && nodupB xs
def shape (x y : AV) : Bool :=
  match x, y with
  | .agg _, .agg _ => true
  | .tup _, .tup _ => true
  | .agg _, _ => false
  | .tup _, _ => false
  | _, .agg _ => false
  | _, .tup _ => false
  | _, .undef => false
  | _, _ => true
def retP (Γ : TT) (zs : List Nat) (s : AS) (rs : List ResultVar) (res : AV) : Option (List Prop) :=
  match freezeAll s zs with
  | some (s1, a) => match retA Γ s1 rs with
    | some x => match shape x res, nodupB (given (tops x) (tops res)) with
      | true, true => match finL s1 (tops x) (tops res) with
        | some b => some (a ++ b)
        | none => none
      | _, _ => none
    | none => none
  | none => none

theorem ret1_sound {P : Program} {Γ : TT} (hΓ : Γok P Γ) {C : Ctx} {G : Env} {s : AS} {a : Act} {w : World} (h : RelG C G s a w) {r : ResultVar} {v : AV} (hr : ret1 Γ s r = some v) :
    ∃ x, ((match r with | .tmp t => pure (a.tmps.getD t undef) | .cell b t => do loadVar t (← asAddr (a.tmps.getD b undef)) : Sem Value)).run P w = .ok x w ∧ Rep w G true v x := by
  cases r with
  | tmp t =>
    obtain ⟨x, h1, h2⟩ := h.slots t v hr
    exact ⟨x, by simp [h1], h2⟩
  | cell b t =>
    simp only [ret1] at hr
    split at hr
    · rename_i id off hb
      obtain ⟨x, h1, h2⟩ := h.slots b _ hb
      have key : ∃ os, loadA Γ s t (.ptr id off) none = some (v, os) ∧ All os := by
        split at hr
        · rename_i v' hl
          cases hr
          exact ⟨[], hl, trivial⟩
        · rename_i v' p hl
          split at hr
          · rename_i ti wr cs hti hcs
            split at hr
            · rename_i hble
              cases hr
              refine ⟨_, hl, ?_⟩
              simp only [loadA, hti, hcs, cellsAt] at hl
              split at hl
              · cases hl
                exact Nat.le_of_ble_eq_true hble
              · split at hl <;> cases hl
            · cases hr
          · cases hr
        · cases hr
      obtain ⟨os, h3, h4⟩ := key
      obtain ⟨y, h5, h6⟩ := loadA_sound (P := P) hΓ h h2 h3 h4
      refine ⟨y, ?_, h6⟩
      cases h2 with
      | ptr _ _ g hg =>
        simp only [Instr.loadAt, Instr.sureAddr, Sem.run_bind, Sem.run_pure, Result.andThen_ok] at h5
        simp [h1, asAddr, h5]
    · cases hr

theorem retL_sound {P : Program} {Γ : TT} (hΓ : Γok P Γ) {C : Ctx} {G : Env} {s : AS} {a : Act} {w : World} (h : RelG C G s a w) : ∀ {rs : List ResultVar} {l : List AV}, retL Γ s rs = some l → ∃ xs : List Value, (rs.mapM fun r => (match r with | .tmp t => pure (a.tmps.getD t undef) | .cell b t => do loadVar t (← asAddr (a.tmps.getD b undef)) : Sem Value)).run P w = .ok xs w ∧
    xs.length = l.length ∧ ∀ (i : Nat) (c : AV) (v : Value), l[i]? = some c → xs[i]? = some v → Rep w G true c v
  | [], l, hl => by cases hl; exact ⟨[], rfl, rfl, fun i c v hc => by simp at hc⟩
  | r :: rs, l, hl => by
    simp only [retL] at hl
    split at hl
    · rename_i v l' h1 h2
      cases hl
      obtain ⟨x, h3, h4⟩ := ret1_sound (P := P) hΓ h h1
      obtain ⟨xs, h5, h6, h7⟩ := retL_sound hΓ h h2
      refine ⟨x :: xs, ?_, by simp [h6], fun i c u hc hu => ?_⟩
      · rw [List.mapM_cons, Sem.run_bind, h3]
        simp only [Result.andThen_ok, Sem.run_bind, h5, Sem.run_pure]
      · match i, hc, hu with
        | 0, hc, hu =>
          simp at hc hu
          subst hc; subst hu
          exact h4
        | n + 1, hc, hu => exact h7 n c u (by simpa using hc) (by simpa using hu)
    · cases hl

theorem retA_sound {P : Program} {Γ : TT} (hΓ : Γok P Γ) {C : Ctx} {G : Env} {s : AS} {a : Act} {w : World} (h : RelG C G s a w) {fn : Func} {v : AV} (hr : retA Γ s fn.results.toList = some v) : ∃ x, (results fn a.tmps).run P w = .ok x w ∧ Rep w G true v x := by
  have core : ∀ {l : List AV}, retL Γ s fn.results.toList = some l → ∃ xs : List Value, (results fn a.tmps).run P w = .ok (if h : xs.length = 1 then xs[0] else .tuple xs.toArray) w ∧ xs.length = l.length ∧ ∀ (i : Nat) (c : AV) (v : Value), l[i]? = some c → xs[i]? = some v → Rep w G true c v := by
    intro l hl
    obtain ⟨xs, h1, h2, h3⟩ := retL_sound (P := P) hΓ h hl
    refine ⟨xs, ?_, h2, h3⟩
    unfold results
    rw [Sem.run_bind, Array.mapM_eq_mapM_toList, map_eq_pure_bind, Sem.run_bind]
    erw [h1]
    simp only [Result.andThen_ok, Sem.run_pure, List.size_toArray]
    by_cases h9 : xs.length = 1 <;> simp [h9]
  unfold retA at hr
  split at hr
  · rename_i v' hl
    cases hr
    obtain ⟨xs, h1, h2, h3⟩ := core hl
    have hl1 : xs.length = 1 := by simpa using h2
    rw [dif_pos hl1] at h1
    exact ⟨_, h1, h3 0 v xs[0] rfl (List.getElem?_eq_getElem (by omega))⟩
  · rename_i l hne hl
    cases hr
    obtain ⟨xs, h1, h2, h3⟩ := core hl
    have hl1 : ¬ xs.length = 1 := by
      rw [h2]
      intro e
      match l, e, hne with
      | [x], _, hne => exact hne x rfl
    rw [dif_neg hl1] at h1
    exact ⟨_, h1, .tup _ _ _ (by simpa using h2) fun i c v hc hv => h3 i c v hc (by simpa using hv)⟩
  · cases hr

end Go.AX
end

section
set_option linter.unusedVariables false
set_option linter.unusedSimpArgs false
namespace Go.AX
open Go Go.RowKit

def tsAt (xs ys : List AV) (i : Nat) : Option Nat :=
  match xs[i]?, ys[i]? with
  | some (.sl _ _ _ (.own t)), some (.sl _ _ _ (.fresh _ _)) => some t
  | _, _ => none
theorem given_mem : ∀ (xs ys : List AV) (i t : Nat), tsAt xs ys i = some t → t ∈ given xs ys
  | [], ys, i, t, h => by simp [tsAt] at h
  | x :: xs, [], i, t, h => by
    simp only [tsAt] at h
    split at h
    · rename_i h2; simp at h2
    · cases h
  | x :: xs, y :: ys, i, t, h => by
    match i, h with
    | 0, h =>
      simp only [tsAt, List.getElem?_cons_zero] at h
      split at h
      · rename_i h1 h2
        cases h
        cases h1; cases h2
        simp [given]
      · cases h
    | n + 1, h =>
      have h' : tsAt xs ys n = some t := by simpa [tsAt] using h
      have ih := given_mem xs ys n t h'
      unfold given
      split
      · rename_i e1 e2
        cases e1; cases e2
        exact List.mem_cons_of_mem _ ih
      · rename_i _ e1 e2
        cases e1; cases e2
        exact ih
      · rename_i hne
        exact absurd rfl (hne _ _ _ _ rfl)
theorem given_inj : ∀ (xs ys : List AV) (i j t : Nat), nodupB (given xs ys) = true → tsAt xs ys i = some t → tsAt xs ys j = some t → i = j
  | [], ys, i, j, t, hn, h, h' => by simp [tsAt] at h
  | x :: xs, [], i, j, t, hn, h, h' => by
    simp only [tsAt] at h
    split at h
    · rename_i h2; simp at h2
    · cases h
  | x :: xs, y :: ys, i, j, t, hn, h, h' => by
    have head : ∀ {u}, tsAt (x :: xs) (y :: ys) 0 = some u → given (x :: xs) (y :: ys) = u :: given xs ys := by
      intro u hu
      simp only [tsAt, List.getElem?_cons_zero] at hu
      split at hu
      · rename_i h1 h2
        cases hu
        cases h1; cases h2
        rfl
      · cases hu
    have tail : nodupB (given xs ys) = true := by
      unfold given at hn
      split at hn
      · rename_i e1 e2
        cases e1; cases e2
        simp only [nodupB, Bool.and_eq_true] at hn
        exact hn.2
      · rename_i _ e1 e2
        cases e1; cases e2
        exact hn
      · rename_i hne
        exact absurd rfl (hne _ _ _ _ rfl)
    have no : ∀ {n u}, tsAt (x :: xs) (y :: ys) 0 = some u → tsAt xs ys n = some u → False := by
      intro n u h1 h2
      rw [head h1] at hn
      simp only [nodupB, Bool.and_eq_true, Bool.not_eq_true'] at hn
      have := given_mem xs ys n u h2
      have h3 := List.any_eq_false.1 hn.1 u this
      simp at h3
    match i, j, h, h' with
    | 0, 0, h, h' => rfl
    | 0, n + 1, h, h' => exact (no h (by simpa [tsAt] using h')).elim
    | n + 1, 0, h, h' => exact (no h' (by simpa [tsAt] using h)).elim
    | n + 1, m + 1, h, h' => rw [given_inj xs ys n m t tail (by simpa [tsAt] using h) (by simpa [tsAt] using h')]

theorem finT_undef (s : AS) (y : AV) : finT s .undef y = none := by unfold finT; split <;> simp [treeH]
theorem finL_undef (s : AS) (ys : List AV) : finL s [.undef] ys = none := by
  cases ys with
  | nil => rfl
  | cons y ys => simp [finL, finT_undef]

theorem own_raise {w : World} {b : Nat} {e : TypeId} {size n : Nat} {v : Value} {xs : List Value} (h : w.ownsRow 0 e size v n xs) (hb : ∀ g, v.ownBlock = some g → b ≤ g) : w.ownsRow b e size v n xs := by
  refine ⟨h.1, ?_⟩
  rcases h.2 with h2 | ⟨g, cap, cur, e1, hg, h3⟩
  · exact .inl h2
  · exact .inr ⟨g, cap, cur, e1, hb g (by rw [e1]; rfl), h3⟩

theorem finT_sound {C : Ctx} {G : Env} {s : AS} {a : Act} {w : World} (hL : ∀ g, ¬ C.L g) (hR : RelG C G s a w) {x y : AV} {u : Value} (hx : Rep w G true x u) {os : List Prop} (h : finT s x y = some os) (ho : All os) :
    ∃ r, FrOk C.w0.heap.size w y u r ∧ Rep w G false y u ∧ ∀ r', r = some r' → r'.o = true → ∃ t nl n c nl' n' c' e sz, x = .sl nl n c (.own t) ∧ y = .sl nl' n' c' (.fresh e sz) ∧ G.τ t = some r' := by
  have other : (∀ nl n c e sz, y ≠ .sl nl n c (.fresh e sz)) → (match treeH s x with | some (z, a) => (match leP z y with | some b => some (a ++ b) | none => none) | none => none : Option (List Prop)) = some os → ∃ r, FrOk C.w0.heap.size w y u r ∧ Rep w G false y u ∧ ∀ r', r = some r' → r'.o = true → ∃ t nl n c nl' n' c' e sz, x = .sl nl n c (.own t) ∧ y = .sl nl' n' c' (.fresh e sz) ∧ G.τ t = some r' := by
    intro hy h
    split at h
    · rename_i z a1 hz
      split at h
      · rename_i b1 hb1
        cases h
        obtain ⟨ho1, ho2⟩ := All_append.1 ho
        refine ⟨none, ?_, leP_rep (treeH_sound hR hx hz ho1) hb1 ho2, fun r' e => by cases e⟩
        cases y with
        | sl nl n c o =>
          cases o with
          | fresh e sz => exact absurd rfl (hy _ _ _ _ _)
          | _ => trivial
        | _ => trivial
      · cases h
    · cases h
  unfold finT at h
  split at h
  · rename_i nl' n' c' e sz
    split at h
    · rename_i nl n c t
      split at h
      · rename_i g hg hnl
        split at h
        · rename_i h1 h2
          cases h
          simp only [All] at ho
          obtain ⟨rfl, rfl, hgn⟩ := ho
          obtain ⟨r, hr, hok⟩ := hR.tags t g hg
          have e1 := Nat.eq_of_beq_eq_true h1
          have e2 := Nat.eq_of_beq_eq_true h2
          rw [← hok.hn] at hgn
          rw [← hok.he] at e1
          rw [← hok.hsz] at e2
          cases hx with
          | sl _ _ _ _ _ A c1 vs hnl' hpos hc hcell hrep hclip hown' =>
          obtain ⟨_, r2, hr2, hle, hv⟩ := hown' t rfl
          rw [hr] at hr2
          cases hr2
          have hv' := hv hgn
          refine ⟨some r, ⟨hv', hgn, e1, e2, fun ho => ?_, fun ho => ?_⟩, ?_, fun r' e ho => ?_⟩
          · obtain ⟨_, A', e3, e4⟩ := hok.clip ho
            rw [hv', hgn] at e3
            rw [hgn] at e4
            exact ⟨A', e3, e4⟩
          · have h3 := own_raise (hok.own ho) (b := C.w0.heap.size) (fun g hg => (hok.base ho g hg).resolve_right (hL g))
            rw [hv', e1, e2, hgn] at h3
            exact ⟨h3, hok.one ho⟩
          · refine .sl _ _ _ _ _ _ _ vs (fun b hb => ?_) hpos hc hcell hrep (fun e => by cases e) (fun t e => by cases e)
            subst hb
            cases nl with
            | none => simp [nlLe] at hnl
            | some a1 =>
              simp [nlLe] at hnl
              exact hnl' b (by rw [hnl])
          · cases e
            exact ⟨t, nl, n, c, nl', n, c, e, sz, rfl, rfl, hr⟩
        · cases h
      · cases h
    · rename_i nl n c
      split at h
      · rename_i hnl
        cases h
        simp only [All] at ho
        obtain ⟨rfl, rfl⟩ := ho
        cases hx with
        | sl _ _ _ _ _ A c1 vs hnl' hpos hc hcell hrep hclip hown' =>
        have hcn := hclip rfl
        subst hcn
        refine ⟨some ⟨false, .slice A c1 c1, c1, e, sz, []⟩, ⟨rfl, rfl, rfl, rfl, fun _ => ⟨A, rfl, fun hA => ?_⟩, fun ho => by cases ho⟩, ?_, fun r' e ho => by cases e; cases ho⟩
        · rcases Nat.eq_zero_or_pos c1 with h0 | h0
          · exact h0
          · obtain ⟨ad, e, _⟩ := hpos h0
            rw [hA] at e
            cases e
        · refine .sl _ _ _ _ _ _ _ vs (fun b hb => ?_) hpos hc hcell hrep (fun e => by cases e) (fun t e => by cases e)
          subst hb
          cases nl with
          | none => simp [nlLe] at hnl
          | some a1 =>
            simp [nlLe] at hnl
            exact hnl' b (by rw [hnl])
      · cases h
    · cases h
  · rename_i hne
    exact other (fun nl n c e sz hy => hne nl n c e sz hy) h

theorem finL_sound {C : Ctx} {G : Env} {s : AS} {a : Act} {w : World} (hL : ∀ g, ¬ C.L g) (hR : RelG C G s a w) : ∀ (xs ys : List AV) (us : List Value) (os : List Prop), finL s xs ys = some os → All os → us.length = xs.length → (∀ (i : Nat) (x : AV) (u : Value), xs[i]? = some x → us[i]? = some u → Rep w G true x u) →
    ys.length = xs.length ∧ ∃ rs : List (Option TagRec), rs.length = ys.length ∧ (∀ (i : Nat) (y : AV) (u : Value) (r : Option TagRec), ys[i]? = some y → us[i]? = some u → rs[i]? = some r → FrOk C.w0.heap.size w y u r) ∧
      (∀ (i : Nat) (y : AV) (u : Value), ys[i]? = some y → us[i]? = some u → Rep w G false y u) ∧ ∀ (i : Nat) (r : TagRec), rs[i]? = some (some r) → r.o = true → ∃ t, tsAt xs ys i = some t ∧ G.τ t = some r
  | [], [], us, os, h, ho, hl, hr => ⟨rfl, [], rfl, fun i y u r hy => by simp at hy, fun i y u hy => by simp at hy, fun i r hr => by simp at hr⟩
  | [], _ :: _, us, os, h, ho, hl, hr => by simp [finL] at h
  | _ :: _, [], us, os, h, ho, hl, hr => by simp [finL] at h
  | x :: xs, y :: ys, us, os, h, ho, hl, hr => by
    simp only [finL] at h
    split at h
    · rename_i a1 b1 h1 h2
      cases h
      obtain ⟨ho1, ho2⟩ := All_append.1 ho
      cases us with
      | nil => simp at hl
      | cons u us =>
        obtain ⟨r, h3, h4, h5⟩ := finT_sound hL hR (hr 0 x u rfl rfl) h1 ho1
        obtain ⟨h6, rs, h7, h8, h9, h10⟩ := finL_sound hL hR xs ys us b1 h2 ho2 (by simpa using hl) (fun i x u a b => hr (i + 1) x u (by simpa using a) (by simpa using b))
        refine ⟨by simp [h6], r :: rs, by simp [h7], fun i y' u' r' a b c => ?_, fun i y' u' a b => ?_, fun i r' a b => ?_⟩
        · match i, a, b, c with
          | 0, a, b, c =>
            simp at a b c
            subst a; subst b; subst c
            exact h3
          | n + 1, a, b, c => exact h8 n y' u' r' (by simpa using a) (by simpa using b) (by simpa using c)
        · match i, a, b with
          | 0, a, b =>
            simp at a b
            subst a; subst b
            exact h4
          | n + 1, a, b => exact h9 n y' u' (by simpa using a) (by simpa using b)
        · match i, a with
          | 0, a =>
            simp at a
            obtain ⟨t, nl, n, c, nl', n', c', e, sz, rfl, rfl, ht⟩ := h5 r' a b
            exact ⟨t, rfl, ht⟩
          | n + 1, a =>
            obtain ⟨t, h11, h12⟩ := h10 n r' (by simpa using a) b
            exact ⟨t, by simpa [tsAt] using h11, h12⟩
    · cases h

theorem retP_sound {P : Program} {Γ : TT} (hΓ : Γok P Γ) {C : Ctx} {G : Env} {s : AS} {a : Act} {w : World} (hL : ∀ g, ¬ C.L g) (hR : RelG C G s a w) {fn : Func} {zs : List Nat} {res : AV} {os : List Prop} (h : retP Γ zs s fn.results.toList res = some os) (ho : All os) :
    ∃ x rs, (results fn a.tmps).run P w = .ok x w ∧ Res C.G0.F C.w0 w res x rs := by
  unfold retP at h
  split at h
  · rename_i s1 a1 hs1
    split at h
    · rename_i v hv
      split at h
      · rename_i hsh hnd
        split at h
        · rename_i b1 hfin
          cases h
          obtain ⟨hoa, hob⟩ := All_append.1 ho
          obtain ⟨G1, hR1, _⟩ := freezeAll_sound hR hs1 hoa
          obtain ⟨x, h1, h2⟩ := retA_sound (P := P) hΓ hR1 hv
          have htl : (topsV x).length = (tops v).length ∧ ∀ (i : Nat) (c : AV) (u : Value), (tops v)[i]? = some c → (topsV x)[i]? = some u → Rep w G1 true c u := by
            have hh := h2
            cases h2 with
            | agg _ cs vs hl hr h1' => exact ⟨by simpa [tops, topsV] using hl, fun i c u hc hu => hr i c u hc (by simpa [topsV] using hu)⟩
            | tup _ cs vs hl hr => exact ⟨by simpa [tops, topsV] using hl, fun i c u hc hu => hr i c u hc (by simpa [topsV] using hu)⟩
            | undef l v' =>
              exfalso
              rw [show tops .undef = [.undef] from rfl, finL_undef] at hfin
              cases hfin
            | _ =>
              refine ⟨rfl, fun i c u hc hu => ?_⟩
              match i, hc, hu with
              | 0, hc, hu =>
                simp [tops, topsV] at hc hu
                subst hc; subst hu
                exact hh
              | n + 1, hc, hu => simp [tops] at hc
          obtain ⟨h3, rs, h4, h5, h6, h7⟩ := finL_sound hL hR1 (tops v) (tops res) (topsV x) b1 hfin hob htl.1 htl.2
          have hkeep : Below C.w0.heap.size C.w0 w := ⟨hR1.mem.keep.os, hR1.mem.keep.tape, hR1.mem.keep.output, hR1.mem.keep.size, fun k hk => hR1.mem.keep.block k hk (hL k)⟩
          refine ⟨x, rs, h1, ⟨hkeep, h4, by rw [htl.1, h3], h5, fun i j r r' g hi hj hro hro' hg hg' => ?_, ?_⟩⟩
          · obtain ⟨t, ht1, ht2⟩ := h7 i r hi hro
            obtain ⟨t', ht1', ht2'⟩ := h7 j r' hj hro'
            have ht : t' = t := by
              obtain ⟨n, _, hok⟩ := hR1.mem.tag_ok ht2
              exact hok.hτ hro g hg t' r' ht2' hro' hg'
            subst ht
            exact given_inj _ _ i j _ hnd ht1 ht1'
          · have hle : ∀ b o, G1.F b o → Fr C.G0.F C.w0 w rs b o := by
              intro b o hf
              by_cases hb : b < C.w0.heap.size
              · exact .inl ((hR1.mem.fold b o hf hb).resolve_right (hL b))
              · refine .inr ⟨by omega, hR1.fdom b o hf, fun r hr hro hg => ?_⟩
                obtain ⟨i, hi⟩ := List.mem_iff_getElem?.1 hr
                obtain ⟨t, _, ht2⟩ := h7 i r hi hro
                obtain ⟨n, _, hok⟩ := hR1.mem.tag_ok ht2
                exact (hok.hF hro b hg o hf).1
            have hrep : Rep w G1 false res x := by
              by_cases hu : v = .undef
              · subst hu
                rw [show tops .undef = [.undef] from rfl, finL_undef] at hfin
                cases hfin
              cases v <;> cases res <;> simp [shape] at hsh
              all_goals first
                | exact absurd rfl hu
                | (cases h2 with | agg _ _ vs hl hr h1' => exact .agg _ _ _ (by simp only [tops] at h3; omega) (fun i c u hc hu => h6 i c u hc (by simpa [topsV] using hu)) h1')
                | (cases h2 with | tup _ _ vs hl hr => exact .tup _ _ _ (by simp only [tops] at h3; omega) (fun i c u hc hu => h6 i c u hc (by simpa [topsV] using hu)))
                | (exact h6 0 _ x rfl (by cases h2 <;> rfl))
            exact hrep.tree hle
        · cases h
      · cases h
    · cases h
  · cases h

theorem Ctr.of {P : Program} {Γ : TT} (hΓ : Γok P Γ) {f : FuncId} {fn : Func} {c : Code} (hf : P.funcs[f]? = some fn) (hb : fn.body = some c) (hcall : ∀ vs w, (callFunc f vs).run P w = .ok (.enter f vs) w) (zs : List Nat) {args : List AV} {res : AV} (hl : args.length ≤ fn.ntmps)
    (h : HT P fn.ntmps [.code c] (st0 args) (fun s => ∃ os, retP Γ zs s fn.results.toList res = some os ∧ All os)) : Ctr P f args res := by
  refine ⟨hcall, fun w F vs hF ha cs => ?_⟩
  let b : Frame := { (default : Frame) with fn := f, kind := .normal }
  have henter : Frame.enter P f vs .normal = b.at { tmps := vs ++ Array.replicate (fn.ntmps - vs.size) undef, defers := [] } [.code c] := by
    simp [Frame.enter, Frame.at, hf, hb, b]
  obtain ⟨a', w', todo', ⟨s', G', ⟨os, hq, ho⟩, hR⟩, hsteps⟩ := h.tw (ctx0 w F fn.ntmps) (envF F) _ w rfl (start_rel hF ha hl) b cs
  obtain ⟨x, rs, h1, h2⟩ := retP_sound (P := P) hΓ (fun _ h => h) hR hq ho
  rw [← henter] at hsteps
  exact ⟨.returned x, w', _, ⟨x, rs, rfl, h2⟩, hsteps, rfl, rfl, hR.defers, rfl, fn, hf, h1⟩

/-! ### The end of a function that was lent memory -/
def retPM (Γ : TT) (zs : List Nat) (s : AS) (rs : List ResultVar) (M' : MemS) (res : AV) : Option (List Prop) :=
  match freezeAll s zs with
  | some (s1, a) => match retA Γ s1 rs with
    | some x => match argsM s1 M'.as [x] with
      | some ([y], b) => match leP y res, weakH s1 M'.as M'.heap, weakG s1 M'.tags with
        | some c, some d, some e => some (a ++ (b ++ (c ++ (d ++ e))))
        | _, _, _ => none
      | _ => none
    | none => none
  | none => none
theorem retPM_sound {P : Program} {Γ : TT} (hΓ : Γok P Γ) {C : Ctx} {G : Env} {s : AS} {a : Act} {w : World} (hR : RelG C G s a w) {fn : Func} {zs : List Nat} {M' : MemS} {res : AV} {os : List Prop} (h : retPM Γ zs s fn.results.toList M' res = some os) (ho : All os)
    (k1 : ∀ i, C.G0.φ i ≠ none → isS (look M'.heap i) = true) (k2 : ∀ t, C.G0.τ t ≠ none → isS (look M'.tags t) = true) :
    ∃ x G', (results fn a.tmps).run P w = .ok x w ∧ RelM C G' M'.heap M'.tags w ∧ Rep w G' true res x := by
  unfold retPM at h
  split at h
  · rename_i s1 a1 hs1
    split at h
    · rename_i v hv
      split at h
      · rename_i y b1 hy
        split at h
        · rename_i c1 d1 e1 hc hd he
          cases h
          obtain ⟨ho1, ho2⟩ := All_append.1 ho
          obtain ⟨ho2, ho3⟩ := All_append.1 ho2
          obtain ⟨ho3, ho4⟩ := All_append.1 ho3
          obtain ⟨ho4, ho5⟩ := All_append.1 ho4
          obtain ⟨G1, hR1, _⟩ := freezeAll_sound hR hs1 ho1
          obtain ⟨x, h1, h2⟩ := retA_sound (P := P) hΓ hR1 hv
          refine ⟨x, G1.cut M'.as, h1, hR1.mem.weak hd ho4 he ho5 k1 k2, ?_⟩
          obtain ⟨_, hg⟩ := argsM_get hy ho2
          obtain ⟨x', hx', hor⟩ := hg 0 y rfl
          simp at hx'
          subst hx'
          refine leP_rep ?_ hc ho3
          rcases hor with ⟨h3, rfl⟩ | ⟨os', h3, h4⟩
          · exact idsOk_rep h2 h3
          · exact (Rep.tree (G' := G1.cut M'.as) (treeH_sound hR1 h2 h3 h4) (fun b o hf => hf)).up
        · cases h
      · cases h
    · cases h
  · cases h

theorem RelM.nt {C : Ctx} {n : Nat} {G : Env} {hp : List (Nat × Blk)} {tg : List (Nat × Tag)} {w : World} (h : RelM { C with nt := n } G hp tg w) : RelM C G hp tg w :=
  ⟨h.keep, h.le, h.fdom, h.fold, h.blocks, h.noblock, h.inj, fun t n hn => by
    obtain ⟨r, hr, hok⟩ := h.tags t n hn
    exact ⟨r, hr, ⟨hok.hn, hok.he, hok.hsz, hok.clip, hok.own, hok.one, hok.base, hok.hF, hok.hφ, hok.hτ, hok.hcs⟩⟩, h.notag⟩

theorem CtrM.of {P : Program} {Γ : TT} (hΓ : Γok P Γ) {f : FuncId} {fn : Func} {c : Code} (hf : P.funcs[f]? = some fn) (hb : fn.body = some c) (hcall : ∀ vs w, (callFunc f vs).run P w = .ok (.enter f vs) w) (zs : List Nat) {M M' : MemS} {args : List AV} {res : AV} (hl : args.length ≤ fn.ntmps)
    (hk : keysIn M'.heap M.heap = true) (ht : keysIn M'.tags M.tags = true)
    (h : HT P fn.ntmps [.code c] (stM args M) (fun s => ∃ os, retPM Γ zs s fn.results.toList M' res = some os ∧ All os)) : CtrM P f M args M' res := by
  refine ⟨hcall, fun C vs hm h1 h2 cs => ?_⟩
  let b : Frame := { (default : Frame) with fn := f, kind := .normal }
  have henter : Frame.enter P f vs .normal = b.at { tmps := vs ++ Array.replicate (fn.ntmps - vs.size) undef, defers := [] } [.code c] := by
    simp [Frame.enter, Frame.at, hf, hb, b]
  obtain ⟨a', w', todo', ⟨s', G', ⟨os, hq, ho⟩, hR⟩, hsteps⟩ := h.tw { C with nt := fn.ntmps } C.G0 _ C.w0 rfl (startM_rel hm h1 h2 hl) b cs
  obtain ⟨x, G2, h3, h4, h5⟩ := retPM_sound (P := P) hΓ hR hq ho (fun i hi => by
    cases hli : look M.heap i with
    | none => exact absurd (hm.noblock i hli) hi
    | some b => exact keysIn_look hk (by rw [hli]; rfl)) (fun t hi => by
    cases hli : look M.tags t with
    | none => exact absurd (hm.notag t hli) hi
    | some b => exact keysIn_look ht (by rw [hli]; rfl))
  rw [← henter] at hsteps
  exact ⟨.returned x, w', _, ⟨x, G2, rfl, h4.nt, h5⟩, hsteps, rfl, rfl, hR.defers, rfl, fn, hf, h3⟩

end Go.AX
end

section
set_option linter.unusedVariables false
set_option linter.unusedSimpArgs false
namespace Go.AX
open Go Go.RowKit

/-! ### A table of types, out of closed facts -/
structure TIbase (P : Program) (t : Nat) (ti : TI) : Prop where
  ex : ∃ i d z, P.info? t = some i ∧ P.underlying t = some d ∧ i.size = ti.size ∧ i.bytes = ti.bytes ∧ i.zero = some z ∧ z.cells.size = ti.size ∧ ti.zero = z.cells.toList.map zAV ∧ (∀ v ∈ z.cells, v.oneCell' = true) ∧
    (ti.agg = true ↔ ∃ cs, z = .agg cs) ∧ kindOk P d ti.kind
/-! '==' at structs -/
inductive Form1 : SK → Value → Value → Bool → Prop
  | int (k : IntKind) (a b : Int) : Form1 (.int k) (.int k a) (.int k b) (a == b)
  | bool (a b : Bool) : Form1 .bool (.bool a) (.bool b) (a == b)
  | str (a b : ByteArray) : Form1 .str (.string a) (.string b) (a == b)
inductive Forms : List SK → List Value → List Value → Bool → Prop
  | nil : Forms [] [] [] true
  | cons {k : SK} {ks : List SK} {v u : Value} {vs us : List Value} {a b : Bool} (h : Form1 k v u a) (hs : Forms ks vs us b) : Forms (k :: ks) (v :: vs) (u :: us) (a && b)
theorem zAV_int {v : Value} {k : IntKind} {n : Int} (h : zAV v = .int k n) : v = .int k n := by
  unfold zAV at h
  split at h <;> simp_all
theorem zAV_bool {v : Value} {b : Bool} (h : zAV v = .bool b) : v = .bool b := by
  unfold zAV at h
  split at h <;> simp_all
theorem zAV_str {v : Value} {b : ByteArray} (h : zAV v = .str b) : v = .string b := by
  unfold zAV at h
  split at h <;> simp_all
theorem bytes_beq (a b : ByteArray) : (a == b) = decide (a = b) := by
  have : (a == b) = (a.data == b.data) := rfl
  rw [this]
  by_cases h : a = b
  · subst h; simp
  · have h2 : a.data ≠ b.data := fun e => h (by cases a; cases b; simp at e; rw [e])
    simp [h, h2]
theorem form1_of {k : SK} {v u : Value} {b : Bool} (h : eq1 k (zAV v) (zAV u) = some b) : Form1 k v u b := by
  unfold eq1 at h
  split at h
  · rename_i k k1 a k2 c h1 h2
    split at h
    · rename_i hk
      obtain ⟨rfl, rfl⟩ := hk
      cases h
      rw [zAV_int h1, zAV_int h2]
      exact .int _ _ _
    · cases h
  · rename_i a c h1 h2
    cases h
    rw [zAV_bool h1, zAV_bool h2]
    exact .bool _ _
  · rename_i a c h1 h2
    cases h
    rw [zAV_str h1, zAV_str h2, ← bytes_beq]
    exact .str _ _
  · cases h
theorem forms_of : ∀ {ks : List SK} {xs ys : List Value} {b : Bool}, eqL ks (xs.map zAV) (ys.map zAV) = some b → Forms ks xs ys b
  | [], [], [], b, h => by cases h; exact .nil
  | [], [], _ :: _, b, h => by cases h
  | [], _ :: _, ys, b, h => by cases ys <;> cases h
  | _ :: _, [], ys, b, h => by cases ys <;> cases h
  | _ :: _, _ :: _, [], b, h => by cases h
  | k :: ks, v :: vs, u :: us, b, h => by
    simp only [List.map_cons, eqL] at h
    split at h
    · rename_i a c h1 h2
      cases h
      exact .cons (form1_of h1) (forms_of h2)
    · cases h
theorem TIok.ofEq {P : Program} {t : Nat} {ti : TI} {ks : List SK} (h : TIbase P t ti) (he : ti.eq = some ks) (ha : ti.agg = true) (hg : P.eqGuardType P.depth t = false)
    (hq : ∀ (w : World) (xs ys : List Value) (b : Bool), Forms ks xs ys b → (Op.equal t (.agg xs.toArray) (.agg ys.toArray)).run P w = .ok b w) : TIok P t ti := by
  refine ⟨h.ex, fun ks' hk => ?_⟩
  rw [he] at hk
  cases hk
  refine ⟨ha, fun w xs ys cx cy b hx hy hb => ⟨fun x y => ⟨?_, ?_⟩, ?_⟩⟩
  · simp [eqGuard, hg]
  · simp [eqGuard, hg]
  · subst hx; subst hy
    have := hq w xs.toList ys.toList b (forms_of hb)
    simpa using this
def isAggV : Value → Bool
  | .agg _ => true
  | _ => false
theorem TIbase.of {P : Program} {t : Nat} {ti : TI} (i : TypeInfo) (d : TypeDesc) (z : Value) (h0 : P.info? t = some i) (h1 : P.underlying t = some d) (h2 : i.size = ti.size) (h3 : i.bytes = ti.bytes) (h4 : i.zero = some z) (h5 : z.cells.size = ti.size) (h6 : ti.zero = z.cells.toList.map zAV)
    (h7 : z.cells.all (·.oneCell') = true) (h8 : ti.agg = isAggV z) (h9 : kindOk P d ti.kind) : TIbase P t ti :=
  ⟨i, d, z, h0, h1, h2, h3, h4, h5, h6, fun v hv => by
    obtain ⟨k, hk, rfl⟩ := Array.mem_iff_getElem.1 hv
    exact Array.all_eq_true.1 h7 k hk, by
    rw [h8]
    cases z <;> simp [isAggV], h9⟩
theorem TIok.ofPlain {P : Program} {t : Nat} {ti : TI} (h : TIbase P t ti) (he : ti.eq = none) : TIok P t ti := ⟨h.ex, fun ks hk => by rw [he] at hk; cases hk⟩

def AllTI (P : Program) : TT → Prop
  | [] => True
  | (t, ti) :: r => TIok P t ti ∧ AllTI P r
theorem gok_of {P : Program} : ∀ {Γ : TT}, AllTI P Γ → Γok P Γ
  | [], _ => fun t ti h => by simp [look] at h
  | (j, x) :: r, h => fun t ti ht => by
    rw [look_cons] at ht
    split at ht
    · rename_i e
      subst e
      cases ht
      exact h.1
    · exact gok_of h.2 t ti ht

end Go.AX
end

section
set_option linter.unusedVariables false
set_option linter.unusedSimpArgs false
namespace Go.AX
open Go Go.RowKit

/-! ### An operation asks a state only for what it asks: in a greater state it does the same -/
structure Dl where
  t : List (Nat × AV)
  h : List (Nat × Blk)
  g : List (Nat × Tag)
def AS.plus (s : AS) (δ : Dl) : AS := ⟨δ.t ++ s.tmps, δ.h ++ s.heap, δ.g ++ s.tags⟩
def Dl.then (δ ε : Dl) : Dl := ⟨ε.t ++ δ.t, ε.h ++ δ.h, ε.g ++ δ.g⟩
theorem AS.plus_then (s : AS) (δ ε : Dl) : (s.plus δ).plus ε = s.plus (δ.then ε) := by simp [AS.plus, Dl.then]
theorem AS.plus_nil (s : AS) : s.plus ⟨[], [], []⟩ = s := rfl

structure Ext (s t : AS) : Prop where
  tmps : ∀ i v, look s.tmps i = some v → look t.tmps i = some v
  heap : ∀ i v, look s.heap i = some v → look t.heap i = some v
  tags : ∀ i v, look s.tags i = some v → look t.tags i = some v
/-- What is new in a change is new to the greater state too. -/
structure Fresh (δ : Dl) (s t : AS) : Prop where
  h : ∀ k, isS (look δ.h k) = true → look s.heap k = none → look t.heap k = none
  g : ∀ k, isS (look δ.g k) = true → look s.tags k = none → look t.tags k = none

theorem look_plus {α : Type} {l m n : List (Nat × α)} (h : ∀ i v, look m i = some v → look n i = some v) : ∀ i v, look (l ++ m) i = some v → look (l ++ n) i = some v := by
  intro i v hv
  rw [look_append] at hv ⊢
  cases hl : look l i with
  | some x => rw [hl] at hv; exact hv
  | none =>
    rw [hl] at hv
    simp only [Option.none_or] at hv ⊢
    exact h i v hv
theorem Ext.plus {s t : AS} (h : Ext s t) (δ : Dl) : Ext (s.plus δ) (t.plus δ) := ⟨look_plus h.tmps, look_plus h.heap, look_plus h.tags⟩
theorem Fresh.left {δ ε : Dl} {s t : AS} (h : Fresh (δ.then ε) s t) : Fresh δ s t := by
  refine ⟨fun k hk => h.h k ?_, fun k hk => h.g k ?_⟩
  · show isS (look (ε.h ++ δ.h) k) = true
    rw [look_append]
    cases hh : look ε.h k with
    | some x => rfl
    | none => simpa using hk
  · show isS (look (ε.g ++ δ.g) k) = true
    rw [look_append]
    cases hh : look ε.g k with
    | some x => rfl
    | none => simpa using hk
theorem Fresh.right {δ ε : Dl} {s t : AS} (h : Fresh (δ.then ε) s t) : Fresh ε (s.plus δ) (t.plus δ) := by
  refine ⟨fun k hk hn => ?_, fun k hk hn => ?_⟩
  · simp only [AS.plus] at hn ⊢
    rw [look_append, Option.or_eq_none_iff] at hn ⊢
    refine ⟨hn.1, h.h k ?_ hn.2⟩
    show isS (look (ε.h ++ δ.h) k) = true
    rw [look_append]
    cases hh : look ε.h k with
    | some x => rfl
    | none => rw [hh] at hk; cases hk
  · simp only [AS.plus] at hn ⊢
    rw [look_append, Option.or_eq_none_iff] at hn ⊢
    refine ⟨hn.1, h.g k ?_ hn.2⟩
    show isS (look (ε.g ++ δ.g) k) = true
    rw [look_append]
    cases hh : look ε.g k with
    | some x => rfl
    | none => rw [hh] at hk; cases hk

/-- Of an operation that changes the state. -/
def Mono {α : Type} (op : AS → Option (AS × α)) : Prop := ∀ s s' x, op s = some (s', x) → ∃ δ : Dl, s' = s.plus δ ∧ ∀ t, Ext s t → Fresh δ s t → op t = some (t.plus δ, x)
theorem Mono.of {α : Type} {op : AS → Option (AS × α)} (h : ∀ s s' x, op s = some (s', x) → ∃ δ : Dl, s' = s.plus δ ∧ ∀ t, Ext s t → Fresh δ s t → op t = some (t.plus δ, x)) : Mono op := h

theorem ev_mono {s t : AS} (h : Ext s t) {x : Operand} {v : AV} (hv : s.ev x = some v) : t.ev x = some v := by
  cases x with
  | tmp d => exact h.tmps _ _ hv
  | _ => exact hv
theorem evs_mono {s t : AS} (h : Ext s t) : ∀ {xs : List Operand} {vs : List AV}, evs s xs = some vs → evs t xs = some vs
  | [], vs, hv => hv
  | x :: xs, vs, hv => by
    simp only [evs] at hv ⊢
    split at hv
    · rename_i v l h1 h2
      rw [ev_mono h h1, evs_mono h h2]
      exact hv
    · cases hv
theorem evParts_mono {s t : AS} (h : Ext s t) : ∀ {xs : List (Nat × Operand)} {vs : List (Nat × AV)}, evParts s xs = some vs → evParts t xs = some vs
  | [], vs, hv => hv
  | (i, x) :: xs, vs, hv => by
    simp only [evParts] at hv ⊢
    split at hv
    · rename_i v l h1 h2
      rw [ev_mono h h1, evParts_mono h h2]
      exact hv
    · cases hv
theorem loadA_mono {Γ : TT} {s t : AS} (h : Ext s t) {ty : TypeId} {p : AV} {ann : Option AV} {r : AV × List Prop} (hv : loadA Γ s ty p ann = some r) : loadA Γ t ty p ann = some r := by
  unfold loadA at hv ⊢
  split at hv
  · cases hv
  · rename_i ti hti
    try simp only [hti]
    split at hv
    · exact hv
    · split at hv
      · rename_i hb; simp only [h.heap _ _ hb]; exact hv
      · rename_i hb; simp only [h.heap _ _ hb]; exact hv
      · cases hv
    · split at hv
      · rename_i hb; simp only [h.tags _ _ hb]; exact hv
      · cases hv
    · cases hv
theorem indexAddrA_mono {Γ : TT} {s t : AS} (h : Ext s t) {ty : TypeId} {x i : AV} {r : AV × List Prop} (hv : indexAddrA Γ s ty x i = some r) : indexAddrA Γ t ty x i = some r := by
  unfold indexAddrA at hv ⊢
  split at hv
  · rename_i ti hti
    try simp only [hti]
    split at hv
    · rename_i e he
      try simp only [he]
      split at hv
      · rename_i ei hei
        try simp only [hei]
        split at hv
        · exact hv
        · exact hv
        · split at hv
          · rename_i hb; simp only [h.tags _ _ hb]; exact hv
          · cases hv
        · cases hv
      · cases hv
    · cases hv
  · cases hv
theorem lenA_mono {Γ : TT} {s t : AS} (h : Ext s t) {ty : TypeId} {x : AV} {r : AV × List Prop} (hv : lenA Γ s ty x = some r) : lenA Γ t ty x = some r := by
  unfold lenA at hv ⊢
  split at hv
  · rename_i ti hti
    try simp only [hti]
    split at hv
    · rename_i he; try simp only [he]
      exact hv
    · rename_i he; try simp only [he]
      exact hv
    · rename_i he; try simp only [he]
      exact hv
    · rename_i he
      try simp only [he]
      split at hv
      · rename_i hb; simp only [h.tags _ _ hb]; exact hv
      · cases hv
    · cases hv
  · cases hv
theorem srcA_mono {s t : AS} (h : Ext s t) {sz : Nat} {x : AV} {r : Nat × List AV} (hv : srcA s sz x = some r) : srcA t sz x = some r := by
  unfold srcA at hv ⊢
  split at hv
  · exact hv
  · split at hv
    · rename_i hb
      simp only [h.heap _ _ hb]
      exact hv
    · cases hv
  · split at hv
    · rename_i hb
      simp only [h.tags _ _ hb]
      exact hv
    · cases hv
  · cases hv
mutual
theorem treeH_mono {s t : AS} (h : Ext s t) : ∀ {x : AV} {r : AV × List Prop}, treeH s x = some r → treeH t x = some r
  | .int k n, r, hv => by simpa only [treeH] using hv
  | .bool b, r, hv => by simpa only [treeH] using hv
  | .str b, r, hv => by simpa only [treeH] using hv
  | .nilFn, r, hv => by simpa only [treeH] using hv
  | .nilp, r, hv => by simpa only [treeH] using hv
  | .sl _ _ _ _, r, hv => by simpa only [treeH] using hv
  | .rop _ _, r, hv => by simpa only [treeH] using hv
  | .undef, r, hv => by simp only [treeH] at hv; cases hv
  | .vptr _ _ _, r, hv => by simp only [treeH] at hv; cases hv
  | .agg cs, r, hv => by
    simp only [treeH] at hv ⊢
    split at hv
    · rename_i ds os h1; rw [treeHL_mono h h1]; exact hv
    · cases hv
  | .tup cs, r, hv => by
    simp only [treeH] at hv ⊢
    split at hv
    · rename_i ds os h1; rw [treeHL_mono h h1]; exact hv
    · cases hv
  | .fn f cs, r, hv => by
    simp only [treeH] at hv ⊢
    split at hv
    · rename_i ds os h1; rw [treeHL_mono h h1]; exact hv
    · cases hv
  | .ptr id off, r, hv => by
    simp only [treeH] at hv ⊢
    split at hv
    · rename_i hb; simp only [h.heap _ _ hb]; exact hv
    · rename_i hb; simp only [h.heap _ _ hb]; exact hv
    · cases hv
  | .row id off n, r, hv => by
    simp only [treeH] at hv ⊢
    split at hv
    · rename_i hb; simp only [h.heap _ _ hb]; exact hv
    · cases hv
  | .vec t n, r, hv => by
    simp only [treeH] at hv ⊢
    split at hv
    · rename_i hb; simp only [h.tags _ _ hb]; exact hv
    · cases hv
theorem treeHL_mono {s t : AS} (h : Ext s t) : ∀ {xs : List AV} {r : List AV × List Prop}, treeHL s xs = some r → treeHL t xs = some r
  | [], r, hv => by simpa only [treeHL] using hv
  | x :: xs, r, hv => by
    simp only [treeHL] at hv ⊢
    split at hv
    · rename_i y a ys b h1 h2
      rw [treeH_mono h h1, treeHL_mono h h2]
      exact hv
    · cases hv
end

theorem newA_mono (d : Nat) (cs : List AV) : Mono (fun s => newA s d cs) := by
  intro s s' x h
  simp only [newA] at h
  split at h
  · rename_i hn
    cases h
    refine ⟨⟨[], [(d, .var true cs)], []⟩, rfl, fun t hE hF => ?_⟩
    have : look t.heap d = none := hF.h d (by simp [look_cons, isS]) hn
    simp only [newA, this]
    rfl
  · cases h
theorem allocA_mono (Γ : TT) (d : Nat) (ty : TypeId) : Mono (fun s => allocA Γ s d ty) := by
  unfold allocA
  cases look Γ ty with
  | none => intro s s' x h; cases h
  | some ti => exact newA_mono d ti.zero
theorem boxA_mono (Γ : TT) (d : Nat) (ty : TypeId) (x : AV) : Mono (fun s => boxA Γ s d ty x) := by
  unfold boxA
  cases look Γ ty with
  | none => intro s s' x h; cases h
  | some ti =>
    cases x.real with
    | false => intro s s' x h; cases h
    | true => exact newA_mono d (cellsOf x)
theorem makeA_mono (Γ : TT) (d : Nat) (ty : TypeId) (l c : AV) : Mono (fun s => makeA Γ s d ty l c) := by
  intro s s' x h
  simp only [makeA] at h
  split at h
  · rename_i ti hti
    split at h
    · rename_i e he
      split at h
      · rename_i ei hei
        split at h
        · rename_i kl n kc m z hz hn
          cases h
          refine ⟨⟨[], [(d, .rows true (List.replicate n.toNat (zn z)))], []⟩, rfl, fun t hE hF => ?_⟩
          have : look t.heap d = none := hF.h d (by simp [look_cons, isS]) hn
          simp only [makeA, hti, he, hei, hz, this]
          rfl
        · cases h
      · cases h
    · cases h
  · cases h
theorem rangeA_mono (Γ : TT) (d : Nat) (ty : TypeId) (x : AV) : Mono (fun s => rangeA Γ s d ty x) := by
  intro s s' r h
  simp only [rangeA] at h
  split at h
  · rename_i ti hti
    split at h
    · rename_i b hk hn
      cases h
      refine ⟨⟨[], [(d, .iter b 0)], []⟩, rfl, fun t hE hF => ?_⟩
      have : look t.heap d = none := hF.h d (by simp [look_cons, isS]) hn
      simp only [rangeA, hti, hk, this]
      rfl
    · cases h
  · cases h
theorem nextA_mono (x : AV) (ann : Option AV) : Mono (fun s => nextA s x ann) := by
  intro s s' r h
  simp only [nextA] at h
  split at h
  · rename_i id
    split at h
    · rename_i b pos hb
      split at h
      · cases h
        refine ⟨⟨[], [], []⟩, rfl, fun t hE hF => ?_⟩
        simp only [nextA, hE.heap _ _ hb]
        rfl
      · cases h
        refine ⟨⟨[], [(id, .iter b (pos + (Utf8.decode b pos).2))], []⟩, rfl, fun t hE hF => ?_⟩
        simp only [nextA, hE.heap _ _ hb]
        rfl
      · cases h
    · cases h
  · cases h
theorem dstA_mono (d n e sz : Nat) (o : Own) : Mono (fun s => (dstA s d n e sz o).map fun r => (r.1, r.2)) := by
  intro s s' r h
  simp only [Option.map_eq_some_iff] at h
  obtain ⟨⟨s1, t1, os1⟩, h, h'⟩ := h
  cases h'
  unfold dstA at h
  split at h
  · rename_i t
    split at h
    · rename_i g hg
      split at h
      · rename_i h1 h2 h3
        cases h
        refine ⟨⟨[], [], []⟩, rfl, fun t' hE hF => ?_⟩
        simp only [dstA, hE.tags _ _ hg, h1, h2, h3]
        rfl
      · cases h
    · cases h
  · split at h
    · rename_i hn
      cases h
      refine ⟨⟨[], [], [(d, ⟨n, e, sz, none⟩)]⟩, rfl, fun t' hE hF => ?_⟩
      have : look t'.tags d = none := hF.g d (by simp [look_cons, isS]) hn
      simp only [dstA, this]
      rfl
    · cases h
  · cases h
theorem appA_mono (Γ : TT) (d : Nat) (ty xT : TypeId) (v x : AV) : Mono (fun s => appA Γ s d ty xT v x) := by
  intro s s' r h
  simp only [appA] at h
  split at h
  · rename_i ti xi hti hxi
    split at h
    · rename_i e e' he he'
      split at h
      · rename_i ei hei
        split at h
        · rename_i nl n cells o m news hsrc
          split at h
          · rename_i s1 tg os1 sz by_ hdst hsz hby
            cases h
            obtain ⟨δ, hs1, hm⟩ := dstA_mono d n e ei.size o s s1 (tg, os1) (by simp [hdst])
            refine ⟨δ.then ⟨[], [], [(tg, ⟨n + m, e, sz + 1, none⟩)]⟩, by rw [← AS.plus_then, ← hs1]; rfl, fun t hE hF => ?_⟩
            have h1 := hm t hE hF.left
            simp only [Option.map_eq_some_iff] at h1
            obtain ⟨⟨s2, t2, os2⟩, h2, h3⟩ := h1
            cases h3
            rw [hsz] at h2
            have hq := srcA_mono hE hsrc
            rw [hsz] at hq
            simp only [appA, hti, hxi, he, he', hei, hsz, hq, hby, h2]
            rfl
          · cases h
        · rename_i tg n m news hsrc
          split at h
          · rename_i n' e2 sz2 b cells sz by_ ht hsz hby
            split at h
            · rename_i h1 h2
              cases h
              refine ⟨⟨[], [], [(tg, ⟨n + m, e, sz + 1, some (b, cells ++ news)⟩)]⟩, rfl, fun t hE hF => ?_⟩
              have hq := srcA_mono hE hsrc
              rw [hsz] at hq
              simp only [appA, hti, hxi, he, he', hei, hsz, hq, hE.tags _ _ ht, hby, h1, h2]
              rfl
            · cases h
          · cases h
        · cases h
      · cases h
    · cases h
  · cases h
theorem appN_mono (Γ : TT) (d : Nat) (ty xT : TypeId) (v x : AV) : Mono (fun s => appN Γ s d ty xT v x) := by
  intro s s' r h
  simp only [appN] at h
  split at h
  · rename_i nl hd
    split at h
    · rename_i ti xi hti hxi
      split at h
      · rename_i e e' he he'
        split at h
        · rename_i ei hei
          split at h
          · rename_i m news sz by_ hsrc hsz hby htg
            cases h
            refine ⟨⟨[], [], [(d, ⟨m, e, sz + 1, some (true, news)⟩), (d, ⟨0, e, sz + 1, some (true, [])⟩)]⟩, rfl, fun t hE hF => ?_⟩
            have ht : look t.tags d = none := hF.g d (by simp [look_cons, isS]) htg
            have hq := srcA_mono hE hsrc
            rw [hsz] at hq
            simp only [appN, hd, hti, hxi, he, he', hei, hsz, hq, hby, ht]
            rfl
          · cases h
        · cases h
      · cases h
    · cases h
  · rename_i v b v1 hne
    obtain ⟨δ, h1, h2⟩ := appA_mono Γ d ty xT v x s s' r h
    refine ⟨δ, h1, fun t hE hF => ?_⟩
    simp only [appN]
    exact h2 t hE hF
theorem storeA_mono (Γ : TT) (ty : TypeId) (p x : AV) : Mono (fun s => storeA Γ s ty p x) := by
  intro s s' r h
  simp only [storeA] at h
  split at h
  · rename_i ti hti hr
    split at h
    · rename_i id off
      split at h
      · rename_i cs hb
        split at h
        · rename_i h1 h2
          cases h
          refine ⟨⟨[], [(id, .var true (splice cs off (cellsOf x)))], []⟩, rfl, fun t hE hF => ?_⟩
          simp only [storeA, hti, hr, hE.heap _ _ hb, h1, h2]
          rfl
        · cases h
      · rename_i cs hb
        split at h
        · rename_i b h1
          cases h
          refine ⟨⟨[], [(id, .rows true (cs.set off (.bool b)))], []⟩, rfl, fun t hE hF => ?_⟩
          simp only [storeA, hti, hr, hE.heap _ _ hb, h1]
          rfl
        · rename_i k n h1
          cases h
          refine ⟨⟨[], [(id, .rows true (cs.set off (.int k n)))], []⟩, rfl, fun t hE hF => ?_⟩
          simp only [storeA, hti, hr, hE.heap _ _ hb, h1]
          rfl
        · rename_i b h1
          cases h
          refine ⟨⟨[], [(id, .rows true (cs.set off (.str b)))], []⟩, rfl, fun t hE hF => ?_⟩
          simp only [storeA, hti, hr, hE.heap _ _ hb, h1]
          rfl
        · cases h
      · cases h
    · rename_i tg n off
      split at h
      · rename_i m e sz cells y ht hy
        split at h
        · rename_i h1
          cases h
          refine ⟨⟨[], [], [(tg, ⟨m, e, sz, some (true, setAt cells off (cellsOf y))⟩)]⟩, rfl, fun t hE hF => ?_⟩
          simp only [storeA, hti, hr, hE.tags _ _ ht, hy, h1]
          rfl
        · cases h
      · cases h
    · cases h
  · cases h
/-- What a change names is in the state. -/
def OldD (δ : Dl) (s : AS) : Prop := (∀ k, isS (look δ.h k) = true → isS (look s.heap k) = true) ∧ ∀ k, isS (look δ.g k) = true → isS (look s.tags k) = true
theorem OldD.fresh {δ : Dl} {s t : AS} (h : OldD δ s) : Fresh δ s t := ⟨(fun k hk hn => by have := h.1 k hk; rw [hn] at this; cases this), (fun k hk hn => by have := h.2 k hk; rw [hn] at this; cases this)⟩
theorem OldD.nil (s : AS) : OldD ⟨[], [], []⟩ s := ⟨(fun k hk => by cases hk), (fun k hk => by cases hk)⟩
theorem OldD.then {δ ε : Dl} {s : AS} (h : OldD δ s) (k : OldD ε (s.plus δ)) : OldD (δ.then ε) s := by
  refine ⟨fun i hi => ?_, fun i hi => ?_⟩
  · have hi : isS (look (ε.h ++ δ.h) i) = true := hi
    rw [look_append] at hi
    cases hh : look ε.h i with
    | none => rw [hh] at hi; exact h.1 i (by simpa using hi)
    | some x =>
      have := k.1 i (by rw [hh]; rfl)
      simp only [AS.plus, look_append] at this
      cases hd : look δ.h i with
      | none => rw [hd] at this; simpa using this
      | some y => exact h.1 i (by rw [hd]; rfl)
  · have hi : isS (look (ε.g ++ δ.g) i) = true := hi
    rw [look_append] at hi
    cases hh : look ε.g i with
    | none => rw [hh] at hi; exact h.2 i (by simpa using hi)
    | some x =>
      have := k.2 i (by rw [hh]; rfl)
      simp only [AS.plus, look_append] at this
      cases hd : look δ.g i with
      | none => rw [hd] at this; simpa using this
      | some y => exact h.2 i (by rw [hd]; rfl)
theorem old1h {i : Nat} {b c : Blk} {s : AS} (h : look s.heap i = some c) : OldD ⟨[], [(i, b)], []⟩ s := by
  refine ⟨fun k hk => ?_, fun k hk => ?_⟩
  · rw [look_cons] at hk
    split at hk
    · rename_i e; subst e; rw [h]; rfl
    · cases hk
  · cases hk
theorem old1g {i : Nat} {b c : Tag} {s : AS} (h : look s.tags i = some c) : OldD ⟨[], [], [(i, b)]⟩ s := by
  refine ⟨fun k hk => ?_, fun k hk => ?_⟩
  · cases hk
  · rw [look_cons] at hk
    split at hk
    · rename_i e; subst e; rw [h]; rfl
    · cases hk
theorem freeze1_mono (id : Nat) {s s' : AS} {x : List Prop} (h : freeze1 s id = some (s', x)) : ∃ δ : Dl, s' = s.plus δ ∧ OldD δ s ∧ ∀ t, Ext s t → freeze1 t id = some (t.plus δ, x) := by
  simp only [freeze1] at h
  split at h
  · rename_i hb
    split at h
    · rename_i n e sz b cells ht
      cases h
      refine ⟨⟨[], [], [(id - 5000000, ⟨n, e, sz, some (false, cells)⟩)]⟩, rfl, old1g ht, fun t hE => ?_⟩
      simp only [freeze1, hb, hE.tags _ _ ht]
      rfl
    · cases h
  · rename_i hb
    split at h
    · rename_i cs hc
      split at h
      · rename_i ds os hd
        cases h
        refine ⟨⟨[], [(id, .var false ds)], []⟩, rfl, old1h hc, fun t hE => ?_⟩
        simp only [freeze1, hb, hE.heap _ _ hc, treeHL_mono hE hd]
        rfl
      · cases h
    · rename_i cs hc
      cases h
      refine ⟨⟨[], [(id, .rows false cs)], []⟩, rfl, old1h hc, fun t hE => ?_⟩
      simp only [freeze1, hb, hE.heap _ _ hc]
      rfl
    · rename_i cs hc
      cases h
      refine ⟨⟨[], [], []⟩, rfl, OldD.nil _, fun t hE => ?_⟩
      simp only [freeze1, hb, hE.heap _ _ hc]
      rfl
    · rename_i cs hc
      cases h
      refine ⟨⟨[], [], []⟩, rfl, OldD.nil _, fun t hE => ?_⟩
      simp only [freeze1, hb, hE.heap _ _ hc]
      rfl
    · cases h
theorem freezeAll_mono : ∀ (ids : List Nat) {s s' : AS} {x : List Prop}, freezeAll s ids = some (s', x) → ∃ δ : Dl, s' = s.plus δ ∧ OldD δ s ∧ ∀ t, Ext s t → freezeAll t ids = some (t.plus δ, x)
  | [], s, s', x, h => by
    cases h
    exact ⟨⟨[], [], []⟩, rfl, OldD.nil _, fun t hE => rfl⟩
  | i :: ids, s, s', x, h => by
    simp only [freezeAll] at h
    split at h
    · rename_i s1 a h1
      split at h
      · rename_i s2 b h2
        cases h
        obtain ⟨δ, e1, o1, m1⟩ := freeze1_mono i h1
        subst e1
        obtain ⟨ε, e2, o2, m2⟩ := freezeAll_mono ids h2
        subst e2
        refine ⟨δ.then ε, AS.plus_then _ _ _, o1.then o2, fun t hE => ?_⟩
        simp only [freezeAll, m1 t hE, m2 _ (hE.plus δ), AS.plus_then]
      · cases h
    · cases h
theorem impL_mono : ∀ (xs : List AV) (d : Nat), Mono (fun s => impL s d xs)
  | [], d => by
    intro s s' r h
    cases h
    exact ⟨⟨[], [], []⟩, rfl, fun t hE hF => rfl⟩
  | x :: xs, d => by
    intro s s' r h
    simp only at h
    unfold impL at h
    split at h
    · rename_i heq; cases heq
    · rename_i nl n cells e sz r' heq
      cases heq
      split at h
      · rename_i hn
        split at h
        · rename_i s2 l h2
          cases h
          obtain ⟨ε, e2, m2⟩ := impL_mono xs (d + 1000) _ _ _ h2
          subst e2
          refine ⟨(⟨[], [], [(d, ⟨n, e, sz, none⟩)]⟩ : Dl).then ε, by rw [← AS.plus_then]; rfl, fun t hE hF => ?_⟩
          have hn' : look t.tags d = none := hF.left.g d (by simp [look_cons, isS]) hn
          have k2 := m2 _ (hE.plus ⟨[], [], [(d, ⟨n, e, sz, none⟩)]⟩) hF.right
          have e3 : t.tag d ⟨n, e, sz, none⟩ = t.plus ⟨[], [], [(d, ⟨n, e, sz, none⟩)]⟩ := rfl
          simp only at k2
          simp only [impL, hn', e3, k2, AS.plus_then]
        · cases h
      · cases h
    · rename_i x' r' hne heq
      cases heq
      split at h
      · rename_i s2 l h2
        cases h
        obtain ⟨ε, e2, m2⟩ := impL_mono xs (d + 1000) _ _ _ h2
        subst e2
        refine ⟨ε, rfl, fun t hE hF => ?_⟩
        have k2 := m2 _ hE hF
        simp only at k2
        show impL t d (x :: xs) = _
        unfold impL
        split
        · rename_i heq; cases heq
        · rename_i nl n cells e sz r'' heq
          cases heq
          exact (hne _ _ _ _ _ rfl).elim
        · rename_i x2 r2 _ heq
          cases heq
          rw [k2]
      · cases h
theorem imp_mono (d : Nat) (res : AV) : Mono (fun s => imp s d res) := by
  intro s s' r h
  simp only [imp] at h
  split at h
  · rename_i cs
    split at h
    · rename_i s1 l h1
      cases h
      obtain ⟨δ, e, m⟩ := impL_mono cs d _ _ _ h1
      refine ⟨δ, e, fun t hE hF => ?_⟩
      have := m t hE hF
      simp only at this
      simp only [imp, this]
    · cases h
  · rename_i cs
    split at h
    · rename_i s1 l h1
      cases h
      obtain ⟨δ, e, m⟩ := impL_mono cs d _ _ _ h1
      refine ⟨δ, e, fun t hE hF => ?_⟩
      have := m t hE hF
      simp only at this
      simp only [imp, this]
    · cases h
  · rename_i nl n cells o
    split at h
    · rename_i s1 y h1
      cases h
      obtain ⟨δ, e, m⟩ := impL_mono [.sl nl n cells o] d _ _ _ h1
      refine ⟨δ, e, fun t hE hF => ?_⟩
      have := m t hE hF
      simp only at this
      simp only [imp, this]
    · cases h
  · rename_i h1 h2 h3
    cases h
    refine ⟨⟨[], [], []⟩, rfl, fun t hE hF => ?_⟩
    cases res <;> first | rfl | exact absurd rfl (h1 _) | exact absurd rfl (h2 _) | exact absurd rfl (h3 _ _ _ _)
theorem callA_mono (P : Program) (d : Nat) (f : AV) (xs : List AV) (ann : Option Ann) : Mono (fun s => callA P s d f xs ann) := by
  intro s s' r h
  simp only [callA] at h
  split at h
  · rename_i fid caps zs g hann
    split at h
    · rename_i s1 a hs1
      obtain ⟨δ, e1, o1, m1⟩ := freezeAll_mono zs hs1
      subst e1
      split at h
      · rename_i ys b hys
        split at h
        · rename_i hsc
          cases h
          refine ⟨⟨[], [], []⟩, rfl, fun t hE hF => ?_⟩
          simp only [callA, hann, m1 t hE, treeHL_mono (hE.plus δ) hys, hsc]
          rfl
        · rename_i hsc
          split at h
          · rename_i s2 v hi
            cases h
            obtain ⟨ε, e2, m2⟩ := imp_mono d (g ys) _ _ _ hi
            subst e2
            refine ⟨δ.then ε, AS.plus_then _ _ _, fun t hE hF => ?_⟩
            have k1 := m1 t hE
            have k2 := m2 _ (hE.plus δ) hF.right
            simp only at k2
            simp only [callA, hann, k1, treeHL_mono (hE.plus δ) hys, hsc, k2, AS.plus_then]
          · cases h
      · cases h
    · cases h
  · cases h

theorem ovr_mono {r1 r2 : VR} {ann : Option AV} {y : AV × List Prop} (h : ∀ x, r1 = some x → r2 = some x) (hy : ovr r1 ann = some y) : ovr r2 ann = some y := by
  unfold ovr at hy ⊢
  split at hy
  · exact h _ hy
  · split at hy
    · rename_i x' os'
      rw [h _ rfl]
      exact hy
    · cases hy
theorem buildA_mono {Γ : TT} {s t : AS} (h : Ext s t) {ty : TypeId} {ps : Array (Nat × Operand)} {r : AV × List Prop} (hv : buildA Γ s ty ps = some r) : buildA Γ t ty ps = some r := by
  unfold buildA at hv ⊢
  cases h1 : look Γ ty with
  | none => rw [h1] at hv; cases hv
  | some ti =>
    simp only [h1] at hv ⊢
    cases h2 : ti.kind with
    | struct fs =>
      simp only [h2] at hv ⊢
      cases h3 : fieldSizes Γ fs with
      | none => simp only [h3] at hv; cases hv
      | some zs =>
        cases h4 : evParts s ps.toList with
        | none => simp only [h3, h4] at hv; cases hv
        | some xs =>
          simp only [h3, h4] at hv
          simp only [evParts_mono h h4]
          exact hv
    | _ => simp only [h2] at hv; cases hv
theorem litA_mono {Γ : TT} {s t : AS} (h : Ext s t) {ty : TypeId} {len : Nat} {ps : Array (Nat × Operand)} {r : AV × List Prop} (hv : litA Γ s ty len ps = some r) : litA Γ t ty len ps = some r := by
  unfold litA at hv ⊢
  cases h1 : look Γ ty with
  | none => rw [h1] at hv; cases hv
  | some ti =>
    simp only [h1] at hv ⊢
    cases h2 : ti.kind with
    | slice e =>
      simp only [h2] at hv ⊢
      cases h3 : look Γ e with
      | none => simp only [h3] at hv; cases hv
      | some ei =>
        simp only [h3] at hv ⊢
        cases h4 : evParts s ps.toList with
        | none =>
          simp only [h4] at hv
          split at hv
          · rename_i h5; cases h5
          · cases hv
        | some xs =>
          simp only [h4] at hv
          simp only [evParts_mono h h4]
          exact hv
    | _ => simp only [h2] at hv; cases hv

def evO (s : AS) : Option Operand → Option (Option AV)
  | some y => (s.ev y).map some
  | none => some none
theorem evOpt_mono {s t : AS} (h : Ext s t) {y : Option Operand} {z : Option AV} (hz : evO s y = some z) : evO t y = some z := by
  cases y with
  | none => exact hz
  | some y =>
    simp only [evO, Option.map_eq_some_iff] at hz ⊢
    obtain ⟨u, hu, rfl⟩ := hz
    exact ⟨u, ev_mono h hu, rfl⟩

theorem stepV_mono (Γ : TT) (d : Nat) (op : Op) (ann : Option AV) : Mono (fun s => stepV Γ s d op ann) := by
  intro s s' x h
  simp only at h
  have nil : ∀ {r : AV × List Prop}, s' = s → x = r → (∀ t, Ext s t → stepV Γ t d op ann = some (t, r)) → ∃ δ : Dl, s' = s.plus δ ∧ ∀ t, Ext s t → Fresh δ s t → stepV Γ t d op ann = some (t.plus δ, x) := by
    intro r e1 e2 hm
    subst e1; subst e2
    exact ⟨⟨[], [], []⟩, rfl, fun t hE hF => hm t hE⟩
  have viaM : ∀ {F : AS → SR}, Mono F → F s = some (s', x) → (∀ t, Ext s t → stepV Γ t d op ann = F t) → ∃ δ : Dl, s' = s.plus δ ∧ ∀ t, Ext s t → Fresh δ s t → stepV Γ t d op ann = some (t.plus δ, x) := by
    intro F hF hs ht
    obtain ⟨δ, e, m⟩ := hF s s' x hs
    exact ⟨δ, e, fun t hE hf => by rw [ht t hE]; exact m t hE hf⟩
  unfold stepV at h
  split at h
  · split at h
    · rename_i y hy
      obtain ⟨e, hr⟩ := pure_sr h
      exact nil (r := x) e rfl fun t hE => by simp only [stepV, ev_mono hE hy, hr]
    · cases h
  · split at h
    · rename_i y hy
      obtain ⟨e, hr⟩ := pure_sr h
      exact nil (r := x) e rfl fun t hE => by simp only [stepV, ev_mono hE hy, hr]
    · cases h
  · split at h
    · rename_i hc
      split at h
      · rename_i y hy
        obtain ⟨e, hr⟩ := pure_sr h
        exact nil (r := x) e rfl fun t hE => by simp only [stepV, ev_mono hE hc, ev_mono hE hy, hr]
      · cases h
    · rename_i hc
      split at h
      · rename_i y hy
        obtain ⟨e, hr⟩ := pure_sr h
        exact nil (r := x) e rfl fun t hE => by simp only [stepV, ev_mono hE hc, ev_mono hE hy, hr]
      · cases h
    · cases h
  · exact viaM (allocA_mono Γ d _) h fun t hE => rfl
  · split at h
    · rename_i y hy
      exact viaM (boxA_mono Γ d _ y) h fun t hE => by simp only [stepV, ev_mono hE hy]
    · cases h
  · obtain ⟨e, hr⟩ := pure_sr h
    exact nil (r := x) e rfl fun t hE => by simp only [stepV, ovr_mono (fun z hz => buildA_mono hE hz) hr]
  · obtain ⟨e, hr⟩ := pure_sr h
    exact nil (r := x) e rfl fun t hE => by simp only [stepV, litA_mono hE hr]
  · split at h
    · rename_i y hy
      obtain ⟨e, hr⟩ := pure_sr h
      exact nil (r := x) e rfl fun t hE => by simp only [stepV, ev_mono hE hy, loadA_mono hE hr]
    · cases h
  · split at h
    · rename_i hy
      cases h
      exact nil rfl rfl fun t hE => by simp only [stepV, ev_mono hE hy]
    · rename_i hy
      cases h
      exact nil rfl rfl fun t hE => by simp only [stepV, ev_mono hE hy]
    · rename_i hy
      cases h
      exact nil rfl rfl fun t hE => by simp only [stepV, ev_mono hE hy]
    · cases h
  · split at h
    · rename_i v u hv hu
      split at h
      · obtain ⟨e, hr⟩ := pure_sr h
        exact nil (r := x) e rfl fun t hE => by simp only [stepV, ev_mono hE hv, ev_mono hE hu, hr]
      · rename_i hne
        obtain ⟨e, hr⟩ := pure_sr h
        refine nil (r := x) e rfl fun t hE => ?_
        simp only [stepV, ev_mono hE hv, ev_mono hE hu]
        cases v <;> first | (simp only [hr]; done) | exact absurd rfl (hne _ _ _ _)
    · cases h
  · split at h
    · rename_i y hy
      obtain ⟨e, hr⟩ := pure_sr h
      exact nil (r := x) e rfl fun t hE => by simp only [stepV, ev_mono hE hy, hr]
    · cases h
  · split at h
    · rename_i y hy
      obtain ⟨e, hr⟩ := pure_sr h
      exact nil (r := x) e rfl fun t hE => by
        have e2 : ∀ a b, convA Γ t a b y = convA Γ s a b y := fun _ _ => rfl
        simp only [stepV, ev_mono hE hy, e2, hr]
    · cases h
  · split at h
    · rename_i vs hvs
      cases h
      exact nil rfl rfl fun t hE => by simp only [stepV, evs_mono hE hvs]
    · cases h
  · split at h
    · rename_i v u hv hu
      exact viaM (makeA_mono Γ d _ v u) h fun t hE => by simp only [stepV, ev_mono hE hv, ev_mono hE hu]
    · cases h
  · split at h
    · rename_i v1 l1 h1 m1 e1 e2 e3 e4
      obtain ⟨e, hr⟩ := pure_sr h
      refine nil (r := x) e rfl fun t hE => ?_
      have k2 := evOpt_mono (s := s) hE e2
      have k3 := evOpt_mono (s := s) hE e3
      have k4 := evOpt_mono (s := s) hE e4
      simp only [stepV, ev_mono hE e1]
      split
      · rename_i a1 a2 a3 a4 f1 f2 f3 f4
        have g2 := f2.symm.trans k2
        have g3 := f3.symm.trans k3
        have g4 := f4.symm.trans k4
        cases f1; cases g2; cases g3; cases g4
        simp only [hr]
      · rename_i hne
        exact (hne _ _ _ _ rfl k2 k3 k4).elim
    · cases h
  · split at h
    · rename_i y hy
      obtain ⟨e, hr⟩ := pure_sr h
      exact nil (r := x) e rfl fun t hE => by simp only [stepV, ev_mono hE hy, hr]
    · cases h
  · split at h
    · rename_i y hy
      obtain ⟨e, hr⟩ := pure_sr h
      exact nil (r := x) e rfl fun t hE => by simp only [stepV, ev_mono hE hy, hr]
    · cases h
  · split at h
    · rename_i v u hv hu
      obtain ⟨e, hr⟩ := pure_sr h
      exact nil (r := x) e rfl fun t hE => by simp only [stepV, ev_mono hE hv, ev_mono hE hu, ovr_mono (fun z hz => indexAddrA_mono hE hz) hr]
    · cases h
  · split at h
    · rename_i v u hv hu
      obtain ⟨e, hr⟩ := pure_sr h
      exact nil (r := x) e rfl fun t hE => by simp only [stepV, ev_mono hE hv, ev_mono hE hu, hr]
    · cases h
  · split at h
    · rename_i y hy
      exact viaM (rangeA_mono Γ d _ y) h fun t hE => by simp only [stepV, ev_mono hE hy]
    · cases h
  · split at h
    · rename_i y hy
      exact viaM (nextA_mono y ann) h fun t hE => by simp only [stepV, ev_mono hE hy]
    · cases h
  · split at h
    · rename_i y hy
      obtain ⟨e, hr⟩ := pure_sr h
      exact nil (r := x) e rfl fun t hE => by simp only [stepV, ev_mono hE hy, hr]
    · cases h
  · split at h
    · rename_i y hy
      obtain ⟨e, hr⟩ := pure_sr h
      exact nil (r := x) e rfl fun t hE => by simp only [stepV, ev_mono hE hy, ovr_mono (fun z hz => lenA_mono hE hz) hr]
    · cases h
  · split at h
    · rename_i v u hv hu
      obtain ⟨e, hr⟩ := pure_sr h
      exact nil (r := x) e rfl fun t hE => by simp only [stepV, ev_mono hE hv, ev_mono hE hu, hr]
    · cases h
  · split at h
    · rename_i v u hv hu
      obtain ⟨e, hr⟩ := pure_sr h
      exact nil (r := x) e rfl fun t hE => by simp only [stepV, ev_mono hE hv, ev_mono hE hu, hr]
    · cases h
  · split at h
    · rename_i v u hv hu
      exact viaM (appN_mono Γ d _ _ v u) h fun t hE => by simp only [stepV, ev_mono hE hv, ev_mono hE hu]
    · cases h
  · cases h
end Go.AX
end

section
set_option linter.unusedVariables false
set_option linter.unusedSimpArgs false
namespace Go.AX
open Go Go.RowKit

def isM : Ann → Bool
  | .callM _ _ _ _ _ _ _ => true
  | _ => false
def filterM : List (Nat × Ann) → List (Nat × Ann)
  | [] => []
  | (i, a) :: r => match isM a with
    | true => filterM r
    | false => (i, a) :: filterM r
theorem filterM_look : ∀ {l : List (Nat × Ann)} {i : Nat} {a : Ann}, look (filterM l) i = some a → isM a = false
  | [], i, a, h => by simp [filterM, look] at h
  | (j, b) :: r, i, a, h => by
    simp only [filterM] at h
    split at h
    · exact filterM_look h
    · rename_i hb
      rw [look_cons] at h
      split at h
      · cases h; exact hb
      · exact filterM_look h

theorem litV_mono {F : AS → SR} (hF : Mono F) (a : Option Ann) : Mono (fun s => litV a (F s)) := by
  intro s s' x h
  simp only [litV] at h
  split at h
  · rename_i b
    split at h
    · rename_i s1 e os h1
      cases h
      obtain ⟨δ, e1, m⟩ := hF s s' (.bool e, os) h1
      refine ⟨δ, e1, fun t hE hf => ?_⟩
      have k := m t hE hf
      simp only [litV, k]
    · rename_i hne
      obtain ⟨δ, e1, m⟩ := hF s s' x h
      refine ⟨δ, e1, fun t hE hf => ?_⟩
      have k := m t hE hf
      simp only [litV, k]
      split
      · rename_i s2 e2 os2 hh
        cases hh
        exact (hne _ _ _ h).elim
      · rfl
  · rename_i hne
    obtain ⟨δ, e1, m⟩ := hF s s' x h
    refine ⟨δ, e1, fun t hE hf => ?_⟩
    have k := m t hE hf
    simp only [litV]
    exact k
theorem put_mono {nt : Nat} {F : AS → SR} (hF : Mono F) (d : Option Nat) : Mono (fun s => finO nt (F s) d) := by
  intro s s' x h
  simp only [finO] at h
  split at h
  · rename_i s1 v os d h1
    split at h
    · rename_i hb
      cases h
      obtain ⟨δ, e, m⟩ := hF s s1 (v, x) h1
      subst e
      refine ⟨δ.then ⟨[(d, v)], [], []⟩, by rw [← AS.plus_then]; rfl, fun t hE hf => ?_⟩
      have k := m t hE hf.left
      simp only [finO, k, hb]
      rw [← AS.plus_then]
      rfl
    · cases h
  · cases h

theorem stepOp_mono (P : Program) (Γ : TT) (nt : Nat) {ann : List (Nat × Ann)} (hN : ∀ i a, look ann i = some a → isM a = false) (o : Oper) : Mono (fun s => stepOp P Γ nt ann s o) := by
  intro s s' x h
  simp only at h
  have h0 := h
  unfold stepOp at h
  split at h
  · rename_i ty p y hop
    split at h
    · rename_i u v hu hv hd
      obtain ⟨δ, e, m⟩ := storeA_mono Γ ty u v s s' x h
      refine ⟨δ, e, fun t hE hf => ?_⟩
      have k := m t hE hf
      simp only at k
      simp only [stepOp, hop, ev_mono hE hu, ev_mono hE hv, hd, k]
    · cases h
  · rename_i f args ts hop
    split at h
    · rename_i u vs hu hvs
      have hb : ∀ t, callB P t (o.dst.getD 0) u vs (annC ann u o.dst) = callA P t (o.dst.getD 0) u vs (annC ann u o.dst) := by
        intro t
        unfold callB
        split
        · rename_i hm
          exfalso
          have : ∀ a, annC ann u o.dst = some a → isM a = false := by
            intro a ha
            unfold annC at ha
            split at ha
            · rename_i a' ha'
              cases ha
              cases hd : o.dst with
              | none => rw [hd] at ha'; cases ha'
              | some d => rw [hd] at ha'; exact hN d a ha'
            · split at ha
              · exact hN _ a ha
              · cases ha
          have := this _ hm
          cases this
        · rfl
      rw [hb] at h
      obtain ⟨δ, e, m⟩ := put_mono (nt := nt) (litV_mono (callA_mono P (o.dst.getD 0) u vs (annC ann u o.dst)) (litK ann o.dst)) o.dst s s' x h
      refine ⟨δ, e, fun t hE hf => ?_⟩
      have k := m t hE hf
      simp only at k
      simp only [stepOp, hop, ev_mono hE hu, evs_mono hE hvs, hb, k]
    · cases h
  · rename_i h1 h2
    obtain ⟨δ, e, m⟩ := put_mono (nt := nt) (litV_mono (stepV_mono Γ (annI (lookO ann o.dst) (o.dst.getD 0)) o.op (Ann.v? (lookO ann o.dst))) (litK ann o.dst)) o.dst s s' x h
    refine ⟨δ, e, fun t hE hf => ?_⟩
    have k := m t hE hf
    simp only at k
    unfold stepOp
    split
    · rename_i hop; exact absurd hop (h1 _ _ _)
    · rename_i hop; exact absurd hop (h2 _ _ _)
    · exact k

theorem gval_mono {s t : AS} (h : Ext s t) {ops : Array Oper} {j : Nat} {b : Option Bool} (hg : gval s ops j = some b) : gval t ops j = some b := by
  unfold gval at hg ⊢
  cases ho : ops[j]? with
  | none => rw [ho] at hg; cases hg
  | some o =>
    simp only [ho] at hg ⊢
    cases hd : o.dst with
    | none => rw [hd] at hg; cases hg
    | some d =>
      simp only [hd, lookO] at hg ⊢
      cases hl : look s.tmps d with
      | none => rw [hl] at hg; cases hg
      | some v =>
        rw [hl] at hg
        rw [h.tmps _ _ hl]
        exact hg
theorem skipO_mono (nt : Nat) (d : Option Nat) : Mono (fun s => (skipO nt s d).map fun s' => (s', ([] : List Prop))) := by
  intro s s' x h
  simp only [Option.map_eq_some_iff] at h
  obtain ⟨s1, h, h'⟩ := h
  cases h'
  cases d with
  | none => cases h; exact ⟨⟨[], [], []⟩, rfl, fun t hE hf => rfl⟩
  | some d =>
    simp only [skipO] at h
    split at h
    · rename_i hb
      cases h
      refine ⟨⟨[(d, .tup [])], [], []⟩, rfl, fun t hE hf => ?_⟩
      simp only [skipO, hb]
      rfl
    · cases h
theorem oper1_mono (P : Program) (Γ : TT) (nt : Nat) {ann : List (Nat × Ann)} (hN : ∀ i a, look ann i = some a → isM a = false) (ops : Array Oper) (o : Oper) : Mono (fun s => oper1 P Γ nt ann ops s o) := by
  intro s s' x h
  simp only [oper1] at h
  have A : ∀ {b : Option (Nat × Bool)}, stepOp P Γ nt ann s o = some (s', x) → (∀ t, Ext s t → oper1 P Γ nt ann ops t o = stepOp P Γ nt ann t o) → ∃ δ : Dl, s' = s.plus δ ∧ ∀ t, Ext s t → Fresh δ s t → oper1 P Γ nt ann ops t o = some (t.plus δ, x) := by
    intro b hs ht
    obtain ⟨δ, e, m⟩ := stepOp_mono P Γ nt hN o s s' x hs
    exact ⟨δ, e, fun t hE hf => by rw [ht t hE]; exact m t hE hf⟩
  have B : (skipO nt s o.dst).map (fun s' => (s', ([] : List Prop))) = some (s', x) → (∀ t, Ext s t → oper1 P Γ nt ann ops t o = (skipO nt t o.dst).map fun s' => (s', ([] : List Prop))) → ∃ δ : Dl, s' = s.plus δ ∧ ∀ t, Ext s t → Fresh δ s t → oper1 P Γ nt ann ops t o = some (t.plus δ, x) := by
    intro hs ht
    obtain ⟨δ, e, m⟩ := skipO_mono nt o.dst s s' x hs
    exact ⟨δ, e, fun t hE hf => by rw [ht t hE]; exact m t hE hf⟩
  split at h
  · rename_i hg
    exact A (b := none) h fun t hE => by simp only [oper1, hg]
  · rename_i j want hg
    split at h
    · rename_i hv
      split at h
      · exact A (b := none) h fun t hE => by simp only [oper1, hg, gval_mono hE hv]
      · exact B h fun t hE => by simp only [oper1, hg, gval_mono hE hv]
    · rename_i hv
      split at h
      · exact B h fun t hE => by simp only [oper1, hg, gval_mono hE hv]
      · exact A (b := none) h fun t hE => by simp only [oper1, hg, gval_mono hE hv]
    · rename_i hv
      exact B h fun t hE => by simp only [oper1, hg, gval_mono hE hv]
    · cases h
end Go.AX
end
