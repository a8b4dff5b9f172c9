import Derived.Test.YtbedjjckfmhdfaaAxP
set_option linter.unusedVariables false
set_option linter.unusedSimpArgs false
namespace Go.AX
open Go Go.RowKit

def tsAt (xs ys : List AV) (i : Nat) : Option Nat :=
  match xs[i]?, ys[i]? with
  | some (.sl _ _ _ (.own t)), some (.sl _ _ _ (.fresh _ _)) => some t
  | _, _ => none
theorem given_mem : ∀ (xs ys : List AV) (i t : Nat), tsAt xs ys i = some t → t ∈ given xs ys
  | [], ys, i, t, h => by simp [tsAt] at h
  | x :: xs, [], i, t, h => by
    simp only [tsAt] at h
    split at h
    · rename_i h2; simp at h2
    · cases h
  | x :: xs, y :: ys, i, t, h => by
    match i, h with
    | 0, h =>
      simp only [tsAt, List.getElem?_cons_zero] at h
      split at h
      · rename_i h1 h2
        cases h
        cases h1; cases h2
        simp [given]
      · cases h
    | n + 1, h =>
      have h' : tsAt xs ys n = some t := by simpa [tsAt] using h
      have ih := given_mem xs ys n t h'
      unfold given
      split
      · rename_i e1 e2
        cases e1; cases e2
        exact List.mem_cons_of_mem _ ih
      · rename_i _ e1 e2
        cases e1; cases e2
        exact ih
      · rename_i hne
        exact absurd rfl (hne _ _ _ _ rfl)
theorem given_inj : ∀ (xs ys : List AV) (i j t : Nat), nodupB (given xs ys) = true → tsAt xs ys i = some t → tsAt xs ys j = some t → i = j
  | [], ys, i, j, t, hn, h, h' => by simp [tsAt] at h
  | x :: xs, [], i, j, t, hn, h, h' => by
    simp only [tsAt] at h
    split at h
    · rename_i h2; simp at h2
    · cases h
  | x :: xs, y :: ys, i, j, t, hn, h, h' => by
    have head : ∀ {u}, tsAt (x :: xs) (y :: ys) 0 = some u → given (x :: xs) (y :: ys) = u :: given xs ys := by
      intro u hu
      simp only [tsAt, List.getElem?_cons_zero] at hu
      split at hu
      · rename_i h1 h2
        cases hu
        cases h1; cases h2
        rfl
      · cases hu
    have tail : nodupB (given xs ys) = true := by
      unfold given at hn
      split at hn
      · rename_i e1 e2
        cases e1; cases e2
        simp only [nodupB, Bool.and_eq_true] at hn
        exact hn.2
      · rename_i _ e1 e2
        cases e1; cases e2
        exact hn
      · rename_i hne
        exact absurd rfl (hne _ _ _ _ rfl)
    have no : ∀ {n u}, tsAt (x :: xs) (y :: ys) 0 = some u → tsAt xs ys n = some u → False := by
      intro n u h1 h2
      rw [head h1] at hn
      simp only [nodupB, Bool.and_eq_true, Bool.not_eq_true'] at hn
      have := given_mem xs ys n u h2
      have h3 := List.any_eq_false.1 hn.1 u this
      simp at h3
    match i, j, h, h' with
    | 0, 0, h, h' => rfl
    | 0, n + 1, h, h' => exact (no h (by simpa [tsAt] using h')).elim
    | n + 1, 0, h, h' => exact (no h' (by simpa [tsAt] using h)).elim
    | n + 1, m + 1, h, h' => rw [given_inj xs ys n m t tail (by simpa [tsAt] using h) (by simpa [tsAt] using h')]

theorem finT_undef (s : AS) (y : AV) : finT s .undef y = none := by unfold finT; split <;> simp [treeH]
theorem finL_undef (s : AS) (ys : List AV) : finL s [.undef] ys = none := by
  cases ys with
  | nil => rfl
  | cons y ys => simp [finL, finT_undef]

theorem finT_sound {C : Ctx} {G : Env} {s : AS} {a : Act} {w : World} (hR : RelG C G s a w) {x y : AV} {u : Value} (hx : Rep w G true x u) {os : List Prop} (h : finT s x y = some os) (ho : All os) :
    ∃ r, FrOk C.w0.heap.size w y u r ∧ Rep w G false y u ∧ ∀ r', r = some r' → r'.o = true → ∃ t nl n c nl' n' c' e sz, x = .sl nl n c (.own t) ∧ y = .sl nl' n' c' (.fresh e sz) ∧ G.τ t = some r' := by
  have other : (∀ nl n c e sz, y ≠ .sl nl n c (.fresh e sz)) → (match treeH s x with | some z => leP z y | none => none : Option (List Prop)) = some os → ∃ r, FrOk C.w0.heap.size w y u r ∧ Rep w G false y u ∧ ∀ r', r = some r' → r'.o = true → ∃ t nl n c nl' n' c' e sz, x = .sl nl n c (.own t) ∧ y = .sl nl' n' c' (.fresh e sz) ∧ G.τ t = some r' := by
    intro hy h
    split at h
    · rename_i z hz
      refine ⟨none, ?_, leP_rep (treeH_sound hR hx hz) h ho, fun r' e => by cases e⟩
      cases y with
      | sl nl n c o =>
        cases o with
        | fresh e sz => exact absurd rfl (hy _ _ _ _ _)
        | _ => trivial
      | _ => trivial
    · cases h
  unfold finT at h
  split at h
  · rename_i nl' n' c' e sz
    split at h
    · rename_i nl n c t
      split at h
      · rename_i g hg hnl
        split at h
        · rename_i h1 h2
          cases h
          simp only [All] at ho
          obtain ⟨rfl, rfl, hgn⟩ := ho
          obtain ⟨r, hr, hrg, hcl, hown⟩ := hR.tags t g hg
          have e1 := Nat.eq_of_beq_eq_true h1
          have e2 := Nat.eq_of_beq_eq_true h2
          have hgg : g = ⟨r.n, r.e, r.sz⟩ := hrg.symm
          subst hgg
          simp only at hgn e1 e2
          cases hx with
          | sl _ _ _ _ _ A c1 vs hnl' hpos hc hcell hrep hclip hown' =>
          obtain ⟨_, r2, hr2, hle, hv⟩ := hown' t rfl
          rw [hr] at hr2
          cases hr2
          have hv' := hv hgn
          refine ⟨some r, ⟨hv', hgn, e1, e2, fun ho => ?_, fun ho => ?_⟩, ?_, fun r' e ho => ?_⟩
          · obtain ⟨A', e3, e4⟩ := hcl ho
            rw [hv', hgn] at e3
            rw [hgn] at e4
            exact ⟨A', e3, e4⟩
          · obtain ⟨h3, h4, _⟩ := hown ho
            rw [hv', e1, e2, hgn] at h3
            exact ⟨h3, h4⟩
          · refine .sl _ _ _ _ _ _ _ vs (fun b hb => ?_) hpos hc hcell hrep (fun e => by cases e) (fun t e => by cases e)
            subst hb
            cases nl with
            | none => simp [nlLe] at hnl
            | some a1 =>
              simp [nlLe] at hnl
              exact hnl' b (by rw [hnl])
          · cases e
            exact ⟨t, nl, n, c, nl', n, c, e, sz, rfl, rfl, hr⟩
        · cases h
      · cases h
    · rename_i nl n c
      split at h
      · rename_i hnl
        cases h
        simp only [All] at ho
        obtain ⟨rfl, rfl⟩ := ho
        cases hx with
        | sl _ _ _ _ _ A c1 vs hnl' hpos hc hcell hrep hclip hown' =>
        have hcn := hclip rfl
        subst hcn
        refine ⟨some ⟨false, .slice A c1 c1, c1, e, sz, []⟩, ⟨rfl, rfl, rfl, rfl, fun _ => ⟨A, rfl, fun hA => ?_⟩, fun ho => by cases ho⟩, ?_, fun r' e ho => by cases e; cases ho⟩
        · rcases Nat.eq_zero_or_pos c1 with h0 | h0
          · exact h0
          · obtain ⟨ad, e, _⟩ := hpos h0
            rw [hA] at e
            cases e
        · refine .sl _ _ _ _ _ _ _ vs (fun b hb => ?_) hpos hc hcell hrep (fun e => by cases e) (fun t e => by cases e)
          subst hb
          cases nl with
          | none => simp [nlLe] at hnl
          | some a1 =>
            simp [nlLe] at hnl
            exact hnl' b (by rw [hnl])
      · cases h
    · cases h
  · rename_i hne
    exact other (fun nl n c e sz hy => hne nl n c e sz hy) h

theorem finL_sound {C : Ctx} {G : Env} {s : AS} {a : Act} {w : World} (hR : RelG C G s a w) : ∀ (xs ys : List AV) (us : List Value) (os : List Prop), finL s xs ys = some os → All os → us.length = xs.length → (∀ (i : Nat) (x : AV) (u : Value), xs[i]? = some x → us[i]? = some u → Rep w G true x u) →
    ys.length = xs.length ∧ ∃ rs : List (Option TagRec), rs.length = ys.length ∧ (∀ (i : Nat) (y : AV) (u : Value) (r : Option TagRec), ys[i]? = some y → us[i]? = some u → rs[i]? = some r → FrOk C.w0.heap.size w y u r) ∧
      (∀ (i : Nat) (y : AV) (u : Value), ys[i]? = some y → us[i]? = some u → Rep w G false y u) ∧ ∀ (i : Nat) (r : TagRec), rs[i]? = some (some r) → r.o = true → ∃ t, tsAt xs ys i = some t ∧ G.τ t = some r
  | [], [], us, os, h, ho, hl, hr => ⟨rfl, [], rfl, fun i y u r hy => by simp at hy, fun i y u hy => by simp at hy, fun i r hr => by simp at hr⟩
  | [], _ :: _, us, os, h, ho, hl, hr => by simp [finL] at h
  | _ :: _, [], us, os, h, ho, hl, hr => by simp [finL] at h
  | x :: xs, y :: ys, us, os, h, ho, hl, hr => by
    simp only [finL] at h
    split at h
    · rename_i a1 b1 h1 h2
      cases h
      obtain ⟨ho1, ho2⟩ := All_append.1 ho
      cases us with
      | nil => simp at hl
      | cons u us =>
        obtain ⟨r, h3, h4, h5⟩ := finT_sound hR (hr 0 x u rfl rfl) h1 ho1
        obtain ⟨h6, rs, h7, h8, h9, h10⟩ := finL_sound hR xs ys us b1 h2 ho2 (by simpa using hl) (fun i x u a b => hr (i + 1) x u (by simpa using a) (by simpa using b))
        refine ⟨by simp [h6], r :: rs, by simp [h7], fun i y' u' r' a b c => ?_, fun i y' u' a b => ?_, fun i r' a b => ?_⟩
        · match i, a, b, c with
          | 0, a, b, c =>
            simp at a b c
            subst a; subst b; subst c
            exact h3
          | n + 1, a, b, c => exact h8 n y' u' r' (by simpa using a) (by simpa using b) (by simpa using c)
        · match i, a, b with
          | 0, a, b =>
            simp at a b
            subst a; subst b
            exact h4
          | n + 1, a, b => exact h9 n y' u' (by simpa using a) (by simpa using b)
        · match i, a with
          | 0, a =>
            simp at a
            obtain ⟨t, nl, n, c, nl', n', c', e, sz, rfl, rfl, ht⟩ := h5 r' a b
            exact ⟨t, rfl, ht⟩
          | n + 1, a =>
            obtain ⟨t, h11, h12⟩ := h10 n r' (by simpa using a) b
            exact ⟨t, by simpa [tsAt] using h11, h12⟩
    · cases h

theorem retP_sound {P : Program} {Γ : TT} (hΓ : Γok P Γ) {C : Ctx} {G : Env} {s : AS} {a : Act} {w : World} (hR : RelG C G s a w) {fn : Func} {zs : List Nat} {res : AV} {os : List Prop} (h : retP Γ zs s fn.results.toList res = some os) (ho : All os) :
    ∃ x rs, (results fn a.tmps).run P w = .ok x w ∧ Res C.F0 C.w0 w res x rs := by
  unfold retP at h
  split at h
  · rename_i s1 hs1
    obtain ⟨G1, hR1, _⟩ := freezeAll_sound hR hs1
    split at h
    · rename_i v hv
      split at h
      · rename_i hsh hnd
        obtain ⟨x, h1, h2⟩ := retA_sound (P := P) hΓ hR1 hv
        have htl : (topsV x).length = (tops v).length ∧ ∀ (i : Nat) (c : AV) (u : Value), (tops v)[i]? = some c → (topsV x)[i]? = some u → Rep w G1 true c u := by
          have hh := h2
          cases h2 with
          | agg _ cs vs hl hr h1' => exact ⟨by simpa [tops, topsV] using hl, fun i c u hc hu => hr i c u hc (by simpa [topsV] using hu)⟩
          | tup _ cs vs hl hr => exact ⟨by simpa [tops, topsV] using hl, fun i c u hc hu => hr i c u hc (by simpa [topsV] using hu)⟩
          | undef l v' =>
            exfalso
            rw [show tops .undef = [.undef] from rfl, finL_undef] at h
            cases h
          | _ =>
            refine ⟨rfl, fun i c u hc hu => ?_⟩
            match i, hc, hu with
            | 0, hc, hu =>
              simp [tops, topsV] at hc hu
              subst hc; subst hu
              exact hh
            | n + 1, hc, hu => simp [tops] at hc
        obtain ⟨h3, rs, h4, h5, h6, h7⟩ := finL_sound hR1 (tops v) (tops res) (topsV x) os h ho htl.1 htl.2
        refine ⟨x, rs, h1, ⟨hR1.below, h4, by rw [htl.1, h3], h5, fun i j r r' g hi hj hro hro' hg hg' => ?_, ?_⟩⟩
        · obtain ⟨t, ht1, ht2⟩ := h7 i r hi hro
          obtain ⟨t', ht1', ht2'⟩ := h7 j r' hj hro'
          have ht : t' = t := by
            cases hlk : look s1.tags t with
            | none => rw [hR1.notag t hlk] at ht2; cases ht2
            | some n =>
              obtain ⟨r0, hr0, _, _, hown⟩ := hR1.tags t n hlk
              rw [ht2] at hr0
              cases hr0
              exact ((hown hro).2.2 g hg).2.2 t' r' ht2' hro' hg'
          subst ht
          exact given_inj _ _ i j _ hnd ht1 ht1'
        · have hle : ∀ b o, G1.F b o → Fr C.F0 C.w0 w rs b o := by
            intro b o hf
            by_cases hb : b < C.w0.heap.size
            · exact .inl (hR1.fold b o hf hb)
            · refine .inr ⟨by omega, hR1.fdom b o hf, fun r hr hro hg => ?_⟩
              obtain ⟨i, hi⟩ := List.mem_iff_getElem?.1 hr
              obtain ⟨t, _, ht2⟩ := h7 i r hi hro
              cases hlk : look s1.tags t with
              | none => rw [hR1.notag t hlk] at ht2; cases ht2
              | some n =>
                obtain ⟨r0, hr0, _, _, hown⟩ := hR1.tags t n hlk
                rw [ht2] at hr0
                cases hr0
                exact ((hown hro).2.2 b hg).1 o hf
          have hrep : Rep w G1 false res x := by
            by_cases hu : v = .undef
            · subst hu
              rw [show tops .undef = [.undef] from rfl, finL_undef] at h
              cases h
            cases v <;> cases res <;> simp [shape] at hsh
            all_goals first
              | exact absurd rfl hu
              | (cases h2 with | agg _ _ vs hl hr h1' => exact .agg _ _ _ (by simp only [tops] at h3; omega) (fun i c u hc hu => h6 i c u hc (by simpa [topsV] using hu)) h1')
              | (cases h2 with | tup _ _ vs hl hr => exact .tup _ _ _ (by simp only [tops] at h3; omega) (fun i c u hc hu => h6 i c u hc (by simpa [topsV] using hu)))
              | (exact h6 0 _ x rfl (by cases h2 <;> rfl))
          exact hrep.tree hle
      · cases h
    · cases h
  · cases h

theorem Ctr.of {P : Program} {Γ : TT} (hΓ : Γok P Γ) {f : FuncId} {fn : Func} {c : Code} (hf : P.funcs[f]? = some fn) (hb : fn.body = some c) (hcall : ∀ vs w, (callFunc f vs).run P w = .ok (.enter f vs) w) (zs : List Nat) {args : List AV} {res : AV} (hl : args.length ≤ fn.ntmps)
    (h : HT P fn.ntmps [.code c] (st0 args) (fun s => ∃ os, retP Γ zs s fn.results.toList res = some os ∧ All os)) : Ctr P f args res := by
  refine ⟨hcall, fun w F vs hF ha cs => ?_⟩
  let b : Frame := { (default : Frame) with fn := f, kind := .normal }
  have henter : Frame.enter P f vs .normal = b.at { tmps := vs ++ Array.replicate (fn.ntmps - vs.size) undef, defers := [] } [.code c] := by
    simp [Frame.enter, Frame.at, hf, hb, b]
  obtain ⟨a', w', todo', ⟨s', G', ⟨os, hq, ho⟩, hR⟩, hsteps⟩ := h.tw ⟨w, F, fn.ntmps⟩ (envF F) _ w rfl (start_rel hF ha hl) b cs
  obtain ⟨x, rs, h1, h2⟩ := retP_sound (P := P) hΓ hR hq ho
  rw [← henter] at hsteps
  exact ⟨.returned x, w', _, ⟨x, rs, rfl, h2⟩, hsteps, rfl, rfl, hR.defers, rfl, fn, hf, h1⟩

end Go.AX
