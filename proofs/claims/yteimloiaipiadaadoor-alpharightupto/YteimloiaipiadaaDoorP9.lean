import Derived.Test.YteimloiaipiadaaDoorP8
section
set_option linter.unusedVariables false
set_option linter.unusedSimpArgs false
set_option maxRecDepth 100000
namespace Go.Proofs.YteimloiaipiadaaDoor
open Go Go.AX

/-! ### Each event has just one label -/
/-- What of a thing is told: which of those that are spoken of it is. -/
def cO {α : Type} [DecidableEq α] (d : α) (l : List α) (x : α) : Option α := if 0 ≤ ixG x l 0 then some x else none
theorem cO_in {α : Type} [DecidableEq α] (d : α) {l : List α} {x : α} (h : x ∈ l) : cO d l x = some x := by
  unfold cO; rw [if_pos (of_decide_eq_true ((ixG_ge x d l).2 h))]
theorem cO_out {α : Type} [DecidableEq α] (d : α) {l : List α} {x : α} (h : x ∉ l) : cO d l x = none := by
  unfold cO; rw [if_neg (fun h2 => h ((ixG_ge x d l).1 (decide_eq_true h2)))]
theorem cO_al {α : Type} [DecidableEq α] (d : α) (l : List α) (a b : α) : alG l a b = true ↔ cO d l a = cO d l b := by
  rw [alG_iff d]
  by_cases ha : a ∈ l <;> by_cases hb : b ∈ l
  · rw [cO_in d ha, cO_in d hb]
    simp only [Option.some.injEq]
    exact ⟨fun h => h.elim id (fun h => absurd ha h.1), .inl⟩
  · rw [cO_in d ha, cO_out d hb]
    exact ⟨fun h => h.elim (fun e => absurd (e ▸ ha) hb) (fun h => absurd ha h.1), fun h => by cases h⟩
  · rw [cO_out d ha, cO_in d hb]
    exact ⟨fun h => h.elim (fun e => absurd (e ▸ hb) ha) (fun h => absurd hb h.2), fun h => by cases h⟩
  · rw [cO_out d ha, cO_out d hb]
    exact ⟨fun _ => rfl, fun _ => .inr ⟨ha, hb⟩⟩
def sigL : List Nm → List (List ByteArray) → List Atr → List (Bool × Option ByteArray)
  | n :: A, v :: V, l => ((atV l n).2, cO ⟨#[]⟩ v (atV l n).1) :: sigL A V l
  | _, _, _ => []
structure Sg where
  kind : Int
  nm : Option Nm
  text : Option ByteArray
  attrs : List (Bool × Option ByteArray)
def sigW (W : Wd) (e : Ev) : Sg := ⟨e.kind, cO nm0 W.N e.nm, cO ⟨#[]⟩ W.T e.text, sigL W.A W.V e.attrs⟩
theorem lkA_sig (a b : Ev) : ∀ (A : List Nm) (V : List (List ByteArray)), lkA a b A V = true ↔ sigL A V a.attrs = sigL A V b.attrs
  | [], V => by simp [lkA, sigL]
  | n :: A, [] => by simp [lkA, sigL]
  | n :: A, v :: V => by
    simp only [lkA, sigL, Bool.and_eq_true, List.cons.injEq, lkA_sig a b A V, Prod.mk.injEq]
    unfold lkA1
    rw [Bool.and_eq_true, cO_al ⟨#[]⟩, decide_eq_true_eq]
theorem likW_sig (W : Wd) (a b : Ev) : likW W a b = true ↔ sigW W a = sigW W b := by
  unfold likW sigW
  simp only [Bool.and_eq_true, decide_eq_true_eq, Sg.mk.injEq, cO_al nm0, cO_al (⟨#[]⟩ : ByteArray), lkA_sig]
/-- All ways to have attributes. -/
def allS : List Nm → List (List ByteArray) → List (List (Bool × Option ByteArray))
  | n :: A, v :: V => (allS A V).map (fun s => (false, cO ⟨#[]⟩ v ⟨#[]⟩) :: s) ++ (v.map some ++ [none]).flatMap (fun o => (allS A V).map (fun s => (true, o) :: s))
  | _, _ => [[]]
theorem atV_app_ne (l : List Atr) (a : Atr) (n : Nm) (h : a.nm ≠ n) : atV (l ++ [a]) n = atV l n := by
  unfold atV
  rw [List.find?_append]
  cases l.find? (fun a => decide (a.nm = n)) with
  | some x => rfl
  | none => simp [decide_eq_false h]
theorem atV_app_new (l : List Atr) (n : Nm) (x : ByteArray) (h : (atV l n).2 = false) : atV (l ++ [⟨n, x⟩]) n = (x, true) := by
  unfold atV at h ⊢
  rw [List.find?_append]
  cases e : l.find? (fun a => decide (a.nm = n)) with
  | some y => rw [e] at h; cases h
  | none => simp
theorem atV_none (l : List Atr) (n : Nm) (h : (atV l n).2 = false) : atV l n = (⟨#[]⟩, false) := by
  unfold atV at h ⊢
  cases e : l.find? (fun a => decide (a.nm = n)) with
  | some y => rw [e] at h; cases h
  | none => rfl
theorem labF_atV (m : Nm) : ∀ (A : List Nm) (V : List (List ByteArray)) (e x : Ev), m ∉ A → x ∈ labF A V e → atV x.attrs m = atV e.attrs m
  | [], V, e, x, hm, h => by simp [labF] at h; rw [h]
  | n :: A, [], e, x, hm, h => by simp [labF] at h; rw [h]
  | n :: A, v :: V, e, x, hm, h => by
    have hm' : m ∉ A := fun h2 => hm (by simp [h2])
    have hn : n ≠ m := fun h2 => hm (by simp [h2])
    simp only [labF, List.mem_append, List.mem_flatMap] at h
    rcases h with h | ⟨y, _, h⟩
    · exact labF_atV m A V e x hm' h
    · rw [labF_atV m A V (addA e n y) x hm' h]
      exact atV_app_ne _ _ _ hn
theorem anoB_out (v : List ByteArray) : anoB v ∉ v := by
  have hk := kOf_first ⟨#[]⟩ v
  unfold anoB
  simp only [frR]
  by_cases h : hasB v ⟨#[]⟩ = true
  · rw [if_pos h]; exact hk.out
  · rw [if_neg h]; exact fun h2 => h ((hasB_iff _ _).2 h2)
theorem anoT_out (v : List ByteArray) : anoT v ∉ v := (kOf_first ⟨#[]⟩ v).out
theorem othN_out (l : List Nm) : othN l ∉ l := by
  obtain ⟨k', hk'⟩ := firstZ_ex l
  have := other_same l _ k' (kOf_first bZ (localsF l ++ [bZ0])) hk'
  unfold othN
  rw [this]
  exact hk'.out
theorem map_ano (v : List ByteArray) (x : ByteArray) (hx : x ∉ v) : (v ++ [x]).map (cO ⟨#[]⟩ v) = v.map some ++ [none] := by
  rw [List.map_append, List.map_singleton, cO_out _ hx]
  congr 1
  exact List.map_congr_left fun y hy => cO_in _ hy
theorem map_oth (v : List Nm) (x : Nm) (hx : x ∉ v) : (v ++ [x]).map (cO nm0 v) = v.map some ++ [none] := by
  rw [List.map_append, List.map_singleton, cO_out _ hx]
  congr 1
  exact List.map_congr_left fun y hy => cO_in _ hy
theorem labF_sigs : ∀ (A : List Nm) (V : List (List ByteArray)) (e : Ev), A.Nodup → (∀ n ∈ A, (atV e.attrs n).2 = false) → (labF A V e).map (fun x => sigL A V x.attrs) = allS A V
  | [], V, e, hA, he => by simp [labF, allS, sigL]
  | n :: A, [], e, hA, he => by simp [labF, allS, sigL]
  | n :: A, v :: V, e, hA, he => by
    obtain ⟨hn, hA'⟩ := List.nodup_cons.1 hA
    have h0 := atV_none _ _ (he n (by simp))
    simp only [labF, allS, List.map_append, List.map_flatMap]
    congr 1
    · rw [← labF_sigs A V e hA' (fun m hm => he m (by simp [hm])), List.map_map]
      refine List.map_congr_left fun x hx => ?_
      simp only [sigL, Function.comp]
      rw [labF_atV n A V e x hn hx, h0]
    · rw [← map_ano v (anoB v) (anoB_out v), List.flatMap_map]
      congr 1
      funext y
      rw [← labF_sigs A V (addA e n y) hA' (fun m hm => (by
        have : n ≠ m := fun e2 => hn (e2 ▸ hm)
        simp only [addA]
        rw [atV_app_ne _ _ _ this]
        exact he m (by simp [hm]))), List.map_map]
      refine List.map_congr_left fun x hx => ?_
      simp only [sigL, Function.comp]
      rw [labF_atV n A V (addA e n y) x hn hx]
      simp only [addA]
      rw [atV_app_new _ _ _ (by rw [h0])]
theorem nodup_flat {α β : Type} (f : α → List β) (l : List α) (hl : l.Nodup) (hf : ∀ x ∈ l, (f x).Nodup) (hd : ∀ x ∈ l, ∀ y ∈ l, x ≠ y → ∀ z ∈ f x, z ∉ f y) : (l.flatMap f).Nodup := by
  induction l with
  | nil => simp
  | cons a l ih =>
    obtain ⟨ha, hl'⟩ := List.nodup_cons.1 hl
    rw [List.flatMap_cons, List.nodup_append]
    refine ⟨hf a (by simp), ih hl' (fun x hx => hf x (by simp [hx])) (fun x hx y hy => hd x (by simp [hx]) y (by simp [hy])), fun x hx y hy e => ?_⟩
    obtain ⟨b, hb, hyb⟩ := List.mem_flatMap.1 hy
    exact hd a (by simp) b (by simp [hb]) (fun e2 => ha (e2 ▸ hb)) x hx (e ▸ hyb)
theorem nodup_map {α β : Type} (f : α → β) (hf : ∀ x y, f x = f y → x = y) {l : List α} (hl : l.Nodup) : (l.map f).Nodup := by
  rw [List.Nodup, List.pairwise_map]
  exact hl.imp fun h e => h (hf _ _ e)
theorem opts_nodup {α : Type} {l : List α} (hl : l.Nodup) : (l.map some ++ [none]).Nodup := by
  rw [List.nodup_append]
  exact ⟨nodup_map _ (fun x y e => by simpa using e) hl, by simp, fun x hx y hy e => by simp at hy hx; subst hy; obtain ⟨z, _, rfl⟩ := hx; cases e⟩
theorem allS_nodup : ∀ (A : List Nm) (V : List (List ByteArray)), (∀ v ∈ V, v.Nodup) → (allS A V).Nodup
  | [], V, h => by simp [allS]
  | n :: A, [], h => by simp [allS]
  | n :: A, v :: V, h => by
    have ih := allS_nodup A V (fun v hv => h v (by simp [hv]))
    simp only [allS]
    rw [List.nodup_append]
    refine ⟨nodup_map _ (fun x y e => by simpa using e) ih, ?_, fun x hx y hy e => ?_⟩
    · refine nodup_flat _ _ (opts_nodup (h v (by simp))) (fun o _ => nodup_map _ (fun x y e => by simpa using e) ih) (fun o _ o' _ hne z hz hz' => ?_)
      obtain ⟨s, _, rfl⟩ := List.mem_map.1 hz
      obtain ⟨s', _, e⟩ := List.mem_map.1 hz'
      simp only [List.cons.injEq, Prod.mk.injEq, true_and] at e
      exact hne e.1.symm
    · obtain ⟨s, _, rfl⟩ := List.mem_map.1 hx
      obtain ⟨o, _, hy⟩ := List.mem_flatMap.1 hy
      obtain ⟨s', _, rfl⟩ := List.mem_map.1 hy
      simp at e
/-- What is spoken of is spoken of once. -/
structure Wd.nd (W : Wd) : Prop where
  N : W.N.Nodup
  A : W.A.Nodup
  T : W.T.Nodup
  vs : ∀ v ∈ W.V, v.Nodup
/-- The labels' marks. -/
def allW (W : Wd) : List Sg := (W.N.map some ++ [none]).flatMap (fun o => (allS W.A W.V).map (fun s => ⟨1, o, cO ⟨#[]⟩ W.T ⟨#[]⟩, s⟩)) ++ (W.T.map some ++ [none]).map (fun o => ⟨2, cO nm0 W.N nm0, o, sigL W.A W.V []⟩)
theorem labF_same : ∀ (A : List Nm) (V : List (List ByteArray)) (e x : Ev), x ∈ labF A V e → x.kind = e.kind ∧ x.nm = e.nm ∧ x.text = e.text
  | [], V, e, x, h => by simp [labF] at h; rw [h]; exact ⟨rfl, rfl, rfl⟩
  | n :: A, [], e, x, h => by simp [labF] at h; rw [h]; exact ⟨rfl, rfl, rfl⟩
  | n :: A, v :: V, e, x, h => by
    simp only [labF, List.mem_append, List.mem_flatMap] at h
    rcases h with h | ⟨y, _, h⟩
    · exact labF_same A V e x h
    · exact labF_same A V (addA e n y) x h
theorem labs_sigs (W : Wd) (hW : W.nd) : (labsW W).map (sigW W) = allW W := by
  unfold labsW allW
  rw [List.map_append]
  congr 1
  · unfold opnW
    rw [List.map_flatMap, ← map_oth W.N (othN W.N) (othN_out W.N), List.flatMap_map]
    congr 1
    funext n
    rw [← labF_sigs W.A W.V ⟨1, n, [], ⟨#[]⟩⟩ hW.A (fun m _ => rfl), List.map_map]
    refine List.map_congr_left fun x hx => ?_
    obtain ⟨h1, h2, h3⟩ := labF_same _ _ _ _ hx
    simp only [sigW, Function.comp, h1, h2, h3]
  · unfold txtW
    rw [← map_ano W.T (anoT W.T) (anoT_out W.T), List.map_map, List.map_map]
    rfl
theorem allW_nodup (W : Wd) (hW : W.nd) : (allW W).Nodup := by
  have hS := allS_nodup W.A W.V hW.vs
  unfold allW
  rw [List.nodup_append]
  refine ⟨nodup_flat _ _ (opts_nodup hW.N) (fun o _ => nodup_map _ (fun x y e => by simpa using e) hS) (fun o _ o' _ hne z hz hz' => ?_), nodup_map _ (fun x y e => by simpa using e) (opts_nodup hW.T), fun x hx y hy e => ?_⟩
  · obtain ⟨s, _, rfl⟩ := List.mem_map.1 hz
    obtain ⟨s', _, e⟩ := List.mem_map.1 hz'
    simp only [Sg.mk.injEq, true_and] at e
    exact hne e.1.symm
  · obtain ⟨o, _, hx⟩ := List.mem_flatMap.1 hx
    obtain ⟨s, _, rfl⟩ := List.mem_map.1 hx
    obtain ⟨o', _, rfl⟩ := List.mem_map.1 hy
    simp at e
/-- Where in a list something stands. -/
theorem nodup_at {α β : Type} (f : α → β) (d : α) (l : List α) (h : (l.map f).Nodup) (i j : Nat) (hi : i < l.length) (hj : j < l.length) (e : f (l.getD i d) = f (l.getD j d)) : i = j := by
  have := (List.getElem_inj h (i := i) (j := j) (h₀ := by simpa using hi) (h₁ := by simpa using hj)).1
  refine this ?_
  rw [List.getD_eq_getElem?_getD, List.getElem?_eq_getElem hi, List.getD_eq_getElem?_getD, List.getElem?_eq_getElem hj] at e
  simpa using e
theorem only_self (W : Wd) (hW : W.nd) (i j : Nat) (hi : i < (labsW W).length) (hj : j < (labsW W).length) (h : likW W ((labsW W).getD i ev0) ((labsW W).getD j ev0) = true) : i = j := by
  have hnd := allW_nodup W hW
  rw [← labs_sigs W hW] at hnd
  exact nodup_at (sigW W) ev0 _ hnd i j hi hj ((likW_sig W _ _).1 h)
theorem valuesF_nodup (o : Int) (n : Nm) : ∀ l, (valuesF o n l).Nodup := by
  refine snoc_ind ?_ (fun l f ih => ?_)
  · simp [valuesF]
  · rw [valuesF_snoc]
    unfold stepV
    split
    · rename_i h
      rw [List.nodup_append]
      exact ⟨ih, by simp, fun x hx y hy e => by simp at hy; subst hy; subst e; rw [(hasB_iff _ _).2 hx] at h; exact absurd h.2.2 (by decide)⟩
    · exact ih
theorem refW_nd (l : List Flt) : (refW l).nd := ⟨namesF_nodup 4 4 l, namesF_nodup 5 6 l, valuesF_nodup 7 nm0 l, fun v hv => by
  obtain ⟨n, _, rfl⟩ := List.mem_map.1 hv
  exact valuesF_nodup 6 n l⟩
theorem spk_nd (p : Pth) (h : p.r) : (spkW p).nd := by rw [spk_of_r p h]; exact refW_nd _
theorem labs_kind (W : Wd) (x : Ev) (h : x ∈ labsW W) : x.kind = 1 ∨ x.kind = 2 := by
  unfold labsW at h
  rcases List.mem_append.1 h with h | h
  · unfold opnW at h
    obtain ⟨n, _, h⟩ := List.mem_flatMap.1 h
    exact .inl (labF_same _ _ _ _ h).1
  · unfold txtW at h
    obtain ⟨s, _, rfl⟩ := List.mem_map.1 h
    exact .inr rfl

end Go.Proofs.YteimloiaipiadaaDoor
end

section
set_option linter.unusedVariables false
set_option linter.unusedSimpArgs false
set_option maxRecDepth 100000
namespace Go.Proofs.YteimloiaipiadaaDoor
open Go Go.AX

/-- A text of digits and letters. -/
def Asc (s : ByteArray) : Prop := ∀ i : Nat, i < s.size → 48 ≤ byteAt s i ∧ byteAt s i ≤ 122
def bytesI (s : ByteArray) (n : Nat) : List Int := (List.range n).map fun i : Nat => byteAt s (i : Int)
theorem bytesI_len (s : ByteArray) (n : Nat) : (bytesI s n).length = n := by simp [bytesI]
theorem bytesI_succ (s : ByteArray) (n : Nat) : bytesI s (n + 1) = bytesI s n ++ [byteAt s (n : Int)] := by simp [bytesI, List.range_succ]
theorem bytesI_get (s : ByteArray) (n i : Nat) (h : i < n) : ((bytesI s n).map (AV.int .i32))[i]? = some (.int .i32 (byteAt s (i : Int))) := by simp [bytesI, h]
def stB1 (s : ByteArray) (at_ i : Nat) : AS := ⟨[(0, .str s), (1, .int .i64 at_), (2, .sl none 1 [.int .u8 (byteAt s at_)] .no), (7, .int .i64 i)], [], []⟩
def stR1n (s : ByteArray) (at_ : Nat) : AS := ⟨[(0, .str s), (1, .int .i64 at_), (7, .int .i64 1)], [], []⟩
def stA1 (s : ByteArray) (at_ : Nat) : AS := ⟨[(0, .str s), (5, .sl none (bytesI s at_).length ((bytesI s at_).map (.int .i32)) (.own 1)), (6, .int .i64 at_)], [], [(1, ⟨(bytesI s at_).length, 21, 1, none⟩)]⟩
def stQa (s : ByteArray) (i : Nat) : AS := ⟨[(3, .sl none s.size ((bytesI s s.size).map (.int .i32)) .no), (5, .int .i64 0), (6, .int .i64 i)], [], []⟩

theorem put1_ctr (r : Int) (h : 0 ≤ r ∧ r < 128) : Ctr Tryd.prog 85 [.int .i64 r] (.sl none 1 [.int .u8 r] .no) :=
  Ctr.mk Γ_ok Tryd.func85 (by kernel_rfl) Tryd.call85 [] (by kernel_rfl) (HT.walk Γ_ok mo_ok (⟨[(4, .val (.bool false)), (7, .val (.bool false)), (11, .val (.bool false)), (18, .val (.bool true))], [], [], [], .pure [] (.sl none 1 [.int .u8 r] .no)⟩ : Wk) 4000 (T := .ob (decide (r < (0 : Int)) = false) (.ob (decide ((1114111 : Int) < r) = false) (.ob (decide ((55296 : Int) ≤ r) = false) (.ob (decide (r < (128 : Int)) = true) (.ob ((1 : Nat) = (1 : Nat)) (.ob ([AV.int .u8 (IntKind.u8.wrap r)] = [AV.int .u8 r]) (.tt))))))) (by kernel_rfl) (by
    simp only [PT.holds, true_implies, Bool.false_eq_true, Bool.true_eq_false, false_implies, true_and, and_true]
    have w1 : IntKind.u8.wrap r = r := by simp [IntKind.wrap, IntKind.bits, IntKind.signed]; omega
    rw [w1]
    repeat' (with_reducible apply And.intro)
    all_goals first | omega | rfl | (simp; omega) | (simp; done) | assumption))
theorem bg1_h (s : ByteArray) (at_ : Nat) (h : at_ < s.size) (hs : s.size ≤ 1048600) (k : HT Tryd.prog Tryd.f86.ntmps (pt Tryd.f86 0) (stB1 s at_ 1) (EndsA Γ (.pure [] (.bool true)) Tryd.f86)) : HT Tryd.prog Tryd.f86.ntmps (pt Tryd.f86 0) (stB1 s at_ 0) (EndsA Γ (.pure [] (.bool true)) Tryd.f86) :=
  HT.walk Γ_ok mo_ok (⟨[(23, .val (.bool true)), (34, .val (.int .u8 (byteAt s at_)))], [], hd86 [] [] [] [], [(6, [[(35, false)]])], .pure [] (.bool true)⟩ : Wk) 4000 (T := .ob (true = true) (.ob ((0 : Int) ≤ IntKind.i64.wrap ((↑at_ : Int) + (↑(0 : Nat) : Int)) ∧ IntKind.i64.wrap ((↑at_ : Int) + (↑(0 : Nat) : Int)) < (↑s.size : Int)) (.ob ((0 : Int) ≤ (↑(0 : Nat) : Int) ∧ (↑(0 : Nat) : Int) < (↑(1 : Nat) : Int) ∧ (↑(0 : Nat) : Int).toNat * (1 : Nat) < [AV.int .u8 (byteAt s (↑at_ : Int))].length) (.ob (some (AV.int .u8 (byteAt s (↑at_ : Int))) = some (AV.int .u8 (byteAt s (↑at_ : Int)))) (.ob ((!decide (byteAt s (IntKind.i64.wrap ((↑at_ : Int) + (↑(0 : Nat) : Int))) = byteAt s (↑at_ : Int))) = false) (.head (pt Tryd.f86 0) ({ tmps := [(0, AV.str s), (1, AV.int .i64 (↑at_ : Int)), (2, AV.sl none (1 : Nat) [AV.int .u8 (byteAt s (↑at_ : Int))] .no), (7, AV.int .i64 (1 : Int))], heap := [], tags := [] }))))))) (by kernel_rfl) (by
    simp only [PT.holds, true_implies, Bool.false_eq_true, Bool.true_eq_false, false_implies, true_and, and_true]
    have w1 : IntKind.i64.wrap ((at_ : Int) + ((0 : Nat) : Int)) = at_ := by rw [i64_wrap (by omega) (by omega)]; omega
    rw [w1]
    exact ⟨⟨by omega, by omega⟩, ⟨by omega, by omega, by simp⟩, by simp, head_eq k (by simp [stB1])⟩)
theorem bg1_e (s : ByteArray) (at_ : Nat) : HT Tryd.prog Tryd.f86.ntmps (pt Tryd.f86 0) (stB1 s at_ 1) (EndsA Γ (.pure [] (.bool true)) Tryd.f86) :=
  HT.walk Γ_ok mo_ok (⟨[(23, .val (.bool false)), (34, .val (.int .u8 (byteAt s at_)))], [], hd86 [] [] [] [], dsp86, .pure [] (.bool true)⟩ : Wk) 4000 (T := .ob (false = false) (.ob (true = true) (.tt))) (by kernel_rfl) (by
    simp only [PT.holds, true_implies, Bool.false_eq_true, Bool.true_eq_false, false_implies, true_and, and_true]
    repeat' (with_reducible apply And.intro)
    all_goals first | omega | rfl | (simp; omega) | (simp; done) | assumption)
theorem bg1_p (s : ByteArray) (at_ : Nat) (h : at_ < s.size) (hs : s.size ≤ 1048600) (k : HT Tryd.prog Tryd.f86.ntmps (pt Tryd.f86 0) (stB1 s at_ 0) (EndsA Γ (.pure [] (.bool true)) Tryd.f86)) : Ctr Tryd.prog 86 [.str s, .int .i64 at_, .sl none 1 [.int .u8 (byteAt s at_)] .no] (.bool true) :=
  Ctr.mk Γ_ok Tryd.func86 (by kernel_rfl) Tryd.call86 [] (by kernel_rfl) (HT.walk Γ_ok mo_ok (⟨[(18, .val (.bool false))], [], hd86 [] [] [] [], dsp86, .pure [] (.bool true)⟩ : Wk) 4000 (T := .ob (decide ((↑s.size : Int) < IntKind.i64.wrap ((↑at_ : Int) + (↑(1 : Nat) : Int))) = false) (.head (pt Tryd.f86 0) ({ tmps := [(0, AV.str s), (1, AV.int .i64 (↑at_ : Int)), (2, AV.sl none (1 : Nat) [AV.int .u8 (byteAt s (↑at_ : Int))] .no), (7, AV.int .i64 (0 : Int))], heap := [], tags := [] }))) (by kernel_rfl) (by
    simp only [PT.holds, true_implies, Bool.false_eq_true, Bool.true_eq_false, false_implies, true_and, and_true]
    have w1 : IntKind.i64.wrap ((at_ : Int) + ((1 : Nat) : Int)) = at_ + 1 := by rw [i64_wrap (by omega) (by omega)]; omega
    rw [w1]
    exact ⟨decide_eq_false (by omega), head_eq k (by simp [stB1])⟩))
theorem ru1_h (s : ByteArray) (at_ : Nat) (h : at_ < s.size) (hs : s.size ≤ 1048600) (hb : 0 ≤ (byteAt s at_) ∧ (byteAt s at_) < 128) (h85 : Ctr Tryd.prog 85 [.int .i64 (byteAt s at_)] (.sl none 1 [.int .u8 (byteAt s at_)] .no)) (h86 : Ctr Tryd.prog 86 [.str s, .int .i64 at_, .sl none 1 [.int .u8 (byteAt s at_)] .no] (.bool true)) : HT Tryd.prog Tryd.f74.ntmps (pt Tryd.f74 0) (stR1n s at_) (EndsA Γ (.pure [] (.tup [.int .i64 (byteAt s at_), .int .i64 1, .int .i64 0])) Tryd.f74) :=
  HT.walk Γ_ok mo_ok (⟨[(26, .val (.bool true)), (41, .call [] (.sl none 1 [.int .u8 (byteAt s at_)] .no)), (50, .call [] (.bool true))], [], hd74 [] [] [] [], [], .pure [] (.tup [.int .i64 (byteAt s at_), .int .i64 1, .int .i64 0])⟩ : Wk) 4000 (T := .ob (decide (IntKind.i64.wrap ((↑at_ : Int) + (1 : Int)) ≤ (↑s.size : Int)) = true) (.ob ((0 : Int) ≤ (↑at_ : Int) ∧ (↑at_ : Int) < (↑s.size : Int)) (.ob (Ctr Tryd.prog 85 [AV.int .i64 (IntKind.i64.wrap (byteAt s (↑at_ : Int)))] (AV.sl none (1 : Nat) [AV.int .u8 (byteAt s (↑at_ : Int))] .no)) (.ob (Ctr Tryd.prog 86 [AV.str s, AV.int .i64 (↑at_ : Int), AV.sl none (1 : Nat) [AV.int .u8 (byteAt s (↑at_ : Int))] .no] (AV.bool true)) (.ob (IntKind.i64.wrap (byteAt s (↑at_ : Int)) = byteAt s (↑at_ : Int)) (.ob ((1 : Int) = (1 : Int)) (.ob ((0 : Int) = (0 : Int)) (.tt)))))))) (by kernel_rfl) (by
    simp only [PT.holds, true_implies, Bool.false_eq_true, Bool.true_eq_false, false_implies, true_and, and_true]
    have w1 : IntKind.i64.wrap ((at_ : Int) + 1) = at_ + 1 := by rw [i64_wrap (by omega) (by omega)]
    have w4 : IntKind.i64.wrap (byteAt s (at_ : Int)) = byteAt s (at_ : Int) := by rw [i64_wrap (by omega) (by omega)]
    rw [w1, w4]
    exact ⟨decide_eq_true (by omega), ⟨by omega, by omega⟩, h85, h86, rfl⟩)
theorem ru1_p (s : ByteArray) (at_ : Nat) (h : at_ < s.size) (hs : s.size ≤ 1048600) (k : HT Tryd.prog Tryd.f74.ntmps (pt Tryd.f74 0) (stR1n s at_) (EndsA Γ (.pure [] (.tup [.int .i64 (byteAt s at_), .int .i64 1, .int .i64 0])) Tryd.f74)) : Ctr Tryd.prog 74 [.str s, .int .i64 at_] (.tup [.int .i64 (byteAt s at_), .int .i64 1, .int .i64 0]) :=
  Ctr.mk Γ_ok Tryd.func74 (by kernel_rfl) Tryd.call74 [] (by kernel_rfl) (HT.walk Γ_ok mo_ok (⟨[(11, .val (.bool false)), (16, .val (.bool false))], [], hd74 [] [] [] [], [], .pure [] (.tup [.int .i64 (byteAt s at_), .int .i64 1, .int .i64 0])⟩ : Wk) 4000 (T := .ob (false = false) (.ob (decide ((↑s.size : Int) ≤ (↑at_ : Int)) = false) (.head (pt Tryd.f74 0) ({ tmps := [(0, AV.str s), (1, AV.int .i64 (↑at_ : Int)), (7, AV.int .i64 (1 : Int))], heap := [], tags := [] })))) (by kernel_rfl) (by
    simp only [PT.holds, true_implies, Bool.false_eq_true, Bool.true_eq_false, false_implies, true_and, and_true]
    exact ⟨decide_eq_false (by omega), head_eq k (by simp [stR1n])⟩))
theorem al1_h (s : ByteArray) (at_ : Nat) (R : AV) (h : at_ < s.size) (hs : s.size ≤ 1048600) (hb : 0 ≤ (byteAt s at_) ∧ (byteAt s at_) < 128) (h74 : Ctr Tryd.prog 74 [.str s, .int .i64 at_] (.tup [.int .i64 (byteAt s at_), .int .i64 1, .int .i64 0])) (k : HT Tryd.prog Tryd.f62.ntmps (pt Tryd.f62 0) (stA1 s (at_ + 1)) (EndsA Γ (.pure [] (.tup [.sl none s.size ((bytesI s s.size).map (.int .i32)) .no, .int .i64 s.size, .int .i64 0])) Tryd.f62)) : HT Tryd.prog Tryd.f62.ntmps (pt Tryd.f62 0) (stA1 s at_) (EndsA Γ (.pure [] (.tup [.sl none s.size ((bytesI s s.size).map (.int .i32)) .no, .int .i64 s.size, .int .i64 0])) Tryd.f62) :=
  HT.walk Γ_ok mo_ok (⟨[(13, .val (.bool true)), (17, .call [] (.tup [.int .i64 (byteAt s at_), .int .i64 1, .int .i64 0])), (22, .val (.bool false))], [], hd62 [(5, 1, 21, 1)] [] [] [], [], .pure [] (.tup [.sl none s.size ((bytesI s s.size).map (.int .i32)) .no, .int .i64 s.size, .int .i64 0])⟩ : Wk) 4000 (T := .ob (decide ((↑at_ : Int) < (↑s.size : Int)) = true) (.ob (Ctr Tryd.prog 74 [AV.str s, AV.int .i64 (↑at_ : Int)] (AV.tup [AV.int .i64 (byteAt s (↑at_ : Int)), AV.int .i64 (1 : Int), AV.int .i64 (0 : Int)])) (.ob (false = false) (.ob ((bytesI s at_).length = (bytesI s at_).length) (.ob ((List.map (AV.int .i32) (bytesI s at_)).length = (bytesI s at_).length * ((0 : Nat) + (1 : Nat)) ∧ (splice (repL (List.map zn [AV.int .i32 (0 : Int)]) (1 : Nat)) ((0 : Nat) * (1 : Nat)) (cellsOf (AV.int .i32 (IntKind.i32.wrap (byteAt s (↑at_ : Int)))))).length = (1 : Nat) * ((0 : Nat) + (1 : Nat)) ∧ ((bytesI s at_).length + (1 : Nat)) * ((3 : Nat) + (1 : Nat)) ≤ (140737488355328 : Nat)) (.head (pt Tryd.f62 0) ({ tmps := [(0, AV.str s), (5, AV.sl none ((bytesI s at_).length + (1 : Nat)) (List.map (AV.int .i32) (bytesI s at_) ++ splice (repL (List.map zn [AV.int .i32 (0 : Int)]) (1 : Nat)) ((0 : Nat) * (1 : Nat)) (cellsOf (AV.int .i32 (IntKind.i32.wrap (byteAt s (↑at_ : Int)))))) (.own (1 : Nat))), (6, AV.int .i64 (IntKind.i64.wrap ((↑at_ : Int) + (1 : Int))))], heap := [], tags := [(1, { n := (bytesI s at_).length + (1 : Nat), e := (21 : Nat), sz := (1 : Nat) })] }))))))) (by kernel_rfl) (by
    simp only [PT.holds, true_implies, Bool.false_eq_true, Bool.true_eq_false, false_implies, true_and, and_true]
    have w1 : IntKind.i64.wrap ((at_ : Int) + 1) = ((at_ + 1 : Nat) : Int) := by rw [i64_wrap (by omega) (by omega)]; rfl
    have w4 : IntKind.i32.wrap (byteAt s (at_ : Int)) = byteAt s (at_ : Int) := by simp [IntKind.wrap, IntKind.bits, IntKind.signed]; omega
    rw [w1, w4]
    have hl := bytesI_len s at_
    refine ⟨decide_eq_true (by omega), h74, ⟨by simp, rfl, by omega⟩, head_eq k ?_⟩
    simp [stA1, bytesI_succ, bytesI_len, splice, repL, cellsOf])
theorem al1_e (s : ByteArray) (hs : s.size ≤ 1048600) : HT Tryd.prog Tryd.f62.ntmps (pt Tryd.f62 0) (stA1 s s.size) (EndsA Γ (.pure [] (.tup [.sl none s.size ((bytesI s s.size).map (.int .i32)) .no, .int .i64 s.size, .int .i64 0])) Tryd.f62) :=
  HT.walk Γ_ok mo_ok (⟨[(13, .val (.bool false)), (17, .call [] (.tup [.int .i64 0, .int .i64 1, .int .i64 0]))], [], hd62 [(5, 1, 21, 1)] [] [] [], [], .pure [] (.tup [.sl none s.size ((bytesI s s.size).map (.int .i32)) .no, .int .i64 s.size, .int .i64 0])⟩ : Wk) 4000 (T := .ob (decide ((↑s.size : Int) < (↑s.size : Int)) = false) (.ob ((bytesI s s.size).length = s.size) (.ob (List.map (AV.int .i32) (bytesI s s.size) = List.map (AV.int .i32) (bytesI s s.size)) (.ob ((↑s.size : Int) = (↑s.size : Int)) (.ob ((0 : Int) = (0 : Int)) (.tt)))))) (by kernel_rfl) (by
    simp only [PT.holds, true_implies, Bool.false_eq_true, Bool.true_eq_false, false_implies, true_and, and_true]
    exact ⟨by simp, bytesI_len _ _⟩)
theorem al1_p (s : ByteArray) (k : HT Tryd.prog Tryd.f62.ntmps (pt Tryd.f62 0) (stA1 s 0) (EndsA Γ (.pure [] (.tup [.sl none s.size ((bytesI s s.size).map (.int .i32)) .no, .int .i64 s.size, .int .i64 0])) Tryd.f62)) : Ctr Tryd.prog 62 [.str s] (.tup [.sl none s.size ((bytesI s s.size).map (.int .i32)) .no, .int .i64 s.size, .int .i64 0]) :=
  Ctr.mk Γ_ok Tryd.func62 (by kernel_rfl) Tryd.call62 [] (by kernel_rfl) (HT.walk Γ_ok mo_ok (⟨[], [], hd62 [(5, 1, 21, 1)] [] [] [], [], .pure [] (.tup [.sl none s.size ((bytesI s s.size).map (.int .i32)) .no, .int .i64 s.size, .int .i64 0])⟩ : Wk) 4000 (T := .head (pt Tryd.f62 0) ({ tmps := [(0, AV.str s), (5, AV.sl none (0 : Nat) [] (.own (1 : Nat))), (6, AV.int .i64 (0 : Int))], heap := [], tags := [(1, { n := (0 : Nat), e := (21 : Nat), sz := (1 : Nat) })] })) (by kernel_rfl) (by
    simp only [PT.holds, true_implies, Bool.false_eq_true, Bool.true_eq_false, false_implies, true_and, and_true]
    exact head_eq k (by simp [stA1, bytesI])))
theorem ch1_ctr (r : Int) (h : 48 ≤ r ∧ r ≤ 122) : Ctr Tryd.prog 63 [.int .i64 r] (.bool true) :=
  Ctr.mk Γ_ok Tryd.func63 (by kernel_rfl) Tryd.call63 [] (by kernel_rfl) (HT.walk Γ_ok mo_ok (⟨[(4, .val (.bool false)), (8, .val (.bool false)), (15, .val (.bool false)), (19, .val (.bool false))], [], [], [], .pure [] (.bool true)⟩ : Wk) 4000 (T := .ob (decide (r < (32 : Int)) = false) (.ob (decide ((55296 : Int) ≤ r) = false) (.ob (decide (r = (65534 : Int)) = false) (.ob (decide (r = (65535 : Int)) = false) (.ob (decide (r ≤ (1114111 : Int)) = true) (.tt)))))) (by kernel_rfl) (by
    simp only [PT.holds, true_implies, Bool.false_eq_true, Bool.true_eq_false, false_implies, true_and, and_true]
    repeat' (with_reducible apply And.intro)
    all_goals first | omega | rfl | (simp; omega) | (simp; done) | assumption))
theorem ri1_h (s : ByteArray) (i : Nat) (h : i < s.size) (hs : s.size ≤ 1048600) (hb : 48 ≤ byteAt s (i : Int) ∧ byteAt s (i : Int) ≤ 122) (h63 : Ctr Tryd.prog 63 [.int .i64 (byteAt s (i : Int))] (.bool true)) (k : HT Tryd.prog Tryd.f46.ntmps (pt Tryd.f46 0) (stQa s (i + 1)) (EndsA Γ (.pure [] (.bool true)) Tryd.f46)) : HT Tryd.prog Tryd.f46.ntmps (pt Tryd.f46 0) (stQa s i) (EndsA Γ (.pure [] (.bool true)) Tryd.f46) :=
  HT.walk Γ_ok mo_ok (⟨[(16, .val (.bool true)), (22, .val (.int .i32 (byteAt s (i : Int)))), (24, .call [] (.bool true))], [], hd46 [] [] [] [], [], .pure [] (.bool true)⟩ : Wk) 4000 (T := .ob (decide ((↑i : Int) < (↑s.size : Int)) = true) (.ob ((0 : Int) ≤ (↑i : Int) ∧ (↑i : Int) < (↑s.size : Int) ∧ (↑i : Int).toNat * (1 : Nat) < (List.map (AV.int .i32) (bytesI s s.size)).length) (.ob ((List.map (AV.int .i32) (bytesI s s.size))[(↑i : Int).toNat * (1 : Nat)]? = some (AV.int .i32 (byteAt s (↑i : Int)))) (.ob (Ctr Tryd.prog 63 [AV.int .i64 (IntKind.i64.wrap (byteAt s (↑i : Int)))] (AV.bool true)) (.head (pt Tryd.f46 0) ({ tmps := [(3, AV.sl none s.size (List.map (AV.int .i32) (bytesI s s.size)) .no), (5, AV.int .i64 (0 : Int)), (6, AV.int .i64 (IntKind.i64.wrap ((↑i : Int) + (1 : Int))))], heap := [], tags := [] })))))) (by kernel_rfl) (by
    have w2 : IntKind.i64.wrap ((i : Int) + 1) = ((i + 1 : Nat) : Int) := by rw [i64_wrap (by omega) (by omega)]; rfl
    have w4 : IntKind.i64.wrap (byteAt s (i : Int)) = byteAt s (i : Int) := by rw [i64_wrap (by omega) (by omega)]
    simp only [PT.holds, w2, w4, Int.toNat_natCast, Nat.mul_one, true_implies, Bool.false_eq_true, Bool.true_eq_false, false_implies, true_and, and_true]
    exact ⟨decide_eq_true (by omega), ⟨by omega, by omega, by simp [bytesI_len]; omega⟩, bytesI_get _ _ _ h, h63, head_eq k (by simp [stQa])⟩)
theorem ri1_e (s : ByteArray) : HT Tryd.prog Tryd.f46.ntmps (pt Tryd.f46 0) (stQa s s.size) (EndsA Γ (.pure [] (.bool true)) Tryd.f46) :=
  HT.walk Γ_ok mo_ok (⟨[(16, .val (.bool false)), (22, .val (.int .i32 0)), (24, .call [] (.bool true))], [], hd46 [] [] [] [], [], .pure [] (.bool true)⟩ : Wk) 4000 (T := .ob (decide ((↑s.size : Int) < (↑s.size : Int)) = false) (.ob (true = true) (.tt))) (by kernel_rfl) (by
    simp only [PT.holds, true_implies, Bool.false_eq_true, Bool.true_eq_false, false_implies, true_and, and_true]
    repeat' (with_reducible apply And.intro)
    all_goals first | omega | rfl | (simp; omega) | (simp; done) | assumption)
theorem ri1_p (s : ByteArray) (h62 : Ctr Tryd.prog 62 [.str s] (.tup [.sl none s.size ((bytesI s s.size).map (.int .i32)) .no, .int .i64 s.size, .int .i64 0])) (k : HT Tryd.prog Tryd.f46.ntmps (pt Tryd.f46 0) (stQa s 0) (EndsA Γ (.pure [] (.bool true)) Tryd.f46)) : Ctr Tryd.prog 46 [.str s] (.bool true) :=
  Ctr.mk Γ_ok Tryd.func46 (by kernel_rfl) Tryd.call46 [] (by kernel_rfl) (HT.walk Γ_ok mo_ok (⟨[(9, .call [] (.tup [.sl none s.size ((bytesI s s.size).map (.int .i32)) .no, .int .i64 s.size, .int .i64 0]))], [], hd46 [] [] [] [], [], .pure [] (.bool true)⟩ : Wk) 4000 (T := .ob (Ctr Tryd.prog 62 [AV.str s] (AV.tup [AV.sl none s.size (List.map (AV.int .i32) (bytesI s s.size)) .no, AV.int .i64 (↑s.size : Int), AV.int .i64 (0 : Int)])) (.head (pt Tryd.f46 0) ({ tmps := [(3, AV.sl none s.size (List.map (AV.int .i32) (bytesI s s.size)) .no), (5, AV.int .i64 (0 : Int)), (6, AV.int .i64 (0 : Int))], heap := [], tags := [] }))) (by kernel_rfl) (by
    simp only [PT.holds, true_implies, Bool.false_eq_true, Bool.true_eq_false, false_implies, true_and, and_true]
    exact ⟨h62, head_eq k (by simp [stQa])⟩))
theorem stz_ctr  : Ctr Tryd.prog 76 [.int .i64 122] (.bool true) :=
  Ctr.mk Γ_ok Tryd.func76 (by kernel_rfl) Tryd.call76 [] (by kernel_rfl) (HT.walk Γ_ok mo_ok (⟨[], [], [], [], .pure [] (.bool true)⟩ : Wk) 4000 (T := .ob (true = true) (.tt)) (by kernel_rfl) (by
    simp only [PT.holds]
    repeat' (with_reducible apply And.intro)
    all_goals first | omega | rfl | (simp; omega) | (simp; done) | assumption))
theorem std_ctr (r : Int) (h : 48 ≤ r ∧ r ≤ 57) : Ctr Tryd.prog 76 [.int .i64 r] (.bool false) :=
  Ctr.mk Γ_ok Tryd.func76 (by kernel_rfl) Tryd.call76 [] (by kernel_rfl) (HT.walk Γ_ok mo_ok (⟨[(4, .val (.bool true))], [], [], [], .pure [] (.bool false)⟩ : Wk) 4000 (T := .ob (decide (r < (65 : Int)) = true) (.ob (false = false) (.tt))) (by kernel_rfl) (by
    simp only [PT.holds, true_implies, Bool.false_eq_true, Bool.true_eq_false, false_implies, true_and, and_true]
    repeat' (with_reducible apply And.intro)
    all_goals first | omega | rfl | (simp; omega) | (simp; done) | assumption))
theorem ptz_ctr  : Ctr Tryd.prog 77 [.int .i64 122] (.bool true) :=
  Ctr.mk Γ_ok Tryd.func77 (by kernel_rfl) Tryd.call77 [] (by kernel_rfl) (HT.walk Γ_ok mo_ok (⟨[(4, .call [] (.bool true))], [], [], [], .pure [] (.bool true)⟩ : Wk) 4000 (T := .ob (Ctr Tryd.prog 76 [AV.int .i64 (122 : Int)] (AV.bool true)) (.ob (true = true) (.tt))) (by kernel_rfl) (by
    simp only [PT.holds, true_implies, Bool.false_eq_true, Bool.true_eq_false, false_implies, true_and, and_true]
    exact stz_ctr))
theorem ptd_ctr (r : Int) (h : 48 ≤ r ∧ r ≤ 57) : Ctr Tryd.prog 77 [.int .i64 r] (.bool true) :=
  Ctr.mk Γ_ok Tryd.func77 (by kernel_rfl) Tryd.call77 [] (by kernel_rfl) (HT.walk Γ_ok mo_ok (⟨[(4, .call [] (.bool false)), (7, .val (.bool false)), (11, .val (.bool false)), (15, .val (.bool true)), (18, .val (.bool true))], [], [], [], .pure [] (.bool true)⟩ : Wk) 4000 (T := .ob (Ctr Tryd.prog 76 [AV.int .i64 r] (AV.bool false)) (.ob (decide (r = (45 : Int)) = false) (.ob (decide (r = (46 : Int)) = false) (.ob (decide ((48 : Int) ≤ r) = true) (.ob (decide (r ≤ (57 : Int)) = true) (.ob (true = true) (.tt))))))) (by kernel_rfl) (by
    simp only [PT.holds, true_implies, Bool.false_eq_true, Bool.true_eq_false, false_implies, true_and, and_true]
    repeat' (with_reducible apply And.intro)
    all_goals first | exact std_ctr r h | omega | rfl | (simp; omega) | (simp; done)))
def stPl (l : List Int) (i : Nat) : AS := ⟨[(3, .sl (some false) l.length (l.map (.int .i32)) .no), (4, .int .i64 i)], [], []⟩

theorem pl1_h (l : List Int) (i : Nat) (h : i < l.length) (hs : l.length ≤ 1000) (hb : 0 ≤ l.getD i 0 ∧ l.getD i 0 ≤ 1000) (h77 : Ctr Tryd.prog 77 [.int .i64 (l.getD i 0)] (.bool true)) (k : HT Tryd.prog Tryd.f64.ntmps (pt Tryd.f64 0) (stPl l (i + 1)) (EndsA Γ (.pure [] (.bool true)) Tryd.f64)) : HT Tryd.prog Tryd.f64.ntmps (pt Tryd.f64 0) (stPl l i) (EndsA Γ (.pure [] (.bool true)) Tryd.f64) :=
  HT.walk Γ_ok mo_ok (⟨[(21, .val (.bool true)), (27, .val (.int .i32 (l.getD i 0))), (29, .call [] (.bool true))], [], hd64 [] [] [] [], [], .pure [] (.bool true)⟩ : Wk) 4000 (T := .ob (decide ((↑i : Int) < (↑l.length : Int)) = true) (.ob ((0 : Int) ≤ (↑i : Int) ∧ (↑i : Int) < (↑l.length : Int) ∧ (↑i : Int).toNat * (1 : Nat) < (List.map (AV.int .i32) l).length) (.ob ((List.map (AV.int .i32) l)[(↑i : Int).toNat * (1 : Nat)]? = some (AV.int .i32 (l.getD i (0 : Int)))) (.ob (Ctr Tryd.prog 77 [AV.int .i64 (IntKind.i64.wrap (l.getD i (0 : Int)))] (AV.bool true)) (.head (pt Tryd.f64 0) ({ tmps := [(3, AV.sl (some false) l.length (List.map (AV.int .i32) l) .no), (4, AV.int .i64 (IntKind.i64.wrap ((↑i : Int) + (1 : Int))))], heap := [], tags := [] })))))) (by kernel_rfl) (by
    have w2 : IntKind.i64.wrap ((i : Int) + 1) = ((i + 1 : Nat) : Int) := by rw [i64_wrap (by omega) (by omega)]; rfl
    have w4 : IntKind.i64.wrap (l.getD i 0) = l.getD i 0 := by rw [i64_wrap (by omega) (by omega)]
    simp only [PT.holds, w2, w4, Int.toNat_natCast, Nat.mul_one, true_implies, Bool.false_eq_true, Bool.true_eq_false, false_implies, true_and, and_true]
    exact ⟨decide_eq_true (by omega), ⟨by omega, by omega, by simp; omega⟩, by simp [List.getD_eq_getElem?_getD, h], h77, head_eq k (by simp [stPl])⟩)
theorem pl1_e (l : List Int) : HT Tryd.prog Tryd.f64.ntmps (pt Tryd.f64 0) (stPl l l.length) (EndsA Γ (.pure [] (.bool true)) Tryd.f64) :=
  HT.walk Γ_ok mo_ok (⟨[(21, .val (.bool false)), (27, .val (.int .i32 0)), (29, .call [] (.bool true))], [], hd64 [] [] [] [], [], .pure [] (.bool true)⟩ : Wk) 4000 (T := .ob (decide ((↑l.length : Int) < (↑l.length : Int)) = false) (.ob (true = true) (.tt))) (by kernel_rfl) (by
    simp only [PT.holds, true_implies, Bool.false_eq_true, Bool.true_eq_false, false_implies, true_and, and_true]
    repeat' (with_reducible apply And.intro)
    all_goals first | omega | rfl | (simp; omega) | (simp; done) | assumption)
theorem pl1_p (s : ByteArray) (l : List Int) (hr : runes s = l) (h0 : 0 < l.length) (hs : s.size ≤ 1000) (hz : l.getD 0 0 = 122) (k : HT Tryd.prog Tryd.f64.ntmps (pt Tryd.f64 0) (stPl l 0) (EndsA Γ (.pure [] (.bool true)) Tryd.f64)) : Ctr Tryd.prog 64 [.str s] (.bool true) :=
  Ctr.mk Γ_ok Tryd.func64 (by kernel_rfl) Tryd.call64 [] (by kernel_rfl) (HT.walk Γ_ok mo_ok (⟨[(9, .val (.bool false)), (13, .val (.int .i32 122)), (15, .call [] (.bool true))], [], hd64 [] [] [] [], [], .pure [] (.bool true)⟩ : Wk) 4000 (T := .ob (s.size ≤ (9223372036854775807 : Nat)) (.ob (decide ((↑(runes s).length : Int) = (0 : Int)) = false) (.ob ((0 : Int) ≤ (0 : Int) ∧ (0 : Int) < (↑(runes s).length : Int) ∧ Int.toNat (0 : Int) * (1 : Nat) < (List.map (AV.int .i32) (runes s)).length) (.ob ((List.map (AV.int .i32) (runes s))[Int.toNat (0 : Int) * (1 : Nat)]? = some (AV.int .i32 (122 : Int))) (.ob (Ctr Tryd.prog 76 [AV.int .i64 (122 : Int)] (AV.bool true)) (.head (pt Tryd.f64 0) ({ tmps := [(3, AV.sl (some false) (runes s).length (List.map (AV.int .i32) (runes s)) .no), (4, AV.int .i64 (0 : Int))], heap := [], tags := [] }))))))) (by kernel_rfl) (by
    simp only [PT.holds, true_implies, Bool.false_eq_true, Bool.true_eq_false, false_implies, true_and, and_true]
    subst hr
    exact ⟨by omega, decide_eq_false (by omega), ⟨by omega, by omega, by simp; omega⟩, by
      rw [List.getD_eq_getElem?_getD, List.getElem?_eq_getElem h0] at hz
      simp only [Option.getD_some] at hz
      simp [h0, hz], stz_ctr, head_eq k (by simp [stPl])⟩))
theorem all_asc (s : ByteArray) (hs : s.size ≤ 1048600) (h : Asc s) : Ctr Tryd.prog 62 [.str s] (.tup [.sl none s.size ((bytesI s s.size).map (.int .i32)) .no, .int .i64 s.size, .int .i64 0]) := by
  have l : ∀ d i, i + d = s.size → HT Tryd.prog Tryd.f62.ntmps (pt Tryd.f62 0) (stA1 s i) (EndsA Γ (.pure [] (.tup [.sl none s.size ((bytesI s s.size).map (.int .i32)) .no, .int .i64 s.size, .int .i64 0])) Tryd.f62) := by
    intro d
    induction d with
    | zero =>
      intro i hi
      have e : i = s.size := by omega
      subst e
      exact al1_e s hs
    | succ d ih =>
      intro i hi
      have hb := h i (by omega)
      have h85 := put1_ctr (byteAt s (i : Int)) (by omega)
      have h86 := bg1_p s i (by omega) hs (bg1_h s i (by omega) hs (bg1_e s i))
      exact al1_h s i .undef (by omega) hs (by omega) (ru1_p s i (by omega) hs (ru1_h s i (by omega) hs (by omega) h85 h86)) (ih (i + 1) (by omega))
  exact al1_p s (l s.size 0 (Nat.zero_add _))
theorem right_asc (s : ByteArray) (hs : s.size ≤ 1048600) (h : Asc s) : Ctr Tryd.prog 46 [.str s] (.bool true) := by
  have l : ∀ d i, i + d = s.size → HT Tryd.prog Tryd.f46.ntmps (pt Tryd.f46 0) (stQa s i) (EndsA Γ (.pure [] (.bool true)) Tryd.f46) := by
    intro d
    induction d with
    | zero =>
      intro i hi
      have e : i = s.size := by omega
      subst e
      exact ri1_e s
    | succ d ih =>
      intro i hi
      exact ri1_h s i (by omega) hs (h i (by omega)) (ch1_ctr _ (h i (by omega))) (ih (i + 1) (by omega))
  exact ri1_p s (all_asc s hs h) (l s.size 0 (Nat.zero_add _))
theorem asc_emp : Asc ⟨#[]⟩ := fun i h => by simp [ByteArray.size] at h
def ascB (s : ByteArray) : Bool := (List.range s.size).all fun i : Nat => decide (48 ≤ byteAt s (i : Int)) && decide (byteAt s (i : Int) ≤ 122)
theorem asc_of {s : ByteArray} (h : ascB s = true) : Asc s := fun i hi => by
  unfold ascB at h
  rw [List.all_eq_true] at h
  have := h i (List.mem_range.2 hi)
  simpa using this
def pzB (s : ByteArray) : Bool := match runes s with
  | [] => false
  | x :: r => decide (x = 122) && r.all fun y => decide (48 ≤ y) && decide (y ≤ 57)
theorem plain_pz (s : ByteArray) (hs : s.size ≤ 1000) (hl : (runes s).length ≤ 1000) (h : pzB s = true) : Ctr Tryd.prog 64 [.str s] (.bool true) := by
  have hz : 0 < (runes s).length ∧ (runes s).getD 0 0 = 122 ∧ ∀ x ∈ runes s, x = 122 ∨ (48 ≤ x ∧ x ≤ 57) := by
    unfold pzB at h
    split at h
    · cases h
    · rename_i x r e
      simp only [Bool.and_eq_true, decide_eq_true_eq, List.all_eq_true] at h
      rw [e]
      refine ⟨by simp, by simpa using h.1, fun y hy => ?_⟩
      rcases List.mem_cons.1 hy with hy | hy
      · left; rw [hy]; exact h.1
      · right; exact h.2 y hy
  have l : ∀ d i, i + d = (runes s).length → HT Tryd.prog Tryd.f64.ntmps (pt Tryd.f64 0) (stPl (runes s) i) (EndsA Γ (.pure [] (.bool true)) Tryd.f64) := by
    intro d
    induction d with
    | zero =>
      intro i hi
      have e : i = (runes s).length := by omega
      subst e
      exact pl1_e (runes s)
    | succ d ih =>
      intro i hi
      have hm := hz.2.2 _ (getD_mem (runes s) i 0 (by omega))
      refine pl1_h (runes s) i (by omega) hl (by omega) ?_ (ih (i + 1) (by omega))
      rcases hm with hm | hm
      · rw [hm]; exact ptz_ctr
      · exact ptd_ctr _ hm
  exact pl1_p s (runes s) rfl hz.1 hs hz.2.1 (l _ 0 (Nat.zero_add _))
theorem dig_asc (k : Nat) (h : k < 100) : Asc (digN k) := by
  refine asc_of ?_
  by_cases h1 : k < 10
  · rw [digN_1 k h1]
    clear h
    revert h1
    revert k
    decide +kernel
  · rw [digN_2 k h1 h]
    clear h1
    revert h
    revert k
    decide +kernel
theorem nmZ_asc (k : Nat) (h : k < 100) : Asc (nmZ k).lo ∧ pzB (nmZ k).lo = true ∧ (runes (nmZ k).lo).length ≤ 1000 := by
  unfold nmZ
  by_cases h0 : k = 0
  · rw [if_pos h0]
    exact ⟨asc_of (by decide +kernel), by decide +kernel, by decide +kernel⟩
  · rw [if_neg h0]
    clear h0
    by_cases h1 : k < 10
    · rw [digN_1 k h1]
      clear h
      have q : ∀ k, k < 10 → ascB (bZ ++ ⟨#[UInt8.ofNat (48 + k)]⟩) = true ∧ pzB (bZ ++ ⟨#[UInt8.ofNat (48 + k)]⟩) = true ∧ (runes (bZ ++ ⟨#[UInt8.ofNat (48 + k)]⟩)).length ≤ 1000 := by decide +kernel
      exact ⟨asc_of (q k h1).1, (q k h1).2⟩
    · rw [digN_2 k h1 h]
      clear h1
      have q : ∀ k, k < 100 → ascB (bZ ++ ⟨#[UInt8.ofNat (48 + k / 10), UInt8.ofNat (48 + k % 10)]⟩) = true ∧ pzB (bZ ++ ⟨#[UInt8.ofNat (48 + k / 10), UInt8.ofNat (48 + k % 10)]⟩) = true ∧ (runes (bZ ++ ⟨#[UInt8.ofNat (48 + k / 10), UInt8.ofNat (48 + k % 10)]⟩)).length ≤ 1000 := by decide +kernel
      exact ⟨asc_of (q k h).1, (q k h).2⟩

end Go.Proofs.YteimloiaipiadaaDoor
end

section
set_option linter.unusedVariables false
set_option linter.unusedSimpArgs false
set_option maxRecDepth 100000
namespace Go.Proofs.YteimloiaipiadaaDoor
open Go Go.AX

theorem nm9_p (n : Nm) (h64 : Ctr Tryd.prog 64 [.str n.lo] (.bool true)) (h46 : Ctr Tryd.prog 46 [.str n.lo] (.bool true)) (h46s : Ctr Tryd.prog 46 [.str n.sp] (.bool true)) (hx : n.sp ≠ xmlnsB) : Ctr Tryd.prog 47 [.agg (nmC n)] (.bool true) :=
  Ctr.mk Γ_ok Tryd.func47 (by kernel_rfl) Tryd.call47 [] (by kernel_rfl) (HT.walk Γ_ok mo_ok (⟨[(5, .call [] (.bool true)), (9, .call [] (.bool true)), (14, .call [] (.bool true))], [], [], [], .pure [] (.bool true)⟩ : Wk) 4000 (T := .ob (Ctr Tryd.prog 64 [AV.str n.lo] (AV.bool true)) (.ob (Ctr Tryd.prog 46 [AV.str n.lo] (AV.bool true)) (.ob (Ctr Tryd.prog 46 [AV.str n.sp] (AV.bool true)) (.ob ((!decide (n.sp = (ByteArray.mk #[(104 : UInt8), (116 : UInt8), (116 : UInt8), (112 : UInt8), (58 : UInt8), (47 : UInt8), (47 : UInt8), (119 : UInt8), (119 : UInt8), (119 : UInt8), (46 : UInt8), (119 : UInt8), (51 : UInt8), (46 : UInt8), (111 : UInt8), (114 : UInt8), (103 : UInt8), (47 : UInt8), (50 : UInt8), (48 : UInt8), (48 : UInt8), (48 : UInt8), (47 : UInt8), (120 : UInt8), (109 : UInt8), (108 : UInt8), (110 : UInt8), (115 : UInt8), (47 : UInt8)]))) = true) (.tt))))) (by kernel_rfl) (by
    simp only [PT.holds, true_implies, Bool.false_eq_true, Bool.true_eq_false, false_implies, true_and, and_true]
    refine ⟨h64, h46, h46s, ?_⟩
    rw [Bool.not_eq_true', decide_eq_false_iff_not]
    exact hx))
theorem evt_ctr (s : ByteArray) (hs : s ≠ ⟨#[]⟩) (h46 : Ctr Tryd.prog 46 [.str s] (.bool true)) : Ctr Tryd.prog 22 [.agg (evC ⟨2, nm0, [], s⟩)] (.bool true) :=
  Ctr.mk Γ_ok Tryd.func22 (by kernel_rfl) Tryd.call22 [] (by kernel_rfl) (HT.walk Γ_ok mo_ok (⟨[(9, .val (.bool true)), (14, .val (.bool true)), (18, .val (.bool true)), (23, .val (.bool true)), (28, .call [] (.bool true))], [], hd22 [] [] [] [], dsp22, .pure [] (.bool true)⟩ : Wk) 4000 (T := .ob ((3 : Nat) ≤ (5 : Nat)) (.ob (true = true) (.ob (true = true) (.ob (true = true) (.ob ((!decide (s = (ByteArray.mk #[]))) = true) (.ob (Ctr Tryd.prog 46 [AV.str s] (AV.bool true)) (.ob (true = true) (.tt)))))))) (by kernel_rfl) (by
    simp only [PT.holds, true_implies, Bool.false_eq_true, Bool.true_eq_false, false_implies, true_and, and_true]
    exact ⟨by omega, by simpa using hs, h46⟩))
theorem eo_p (e : Ev) (hk : e.kind = 1) (ht : e.text = ⟨#[]⟩) (hn : e.nm ≠ nm0) (ha : e.attrs.length ≤ 32) (h47 : Ctr Tryd.prog 47 [.agg (nmC e.nm)] (.bool true)) (k : HT Tryd.prog Tryd.f22.ntmps (pt Tryd.f22 0) (stE0 e 0) (EndsA Γ (.pure [] (.bool true)) Tryd.f22)) : Ctr Tryd.prog 22 [.agg (evC e)] (.bool true) :=
  Ctr.mk Γ_ok Tryd.func22 (by kernel_rfl) Tryd.call22 [] (by kernel_rfl) (HT.walk Γ_ok mo_ok (⟨[(50, .call [] (.bool true)), (9, .val (.bool false)), (18, .val (.bool false)), (32, .val (.bool false)), (41, .val (.bool false)), (45, .val (.bool false)), (57, .val (.bool false))], [], hd22 [] [] [] [], dsp22, .pure [] (.bool true)⟩ : Wk) 4000 (T := .ob ((3 : Nat) ≤ (5 : Nat)) (.ob ((decide (e.nm.sp = (ByteArray.mk #[])) && (decide (e.nm.lo = (ByteArray.mk #[])) && true)) = false) (.ob (decide (e.kind = (2 : Int)) = false) (.ob (decide (e.kind = (3 : Int)) = false) (.ob ((!decide (e.kind = (1 : Int))) = false) (.ob ((!decide (e.text = (ByteArray.mk #[]))) = false) (.ob ((3 : Nat) ≤ (5 : Nat)) (.ob (Ctr Tryd.prog 47 [AV.agg [AV.str e.nm.sp, AV.str e.nm.lo]] (AV.bool true)) (.ob (decide ((32 : Int) < (↑e.attrs.length : Int)) = false) (.head (pt Tryd.f22 0) ({ tmps := [(1, AV.ptr 1 0), (4, AV.int .i64 (0 : Int))], heap := [(1, .var true (evC e))], tags := [] }))))))))))) (by kernel_rfl) (by
    simp only [PT.holds, true_implies, Bool.false_eq_true, Bool.true_eq_false, false_implies, true_and, and_true]
    simp only [nm_chk]
    refine ⟨by omega, decide_eq_false hn, decide_eq_false (by omega), decide_eq_false (by omega), by simp [hk], by simp [ht], by omega, h47, decide_eq_false (by omega), head_eq k (by simp [stE0, evC])⟩))
theorem eo_h (e : Ev) (i : Nat) (hi : i < e.attrs.length) (hl : e.attrs.length ≤ 32) (h47 : Ctr Tryd.prog 47 [.agg (nmC (e.attrs.getD i atr0).nm)] (.bool true)) (h46 : Ctr Tryd.prog 46 [.str (e.attrs.getD i atr0).v] (.bool true)) (k : HT Tryd.prog Tryd.f22.ntmps (pt Tryd.f22 1) (stE1 e i 0) (EndsA Γ (.pure [] (.bool true)) Tryd.f22)) : HT Tryd.prog Tryd.f22.ntmps (pt Tryd.f22 0) (stE0 e i) (EndsA Γ (.pure [] (.bool true)) Tryd.f22) :=
  HT.walk Γ_ok mo_ok (⟨[(63, .val (.bool true)), (71, .val (.agg (nmC (e.attrs.getD i atr0).nm))), (72, .call [] (.bool true)), (80, .val (.str (e.attrs.getD i atr0).v)), (81, .call [] (.bool true))], [], hd22 [] [] [] [], dsp22, .pure [] (.bool true)⟩ : Wk) 4000 (T := .ob (decide ((↑i : Int) < (↑e.attrs.length : Int)) = true) (.ob ((0 : Int) ≤ (↑i : Int) ∧ (↑i : Int) < (↑e.attrs.length : Int) ∧ (↑i : Int).toNat * (3 : Nat) < (atsC e.attrs).length) (.ob (List.take (2 : Nat) (List.drop ((↑i : Int).toNat * (3 : Nat) + (0 : Nat)) (atsC e.attrs)) = [AV.str (e.attrs.getD i atr0).nm.sp, AV.str (e.attrs.getD i atr0).nm.lo]) (.ob (Ctr Tryd.prog 47 [AV.agg [AV.str (e.attrs.getD i atr0).nm.sp, AV.str (e.attrs.getD i atr0).nm.lo]] (AV.bool true)) (.ob ((0 : Int) ≤ (↑i : Int) ∧ (↑i : Int) < (↑e.attrs.length : Int) ∧ (↑i : Int).toNat * (3 : Nat) < (atsC e.attrs).length) (.ob ((atsC e.attrs)[(↑i : Int).toNat * (3 : Nat) + (2 : Nat)]? = some (AV.str (e.attrs.getD i atr0).v)) (.ob (Ctr Tryd.prog 46 [AV.str (e.attrs.getD i atr0).v] (AV.bool true)) (.head (pt Tryd.f22 1) ({ tmps := [(1, AV.ptr 1 0), (4, AV.int .i64 (↑i : Int)), (5, AV.int .i64 (0 : Int))], heap := [(1, .var true (evC e))], tags := [] }))))))))) (by kernel_rfl) (by
    have w2 : IntKind.i64.wrap ((i : Int) + 1) = ((i + 1 : Nat) : Int) := by rw [i64_wrap (by omega) (by omega)]; rfl
    simp only [PT.holds, w2, Int.toNat_natCast, atsC_len, true_implies, Bool.false_eq_true, Bool.true_eq_false, false_implies, true_and, and_true]
    exact ⟨decide_eq_true (by omega), by omega, by simp only [Nat.add_zero]; ((try simp only [Nat.add_assoc, Nat.reduceAdd, Nat.add_zero]) <;> first | (rw [ats_take _ _ _ _ hi (by decide)]; rfl) | (rw [ats_nth _ _ _ hi (by decide)]; rfl) | (rw [evs_take _ _ _ _ hi (by decide)]; rfl) | (rw [evs_nth _ _ _ hi (by decide)]; rfl) | (rw [ats_take0 _ _ _ hi (by decide)]; rfl) | (rw [ats_nth0 _ _ hi]; rfl) | (rw [evs_take0 _ _ _ hi (by decide)]; rfl) | (rw [evs_nth0 _ _ hi]; rfl)), h47, by omega, by ((try simp only [Nat.add_assoc, Nat.reduceAdd, Nat.add_zero]) <;> first | (rw [ats_take _ _ _ _ hi (by decide)]; rfl) | (rw [ats_nth _ _ _ hi (by decide)]; rfl) | (rw [evs_take _ _ _ _ hi (by decide)]; rfl) | (rw [evs_nth _ _ _ hi (by decide)]; rfl) | (rw [ats_take0 _ _ _ hi (by decide)]; rfl) | (rw [ats_nth0 _ _ hi]; rfl) | (rw [evs_take0 _ _ _ hi (by decide)]; rfl) | (rw [evs_nth0 _ _ hi]; rfl)), h46, head_eq k (by simp [stE1, evC])⟩)
theorem eo_e (e : Ev) (i : Nat) (hi : i = e.attrs.length) : HT Tryd.prog Tryd.f22.ntmps (pt Tryd.f22 0) (stE0 e i) (EndsA Γ (.pure [] (.bool true)) Tryd.f22) :=
  HT.walk Γ_ok mo_ok (⟨[(63, .val (.bool false)), (71, .val (.agg (nmC atr0.nm))), (72, .call [] (.bool true)), (80, .val (.str atr0.v)), (81, .call [] (.bool true))], [], hd22 [] [] [] [], dsp22, .pure [] (.bool true)⟩ : Wk) 4000 (T := .ob (decide ((↑i : Int) < (↑e.attrs.length : Int)) = false) (.ob (true = true) (.tt))) (by kernel_rfl) (by
    simp only [PT.holds, true_implies, Bool.false_eq_true, Bool.true_eq_false, false_implies, true_and, and_true]
    repeat' (with_reducible apply And.intro)
    all_goals first | assumption | omega | rfl | (simp; omega) | (simp; done))
theorem eo1_h (e : Ev) (i j : Nat) (hj : j < i) (hi : i < e.attrs.length) (hl : e.attrs.length ≤ 32) (hne : (e.attrs.getD j atr0).nm ≠ (e.attrs.getD i atr0).nm) (k : HT Tryd.prog Tryd.f22.ntmps (pt Tryd.f22 1) (stE1 e i (j + 1)) (EndsA Γ (.pure [] (.bool true)) Tryd.f22)) : HT Tryd.prog Tryd.f22.ntmps (pt Tryd.f22 1) (stE1 e i j) (EndsA Γ (.pure [] (.bool true)) Tryd.f22) :=
  HT.walk Γ_ok mo_ok (⟨[(86, .val (.bool true)), (94, .val (.agg (nmC (e.attrs.getD j atr0).nm))), (100, .val (.agg (nmC (e.attrs.getD i atr0).nm)))], [], hd22 [] [] [] [], [(16, [[(101, false)]])], .pure [] (.bool true)⟩ : Wk) 4000 (T := .ob (decide ((↑j : Int) < (↑i : Int)) = true) (.ob ((0 : Int) ≤ (↑j : Int) ∧ (↑j : Int) < (↑e.attrs.length : Int) ∧ (↑j : Int).toNat * (3 : Nat) < (atsC e.attrs).length) (.ob (List.take (2 : Nat) (List.drop ((↑j : Int).toNat * (3 : Nat) + (0 : Nat)) (atsC e.attrs)) = [AV.str (e.attrs.getD j atr0).nm.sp, AV.str (e.attrs.getD j atr0).nm.lo]) (.ob ((0 : Int) ≤ (↑i : Int) ∧ (↑i : Int) < (↑e.attrs.length : Int) ∧ (↑i : Int).toNat * (3 : Nat) < (atsC e.attrs).length) (.ob (List.take (2 : Nat) (List.drop ((↑i : Int).toNat * (3 : Nat) + (0 : Nat)) (atsC e.attrs)) = [AV.str (e.attrs.getD i atr0).nm.sp, AV.str (e.attrs.getD i atr0).nm.lo]) (.ob ((decide ((e.attrs.getD j atr0).nm.sp = (e.attrs.getD i atr0).nm.sp) && (decide ((e.attrs.getD j atr0).nm.lo = (e.attrs.getD i atr0).nm.lo) && true)) = false) (.head (pt Tryd.f22 1) ({ tmps := [(1, AV.ptr 1 0), (4, AV.int .i64 (↑i : Int)), (5, AV.int .i64 (IntKind.i64.wrap ((↑j : Int) + (1 : Int))))], heap := [(1, .var true (evC e))], tags := [] })))))))) (by kernel_rfl) (by
    have w2 : IntKind.i64.wrap ((j : Int) + 1) = ((j + 1 : Nat) : Int) := by rw [i64_wrap (by omega) (by omega)]; rfl
    simp only [PT.holds, w2, nm_eq, Int.toNat_natCast, atsC_len, true_implies, Bool.false_eq_true, Bool.true_eq_false, false_implies, true_and, and_true]
    have hj' : j < e.attrs.length := by omega
    exact ⟨decide_eq_true (by omega), by omega, by simp only [Nat.add_zero]; ((try simp only [Nat.add_assoc, Nat.reduceAdd, Nat.add_zero]) <;> first | (rw [ats_take _ _ _ _ hj' (by decide)]; rfl) | (rw [ats_nth _ _ _ hj' (by decide)]; rfl) | (rw [evs_take _ _ _ _ hj' (by decide)]; rfl) | (rw [evs_nth _ _ _ hj' (by decide)]; rfl) | (rw [ats_take0 _ _ _ hj' (by decide)]; rfl) | (rw [ats_nth0 _ _ hj']; rfl) | (rw [evs_take0 _ _ _ hj' (by decide)]; rfl) | (rw [evs_nth0 _ _ hj']; rfl)), by omega, by simp only [Nat.add_zero]; ((try simp only [Nat.add_assoc, Nat.reduceAdd, Nat.add_zero]) <;> first | (rw [ats_take _ _ _ _ hi (by decide)]; rfl) | (rw [ats_nth _ _ _ hi (by decide)]; rfl) | (rw [evs_take _ _ _ _ hi (by decide)]; rfl) | (rw [evs_nth _ _ _ hi (by decide)]; rfl) | (rw [ats_take0 _ _ _ hi (by decide)]; rfl) | (rw [ats_nth0 _ _ hi]; rfl) | (rw [evs_take0 _ _ _ hi (by decide)]; rfl) | (rw [evs_nth0 _ _ hi]; rfl)), decide_eq_false hne, head_eq k (by simp [stE1, evC])⟩)
theorem eo1_e (e : Ev) (i : Nat) (hi : i < e.attrs.length) (hl : e.attrs.length ≤ 32) (k : HT Tryd.prog Tryd.f22.ntmps (pt Tryd.f22 0) (stE0 e (i + 1)) (EndsA Γ (.pure [] (.bool true)) Tryd.f22)) : HT Tryd.prog Tryd.f22.ntmps (pt Tryd.f22 1) (stE1 e i i) (EndsA Γ (.pure [] (.bool true)) Tryd.f22) :=
  HT.walk Γ_ok mo_ok (⟨[(86, .val (.bool false)), (94, .val (.agg (nmC atr0.nm))), (100, .val (.agg (nmC atr0.nm)))], [], hd22 [] [] [] [], dsp22, .pure [] (.bool true)⟩ : Wk) 4000 (T := .ob (decide ((↑i : Int) < (↑i : Int)) = false) (.head (pt Tryd.f22 0) ({ tmps := [(1, AV.ptr 1 0), (4, AV.int .i64 (IntKind.i64.wrap ((↑i : Int) + (1 : Int))))], heap := [(1, .var true (evC e))], tags := [] }))) (by kernel_rfl) (by
    have w2 : IntKind.i64.wrap ((i : Int) + 1) = ((i + 1 : Nat) : Int) := by rw [i64_wrap (by omega) (by omega)]; rfl
    simp only [PT.holds, w2, true_implies, Bool.false_eq_true, Bool.true_eq_false, false_implies, true_and, and_true]
    exact ⟨decide_eq_false (by omega), head_eq k (by simp [stE0, evC])⟩)
end Go.Proofs.YteimloiaipiadaaDoor
end

section
set_option linter.unusedVariables false
set_option linter.unusedSimpArgs false
set_option maxRecDepth 100000
namespace Go.Proofs.YteimloiaipiadaaDoor
open Go Go.AX

def stRi (p : Pth) (L : List Ev) (t o i : Nat) : AS := ⟨[(1, .ptr 1 0), (3, .sl none L.length (evsC L) .no), (5, .int .i64 t), (6, .int .i64 o), (7, .int .i64 i)], [(1, .var true (pthL p))], []⟩
def stRj (p : Pth) (L : List Ev) (t o i j : Nat) : AS := ⟨[(1, .ptr 1 0), (3, .sl none L.length (evsC L) .no), (5, .int .i64 t), (6, .int .i64 o), (7, .int .i64 i), (8, .int .i64 j)], [(1, .var true (pthL p))], []⟩

theorem rt_p (p : Pth) (x : Bool) (L : List Ev) (c : Int) (h9 : Ctr Tryd.prog 9 [] (.bool true)) (h10 : Ctr Tryd.prog 10 [.agg (pthL p)] (.bool x)) (k : x = true → Ctr Tryd.prog 11 [.agg (pthL p)] (.tup [.sl none L.length (evsC L) .no, .int .i64 c]) ∧ (c = 0 → HT Tryd.prog Tryd.f8.ntmps (pt Tryd.f8 0) (stRi p L 0 0 0) (EndsA Γ (.pure [] (.bool true)) Tryd.f8))) : Ctr Tryd.prog 8 [.agg (pthL p)] (.bool true) :=
  Ctr.mk Γ_ok Tryd.func8 (by kernel_rfl) Tryd.call8 [] (by kernel_rfl) (HT.walk Γ_ok mo_ok (⟨[(9, .call [] (.bool true)), (16, .call [] (.bool true)), (13, .call [] (.bool x)), (19, .call [] (.tup [.sl none L.length (evsC L) .no, .int .i64 c]))], [13, 23], hd8 [] [] [] [], dsp8, .pure [] (.bool true)⟩ : Wk) 4000 (T := .ob (Ctr Tryd.prog 9 [] (AV.bool true)) (.ob ((3 : Nat) ≤ (3 : Nat)) (.ob (Ctr Tryd.prog 10 [AV.agg (pthL p)] (AV.bool x)) (.split (x) (.ob ((3 : Nat) ≤ (3 : Nat)) (.ob (Ctr Tryd.prog 11 [AV.agg (pthL p)] (AV.tup [AV.sl none L.length (evsC L) .no, AV.int .i64 c])) (.split (!decide (c = (0 : Int))) (.ob (true = true) (.tt)) (.head (pt Tryd.f8 0) ({ tmps := [(1, AV.ptr 1 0), (3, AV.sl none L.length (evsC L) .no), (5, AV.int .i64 (0 : Int)), (6, AV.int .i64 (0 : Int)), (7, AV.int .i64 (0 : Int))], heap := [(1, .var true (pthL p))], tags := [] }))))) (.ob (Ctr Tryd.prog 9 [] (AV.bool true)) (.ob (true = true) (.tt))))))) (by kernel_rfl) (by
    simp only [PT.holds, true_implies, Bool.false_eq_true, Bool.true_eq_false, false_implies, true_and, and_true]
    refine ⟨h9, by omega, h10, fun h1 => ⟨by omega, (k h1).1, fun _ => trivial, fun h3 => head_eq ((k h1).2 ?_) (by simp [stRi, pthL])⟩, fun _ => h9⟩
    simpa using h3))
theorem rt_ht (p : Pth) (L : List Ev) (t o i : Nat) (hi : i < L.length) (hl : L.length ≤ 1000) (ht : t ≤ 1000) (ho : o ≤ 1000) (h22 : Ctr Tryd.prog 22 [.agg (evC (L.getD i ev0))] (.bool true)) (h3 : (L.getD i ev0).kind ≠ 3) (h2 : (L.getD i ev0).kind = 2) (k : HT Tryd.prog Tryd.f8.ntmps (pt Tryd.f8 1) (stRj p L (t + 1) o i 0) (EndsA Γ (.pure [] (.bool true)) Tryd.f8)) : HT Tryd.prog Tryd.f8.ntmps (pt Tryd.f8 0) (stRi p L t o i) (EndsA Γ (.pure [] (.bool true)) Tryd.f8) :=
  HT.walk Γ_ok mo_ok (⟨[(33, .val (.agg (evC (L.getD i ev0)))), (34, .call [] (.bool true)), (41, .val (.int .i64 (L.getD i ev0).kind)), (48, .val (.int .i64 (L.getD i ev0).kind)), (27, .val (.bool true)), (42, .val (.bool false)), (49, .val (.bool true))], [], hd8 [] [] [] [], dsp8, .pure [] (.bool true)⟩ : Wk) 4000 (T := .ob (decide ((↑i : Int) < (↑L.length : Int)) = true) (.ob ((0 : Int) ≤ (↑i : Int) ∧ (↑i : Int) < (↑L.length : Int) ∧ (↑i : Int).toNat * (5 : Nat) < (evsC L).length) (.ob (List.take (5 : Nat) (List.drop ((↑i : Int).toNat * (5 : Nat)) (evsC L)) = (evC (L.getD i ev0))) (.ob (Ctr Tryd.prog 22 [AV.agg (evC (L.getD i ev0))] (AV.bool true)) (.ob ((0 : Int) ≤ (↑i : Int) ∧ (↑i : Int) < (↑L.length : Int) ∧ (↑i : Int).toNat * (5 : Nat) < (evsC L).length) (.ob ((evsC L)[(↑i : Int).toNat * (5 : Nat) + (0 : Nat)]? = some (AV.int .i64 (L.getD i ev0).kind)) (.ob (decide ((L.getD i ev0).kind = (3 : Int)) = false) (.ob ((0 : Int) ≤ (↑i : Int) ∧ (↑i : Int) < (↑L.length : Int) ∧ (↑i : Int).toNat * (5 : Nat) < (evsC L).length) (.ob ((evsC L)[(↑i : Int).toNat * (5 : Nat) + (0 : Nat)]? = some (AV.int .i64 (L.getD i ev0).kind)) (.ob (decide ((L.getD i ev0).kind = (2 : Int)) = true) (.head (pt Tryd.f8 1) ({ tmps := [(1, AV.ptr 1 0), (3, AV.sl none L.length (evsC L) .no), (5, AV.int .i64 (IntKind.i64.wrap ((↑t : Int) + (1 : Int)))), (6, AV.int .i64 (↑o : Int)), (7, AV.int .i64 (↑i : Int)), (8, AV.int .i64 (0 : Int))], heap := [(1, .var true (pthL p))], tags := [] })))))))))))) (by kernel_rfl) (by
    have w2 : IntKind.i64.wrap ((t : Int) + 1) = ((t + 1 : Nat) : Int) := by rw [i64_wrap (by omega) (by omega)]; rfl
    have w3 : IntKind.i64.wrap ((o : Int) + 1) = ((o + 1 : Nat) : Int) := by rw [i64_wrap (by omega) (by omega)]; rfl
    simp only [PT.holds, w2, w3, Int.toNat_natCast, evsC_len, true_implies, Bool.false_eq_true, Bool.true_eq_false, false_implies, true_and, and_true]
    repeat' (with_reducible apply And.intro)
    all_goals first | assumption | omega | rfl | ((try simp only [Nat.add_assoc, Nat.reduceAdd, Nat.add_zero]) <;> first | (rw [ats_take _ _ _ _ hi (by decide)]; rfl) | (rw [ats_nth _ _ _ hi (by decide)]; rfl) | (rw [evs_take _ _ _ _ hi (by decide)]; rfl) | (rw [evs_nth _ _ _ hi (by decide)]; rfl) | (rw [ats_take0 _ _ _ hi (by decide)]; rfl) | (rw [ats_nth0 _ _ hi]; rfl) | (rw [evs_take0 _ _ _ hi (by decide)]; rfl) | (rw [evs_nth0 _ _ hi]; rfl)) | ((try simp only [Nat.add_assoc, Nat.reduceAdd, Nat.add_zero]) <;> first | (rw [ats_take _ _ _ _ hj' (by decide)]; rfl) | (rw [ats_nth _ _ _ hj' (by decide)]; rfl) | (rw [evs_take _ _ _ _ hj' (by decide)]; rfl) | (rw [evs_nth _ _ _ hj' (by decide)]; rfl) | (rw [ats_take0 _ _ _ hj' (by decide)]; rfl) | (rw [ats_nth0 _ _ hj']; rfl) | (rw [evs_take0 _ _ _ hj' (by decide)]; rfl) | (rw [evs_nth0 _ _ hj']; rfl)) | (simp only [Nat.add_zero]; ((try simp only [Nat.add_assoc, Nat.reduceAdd, Nat.add_zero]) <;> first | (rw [ats_take _ _ _ _ hi (by decide)]; rfl) | (rw [ats_nth _ _ _ hi (by decide)]; rfl) | (rw [evs_take _ _ _ _ hi (by decide)]; rfl) | (rw [evs_nth _ _ _ hi (by decide)]; rfl) | (rw [ats_take0 _ _ _ hi (by decide)]; rfl) | (rw [ats_nth0 _ _ hi]; rfl) | (rw [evs_take0 _ _ _ hi (by decide)]; rfl) | (rw [evs_nth0 _ _ hi]; rfl))) | exact decide_eq_true (by omega) | exact decide_eq_false (by omega) | exact h22 | exact h21 | exact head_eq k (by simp [stRi, stRj, evC, pthL]))
theorem rt_hf (p : Pth) (L : List Ev) (t o i : Nat) (hi : i < L.length) (hl : L.length ≤ 1000) (ht : t ≤ 1000) (ho : o ≤ 1000) (h22 : Ctr Tryd.prog 22 [.agg (evC (L.getD i ev0))] (.bool true)) (h3 : (L.getD i ev0).kind ≠ 3) (h2 : (L.getD i ev0).kind ≠ 2) (k : HT Tryd.prog Tryd.f8.ntmps (pt Tryd.f8 1) (stRj p L t (o + 1) i 0) (EndsA Γ (.pure [] (.bool true)) Tryd.f8)) : HT Tryd.prog Tryd.f8.ntmps (pt Tryd.f8 0) (stRi p L t o i) (EndsA Γ (.pure [] (.bool true)) Tryd.f8) :=
  HT.walk Γ_ok mo_ok (⟨[(33, .val (.agg (evC (L.getD i ev0)))), (34, .call [] (.bool true)), (41, .val (.int .i64 (L.getD i ev0).kind)), (48, .val (.int .i64 (L.getD i ev0).kind)), (27, .val (.bool true)), (42, .val (.bool false)), (49, .val (.bool false))], [], hd8 [] [] [] [], dsp8, .pure [] (.bool true)⟩ : Wk) 4000 (T := .ob (decide ((↑i : Int) < (↑L.length : Int)) = true) (.ob ((0 : Int) ≤ (↑i : Int) ∧ (↑i : Int) < (↑L.length : Int) ∧ (↑i : Int).toNat * (5 : Nat) < (evsC L).length) (.ob (List.take (5 : Nat) (List.drop ((↑i : Int).toNat * (5 : Nat)) (evsC L)) = (evC (L.getD i ev0))) (.ob (Ctr Tryd.prog 22 [AV.agg (evC (L.getD i ev0))] (AV.bool true)) (.ob ((0 : Int) ≤ (↑i : Int) ∧ (↑i : Int) < (↑L.length : Int) ∧ (↑i : Int).toNat * (5 : Nat) < (evsC L).length) (.ob ((evsC L)[(↑i : Int).toNat * (5 : Nat) + (0 : Nat)]? = some (AV.int .i64 (L.getD i ev0).kind)) (.ob (decide ((L.getD i ev0).kind = (3 : Int)) = false) (.ob ((0 : Int) ≤ (↑i : Int) ∧ (↑i : Int) < (↑L.length : Int) ∧ (↑i : Int).toNat * (5 : Nat) < (evsC L).length) (.ob ((evsC L)[(↑i : Int).toNat * (5 : Nat) + (0 : Nat)]? = some (AV.int .i64 (L.getD i ev0).kind)) (.ob (decide ((L.getD i ev0).kind = (2 : Int)) = false) (.head (pt Tryd.f8 1) ({ tmps := [(1, AV.ptr 1 0), (3, AV.sl none L.length (evsC L) .no), (5, AV.int .i64 (↑t : Int)), (6, AV.int .i64 (IntKind.i64.wrap ((↑o : Int) + (1 : Int)))), (7, AV.int .i64 (↑i : Int)), (8, AV.int .i64 (0 : Int))], heap := [(1, .var true (pthL p))], tags := [] })))))))))))) (by kernel_rfl) (by
    have w2 : IntKind.i64.wrap ((t : Int) + 1) = ((t + 1 : Nat) : Int) := by rw [i64_wrap (by omega) (by omega)]; rfl
    have w3 : IntKind.i64.wrap ((o : Int) + 1) = ((o + 1 : Nat) : Int) := by rw [i64_wrap (by omega) (by omega)]; rfl
    simp only [PT.holds, w2, w3, Int.toNat_natCast, evsC_len, true_implies, Bool.false_eq_true, Bool.true_eq_false, false_implies, true_and, and_true]
    repeat' (with_reducible apply And.intro)
    all_goals first | assumption | omega | rfl | ((try simp only [Nat.add_assoc, Nat.reduceAdd, Nat.add_zero]) <;> first | (rw [ats_take _ _ _ _ hi (by decide)]; rfl) | (rw [ats_nth _ _ _ hi (by decide)]; rfl) | (rw [evs_take _ _ _ _ hi (by decide)]; rfl) | (rw [evs_nth _ _ _ hi (by decide)]; rfl) | (rw [ats_take0 _ _ _ hi (by decide)]; rfl) | (rw [ats_nth0 _ _ hi]; rfl) | (rw [evs_take0 _ _ _ hi (by decide)]; rfl) | (rw [evs_nth0 _ _ hi]; rfl)) | ((try simp only [Nat.add_assoc, Nat.reduceAdd, Nat.add_zero]) <;> first | (rw [ats_take _ _ _ _ hj' (by decide)]; rfl) | (rw [ats_nth _ _ _ hj' (by decide)]; rfl) | (rw [evs_take _ _ _ _ hj' (by decide)]; rfl) | (rw [evs_nth _ _ _ hj' (by decide)]; rfl) | (rw [ats_take0 _ _ _ hj' (by decide)]; rfl) | (rw [ats_nth0 _ _ hj']; rfl) | (rw [evs_take0 _ _ _ hj' (by decide)]; rfl) | (rw [evs_nth0 _ _ hj']; rfl)) | (simp only [Nat.add_zero]; ((try simp only [Nat.add_assoc, Nat.reduceAdd, Nat.add_zero]) <;> first | (rw [ats_take _ _ _ _ hi (by decide)]; rfl) | (rw [ats_nth _ _ _ hi (by decide)]; rfl) | (rw [evs_take _ _ _ _ hi (by decide)]; rfl) | (rw [evs_nth _ _ _ hi (by decide)]; rfl) | (rw [ats_take0 _ _ _ hi (by decide)]; rfl) | (rw [ats_nth0 _ _ hi]; rfl) | (rw [evs_take0 _ _ _ hi (by decide)]; rfl) | (rw [evs_nth0 _ _ hi]; rfl))) | exact decide_eq_true (by omega) | exact decide_eq_false (by omega) | exact h22 | exact h21 | exact head_eq k (by simp [stRi, stRj, evC, pthL]))
theorem rt_e (p : Pth) (L : List Ev) (t o i : Nat) (hi : i = L.length) (ht : 0 < t) (ho : 0 < o) : HT Tryd.prog Tryd.f8.ntmps (pt Tryd.f8 0) (stRi p L t o i) (EndsA Γ (.pure [] (.bool true)) Tryd.f8) :=
  HT.walk Γ_ok mo_ok (⟨[(33, .val (.agg (evC ev0))), (34, .call [] (.bool true)), (41, .val (.int .i64 0)), (48, .val (.int .i64 0)), (27, .val (.bool false)), (70, .val (.bool true))], [], hd8 [] [] [] [], dsp8, .pure [] (.bool true)⟩ : Wk) 4000 (T := .ob (decide ((↑i : Int) < (↑L.length : Int)) = false) (.ob (decide ((0 : Int) < (↑t : Int)) = true) (.ob (decide ((0 : Int) < (↑o : Int)) = true) (.tt)))) (by kernel_rfl) (by
    simp only [PT.holds, true_implies, Bool.false_eq_true, Bool.true_eq_false, false_implies, true_and, and_true]
    exact ⟨decide_eq_false (by omega), decide_eq_true (by omega), decide_eq_true (by omega)⟩)
theorem rt1_h (p : Pth) (L : List Ev) (t o i : Nat) (j : Nat) (hj : j < i) (hi : i < L.length) (hl : L.length ≤ 1000) (h21 : Ctr Tryd.prog 21 [.agg (pthL p), .agg (evC (L.getD i ev0)), .agg (evC (L.getD j ev0))] (.bool false)) (k : HT Tryd.prog Tryd.f8.ntmps (pt Tryd.f8 1) (stRj p L t o i (j + 1)) (EndsA Γ (.pure [] (.bool true)) Tryd.f8)) : HT Tryd.prog Tryd.f8.ntmps (pt Tryd.f8 1) (stRj p L t o i j) (EndsA Γ (.pure [] (.bool true)) Tryd.f8) :=
  HT.walk Γ_ok mo_ok (⟨[(63, .val (.agg (evC (L.getD i ev0)))), (67, .val (.agg (evC (L.getD j ev0)))), (68, .call [] (.bool false)), (56, .val (.bool true))], [], hd8 [] [] [] [], [(19, [[(68, false)]])], .pure [] (.bool true)⟩ : Wk) 4000 (T := .ob (decide ((↑j : Int) < (↑i : Int)) = true) (.ob ((3 : Nat) ≤ (3 : Nat)) (.ob ((0 : Int) ≤ (↑i : Int) ∧ (↑i : Int) < (↑L.length : Int) ∧ (↑i : Int).toNat * (5 : Nat) < (evsC L).length) (.ob (List.take (5 : Nat) (List.drop ((↑i : Int).toNat * (5 : Nat)) (evsC L)) = (evC (L.getD i ev0))) (.ob ((0 : Int) ≤ (↑j : Int) ∧ (↑j : Int) < (↑L.length : Int) ∧ (↑j : Int).toNat * (5 : Nat) < (evsC L).length) (.ob (List.take (5 : Nat) (List.drop ((↑j : Int).toNat * (5 : Nat)) (evsC L)) = (evC (L.getD j ev0))) (.ob (Ctr Tryd.prog 21 [AV.agg (pthL p), AV.agg (evC (L.getD i ev0)), AV.agg (evC (L.getD j ev0))] (AV.bool false)) (.ob (false = false) (.head (pt Tryd.f8 1) ({ tmps := [(1, AV.ptr 1 0), (3, AV.sl none L.length (evsC L) .no), (5, AV.int .i64 (↑t : Int)), (6, AV.int .i64 (↑o : Int)), (7, AV.int .i64 (↑i : Int)), (8, AV.int .i64 (IntKind.i64.wrap ((↑j : Int) + (1 : Int))))], heap := [(1, .var true (pthL p))], tags := [] })))))))))) (by kernel_rfl) (by
    have hj' : j < L.length := by omega
    have w2 : IntKind.i64.wrap ((j : Int) + 1) = ((j + 1 : Nat) : Int) := by rw [i64_wrap (by omega) (by omega)]; rfl
    simp only [PT.holds, w2, Int.toNat_natCast, evsC_len, true_implies, Bool.false_eq_true, Bool.true_eq_false, false_implies, true_and, and_true]
    repeat' (with_reducible apply And.intro)
    all_goals first | assumption | omega | rfl | ((try simp only [Nat.add_assoc, Nat.reduceAdd, Nat.add_zero]) <;> first | (rw [ats_take _ _ _ _ hi (by decide)]; rfl) | (rw [ats_nth _ _ _ hi (by decide)]; rfl) | (rw [evs_take _ _ _ _ hi (by decide)]; rfl) | (rw [evs_nth _ _ _ hi (by decide)]; rfl) | (rw [ats_take0 _ _ _ hi (by decide)]; rfl) | (rw [ats_nth0 _ _ hi]; rfl) | (rw [evs_take0 _ _ _ hi (by decide)]; rfl) | (rw [evs_nth0 _ _ hi]; rfl)) | ((try simp only [Nat.add_assoc, Nat.reduceAdd, Nat.add_zero]) <;> first | (rw [ats_take _ _ _ _ hj' (by decide)]; rfl) | (rw [ats_nth _ _ _ hj' (by decide)]; rfl) | (rw [evs_take _ _ _ _ hj' (by decide)]; rfl) | (rw [evs_nth _ _ _ hj' (by decide)]; rfl) | (rw [ats_take0 _ _ _ hj' (by decide)]; rfl) | (rw [ats_nth0 _ _ hj']; rfl) | (rw [evs_take0 _ _ _ hj' (by decide)]; rfl) | (rw [evs_nth0 _ _ hj']; rfl)) | (simp only [Nat.add_zero]; ((try simp only [Nat.add_assoc, Nat.reduceAdd, Nat.add_zero]) <;> first | (rw [ats_take _ _ _ _ hi (by decide)]; rfl) | (rw [ats_nth _ _ _ hi (by decide)]; rfl) | (rw [evs_take _ _ _ _ hi (by decide)]; rfl) | (rw [evs_nth _ _ _ hi (by decide)]; rfl) | (rw [ats_take0 _ _ _ hi (by decide)]; rfl) | (rw [ats_nth0 _ _ hi]; rfl) | (rw [evs_take0 _ _ _ hi (by decide)]; rfl) | (rw [evs_nth0 _ _ hi]; rfl))) | exact decide_eq_true (by omega) | exact decide_eq_false (by omega) | exact h22 | exact h21 | exact head_eq k (by simp [stRi, stRj, evC, pthL]))
theorem rt1_e (p : Pth) (L : List Ev) (t o i : Nat) (hi : i < L.length) (hl : L.length ≤ 1000) (k : HT Tryd.prog Tryd.f8.ntmps (pt Tryd.f8 0) (stRi p L t o (i + 1)) (EndsA Γ (.pure [] (.bool true)) Tryd.f8)) : HT Tryd.prog Tryd.f8.ntmps (pt Tryd.f8 1) (stRj p L t o i i) (EndsA Γ (.pure [] (.bool true)) Tryd.f8) :=
  HT.walk Γ_ok mo_ok (⟨[(63, .val (.agg (evC ev0))), (67, .val (.agg (evC ev0))), (68, .call [] (.bool false)), (56, .val (.bool false))], [], hd8 [] [] [] [], dsp8, .pure [] (.bool true)⟩ : Wk) 4000 (T := .ob (decide ((↑i : Int) < (↑i : Int)) = false) (.head (pt Tryd.f8 0) ({ tmps := [(1, AV.ptr 1 0), (3, AV.sl none L.length (evsC L) .no), (5, AV.int .i64 (↑t : Int)), (6, AV.int .i64 (↑o : Int)), (7, AV.int .i64 (IntKind.i64.wrap ((↑i : Int) + (1 : Int))))], heap := [(1, .var true (pthL p))], tags := [] }))) (by kernel_rfl) (by
    have hj' : i < L.length := hi
    have w2 : IntKind.i64.wrap ((i : Int) + 1) = ((i + 1 : Nat) : Int) := by rw [i64_wrap (by omega) (by omega)]; rfl
    simp only [PT.holds, w2, true_implies, Bool.false_eq_true, Bool.true_eq_false, false_implies, true_and, and_true]
    exact ⟨decide_eq_false (by omega), head_eq k (by simp [stRi, evC, pthL])⟩)
/-! ### Labels are events that may be -/
def NmR (n : Nm) : Prop := Ctr Tryd.prog 47 [.agg (nmC n)] (.bool true)
def RiR (s : ByteArray) : Prop := Ctr Tryd.prog 46 [.str s] (.bool true)
theorem nmR_of {n : Nm} (hk : n.ok) (h : NmOk n) : NmR n := by
  have h1 := exB_ctr (plain_ex n.lo hk.2)
  have h2 := exB_ctr (right_ex n.lo hk.2)
  have h3 := exB_ctr (right_ex n.sp hk.1)
  rw [h.plain] at h1
  rw [h.lo] at h2
  rw [h.rsp] at h3
  exact nm9_p n h1 h2 h3 h.sp
theorem riR_of {s : ByteArray} (hk : s.size ≤ 1048600) (h : exB Tryd.prog 46 [.str s] = true) : RiR s := by
  have h2 := exB_ctr (right_ex s hk)
  rw [h] at h2
  exact h2
theorem riR_emp : RiR ⟨#[]⟩ := right_asc _ (by decide) asc_emp
theorem digN_ne (k : Nat) : digN k ≠ ⟨#[]⟩ := fun h => bZn_ne 0 (by
  have h2 := bZn_ne k
  rw [h] at h2
  exact absurd rfl h2)
theorem digN_small (k : Nat) (h : k < 100) : (digN k).size ≤ 1000 := by have := digN_size k; omega
theorem riR_dig (k : Nat) (h : k < 100) : RiR (⟨#[]⟩ ++ digN k) := by
  have e := emp_app (digN k)
  unfold empB at e
  rw [e]
  exact right_asc _ (by have := digN_small k h; omega) (dig_asc k h)
theorem anoB_r (v : List ByteArray) (hv : v.length < 100) : RiR (anoB v) := by
  have hk := (kOf_first ⟨#[]⟩ v).le
  unfold anoB
  simp only [frR]
  split
  · exact riR_dig _ (by omega)
  · exact riR_emp
theorem anoT_r (v : List ByteArray) (hv : v.length < 100) : RiR (anoT v) ∧ anoT v ≠ ⟨#[]⟩ := by
  have hk := (kOf_first ⟨#[]⟩ v).le
  unfold anoT
  simp only [frR]
  refine ⟨riR_dig _ (by omega), ?_⟩
  have e := emp_app (digN (kOf ⟨#[]⟩ v))
  unfold empB at e
  rw [e]
  exact digN_ne _
theorem othN_r (l : List Nm) (hl : l.length < 100) : NmR (othN l) ∧ othN l ≠ nm0 := by
  obtain ⟨k, hk⟩ := firstZ_ex l
  have := other_same l _ k (kOf_first bZ (localsF l ++ [bZ0])) hk
  have hle := hk.le
  obtain ⟨h1, h2, h3⟩ := nmZ_asc k (by omega)
  have hs : (nmZ k).lo.size ≤ 1000 := by
    unfold nmZ
    split
    · decide
    · have := digN_small k (by omega)
      have hd := digN_size k
      rw [ByteArray.size_append]
      have : bZ.size = 1 := rfl
      omega
  have e : othN l = nmZ k := by unfold othN; exact this
  rw [e]
  refine ⟨nm9_p _ (plain_pz _ hs h3 h2) (right_asc _ (by omega) h1) (by rw [nmZ_sp]; exact riR_emp) (by rw [nmZ_sp]; decide), fun h => ?_⟩
  rw [h] at h2
  exact absurd h2 (by decide +kernel)
mutual
theorem filtersP_ok : ∀ p : Pth, p.ok → ∀ f ∈ filtersP p, f.ok
  | .mk o sub test, h, f, hf => by
    have ho := Pth.ok_i h
    simp only [filtersP, List.mem_append] at hf
    rcases hf with hf | hf
    · exact filtersPs_ok sub ho.2.2.1 f hf
    · exact withinFs_ok test ho.2.2.2 f hf
theorem filtersPs_ok : ∀ l : List Pth, (∀ q ∈ l, q.ok) → ∀ f ∈ filtersPs l, f.ok
  | [], h, f, hf => by simp [filtersPs] at hf
  | p :: r, h, f, hf => by
    simp only [filtersPs, List.mem_append] at hf
    rcases hf with hf | hf
    · exact filtersP_ok p (h p (by simp)) f hf
    · exact filtersPs_ok r (fun q hq => h q (by simp [hq])) f hf
theorem withinF_ok : ∀ g : Flt, g.ok → ∀ f ∈ withinF g, f.ok
  | .mk o n v sub way, h, f, hf => by
    have ho := Flt.ok_i h
    simp only [withinF, List.mem_append, List.mem_cons] at hf
    rcases hf with hf | hf | hf
    · rw [hf]; exact h
    · exact withinFs_ok sub ho.2.2.2.2.1 f hf
    · exact filtersPs_ok way ho.2.2.2.2.2 f hf
theorem withinFs_ok : ∀ l : List Flt, (∀ q ∈ l, q.ok) → ∀ f ∈ withinFs l, f.ok
  | [], h, f, hf => by simp [withinFs] at hf
  | g :: r, h, f, hf => by
    simp only [withinFs, List.mem_append] at hf
    rcases hf with hf | hf
    · exact withinF_ok g (h g (by simp)) f hf
    · exact withinFs_ok r (fun q hq => h q (by simp [hq])) f hf
end
theorem prodV_lt : ∀ V : List (List ByteArray), V.length < prodV V
  | [] => by simp [prodV]
  | v :: V => by
    have := prodV_lt V
    simp only [prodV, List.length_cons]
    have h2 : 2 * prodV V ≤ (v.length + 2) * prodV V := Nat.mul_le_mul_right _ (by omega)
    omega
/-- What the attributes of labels are. -/
theorem labF_P (Q : Atr → Prop) : ∀ (A : List Nm) (V : List (List ByteArray)) (e x : Ev), (∀ a ∈ e.attrs, Q a) → (∀ n ∈ A, ∀ v ∈ V, ∀ y ∈ v ++ [anoB v], Q ⟨n, y⟩) → x ∈ labF A V e → ∀ a ∈ x.attrs, Q a
  | [], V, e, x, he, hA, h => by simp [labF] at h; rw [h]; exact he
  | n :: A, [], e, x, he, hA, h => by simp [labF] at h; rw [h]; exact he
  | n :: A, v :: V, e, x, he, hA, h => by
    have hA' : ∀ m ∈ A, ∀ w ∈ V, ∀ y ∈ w ++ [anoB w], Q ⟨m, y⟩ := fun m hm w hw => hA m (by simp [hm]) w (by simp [hw])
    simp only [labF] at h
    rcases List.mem_append.1 h with h | h
    · exact labF_P Q A V e x he hA' h
    · obtain ⟨y, hy, h⟩ := List.mem_flatMap.1 h
      refine labF_P Q A V (addA e n y) x (fun a ha => ?_) hA' h
      simp only [addA] at ha
      rcases List.mem_append.1 ha with ha | ha
      · exact he a ha
      · simp at ha; rw [ha]; exact hA n (by simp) v (by simp) y hy
theorem labF_dis : ∀ (A : List Nm) (V : List (List ByteArray)) (e x : Ev), (e.attrs.map (·.nm)).Nodup → A.Nodup → (∀ n ∈ A, n ∉ e.attrs.map (·.nm)) → x ∈ labF A V e → (x.attrs.map (·.nm)).Nodup
  | [], V, e, x, he, hA, hd, h => by simp [labF] at h; rw [h]; exact he
  | n :: A, [], e, x, he, hA, hd, h => by simp [labF] at h; rw [h]; exact he
  | n :: A, v :: V, e, x, he, hA, hd, h => by
    obtain ⟨hn, hA'⟩ := List.nodup_cons.1 hA
    simp only [labF] at h
    rcases List.mem_append.1 h with h | h
    · exact labF_dis A V e x he hA' (fun m hm => hd m (by simp [hm])) h
    · obtain ⟨y, hy, h⟩ := List.mem_flatMap.1 h
      refine labF_dis A V (addA e n y) x ?_ hA' (fun m hm => ?_) h
      · simp only [addA, List.map_append, List.map_cons, List.map_nil]
        rw [List.nodup_append]
        exact ⟨he, by simp, fun a ha b hb e2 => by simp at hb; subst hb; subst e2; exact hd _ (by simp) ha⟩
      · simp only [addA, List.map_append, List.map_cons, List.map_nil, List.mem_append, List.mem_singleton]
        rintro (h2 | h2)
        · exact hd m (by simp [hm]) h2
        · exact hn (h2 ▸ hm)
theorem eo_l (e : Ev) (hl : e.attrs.length ≤ 32) (hd : (e.attrs.map (·.nm)).Nodup) (hQ : ∀ a ∈ e.attrs, NmR a.nm ∧ RiR a.v) : ∀ d i, i + d = e.attrs.length → HT Tryd.prog Tryd.f22.ntmps (pt Tryd.f22 0) (stE0 e i) (EndsA Γ (.pure [] (.bool true)) Tryd.f22) := by
  intro d
  induction d with
  | zero => intro i h; exact eo_e e i (by omega)
  | succ d ih =>
    intro i h
    have hi : i < e.attrs.length := by omega
    have hq := hQ _ (getD_mem e.attrs i atr0 hi)
    have inner : ∀ m j, j + m = i → HT Tryd.prog Tryd.f22.ntmps (pt Tryd.f22 1) (stE1 e i j) (EndsA Γ (.pure [] (.bool true)) Tryd.f22) := by
      intro m
      induction m with
      | zero =>
        intro j hj
        have e1 : j = i := by omega
        subst e1
        exact eo1_e e j hi hl (ih (j + 1) (by omega))
      | succ m ih2 =>
        intro j hj
        refine eo1_h e i j (by omega) hi hl (fun e2 => ?_) (ih2 (j + 1) (by omega))
        have := nodup_at (·.nm) atr0 e.attrs hd j i (by omega) hi e2
        omega
    exact eo_h e i hi hl hq.1 hq.2 (inner i 0 (Nat.zero_add _))
theorem eo_ctr (e : Ev) (hk : e.kind = 1) (ht : e.text = ⟨#[]⟩) (hn : e.nm ≠ nm0) (hnr : NmR e.nm) (hl : e.attrs.length ≤ 32) (hd : (e.attrs.map (·.nm)).Nodup) (hQ : ∀ a ∈ e.attrs, NmR a.nm ∧ RiR a.v) : Ctr Tryd.prog 22 [.agg (evC e)] (.bool true) :=
  eo_p e hk ht hn hl hnr (eo_l e hl hd hQ _ 0 (Nat.zero_add _))
theorem labs_right (p : Pth) (hok : p.ok) (hr : p.r) (hp : partsP p ≤ 64) (h24 : (labsW (spkW p)).length ≤ 24) (x : Ev) (hx : x ∈ labsW (spkW p)) : Ctr Tryd.prog 22 [.agg (evC x)] (.bool true) := by
  have hl := filters_64 p hp
  have hF : ∀ f ∈ filtersP p, f.r1 ∧ f.nm.ok ∧ f.val.size ≤ 1048600 := fun f hf => ⟨Flt.r_1 (filtersP_r p hr f hf), (Flt.ok_i (filtersP_ok p hok f hf)).1, (Flt.ok_i (filtersP_ok p hok f hf)).2.1⟩
  have hW := spk_nd p hr
  obtain ⟨s1, s2, s3, s4, s5⟩ := speaks_small p hl
  have hA32 : (spkW p).A.length ≤ 32 := by
    have h1 := prodV_lt (spkW p).V
    rw [labsW_len _ s4] at h24
    have h2 : 1 * prodV (spkW p).V ≤ ((spkW p).N.length + 1) * prodV (spkW p).V := Nat.mul_le_mul_right _ (by omega)
    omega
  have hN : ∀ n ∈ (spkW p).N, NmR n ∧ n ≠ nm0 := fun n hn => by
    rw [spk_of_r p hr] at hn
    obtain ⟨f, hf, h1, h2, rfl⟩ := (namesF_mem 4 4 n _).1 hn
    exact ⟨nmR_of (hF f hf).2.1 ((hF f hf).1.nmd (by omega)), (hF f hf).1.named.1 (by omega)⟩
  have hA : ∀ n ∈ (spkW p).A, NmR n := fun n hn => by
    rw [spk_of_r p hr] at hn
    obtain ⟨f, hf, h1, h2, rfl⟩ := (namesF_mem 5 6 n _).1 hn
    exact nmR_of (hF f hf).2.1 ((hF f hf).1.nmd (by omega))
  have hV : ∀ v ∈ (spkW p).V, ∀ y ∈ v ++ [anoB v], RiR y := fun v hv y hy => by
    have hvl := s5 v hv
    rcases List.mem_append.1 hy with hy | hy
    · rw [spk_of_r p hr] at hv
      obtain ⟨n, _, rfl⟩ := List.mem_map.1 hv
      obtain ⟨f, hf, h1, h2, rfl⟩ := (valuesF_mem 6 n y _).1 hy
      exact riR_of (hF f hf).2.2 (hF f hf).1.val
    · simp at hy; rw [hy]; exact anoB_r v (by omega)
  unfold labsW at hx
  rcases List.mem_append.1 hx with hx | hx
  · unfold opnW at hx
    obtain ⟨n, hn, hx⟩ := List.mem_flatMap.1 hx
    obtain ⟨h1, h2, h3⟩ := labF_same _ _ _ _ hx
    have hnn : NmR n ∧ n ≠ nm0 := by
      rcases List.mem_append.1 hn with hn | hn
      · exact hN n hn
      · simp at hn; rw [hn]; exact othN_r _ (by omega)
    have hal := labF_attrs _ _ _ _ hx
    refine eo_ctr x h1 h3 (by rw [h2]; exact hnn.2) (by rw [h2]; exact hnn.1) (by simp at hal; omega) (labF_dis _ _ _ _ (by simp) hW.A (fun m _ => by simp) hx) (labF_P (fun a => NmR a.nm ∧ RiR a.v) _ _ _ _ (fun a ha => by simp at ha) (fun m hm v hv y hy => ⟨hA m hm, hV v hv y hy⟩) hx)
  · unfold txtW at hx
    obtain ⟨s, hs, rfl⟩ := List.mem_map.1 hx
    have : RiR s ∧ s ≠ ⟨#[]⟩ := by
      rcases List.mem_append.1 hs with hs | hs
      · rw [spk_of_r p hr] at hs
        obtain ⟨f, hf, h1, h2, rfl⟩ := (valuesF_mem 7 nm0 s _).1 hs
        exact ⟨riR_of (hF f hf).2.2 (hF f hf).1.val, (hF f hf).1.hasval h1⟩
      · simp at hs; rw [hs]; exact anoT_r _ (by omega)
    exact evt_ctr s this.2 this.1
theorem labs_text (W : Wd) : ∃ j, j < (labsW W).length ∧ ((labsW W).getD j ev0).kind = 2 := by
  have hm : (⟨2, nm0, [], anoT W.T⟩ : Ev) ∈ labsW W := by
    unfold labsW txtW
    exact List.mem_append.2 (.inr (List.mem_map.2 ⟨anoT W.T, by simp, rfl⟩))
  obtain ⟨j, hj, e⟩ := List.getElem_of_mem hm
  exact ⟨j, hj, by rw [List.getD_eq_getElem?_getD, List.getElem?_eq_getElem hj, Option.getD_some, e]⟩
theorem labF_ne (A : List Nm) : ∀ (V : List (List ByteArray)) (e : Ev), labF A V e ≠ [] := by
  induction A with
  | nil => intro V e; simp [labF]
  | cons n A ih =>
    intro V e
    cases V with
    | nil => simp [labF]
    | cons v V =>
      simp only [labF]
      exact fun h => ih V e (List.append_eq_nil_iff.1 h).1
theorem labs_open (W : Wd) : ∃ j, j < (labsW W).length ∧ ((labsW W).getD j ev0).kind ≠ 2 := by
  have hne := labF_ne W.A W.V ⟨1, othN W.N, [], ⟨#[]⟩⟩
  obtain ⟨x, hx⟩ := List.exists_mem_of_ne_nil _ hne
  have hm : x ∈ labsW W := by
    unfold labsW opnW
    exact List.mem_append.2 (.inl (List.mem_flatMap.2 ⟨othN W.N, by simp, hx⟩))
  obtain ⟨j, hj, e⟩ := List.getElem_of_mem hm
  exact ⟨j, hj, by rw [List.getD_eq_getElem?_getD, List.getElem?_eq_getElem hj, Option.getD_some, e, (labF_same _ _ _ _ hx).1]; exact fun h => by cases h⟩
theorem rt_l (p : Pth) (hok : p.ok) (hr : p.r) (hp : partsP p ≤ 64) (h24 : (labsW (spkW p)).length ≤ 24) : ∀ d i t o, i + d = (labsW (spkW p)).length → t ≤ i → o ≤ i → ((∃ j, j < i ∧ ((labsW (spkW p)).getD j ev0).kind = 2) → 0 < t) → ((∃ j, j < i ∧ ((labsW (spkW p)).getD j ev0).kind ≠ 2) → 0 < o) → HT Tryd.prog Tryd.f8.ntmps (pt Tryd.f8 0) (stRi p (labsW (spkW p)) t o i) (EndsA Γ (.pure [] (.bool true)) Tryd.f8) := by
  have hl := filters_64 p hp
  have hW := spk_nd p hr
  have s3 := (speaks_small p hl).2.2.1
  have hla : ∀ x ∈ labsW (spkW p), x.attrs.length ≤ 1048600 := fun x hx => by have := labsW_attrs _ _ hx; omega
  intro d
  induction d with
  | zero =>
    intro i t o h ht ho h1 h2
    have hi : i = (labsW (spkW p)).length := by omega
    subst hi
    exact rt_e p _ t o _ rfl (h1 (labs_text _)) (h2 (labs_open _))
  | succ d ih =>
    intro i t o h ht ho h1 h2
    have hi : i < (labsW (spkW p)).length := by omega
    have hm := getD_mem (labsW (spkW p)) i ev0 hi
    have h3 : ((labsW (spkW p)).getD i ev0).kind ≠ 3 := by have := labs_kind _ _ hm; omega
    have inner : ∀ t o, HT Tryd.prog Tryd.f8.ntmps (pt Tryd.f8 0) (stRi p (labsW (spkW p)) t o (i + 1)) (EndsA Γ (.pure [] (.bool true)) Tryd.f8) → ∀ m j, j + m = i → HT Tryd.prog Tryd.f8.ntmps (pt Tryd.f8 1) (stRj p (labsW (spkW p)) t o i j) (EndsA Γ (.pure [] (.bool true)) Tryd.f8) := by
      intro t o k m
      induction m with
      | zero =>
        intro j hj
        have e1 : j = i := by omega
        subst e1
        exact rt1_e p _ t o j hi (by omega) k
      | succ m ih2 =>
        intro j hj
        have h21 := Like_ctr p hok (by omega) _ ((labsW (spkW p)).getD j ev0) (hla _ hm) (hla _ (getD_mem _ j ev0 (by omega)))
        have e : likW (spkW p) ((labsW (spkW p)).getD i ev0) ((labsW (spkW p)).getD j ev0) = false := by
          cases hh : likW (spkW p) ((labsW (spkW p)).getD i ev0) ((labsW (spkW p)).getD j ev0) with
          | false => rfl
          | true => exact absurd (only_self _ hW i j hi (by omega) hh) (by omega)
        rw [e] at h21
        exact rt1_h p _ t o i j (by omega) hi (by omega) h21 (ih2 (j + 1) (by omega))
    have h22 := labs_right p hok hr hp h24 _ hm
    by_cases hk : ((labsW (spkW p)).getD i ev0).kind = 2
    · refine rt_ht p _ t o i hi (by omega) (by omega) (by omega) h22 h3 hk (inner _ _ (ih (i + 1) _ _ (by omega) (by omega) (by omega) (fun _ => by omega) (fun hj => h2 ?_)) i 0 (Nat.zero_add _))
      obtain ⟨j, hj, hj2⟩ := hj
      refine ⟨j, ?_, hj2⟩
      rcases Nat.lt_or_ge j i with h5 | h5
      · exact h5
      · have : j = i := by omega
        subst this
        exact absurd hk hj2
    · refine rt_hf p _ t o i hi (by omega) (by omega) (by omega) h22 h3 hk (inner _ _ (ih (i + 1) _ _ (by omega) (by omega) (by omega) (fun hj => h1 ?_) (fun _ => by omega)) i 0 (Nat.zero_add _))
      obtain ⟨j, hj, hj2⟩ := hj
      refine ⟨j, ?_, hj2⟩
      rcases Nat.lt_or_ge j i with h5 | h5
      · exact h5
      · have : j = i := by omega
        subst this
        exact absurd hj2 hk
theorem rightLaw_ctr (p : Pth) (hok : p.ok) : Ctr Tryd.prog 8 [.agg (pthL p)] (.bool true) := by
  obtain ⟨x, hx, h10⟩ := rightp2_ex p hok
  refine rt_p p x (ansL (spkW p)) (ansC (spkW p)) awake_ctr h10 (fun h1 => ⟨Labels_all p hok (filters_64 p (hx h1).2), fun hc => ?_⟩)
  unfold ansC at hc
  unfold ansL
  by_cases h24 : (labsW (spkW p)).length ≤ 24
  · rw [if_pos h24]
    exact rt_l p hok (hx h1).1 (hx h1).2 h24 _ 0 0 0 (Nat.zero_add _) (by omega) (by omega) (fun ⟨j, hj, _⟩ => by omega) (fun ⟨j, hj, _⟩ => by omega)
  · rw [if_neg h24] at hc
    cases hc

end Go.Proofs.YteimloiaipiadaaDoor
end
