import Derived.Test.YteimloiaipiadaaDoorP10
import Derived.Test.YteimloiaipiadaaDoorP7
import Derived.OpenShut
import Derived.Test.YteimloiaipiadaaDoorP4
import Derived.Test.YteimloiaipiadaaDoorRows
section
set_option linter.unusedVariables false
set_option linter.unusedSimpArgs false
set_option maxRecDepth 100000
namespace Go.Proofs.YteimloiaipiadaaDoor
open Go Go.AX

def stpE (n : Nm) (vs : List ByteArray) (l : List Ev) : List Ev := l.flatMap fun e => e :: vs.map (addA e n)
/-- What is answered: all, or that there are too many. -/
structure Good (R : List Ev) (c : Int) (t : List Ev) : Prop where
  few : t.length ≤ 24 → R = t ∧ c = 0
  many : 24 < t.length → R = [] ∧ c = 13
theorem labF_step (n : Nm) (A : List Nm) (v : List ByteArray) (V : List (List ByteArray)) (l : List Ev) : l.flatMap (labF (n :: A) (v :: V)) = (stpE n (v ++ [anoB v]) l).flatMap (labF A V) := by
  unfold stpE
  rw [List.flatMap_assoc]
  congr 1
  funext e
  rw [List.flatMap_cons, List.flatMap_map]
  rfl
theorem flat_ge {α : Type} {f : α → List Ev} (h : ∀ x, 1 ≤ (f x).length) : ∀ l : List α, l.length ≤ (l.flatMap f).length
  | [] => by simp
  | x :: l => by
    have := flat_ge h l
    have := h x
    rw [List.flatMap_cons, List.length_append, List.length_cons]
    omega
theorem labF_pos (A : List Nm) (V : List (List ByteArray)) (e : Ev) (h : V.length = A.length) : 1 ≤ (labF A V e).length := by
  rw [labF_len A V e h]
  exact prodV_pos V
theorem R3_l (p : Pth) (W : Wd) (bA : W.A.length ≤ 1000) (bV : W.V.length = W.A.length) (bVs : ∀ v ∈ W.V, v.length < 100) (bT : W.T.length ≤ 1000) (R : List Ev) (c : Int) (N : List Nm) (o : List Ev) (i : Nat) (l : List Ev) (k : Nat) (vs : List ByteArray) (j : Nat) (hj : j < l.length) (hl : l.length ≤ 1000) (hk : k < W.A.length) (hvl : vs.length ≤ 1000) (ha : (l.getD j ev0).attrs.length ≤ 1000) : ∀ d v m, v + d = vs.length → m.length + d ≤ 1000000 → (HT Tryd.prog Tryd.f12.ntmps (pt Tryd.f12 2) (stR2 p W N o i l k vs (m ++ (vs.drop v).map (addA (l.getD j ev0) (W.A.getD k nm0))) (j + 1)) (EndsA Γ (.pure [] (.tup [.sl none R.length (evsC R) .no, .int .i64 c])) Tryd.f12)) → HT Tryd.prog Tryd.f12.ntmps (pt Tryd.f12 3) (stR3 p W N o i l k vs m j v) (EndsA Γ (.pure [] (.tup [.sl none R.length (evsC R) .no, .int .i64 c])) Tryd.f12) := by
  intro d
  induction d with
  | zero =>
    intro v m h hm kk
    rw [List.drop_of_length_le (by omega), List.map_nil, List.append_nil] at kk
    exact R3_e p W R c bA bV bVs bT N o i l k vs m j v (by omega) (by omega) kk
  | succ d ih =>
    intro v m h hm kk
    rw [drop_cons vs v ⟨#[]⟩ (by omega), List.map_cons] at kk
    refine R3_h p W R c bA bV bVs bT N o i l k vs m j v hj hl hk (by omega) hvl (by omega) ha (ih (v + 1) _ (by omega) (by rw [List.length_append, List.length_singleton]; omega) ?_)
    rw [List.append_assoc]
    exact kk
theorem stpE_len (n : Nm) (vs : List ByteArray) (l : List Ev) : (stpE n vs l).length = l.length * (vs.length + 1) := flatMap_const _ _ (fun e => by simp) l
theorem R2_l (p : Pth) (W : Wd) (bA : W.A.length ≤ 1000) (bV : W.V.length = W.A.length) (bVs : ∀ v ∈ W.V, v.length < 100) (bT : W.T.length ≤ 1000) (R : List Ev) (c : Int) (N : List Nm) (o : List Ev) (i : Nat) (l : List Ev) (k : Nat) (vs : List ByteArray) (hl : l.length ≤ 1000) (hk : k < W.A.length) (hvl : vs.length ≤ 1000) (ha : ∀ e ∈ l, e.attrs.length ≤ 1000) : ∀ d j m, j + d = l.length → m.length + d * 1001 ≤ 2000000 → m.length + d * (vs.length + 1) ≤ 1000000 → ((m ++ stpE (W.A.getD k nm0) vs (l.drop j)).length ≤ 24 → HT Tryd.prog Tryd.f12.ntmps (pt Tryd.f12 1) (stR1 p W N o i (m ++ stpE (W.A.getD k nm0) vs (l.drop j)) (k + 1)) (EndsA Γ (.pure [] (.tup [.sl none R.length (evsC R) .no, .int .i64 c])) Tryd.f12)) → (24 < (m ++ stpE (W.A.getD k nm0) vs (l.drop j)).length → R = [] ∧ c = 13) → HT Tryd.prog Tryd.f12.ntmps (pt Tryd.f12 2) (stR2 p W N o i l k vs m j) (EndsA Γ (.pure [] (.tup [.sl none R.length (evsC R) .no, .int .i64 c])) Tryd.f12) := by
  intro d
  induction d with
  | zero =>
    intro j m h hm0 hm kk kf
    rw [List.drop_of_length_le (by omega)] at kk kf
    simp only [stpE, List.flatMap_nil, List.append_nil] at kk kf
    exact R2_e p W R c bA bV bVs bT N o i l k vs m j (by omega) (by omega) kk kf
  | succ d ih =>
    intro j m h hm0 hm kk kf
    have e1 : m ++ stpE (W.A.getD k nm0) vs (l.drop j) = (m ++ [(l.getD j ev0)] ++ vs.map (addA (l.getD j ev0) (W.A.getD k nm0))) ++ stpE (W.A.getD k nm0) vs (l.drop (j + 1)) := by
      rw [drop_cons l j ev0 (by omega)]
      simp [stpE]
    rw [e1] at kk kf
    have hm2 : m.length + (d * (vs.length + 1) + (vs.length + 1)) ≤ 1000000 := by
      rw [Nat.add_mul, Nat.one_mul] at hm
      exact hm
    generalize d * (vs.length + 1) = z at hm2 ih
    refine R2_h p W R c bA bV bVs bT N o i l k vs m j (by omega) hl (by omega) (R3_l p W bA bV bVs bT R c N o i l k vs j (by omega) hl hk hvl (ha _ (getD_mem l j ev0 (by omega))) vs.length 0 _ (Nat.zero_add _) (by rw [List.length_append, List.length_singleton]; omega) ?_)
    rw [List.drop_zero]
    exact ih (j + 1) _ (by omega) (by simp only [List.length_append, List.length_singleton, List.length_map]; omega) (by simp only [List.length_append, List.length_singleton, List.length_map]; omega) kk kf
theorem anoB_ctr (v : List ByteArray) (hv : v.length < 100) : (hasB v ⟨#[]⟩ = true → Ctr Tryd.prog 35 [.sl none v.length (strsC v) .no] (.str (anoB v))) ∧ (hasB v ⟨#[]⟩ = false → anoB v = ⟨#[]⟩) := by
  have hk := kOf_first ⟨#[]⟩ v
  unfold anoB
  simp only [frR]
  refine ⟨fun h => ?_, fun h => ?_⟩
  · rw [if_pos h]
    have := numbered_ctr v (by omega) _ hk
    have e := emp_app (digN (kOf ⟨#[]⟩ v))
    unfold empB at e
    rw [e]
    exact this
  · rw [if_neg (by rw [h]; decide)]
theorem R1_l (p : Pth) (W : Wd) (bA : W.A.length ≤ 1000) (bV : W.V.length = W.A.length) (bVs : ∀ v ∈ W.V, v.length < 100) (bT : W.T.length ≤ 1000) (R : List Ev) (c : Int) (N : List Nm) (o : List Ev) (i : Nat) (X : List Ev) (hi : i ≤ 1000) (ho : o.length ≤ 24 * i) (cont : ∀ l : List Ev, l.length ≤ 24 → Good R c (o ++ l ++ X) → HT Tryd.prog Tryd.f12.ntmps (pt Tryd.f12 0) (stR0 p W N (o ++ l) (i + 1)) (EndsA Γ (.pure [] (.tup [.sl none R.length (evsC R) .no, .int .i64 c])) Tryd.f12)) : ∀ d k l, k + d = W.A.length → l.length ≤ 24 → (∀ e ∈ l, e.attrs.length ≤ k) → Good R c (o ++ l.flatMap (labF (W.A.drop k) (W.V.drop k)) ++ X) → HT Tryd.prog Tryd.f12.ntmps (pt Tryd.f12 1) (stR1 p W N o i l k) (EndsA Γ (.pure [] (.tup [.sl none R.length (evsC R) .no, .int .i64 c])) Tryd.f12) := by
  intro d
  induction d with
  | zero =>
    intro k l h hl ha hg
    have e1 : l.flatMap (labF (W.A.drop k) (W.V.drop k)) = l := by
      rw [List.drop_of_length_le (by omega)]
      have : labF [] (W.V.drop k) = fun e => [e] := by funext e; simp [labF]
      rw [this]
      simp
    rw [e1] at hg
    exact R1_e p W R c bA bV bVs bT N o i l k (by omega) (by omega) (by omega) (cont l hl hg)
  | succ d ih =>
    intro k l h hl ha hg
    have hv : (W.V.getD k []).length < 100 := bVs _ (getD_mem _ _ _ (by omega))
    obtain ⟨c1, c2⟩ := anoB_ctr (W.V.getD k []) hv
    rw [drop_cons W.A k nm0 (by omega), drop_cons W.V k [] (by omega), labF_step] at hg
    have hmul : l.length * (W.V.getD k [] ++ [anoB (W.V.getD k [])]).length ≤ 24 * 100 := Nat.mul_le_mul hl (by rw [List.length_append, List.length_singleton]; omega)
    have hgl := flat_ge (f := labF (W.A.drop (k + 1)) (W.V.drop (k + 1))) (fun x => labF_pos _ _ x (by simp; omega)) (stpE (W.A.getD k nm0) (W.V.getD k [] ++ [anoB (W.V.getD k [])]) l)
    refine R1_h p W R c bA bV bVs bT N o i l k _ (by omega) c1 c2 (R2_l p W bA bV bVs bT R c N o i l k _ (by omega) (by omega) (by rw [List.length_append, List.length_singleton]; omega) (fun e he => by have := ha e he; omega) l.length 0 [] (Nat.zero_add _) ?_ ?_ ?_ ?_)
    · simp only [List.length_nil]; omega
    · simp only [List.length_nil]
      rw [Nat.mul_add, Nat.mul_one]
      omega
    · rw [List.drop_zero, List.nil_append]
      intro hle
      refine ih (k + 1) _ (by omega) hle (fun e he => ?_) hg
      unfold stpE at he
      obtain ⟨x, hx, he⟩ := List.mem_flatMap.1 he
      have hax := ha x hx
      rcases List.mem_cons.1 he with he | he
      · subst he; omega
      · obtain ⟨y, _, rfl⟩ := List.mem_map.1 he
        simp [addA]; omega
    · rw [List.drop_zero, List.nil_append]
      intro hgt
      refine hg.many ?_
      simp only [List.length_append]
      omega
theorem R4_l (p : Pth) (W : Wd) (bA : W.A.length ≤ 1000) (bV : W.V.length = W.A.length) (bVs : ∀ v ∈ W.V, v.length < 100) (bT : W.T.length ≤ 1000) (R : List Ev) (c : Int) (Y : List ByteArray) (hY : Y.length ≤ 1001) : ∀ d i o, i + d = Y.length → o.length + d ≤ 1000000 → Good R c (o ++ txtW (Y.drop i)) → HT Tryd.prog Tryd.f12.ntmps (pt Tryd.f12 4) (stR4 p W Y o i) (EndsA Γ (.pure [] (.tup [.sl none R.length (evsC R) .no, .int .i64 c])) Tryd.f12) := by
  intro d
  induction d with
  | zero =>
    intro i o h ho hg
    rw [List.drop_of_length_le (by omega)] at hg
    simp only [txtW, List.map_nil, List.append_nil] at hg
    exact R4_e p W R c bA bV bVs bT Y o i (by omega) hg.few hg.many
  | succ d ih =>
    intro i o h ho hg
    rw [drop_cons Y i ⟨#[]⟩ (by omega)] at hg
    refine R4_h p W R c bA bV bVs bT Y o i (by omega) hY (by omega) (ih (i + 1) _ (by omega) (by rw [List.length_append, List.length_singleton]; omega) ?_)
    rw [List.append_assoc]
    exact hg
theorem R0_l (p : Pth) (W : Wd) (bA : W.A.length ≤ 1000) (bV : W.V.length = W.A.length) (bVs : ∀ v ∈ W.V, v.length < 100) (bT : W.T.length ≤ 1000) (R : List Ev) (c : Int) (N : List Nm) (hN : N.length ≤ 1001) (s : ByteArray) (hc : Ctr Tryd.prog 35 [.sl none W.T.length (strsC W.T) .no] (.str s)) : ∀ d i o, i + d = N.length → i ≤ 1001 → o.length ≤ 24 * i → Good R c (o ++ opnW W (N.drop i) ++ txtW (W.T ++ [s])) → HT Tryd.prog Tryd.f12.ntmps (pt Tryd.f12 0) (stR0 p W N o i) (EndsA Γ (.pure [] (.tup [.sl none R.length (evsC R) .no, .int .i64 c])) Tryd.f12) := by
  intro d
  induction d with
  | zero =>
    intro i o h hi ho hg
    rw [List.drop_of_length_le (by omega)] at hg
    simp only [opnW, List.flatMap_nil, List.append_nil] at hg
    exact R0_e p W R c bA bV bVs bT N o i s (by omega) hc (R4_l p W bA bV bVs bT R c _ (by rw [List.length_append, List.length_singleton]; omega) _ 0 o (Nat.zero_add _) (by rw [List.length_append, List.length_singleton]; omega) (by rw [List.drop_zero]; exact hg))
  | succ d ih =>
    intro i o h hi ho hg
    rw [drop_cons N i nm0 (by omega)] at hg
    refine R0_h p W R c bA bV bVs bT N o i (by omega) hN (R1_l p W bA bV bVs bT R c N o i (opnW W (N.drop (i + 1)) ++ txtW (W.T ++ [s])) (by omega) ho (fun l hl hg2 => ih (i + 1) _ (by omega) (by omega) (by rw [List.length_append]; omega) ?_) W.A.length 0 _ (Nat.zero_add _) (by simp) (fun e he => by simp at he; subst he; simp) ?_)
    · rw [List.append_assoc (o ++ l)]
      exact hg2
    · rw [List.drop_zero, List.drop_zero]
      have e1 : opnW W (N.getD i nm0 :: N.drop (i + 1)) = [(⟨1, N.getD i nm0, [], ⟨#[]⟩⟩ : Ev)].flatMap (labF W.A W.V) ++ opnW W (N.drop (i + 1)) := by simp [opnW]
      rw [e1] at hg
      simpa [List.append_assoc] using hg
theorem othN_ctr (l : List Nm) (hl : l.length ≤ 1000) : Ctr Tryd.prog 33 [.sl none l.length (nmsC l) .no] (.agg (nmC (othN l))) := by
  obtain ⟨k', hk'⟩ := firstZ_ex l
  have := other_same l _ k' (kOf_first bZ (localsF l ++ [bZ0])) hk'
  unfold othN
  rw [this]
  exact otherR_ctr l (by omega) k' hk'
theorem anoT_ctr (l : List ByteArray) (hl : l.length ≤ 1000) : Ctr Tryd.prog 35 [.sl none l.length (strsC l) .no] (.str (anoT l)) := by
  have := numbered_ctr l (by omega) _ (kOf_first ⟨#[]⟩ l)
  unfold anoT
  simp only [frR]
  have e := emp_app (digN (kOf ⟨#[]⟩ l))
  unfold empB at e
  rw [e]
  exact this
/-- The document's labels. -/
theorem refLabels_ctr (p : Pth) (W : Wd) (bA : W.A.length ≤ 1000) (bV : W.V.length = W.A.length) (bVs : ∀ v ∈ W.V, v.length < 100) (bT : W.T.length ≤ 1000) (bN : W.N.length ≤ 1000) (hm : Ctr Tryd.prog 32 [.agg (pthL p)] (.agg (spkC W.N W.A W.V W.T))) (R : List Ev) (c : Int) (hg : Good R c (labsW W)) : Ctr Tryd.prog 12 [.agg (pthL p)] (.tup [.sl none R.length (evsC R) .no, .int .i64 c]) := by
  refine R_p p W R c bA bV bVs bT (othN W.N) bN hm (othN_ctr W.N bN) (R0_l p W bA bV bVs bT R c _ (by rw [List.length_append, List.length_singleton]; omega) (anoT W.T) (anoT_ctr _ bT) _ 0 [] (Nat.zero_add _) (by omega) (by simp) ?_)
  rw [List.drop_zero, List.nil_append]
  exact hg

end Go.Proofs.YteimloiaipiadaaDoor
end

section
set_option linter.unusedVariables false
set_option linter.unusedSimpArgs false
set_option maxRecDepth 100000
namespace Go.Proofs.YteimloiaipiadaaDoor
open Go Go.AX

def posG (x : ByteArray) : List ByteArray → Nat → Int
  | [], i => (i : Int)
  | y :: r, i => if y = x then (i : Int) else posG x r (i + 1)
def valR (l : List Atr) (n : Nm) (v : List ByteArray) : Int := match l.find? (fun a => decide (a.nm = n)) with
  | some a => posG a.v v 0
  | none => -1
def stV0 (e : Ev) (n : Nm) (v : List ByteArray) (i : Nat) : AS := ⟨[(2, .sl none v.length (strsC v) .no), (3, .ptr 3 0), (4, .ptr 4 0), (7, .int .i64 i)], [(3, .var true (evC e)), (4, .var true (nmC n))], []⟩
def stV1 (e : Ev) (n : Nm) (v : List ByteArray) (i k : Nat) : AS := ⟨[(2, .sl none v.length (strsC v) .no), (3, .ptr 3 0), (7, .int .i64 i), (8, .int .i64 k)], [(3, .var true (evC e)), (4, .var true (nmC n))], []⟩
def stK (p : Pth) (W : Wd) (a b : Ev) (t i : Nat) : AS := ⟨[(4, .ptr 4 0), (5, .ptr 5 0), (7, .ptr 7 0), (t, .int .i64 i)], [(3, .var true (pthL p)), (4, .var true (evC a)), (5, .var true (evC b)), (7, .var true (spkC W.N W.A W.V W.T))], []⟩

theorem V0_h (e : Ev) (n : Nm) (v : List ByteArray) (i : Nat) (R : Int) (hi : i < e.attrs.length) (hl : e.attrs.length ≤ 1048600) (kk : (e.attrs.getD i atr0).nm ≠ n → HT Tryd.prog Tryd.f45.ntmps (pt Tryd.f45 0) (stV0 e n v (i + 1)) (EndsA Γ (.pure [] (.int .i64 R)) Tryd.f45)) (kf : (e.attrs.getD i atr0).nm = n → HT Tryd.prog Tryd.f45.ntmps (pt Tryd.f45 1) (stV1 e n v i 0) (EndsA Γ (.pure [] (.int .i64 R)) Tryd.f45)) : HT Tryd.prog Tryd.f45.ntmps (pt Tryd.f45 0) (stV0 e n v i) (EndsA Γ (.pure [] (.int .i64 R)) Tryd.f45) :=
  HT.walk Γ_ok mo_ok (⟨[(13, .val (.bool true)), (21, .val (.agg (nmC (e.attrs.getD i atr0).nm))), (33, .val (.str ⟨#[]⟩)), (39, .val (.str ⟨#[]⟩))], (sp45).filter (fun x => !Nat.beq x 13), hd45 [] [] [] [], dsp45, .pure [] (.int .i64 R)⟩ : Wk) 4000 (T := .ob (decide ((↑i : Int) < (↑e.attrs.length : Int)) = true) (.or (.ob ((0 : Int) ≤ (↑i : Int) ∧ (↑i : Int) < (↑e.attrs.length : Int) ∧ (↑i : Int).toNat * (3 : Nat) < (atsC e.attrs).length) (.ob (List.take (2 : Nat) (List.drop ((↑i : Int).toNat * (3 : Nat) + (0 : Nat)) (atsC e.attrs)) = [AV.str (e.attrs.getD i atr0).nm.sp, AV.str (e.attrs.getD i atr0).nm.lo]) (.ob ((2 : Nat) ≤ (2 : Nat)) (.ob ((decide ((e.attrs.getD i atr0).nm.sp = n.sp) && (decide ((e.attrs.getD i atr0).nm.lo = n.lo) && true)) = true) (.head (pt Tryd.f45 1) ({ tmps := [(2, AV.sl none v.length (strsC v) .no), (3, AV.ptr 3 0), (7, AV.int .i64 (↑i : Int)), (8, AV.int .i64 (0 : Int))], heap := [(3, .var true (evC e)), (4, .var true [AV.str n.sp, AV.str n.lo])], tags := [] })))))) (.ob ((0 : Int) ≤ (↑i : Int) ∧ (↑i : Int) < (↑e.attrs.length : Int) ∧ (↑i : Int).toNat * (3 : Nat) < (atsC e.attrs).length) (.ob (List.take (2 : Nat) (List.drop ((↑i : Int).toNat * (3 : Nat) + (0 : Nat)) (atsC e.attrs)) = [AV.str (e.attrs.getD i atr0).nm.sp, AV.str (e.attrs.getD i atr0).nm.lo]) (.ob ((2 : Nat) ≤ (2 : Nat)) (.ob ((decide ((e.attrs.getD i atr0).nm.sp = n.sp) && (decide ((e.attrs.getD i atr0).nm.lo = n.lo) && true)) = false) (.head (pt Tryd.f45 0) ({ tmps := [(2, AV.sl none v.length (strsC v) .no), (3, AV.ptr 3 0), (4, AV.ptr 4 0), (7, AV.int .i64 (IntKind.i64.wrap ((↑i : Int) + (1 : Int))))], heap := [(3, .var true (evC e)), (4, .var true [AV.str n.sp, AV.str n.lo])], tags := [] })))))))) (by kernel_rfl) (by
    have h0 : decide ((i : Int) < e.attrs.length) = true := by simp; omega
    have w2 : IntKind.i64.wrap ((i : Int) + 1) = ((i + 1 : Nat) : Int) := by rw [i64_wrap (by omega) (by omega)]; rfl
    simp only [PT.holds, h0, w2, nm_eq, Int.toNat_natCast, atsC_len, true_implies, Bool.false_eq_true, Bool.true_eq_false, false_implies, true_and, and_true, and_false, false_and, or_false, false_or, eq_self]
    by_cases h : (e.attrs.getD i atr0).nm = n
    · refine .inl ?_
      repeat' (with_reducible apply And.intro)
      all_goals first | omega | rfl | ((try simp only [Nat.add_assoc, Nat.reduceAdd, Nat.add_zero]) <;> first | (rw [ats_take _ _ _ _ hi (by decide)]; rfl) | (rw [ats_nth _ _ _ hi (by decide)]; rfl) | (rw [evs_take _ _ _ _ hi (by decide)]; rfl) | (rw [evs_nth _ _ _ hi (by decide)]; rfl) | (rw [ats_take0 _ _ _ hi (by decide)]; rfl) | (rw [ats_nth0 _ _ hi]; rfl) | (rw [evs_take0 _ _ _ hi (by decide)]; rfl) | (rw [evs_nth0 _ _ hi]; rfl)) | (simp only [Nat.add_zero]; ((try simp only [Nat.add_assoc, Nat.reduceAdd, Nat.add_zero]) <;> first | (rw [ats_take _ _ _ _ hi (by decide)]; rfl) | (rw [ats_nth _ _ _ hi (by decide)]; rfl) | (rw [evs_take _ _ _ _ hi (by decide)]; rfl) | (rw [evs_nth _ _ _ hi (by decide)]; rfl) | (rw [ats_take0 _ _ _ hi (by decide)]; rfl) | (rw [ats_nth0 _ _ hi]; rfl) | (rw [evs_take0 _ _ _ hi (by decide)]; rfl) | (rw [evs_nth0 _ _ hi]; rfl))) | exact strs_nth _ _ (by omega) | (rw [nms_take0 _ _ _ (by omega) (by decide)]; rfl) | exact vals_nth _ _ (by omega) | exact ca | exact cb | exact decide_eq_true h | exact head_eq (kf h) (by simp [stV1, evC, nmC])
    · refine .inr ?_
      repeat' (with_reducible apply And.intro)
      all_goals first | omega | rfl | ((try simp only [Nat.add_assoc, Nat.reduceAdd, Nat.add_zero]) <;> first | (rw [ats_take _ _ _ _ hi (by decide)]; rfl) | (rw [ats_nth _ _ _ hi (by decide)]; rfl) | (rw [evs_take _ _ _ _ hi (by decide)]; rfl) | (rw [evs_nth _ _ _ hi (by decide)]; rfl) | (rw [ats_take0 _ _ _ hi (by decide)]; rfl) | (rw [ats_nth0 _ _ hi]; rfl) | (rw [evs_take0 _ _ _ hi (by decide)]; rfl) | (rw [evs_nth0 _ _ hi]; rfl)) | (simp only [Nat.add_zero]; ((try simp only [Nat.add_assoc, Nat.reduceAdd, Nat.add_zero]) <;> first | (rw [ats_take _ _ _ _ hi (by decide)]; rfl) | (rw [ats_nth _ _ _ hi (by decide)]; rfl) | (rw [evs_take _ _ _ _ hi (by decide)]; rfl) | (rw [evs_nth _ _ _ hi (by decide)]; rfl) | (rw [ats_take0 _ _ _ hi (by decide)]; rfl) | (rw [ats_nth0 _ _ hi]; rfl) | (rw [evs_take0 _ _ _ hi (by decide)]; rfl) | (rw [evs_nth0 _ _ hi]; rfl))) | exact strs_nth _ _ (by omega) | (rw [nms_take0 _ _ _ (by omega) (by decide)]; rfl) | exact vals_nth _ _ (by omega) | exact ca | exact cb | exact decide_eq_false h | exact head_eq (kk h) (by simp [stV0, evC, nmC]))
theorem V0_e (e : Ev) (n : Nm) (v : List ByteArray) (i : Nat) (hi : i = e.attrs.length) : HT Tryd.prog Tryd.f45.ntmps (pt Tryd.f45 0) (stV0 e n v i) (EndsA Γ (.pure [] (.int .i64 (-1))) Tryd.f45) :=
  HT.walk Γ_ok mo_ok (⟨[(13, .val (.bool false)), (21, .val (.agg (nmC nm0))), (33, .val (.str ⟨#[]⟩)), (39, .val (.str ⟨#[]⟩))], (sp45).filter (fun x => !Nat.beq x 13), hd45 [] [] [] [], dsp45, .pure [] (.int .i64 (-1))⟩ : Wk) 4000 (T := .ob (decide ((↑i : Int) < (↑e.attrs.length : Int)) = false) (.ob ((-1 : Int) = (-1 : Int)) (.tt))) (by kernel_rfl) (by
    have h0 : decide ((i : Int) < e.attrs.length) = false := by simp; omega
    simp only [PT.holds, h0, true_implies, Bool.false_eq_true, Bool.true_eq_false, false_implies, true_and, and_true, and_false, false_and, or_false, false_or, eq_self]
    try trivial)
theorem V1_h (e : Ev) (n : Nm) (v : List ByteArray) (i k : Nat) (R : Int) (hi : i < e.attrs.length) (hl : e.attrs.length ≤ 1048600) (hk : k < v.length) (hv : v.length ≤ 1000000) (kk : (v.getD k ⟨#[]⟩) ≠ (e.attrs.getD i atr0).v → HT Tryd.prog Tryd.f45.ntmps (pt Tryd.f45 1) (stV1 e n v i (k + 1)) (EndsA Γ (.pure [] (.int .i64 R)) Tryd.f45)) (kf : (v.getD k ⟨#[]⟩) = (e.attrs.getD i atr0).v → R = k) : HT Tryd.prog Tryd.f45.ntmps (pt Tryd.f45 1) (stV1 e n v i k) (EndsA Γ (.pure [] (.int .i64 R)) Tryd.f45) :=
  HT.walk Γ_ok mo_ok (⟨[(27, .val (.bool true)), (21, .val (.agg (nmC (e.attrs.getD i atr0).nm))), (33, .val (.str (v.getD k ⟨#[]⟩))), (39, .val (.str (e.attrs.getD i atr0).v))], (sp45).filter (fun x => !Nat.beq x 27), hd45 [] [] [] [], dsp45, .pure [] (.int .i64 R)⟩ : Wk) 4000 (T := .ob (decide ((↑k : Int) < (↑v.length : Int)) = true) (.or (.ob ((0 : Int) ≤ (↑k : Int) ∧ (↑k : Int) < (↑v.length : Int) ∧ (↑k : Int).toNat * (1 : Nat) < (strsC v).length) (.ob ((strsC v)[(↑k : Int).toNat * (1 : Nat)]? = some (AV.str (v.getD k (ByteArray.mk #[])))) (.ob ((0 : Int) ≤ (↑i : Int) ∧ (↑i : Int) < (↑e.attrs.length : Int) ∧ (↑i : Int).toNat * (3 : Nat) < (atsC e.attrs).length) (.ob ((atsC e.attrs)[(↑i : Int).toNat * (3 : Nat) + (2 : Nat)]? = some (AV.str (e.attrs.getD i atr0).v)) (.ob (decide (v.getD k (ByteArray.mk #[]) = (e.attrs.getD i atr0).v) = true) (.ob ((↑k : Int) = R) (.tt))))))) (.ob ((0 : Int) ≤ (↑k : Int) ∧ (↑k : Int) < (↑v.length : Int) ∧ (↑k : Int).toNat * (1 : Nat) < (strsC v).length) (.ob ((strsC v)[(↑k : Int).toNat * (1 : Nat)]? = some (AV.str (v.getD k (ByteArray.mk #[])))) (.ob ((0 : Int) ≤ (↑i : Int) ∧ (↑i : Int) < (↑e.attrs.length : Int) ∧ (↑i : Int).toNat * (3 : Nat) < (atsC e.attrs).length) (.ob ((atsC e.attrs)[(↑i : Int).toNat * (3 : Nat) + (2 : Nat)]? = some (AV.str (e.attrs.getD i atr0).v)) (.ob (decide (v.getD k (ByteArray.mk #[]) = (e.attrs.getD i atr0).v) = false) (.head (pt Tryd.f45 1) ({ tmps := [(2, AV.sl none v.length (strsC v) .no), (3, AV.ptr 3 0), (7, AV.int .i64 (↑i : Int)), (8, AV.int .i64 (IntKind.i64.wrap ((↑k : Int) + (1 : Int))))], heap := [(3, .var true (evC e)), (4, .var true [AV.str n.sp, AV.str n.lo])], tags := [] }))))))))) (by kernel_rfl) (by
    have h0 : decide ((k : Int) < v.length) = true := by simp; omega
    have w2 : IntKind.i64.wrap ((k : Int) + 1) = ((k + 1 : Nat) : Int) := by rw [i64_wrap (by omega) (by omega)]; rfl
    simp only [PT.holds, h0, w2, Int.toNat_natCast, atsC_len, strsC_len, Nat.mul_one, strs_nth v k hk, true_implies, Bool.false_eq_true, Bool.true_eq_false, false_implies, true_and, and_true, and_false, false_and, or_false, false_or, eq_self]
    by_cases h : v.getD k ⟨#[]⟩ = (e.attrs.getD i atr0).v
    · refine .inl ?_
      repeat' (with_reducible apply And.intro)
      all_goals first | omega | rfl | ((try simp only [Nat.add_assoc, Nat.reduceAdd, Nat.add_zero]) <;> first | (rw [ats_take _ _ _ _ hi (by decide)]; rfl) | (rw [ats_nth _ _ _ hi (by decide)]; rfl) | (rw [evs_take _ _ _ _ hi (by decide)]; rfl) | (rw [evs_nth _ _ _ hi (by decide)]; rfl) | (rw [ats_take0 _ _ _ hi (by decide)]; rfl) | (rw [ats_nth0 _ _ hi]; rfl) | (rw [evs_take0 _ _ _ hi (by decide)]; rfl) | (rw [evs_nth0 _ _ hi]; rfl)) | (simp only [Nat.add_zero]; ((try simp only [Nat.add_assoc, Nat.reduceAdd, Nat.add_zero]) <;> first | (rw [ats_take _ _ _ _ hi (by decide)]; rfl) | (rw [ats_nth _ _ _ hi (by decide)]; rfl) | (rw [evs_take _ _ _ _ hi (by decide)]; rfl) | (rw [evs_nth _ _ _ hi (by decide)]; rfl) | (rw [ats_take0 _ _ _ hi (by decide)]; rfl) | (rw [ats_nth0 _ _ hi]; rfl) | (rw [evs_take0 _ _ _ hi (by decide)]; rfl) | (rw [evs_nth0 _ _ hi]; rfl))) | exact strs_nth _ _ (by omega) | (rw [nms_take0 _ _ _ (by omega) (by decide)]; rfl) | exact vals_nth _ _ (by omega) | exact ca | exact cb | exact decide_eq_true h | exact (kf h).symm
    · refine .inr ?_
      repeat' (with_reducible apply And.intro)
      all_goals first | omega | rfl | ((try simp only [Nat.add_assoc, Nat.reduceAdd, Nat.add_zero]) <;> first | (rw [ats_take _ _ _ _ hi (by decide)]; rfl) | (rw [ats_nth _ _ _ hi (by decide)]; rfl) | (rw [evs_take _ _ _ _ hi (by decide)]; rfl) | (rw [evs_nth _ _ _ hi (by decide)]; rfl) | (rw [ats_take0 _ _ _ hi (by decide)]; rfl) | (rw [ats_nth0 _ _ hi]; rfl) | (rw [evs_take0 _ _ _ hi (by decide)]; rfl) | (rw [evs_nth0 _ _ hi]; rfl)) | (simp only [Nat.add_zero]; ((try simp only [Nat.add_assoc, Nat.reduceAdd, Nat.add_zero]) <;> first | (rw [ats_take _ _ _ _ hi (by decide)]; rfl) | (rw [ats_nth _ _ _ hi (by decide)]; rfl) | (rw [evs_take _ _ _ _ hi (by decide)]; rfl) | (rw [evs_nth _ _ _ hi (by decide)]; rfl) | (rw [ats_take0 _ _ _ hi (by decide)]; rfl) | (rw [ats_nth0 _ _ hi]; rfl) | (rw [evs_take0 _ _ _ hi (by decide)]; rfl) | (rw [evs_nth0 _ _ hi]; rfl))) | exact strs_nth _ _ (by omega) | (rw [nms_take0 _ _ _ (by omega) (by decide)]; rfl) | exact vals_nth _ _ (by omega) | exact ca | exact cb | exact decide_eq_false h | exact head_eq (kk h) (by simp [stV1, evC, nmC]))
theorem V1_e (e : Ev) (n : Nm) (v : List ByteArray) (i k : Nat) (hk : k = v.length) : HT Tryd.prog Tryd.f45.ntmps (pt Tryd.f45 1) (stV1 e n v i k) (EndsA Γ (.pure [] (.int .i64 v.length)) Tryd.f45) :=
  HT.walk Γ_ok mo_ok (⟨[(27, .val (.bool false)), (21, .val (.agg (nmC (e.attrs.getD i atr0).nm))), (33, .val (.str (v.getD k ⟨#[]⟩))), (39, .val (.str (e.attrs.getD i atr0).v))], (sp45).filter (fun x => !Nat.beq x 27), hd45 [] [] [] [], dsp45, .pure [] (.int .i64 v.length)⟩ : Wk) 4000 (T := .ob (decide ((↑k : Int) < (↑v.length : Int)) = false) (.ob ((↑v.length : Int) = (↑v.length : Int)) (.tt))) (by kernel_rfl) (by
    have h0 : decide ((k : Int) < v.length) = false := by simp; omega
    simp only [PT.holds, h0, true_implies, Bool.false_eq_true, Bool.true_eq_false, false_implies, true_and, and_true, and_false, false_and, or_false, false_or, eq_self]
    try trivial)
theorem V_p (e : Ev) (n : Nm) (v : List ByteArray) (R : Int) (kk : HT Tryd.prog Tryd.f45.ntmps (pt Tryd.f45 0) (stV0 e n v 0) (EndsA Γ (.pure [] (.int .i64 R)) Tryd.f45)) : Ctr Tryd.prog 45 [.agg (evC e), .agg (nmC n), .sl none v.length (strsC v) .no] (.int .i64 R) :=
  Ctr.mk Γ_ok Tryd.func45 (by kernel_rfl) Tryd.call45 [] (by kernel_rfl) (HT.walk Γ_ok mo_ok (⟨[], sp45, hd45 [] [] [] [], dsp45, .pure [] (.int .i64 R)⟩ : Wk) 4000 (T := .head (pt Tryd.f45 0) ({ tmps := [(2, AV.sl none v.length (strsC v) .no), (3, AV.ptr 3 0), (4, AV.ptr 4 0), (7, AV.int .i64 (0 : Int))], heap := [(3, .var true (evC e)), (4, .var true [AV.str n.sp, AV.str n.lo])], tags := [] })) (by kernel_rfl) (by
    simp only [PT.holds, true_implies, Bool.false_eq_true, Bool.true_eq_false, false_implies, true_and, and_true, and_false, false_and, or_false, false_or, eq_self]
    exact head_eq kk (by simp [stV0, evC, nmC])))
theorem K_p (p : Pth) (W : Wd) (a b : Ev) (R : Bool) (hm : Ctr Tryd.prog 32 [.agg (pthL p)] (.agg (spkC W.N W.A W.V W.T))) (k2 : a.kind = b.kind → a.kind = 2 → HT Tryd.prog Tryd.f20.ntmps (pt Tryd.f20 0) (stK p W a b 8 0) (EndsA Γ (.pure [] (.bool R)) Tryd.f20)) (k1 : a.kind = b.kind → a.kind ≠ 2 → HT Tryd.prog Tryd.f20.ntmps (pt Tryd.f20 1) (stK p W a b 9 0) (EndsA Γ (.pure [] (.bool R)) Tryd.f20)) (kf : a.kind ≠ b.kind → R = false) : Ctr Tryd.prog 20 [.agg (pthL p), .agg (evC a), .agg (evC b)] (.bool R) :=
  Ctr.mk Γ_ok Tryd.func20 (by kernel_rfl) Tryd.call20 [] (by kernel_rfl) (HT.walk Γ_ok mo_ok (⟨[(12, .call [] (.agg (spkC W.N W.A W.V W.T))), (34, .val (.str ⟨#[]⟩)), (42, .val (.str ⟨#[]⟩)), (58, .val (.agg (nmC nm0))), (66, .val (.agg (nmC nm0))), (81, .val (.agg (nmC nm0))), (86, .val (.sl none ([] : List ByteArray).length (strsC ([] : List ByteArray)) .no)), (87, .call [] (.int .i64 0)), (93, .val (.agg (nmC nm0))), (98, .val (.sl none ([] : List ByteArray).length (strsC ([] : List ByteArray)) .no)), (99, .call [] (.int .i64 0))], sp20, hd20 [] [] [] [], dsp20, .pure [] (.bool R)⟩ : Wk) 4000 (T := .ob ((3 : Nat) ≤ (3 : Nat)) (.ob (Ctr Tryd.prog 32 [AV.agg (pthL p)] (AV.agg [AV.sl none W.N.length (nmsC W.N) .no, AV.sl none W.A.length (nmsC W.A) .no, AV.sl none W.V.length (valsC W.V) .no, AV.sl none W.T.length (strsC W.T) .no])) (.split (!decide (a.kind = b.kind)) (.ob (false = R) (.tt)) (.split (decide (a.kind = (2 : Int))) (.head (pt Tryd.f20 0) ({ tmps := [(4, AV.ptr 4 0), (5, AV.ptr 5 0), (7, AV.ptr 7 0), (8, AV.int .i64 (0 : Int))], heap := [(3, .var true (pthL p)), (4, .var true (evC a)), (5, .var true (evC b)), (7, .var true [AV.sl none W.N.length (nmsC W.N) .no, AV.sl none W.A.length (nmsC W.A) .no, AV.sl none W.V.length (valsC W.V) .no, AV.sl none W.T.length (strsC W.T) .no])], tags := [] })) (.head (pt Tryd.f20 1) ({ tmps := [(4, AV.ptr 4 0), (5, AV.ptr 5 0), (7, AV.ptr 7 0), (9, AV.int .i64 (0 : Int))], heap := [(3, .var true (pthL p)), (4, .var true (evC a)), (5, .var true (evC b)), (7, .var true [AV.sl none W.N.length (nmsC W.N) .no, AV.sl none W.A.length (nmsC W.A) .no, AV.sl none W.V.length (valsC W.V) .no, AV.sl none W.T.length (strsC W.T) .no])], tags := [] })))))) (by kernel_rfl) (by
    simp only [PT.holds, true_implies, Bool.false_eq_true, Bool.true_eq_false, false_implies, true_and, and_true, and_false, false_and, or_false, false_or, eq_self]
    refine ⟨by omega, hm, fun h => ?_, fun h => ⟨fun h2 => head_eq (k2 (by simpa using h) (by simpa using h2)) (by simp [stK, evC, pthL, spkC]), fun h2 => head_eq (k1 (by simpa using h) (by simpa using h2)) (by simp [stK, evC, pthL, spkC])⟩⟩
    exact (kf (by simpa using h)).symm))
theorem K0_h (p : Pth) (W : Wd) (a b : Ev) (R : Bool) (i : Nat) (hi : i < W.T.length) (hT : W.T.length ≤ 1000000) (kk : (decide (a.text = (W.T.getD i ⟨#[]⟩)) == decide (b.text = (W.T.getD i ⟨#[]⟩))) = true → HT Tryd.prog Tryd.f20.ntmps (pt Tryd.f20 0) (stK p W a b 8 (i + 1)) (EndsA Γ (.pure [] (.bool R)) Tryd.f20)) (kf : (decide (a.text = (W.T.getD i ⟨#[]⟩)) == decide (b.text = (W.T.getD i ⟨#[]⟩))) = false → R = false) : HT Tryd.prog Tryd.f20.ntmps (pt Tryd.f20 0) (stK p W a b 8 i) (EndsA Γ (.pure [] (.bool R)) Tryd.f20) :=
  HT.walk Γ_ok mo_ok (⟨[(25, .val (.bool true)), (12, .call [] (.agg (spkC W.N W.A W.V W.T))), (34, .val (.str (W.T.getD i ⟨#[]⟩))), (42, .val (.str (W.T.getD i ⟨#[]⟩))), (58, .val (.agg (nmC nm0))), (66, .val (.agg (nmC nm0))), (81, .val (.agg (nmC nm0))), (86, .val (.sl none ([] : List ByteArray).length (strsC ([] : List ByteArray)) .no)), (87, .call [] (.int .i64 0)), (93, .val (.agg (nmC nm0))), (98, .val (.sl none ([] : List ByteArray).length (strsC ([] : List ByteArray)) .no)), (99, .call [] (.int .i64 0))], (sp20).filter (fun x => !Nat.beq x 25), hd20 [] [] [] [], dsp20, .pure [] (.bool R)⟩ : Wk) 4000 (T := .ob (decide ((↑i : Int) < (↑W.T.length : Int)) = true) (.or (.ob ((0 : Int) ≤ (↑i : Int) ∧ (↑i : Int) < (↑W.T.length : Int) ∧ (↑i : Int).toNat * (1 : Nat) < (strsC W.T).length) (.ob ((strsC W.T)[(↑i : Int).toNat * (1 : Nat)]? = some (AV.str (W.T.getD i (ByteArray.mk #[])))) (.ob ((0 : Int) ≤ (↑i : Int) ∧ (↑i : Int) < (↑W.T.length : Int) ∧ (↑i : Int).toNat * (1 : Nat) < (strsC W.T).length) (.ob ((strsC W.T)[(↑i : Int).toNat * (1 : Nat)]? = some (AV.str (W.T.getD i (ByteArray.mk #[])))) (.ob ((!decide (a.text = W.T.getD i (ByteArray.mk #[])) == decide (b.text = W.T.getD i (ByteArray.mk #[]))) = true) (.ob (false = R) (.tt))))))) (.ob ((0 : Int) ≤ (↑i : Int) ∧ (↑i : Int) < (↑W.T.length : Int) ∧ (↑i : Int).toNat * (1 : Nat) < (strsC W.T).length) (.ob ((strsC W.T)[(↑i : Int).toNat * (1 : Nat)]? = some (AV.str (W.T.getD i (ByteArray.mk #[])))) (.ob ((0 : Int) ≤ (↑i : Int) ∧ (↑i : Int) < (↑W.T.length : Int) ∧ (↑i : Int).toNat * (1 : Nat) < (strsC W.T).length) (.ob ((strsC W.T)[(↑i : Int).toNat * (1 : Nat)]? = some (AV.str (W.T.getD i (ByteArray.mk #[])))) (.ob ((!decide (a.text = W.T.getD i (ByteArray.mk #[])) == decide (b.text = W.T.getD i (ByteArray.mk #[]))) = false) (.head (pt Tryd.f20 0) ({ tmps := [(4, AV.ptr 4 0), (5, AV.ptr 5 0), (7, AV.ptr 7 0), (8, AV.int .i64 (IntKind.i64.wrap ((↑i : Int) + (1 : Int))))], heap := [(3, .var true (pthL p)), (4, .var true (evC a)), (5, .var true (evC b)), (7, .var true [AV.sl none W.N.length (nmsC W.N) .no, AV.sl none W.A.length (nmsC W.A) .no, AV.sl none W.V.length (valsC W.V) .no, AV.sl none W.T.length (strsC W.T) .no])], tags := [] }))))))))) (by kernel_rfl) (by
    have h0 : decide ((i : Int) < W.T.length) = true := by simp; omega
    have w2 : IntKind.i64.wrap ((i : Int) + 1) = ((i + 1 : Nat) : Int) := by rw [i64_wrap (by omega) (by omega)]; rfl
    simp only [PT.holds, h0, w2, Int.toNat_natCast, strsC_len, Nat.mul_one, strs_nth W.T i hi, true_implies, Bool.false_eq_true, Bool.true_eq_false, false_implies, true_and, and_true, and_false, false_and, or_false, false_or, eq_self]
    by_cases h : (decide (a.text = W.T.getD i ⟨#[]⟩) == decide (b.text = W.T.getD i ⟨#[]⟩)) = false
    · refine .inl ?_
      repeat' (with_reducible apply And.intro)
      all_goals first | omega | rfl | ((try simp only [Nat.add_assoc, Nat.reduceAdd, Nat.add_zero]) <;> first | (rw [ats_take _ _ _ _ hi (by decide)]; rfl) | (rw [ats_nth _ _ _ hi (by decide)]; rfl) | (rw [evs_take _ _ _ _ hi (by decide)]; rfl) | (rw [evs_nth _ _ _ hi (by decide)]; rfl) | (rw [ats_take0 _ _ _ hi (by decide)]; rfl) | (rw [ats_nth0 _ _ hi]; rfl) | (rw [evs_take0 _ _ _ hi (by decide)]; rfl) | (rw [evs_nth0 _ _ hi]; rfl)) | (simp only [Nat.add_zero]; ((try simp only [Nat.add_assoc, Nat.reduceAdd, Nat.add_zero]) <;> first | (rw [ats_take _ _ _ _ hi (by decide)]; rfl) | (rw [ats_nth _ _ _ hi (by decide)]; rfl) | (rw [evs_take _ _ _ _ hi (by decide)]; rfl) | (rw [evs_nth _ _ _ hi (by decide)]; rfl) | (rw [ats_take0 _ _ _ hi (by decide)]; rfl) | (rw [ats_nth0 _ _ hi]; rfl) | (rw [evs_take0 _ _ _ hi (by decide)]; rfl) | (rw [evs_nth0 _ _ hi]; rfl))) | exact strs_nth _ _ (by omega) | (rw [nms_take0 _ _ _ (by omega) (by decide)]; rfl) | exact vals_nth _ _ (by omega) | exact ca | exact cb | exact (kf h).symm | (rw [h]; rfl)
    · refine .inr ?_
      repeat' (with_reducible apply And.intro)
      all_goals first | omega | rfl | ((try simp only [Nat.add_assoc, Nat.reduceAdd, Nat.add_zero]) <;> first | (rw [ats_take _ _ _ _ hi (by decide)]; rfl) | (rw [ats_nth _ _ _ hi (by decide)]; rfl) | (rw [evs_take _ _ _ _ hi (by decide)]; rfl) | (rw [evs_nth _ _ _ hi (by decide)]; rfl) | (rw [ats_take0 _ _ _ hi (by decide)]; rfl) | (rw [ats_nth0 _ _ hi]; rfl) | (rw [evs_take0 _ _ _ hi (by decide)]; rfl) | (rw [evs_nth0 _ _ hi]; rfl)) | (simp only [Nat.add_zero]; ((try simp only [Nat.add_assoc, Nat.reduceAdd, Nat.add_zero]) <;> first | (rw [ats_take _ _ _ _ hi (by decide)]; rfl) | (rw [ats_nth _ _ _ hi (by decide)]; rfl) | (rw [evs_take _ _ _ _ hi (by decide)]; rfl) | (rw [evs_nth _ _ _ hi (by decide)]; rfl) | (rw [ats_take0 _ _ _ hi (by decide)]; rfl) | (rw [ats_nth0 _ _ hi]; rfl) | (rw [evs_take0 _ _ _ hi (by decide)]; rfl) | (rw [evs_nth0 _ _ hi]; rfl))) | exact strs_nth _ _ (by omega) | (rw [nms_take0 _ _ _ (by omega) (by decide)]; rfl) | exact vals_nth _ _ (by omega) | exact ca | exact cb | (rw [Bool.not_eq_false] at h; rw [h]; rfl) | exact head_eq (kk (by simpa using h)) (by simp [stK, evC, pthL, spkC]))
theorem K0_e (p : Pth) (W : Wd) (a b : Ev) (i : Nat) (hi : i = W.T.length) : HT Tryd.prog Tryd.f20.ntmps (pt Tryd.f20 0) (stK p W a b 8 i) (EndsA Γ (.pure [] (.bool true)) Tryd.f20) :=
  HT.walk Γ_ok mo_ok (⟨[(25, .val (.bool false)), (12, .call [] (.agg (spkC W.N W.A W.V W.T))), (34, .val (.str ⟨#[]⟩)), (42, .val (.str ⟨#[]⟩)), (58, .val (.agg (nmC nm0))), (66, .val (.agg (nmC nm0))), (81, .val (.agg (nmC nm0))), (86, .val (.sl none ([] : List ByteArray).length (strsC ([] : List ByteArray)) .no)), (87, .call [] (.int .i64 0)), (93, .val (.agg (nmC nm0))), (98, .val (.sl none ([] : List ByteArray).length (strsC ([] : List ByteArray)) .no)), (99, .call [] (.int .i64 0))], (sp20).filter (fun x => !Nat.beq x 25), hd20 [] [] [] [], dsp20, .pure [] (.bool true)⟩ : Wk) 4000 (T := .ob (decide ((↑i : Int) < (↑W.T.length : Int)) = false) (.ob (true = true) (.tt))) (by kernel_rfl) (by
    have h0 : decide ((i : Int) < W.T.length) = false := by simp; omega
    simp only [PT.holds, h0, true_implies, Bool.false_eq_true, Bool.true_eq_false, false_implies, true_and, and_true, and_false, false_and, or_false, false_or, eq_self]
    try trivial)
theorem K1_h (p : Pth) (W : Wd) (a b : Ev) (R : Bool) (i : Nat) (hi : i < W.N.length) (hN : W.N.length ≤ 1000000) (kk : (decide (a.nm = (W.N.getD i nm0)) == decide (b.nm = (W.N.getD i nm0))) = true → HT Tryd.prog Tryd.f20.ntmps (pt Tryd.f20 1) (stK p W a b 9 (i + 1)) (EndsA Γ (.pure [] (.bool R)) Tryd.f20)) (kf : (decide (a.nm = (W.N.getD i nm0)) == decide (b.nm = (W.N.getD i nm0))) = false → R = false) : HT Tryd.prog Tryd.f20.ntmps (pt Tryd.f20 1) (stK p W a b 9 i) (EndsA Γ (.pure [] (.bool R)) Tryd.f20) :=
  HT.walk Γ_ok mo_ok (⟨[(49, .val (.bool true)), (12, .call [] (.agg (spkC W.N W.A W.V W.T))), (34, .val (.str ⟨#[]⟩)), (42, .val (.str ⟨#[]⟩)), (58, .val (.agg (nmC (W.N.getD i nm0)))), (66, .val (.agg (nmC (W.N.getD i nm0)))), (81, .val (.agg (nmC nm0))), (86, .val (.sl none ([] : List ByteArray).length (strsC ([] : List ByteArray)) .no)), (87, .call [] (.int .i64 0)), (93, .val (.agg (nmC nm0))), (98, .val (.sl none ([] : List ByteArray).length (strsC ([] : List ByteArray)) .no)), (99, .call [] (.int .i64 0))], (sp20).filter (fun x => !Nat.beq x 49), hd20 [] [] [] [], dsp20, .pure [] (.bool R)⟩ : Wk) 4000 (T := .ob (decide ((↑i : Int) < (↑W.N.length : Int)) = true) (.or (.ob ((3 : Nat) ≤ (5 : Nat)) (.ob ((0 : Int) ≤ (↑i : Int) ∧ (↑i : Int) < (↑W.N.length : Int) ∧ (↑i : Int).toNat * (2 : Nat) < (nmsC W.N).length) (.ob (List.take (2 : Nat) (List.drop ((↑i : Int).toNat * (2 : Nat)) (nmsC W.N)) = [AV.str (W.N.getD i nm0).sp, AV.str (W.N.getD i nm0).lo]) (.ob ((3 : Nat) ≤ (5 : Nat)) (.ob ((0 : Int) ≤ (↑i : Int) ∧ (↑i : Int) < (↑W.N.length : Int) ∧ (↑i : Int).toNat * (2 : Nat) < (nmsC W.N).length) (.ob (List.take (2 : Nat) (List.drop ((↑i : Int).toNat * (2 : Nat)) (nmsC W.N)) = [AV.str (W.N.getD i nm0).sp, AV.str (W.N.getD i nm0).lo]) (.ob ((!(decide (a.nm.sp = (W.N.getD i nm0).sp) && (decide (a.nm.lo = (W.N.getD i nm0).lo) && true)) == (decide (b.nm.sp = (W.N.getD i nm0).sp) && (decide (b.nm.lo = (W.N.getD i nm0).lo) && true))) = true) (.ob (false = R) (.tt))))))))) (.ob ((3 : Nat) ≤ (5 : Nat)) (.ob ((0 : Int) ≤ (↑i : Int) ∧ (↑i : Int) < (↑W.N.length : Int) ∧ (↑i : Int).toNat * (2 : Nat) < (nmsC W.N).length) (.ob (List.take (2 : Nat) (List.drop ((↑i : Int).toNat * (2 : Nat)) (nmsC W.N)) = [AV.str (W.N.getD i nm0).sp, AV.str (W.N.getD i nm0).lo]) (.ob ((3 : Nat) ≤ (5 : Nat)) (.ob ((0 : Int) ≤ (↑i : Int) ∧ (↑i : Int) < (↑W.N.length : Int) ∧ (↑i : Int).toNat * (2 : Nat) < (nmsC W.N).length) (.ob (List.take (2 : Nat) (List.drop ((↑i : Int).toNat * (2 : Nat)) (nmsC W.N)) = [AV.str (W.N.getD i nm0).sp, AV.str (W.N.getD i nm0).lo]) (.ob ((!(decide (a.nm.sp = (W.N.getD i nm0).sp) && (decide (a.nm.lo = (W.N.getD i nm0).lo) && true)) == (decide (b.nm.sp = (W.N.getD i nm0).sp) && (decide (b.nm.lo = (W.N.getD i nm0).lo) && true))) = false) (.head (pt Tryd.f20 1) ({ tmps := [(4, AV.ptr 4 0), (5, AV.ptr 5 0), (7, AV.ptr 7 0), (9, AV.int .i64 (IntKind.i64.wrap ((↑i : Int) + (1 : Int))))], heap := [(3, .var true (pthL p)), (4, .var true (evC a)), (5, .var true (evC b)), (7, .var true [AV.sl none W.N.length (nmsC W.N) .no, AV.sl none W.A.length (nmsC W.A) .no, AV.sl none W.V.length (valsC W.V) .no, AV.sl none W.T.length (strsC W.T) .no])], tags := [] }))))))))))) (by kernel_rfl) (by
    have h0 : decide ((i : Int) < W.N.length) = true := by simp; omega
    have w2 : IntKind.i64.wrap ((i : Int) + 1) = ((i + 1 : Nat) : Int) := by rw [i64_wrap (by omega) (by omega)]; rfl
    simp only [PT.holds, h0, w2, nm_eq, Int.toNat_natCast, nmsC_len, true_implies, Bool.false_eq_true, Bool.true_eq_false, false_implies, true_and, and_true, and_false, false_and, or_false, false_or, eq_self]
    by_cases h : (decide (a.nm = W.N.getD i nm0) == decide (b.nm = W.N.getD i nm0)) = false
    · refine .inl ?_
      repeat' (with_reducible apply And.intro)
      all_goals first | omega | rfl | ((try simp only [Nat.add_assoc, Nat.reduceAdd, Nat.add_zero]) <;> first | (rw [ats_take _ _ _ _ hi (by decide)]; rfl) | (rw [ats_nth _ _ _ hi (by decide)]; rfl) | (rw [evs_take _ _ _ _ hi (by decide)]; rfl) | (rw [evs_nth _ _ _ hi (by decide)]; rfl) | (rw [ats_take0 _ _ _ hi (by decide)]; rfl) | (rw [ats_nth0 _ _ hi]; rfl) | (rw [evs_take0 _ _ _ hi (by decide)]; rfl) | (rw [evs_nth0 _ _ hi]; rfl)) | (simp only [Nat.add_zero]; ((try simp only [Nat.add_assoc, Nat.reduceAdd, Nat.add_zero]) <;> first | (rw [ats_take _ _ _ _ hi (by decide)]; rfl) | (rw [ats_nth _ _ _ hi (by decide)]; rfl) | (rw [evs_take _ _ _ _ hi (by decide)]; rfl) | (rw [evs_nth _ _ _ hi (by decide)]; rfl) | (rw [ats_take0 _ _ _ hi (by decide)]; rfl) | (rw [ats_nth0 _ _ hi]; rfl) | (rw [evs_take0 _ _ _ hi (by decide)]; rfl) | (rw [evs_nth0 _ _ hi]; rfl))) | exact strs_nth _ _ (by omega) | (rw [nms_take0 _ _ _ (by omega) (by decide)]; rfl) | exact vals_nth _ _ (by omega) | exact ca | exact cb | exact (kf h).symm | (rw [h]; rfl)
    · refine .inr ?_
      repeat' (with_reducible apply And.intro)
      all_goals first | omega | rfl | ((try simp only [Nat.add_assoc, Nat.reduceAdd, Nat.add_zero]) <;> first | (rw [ats_take _ _ _ _ hi (by decide)]; rfl) | (rw [ats_nth _ _ _ hi (by decide)]; rfl) | (rw [evs_take _ _ _ _ hi (by decide)]; rfl) | (rw [evs_nth _ _ _ hi (by decide)]; rfl) | (rw [ats_take0 _ _ _ hi (by decide)]; rfl) | (rw [ats_nth0 _ _ hi]; rfl) | (rw [evs_take0 _ _ _ hi (by decide)]; rfl) | (rw [evs_nth0 _ _ hi]; rfl)) | (simp only [Nat.add_zero]; ((try simp only [Nat.add_assoc, Nat.reduceAdd, Nat.add_zero]) <;> first | (rw [ats_take _ _ _ _ hi (by decide)]; rfl) | (rw [ats_nth _ _ _ hi (by decide)]; rfl) | (rw [evs_take _ _ _ _ hi (by decide)]; rfl) | (rw [evs_nth _ _ _ hi (by decide)]; rfl) | (rw [ats_take0 _ _ _ hi (by decide)]; rfl) | (rw [ats_nth0 _ _ hi]; rfl) | (rw [evs_take0 _ _ _ hi (by decide)]; rfl) | (rw [evs_nth0 _ _ hi]; rfl))) | exact strs_nth _ _ (by omega) | (rw [nms_take0 _ _ _ (by omega) (by decide)]; rfl) | exact vals_nth _ _ (by omega) | exact ca | exact cb | (rw [Bool.not_eq_false] at h; rw [h]; rfl) | exact head_eq (kk (by simpa using h)) (by simp [stK, evC, pthL, spkC]))
theorem K1_e (p : Pth) (W : Wd) (a b : Ev) (R : Bool) (i : Nat) (hi : i = W.N.length) (kk : HT Tryd.prog Tryd.f20.ntmps (pt Tryd.f20 2) (stK p W a b 10 0) (EndsA Γ (.pure [] (.bool R)) Tryd.f20)) : HT Tryd.prog Tryd.f20.ntmps (pt Tryd.f20 1) (stK p W a b 9 i) (EndsA Γ (.pure [] (.bool R)) Tryd.f20) :=
  HT.walk Γ_ok mo_ok (⟨[(49, .val (.bool false)), (12, .call [] (.agg (spkC W.N W.A W.V W.T))), (34, .val (.str ⟨#[]⟩)), (42, .val (.str ⟨#[]⟩)), (58, .val (.agg (nmC nm0))), (66, .val (.agg (nmC nm0))), (81, .val (.agg (nmC nm0))), (86, .val (.sl none ([] : List ByteArray).length (strsC ([] : List ByteArray)) .no)), (87, .call [] (.int .i64 0)), (93, .val (.agg (nmC nm0))), (98, .val (.sl none ([] : List ByteArray).length (strsC ([] : List ByteArray)) .no)), (99, .call [] (.int .i64 0))], (sp20).filter (fun x => !Nat.beq x 49), hd20 [] [] [] [], dsp20, .pure [] (.bool R)⟩ : Wk) 4000 (T := .ob (decide ((↑i : Int) < (↑W.N.length : Int)) = false) (.head (pt Tryd.f20 2) ({ tmps := [(4, AV.ptr 4 0), (5, AV.ptr 5 0), (7, AV.ptr 7 0), (10, AV.int .i64 (0 : Int))], heap := [(3, .var true (pthL p)), (4, .var true (evC a)), (5, .var true (evC b)), (7, .var true [AV.sl none W.N.length (nmsC W.N) .no, AV.sl none W.A.length (nmsC W.A) .no, AV.sl none W.V.length (valsC W.V) .no, AV.sl none W.T.length (strsC W.T) .no])], tags := [] }))) (by kernel_rfl) (by
    have h0 : decide ((i : Int) < W.N.length) = false := by simp; omega
    simp only [PT.holds, h0, true_implies, Bool.false_eq_true, Bool.true_eq_false, false_implies, true_and, and_true, and_false, false_and, or_false, false_or, eq_self]
    exact head_eq kk (by simp [stK, evC, pthL, spkC]))
theorem K2_h (p : Pth) (W : Wd) (a b : Ev) (R : Bool) (i : Nat) (hi : i < W.A.length) (hA : W.A.length ≤ 1000000) (hV : W.V.length = W.A.length) (ca : Ctr Tryd.prog 45 [.agg (evC a), .agg (nmC (W.A.getD i nm0)), .sl none (W.V.getD i []).length (strsC (W.V.getD i [])) .no] (.int .i64 (valR a.attrs (W.A.getD i nm0) (W.V.getD i [])))) (cb : Ctr Tryd.prog 45 [.agg (evC b), .agg (nmC (W.A.getD i nm0)), .sl none (W.V.getD i []).length (strsC (W.V.getD i [])) .no] (.int .i64 (valR b.attrs (W.A.getD i nm0) (W.V.getD i [])))) (kk : (valR a.attrs (W.A.getD i nm0) (W.V.getD i [])) = (valR b.attrs (W.A.getD i nm0) (W.V.getD i [])) → HT Tryd.prog Tryd.f20.ntmps (pt Tryd.f20 2) (stK p W a b 10 (i + 1)) (EndsA Γ (.pure [] (.bool R)) Tryd.f20)) (kf : (valR a.attrs (W.A.getD i nm0) (W.V.getD i [])) ≠ (valR b.attrs (W.A.getD i nm0) (W.V.getD i [])) → R = false) : HT Tryd.prog Tryd.f20.ntmps (pt Tryd.f20 2) (stK p W a b 10 i) (EndsA Γ (.pure [] (.bool R)) Tryd.f20) :=
  HT.walk Γ_ok mo_ok (⟨[(73, .val (.bool true)), (12, .call [] (.agg (spkC W.N W.A W.V W.T))), (34, .val (.str ⟨#[]⟩)), (42, .val (.str ⟨#[]⟩)), (58, .val (.agg (nmC nm0))), (66, .val (.agg (nmC nm0))), (81, .val (.agg (nmC (W.A.getD i nm0)))), (86, .val (.sl none (W.V.getD i []).length (strsC (W.V.getD i [])) .no)), (87, .call [] (.int .i64 (valR a.attrs (W.A.getD i nm0) (W.V.getD i [])))), (93, .val (.agg (nmC (W.A.getD i nm0)))), (98, .val (.sl none (W.V.getD i []).length (strsC (W.V.getD i [])) .no)), (99, .call [] (.int .i64 (valR b.attrs (W.A.getD i nm0) (W.V.getD i []))))], (sp20).filter (fun x => !Nat.beq x 73), hd20 [] [] [] [], dsp20, .pure [] (.bool R)⟩ : Wk) 4000 (T := .ob (decide ((↑i : Int) < (↑W.A.length : Int)) = true) (.or (.ob ((5 : Nat) ≤ (5 : Nat)) (.ob ((0 : Int) ≤ (↑i : Int) ∧ (↑i : Int) < (↑W.A.length : Int) ∧ (↑i : Int).toNat * (2 : Nat) < (nmsC W.A).length) (.ob (List.take (2 : Nat) (List.drop ((↑i : Int).toNat * (2 : Nat)) (nmsC W.A)) = [AV.str (W.A.getD i nm0).sp, AV.str (W.A.getD i nm0).lo]) (.ob ((0 : Int) ≤ (↑i : Int) ∧ (↑i : Int) < (↑W.V.length : Int) ∧ (↑i : Int).toNat * (1 : Nat) < (valsC W.V).length) (.ob ((valsC W.V)[(↑i : Int).toNat * (1 : Nat)]? = some (AV.sl none (W.V.getD i []).length (strsC (W.V.getD i [])) .no)) (.ob (Ctr Tryd.prog 45 [AV.agg (evC a), AV.agg [AV.str (W.A.getD i nm0).sp, AV.str (W.A.getD i nm0).lo], AV.sl none (W.V.getD i []).length (strsC (W.V.getD i [])) .no] (AV.int .i64 (valR a.attrs (W.A.getD i nm0) (W.V.getD i [])))) (.ob ((5 : Nat) ≤ (5 : Nat)) (.ob ((0 : Int) ≤ (↑i : Int) ∧ (↑i : Int) < (↑W.A.length : Int) ∧ (↑i : Int).toNat * (2 : Nat) < (nmsC W.A).length) (.ob (List.take (2 : Nat) (List.drop ((↑i : Int).toNat * (2 : Nat)) (nmsC W.A)) = [AV.str (W.A.getD i nm0).sp, AV.str (W.A.getD i nm0).lo]) (.ob ((0 : Int) ≤ (↑i : Int) ∧ (↑i : Int) < (↑W.V.length : Int) ∧ (↑i : Int).toNat * (1 : Nat) < (valsC W.V).length) (.ob ((valsC W.V)[(↑i : Int).toNat * (1 : Nat)]? = some (AV.sl none (W.V.getD i []).length (strsC (W.V.getD i [])) .no)) (.ob (Ctr Tryd.prog 45 [AV.agg (evC b), AV.agg [AV.str (W.A.getD i nm0).sp, AV.str (W.A.getD i nm0).lo], AV.sl none (W.V.getD i []).length (strsC (W.V.getD i [])) .no] (AV.int .i64 (valR b.attrs (W.A.getD i nm0) (W.V.getD i [])))) (.ob ((!decide (valR a.attrs (W.A.getD i nm0) (W.V.getD i []) = valR b.attrs (W.A.getD i nm0) (W.V.getD i []))) = true) (.ob (false = R) (.tt))))))))))))))) (.ob ((5 : Nat) ≤ (5 : Nat)) (.ob ((0 : Int) ≤ (↑i : Int) ∧ (↑i : Int) < (↑W.A.length : Int) ∧ (↑i : Int).toNat * (2 : Nat) < (nmsC W.A).length) (.ob (List.take (2 : Nat) (List.drop ((↑i : Int).toNat * (2 : Nat)) (nmsC W.A)) = [AV.str (W.A.getD i nm0).sp, AV.str (W.A.getD i nm0).lo]) (.ob ((0 : Int) ≤ (↑i : Int) ∧ (↑i : Int) < (↑W.V.length : Int) ∧ (↑i : Int).toNat * (1 : Nat) < (valsC W.V).length) (.ob ((valsC W.V)[(↑i : Int).toNat * (1 : Nat)]? = some (AV.sl none (W.V.getD i []).length (strsC (W.V.getD i [])) .no)) (.ob (Ctr Tryd.prog 45 [AV.agg (evC a), AV.agg [AV.str (W.A.getD i nm0).sp, AV.str (W.A.getD i nm0).lo], AV.sl none (W.V.getD i []).length (strsC (W.V.getD i [])) .no] (AV.int .i64 (valR a.attrs (W.A.getD i nm0) (W.V.getD i [])))) (.ob ((5 : Nat) ≤ (5 : Nat)) (.ob ((0 : Int) ≤ (↑i : Int) ∧ (↑i : Int) < (↑W.A.length : Int) ∧ (↑i : Int).toNat * (2 : Nat) < (nmsC W.A).length) (.ob (List.take (2 : Nat) (List.drop ((↑i : Int).toNat * (2 : Nat)) (nmsC W.A)) = [AV.str (W.A.getD i nm0).sp, AV.str (W.A.getD i nm0).lo]) (.ob ((0 : Int) ≤ (↑i : Int) ∧ (↑i : Int) < (↑W.V.length : Int) ∧ (↑i : Int).toNat * (1 : Nat) < (valsC W.V).length) (.ob ((valsC W.V)[(↑i : Int).toNat * (1 : Nat)]? = some (AV.sl none (W.V.getD i []).length (strsC (W.V.getD i [])) .no)) (.ob (Ctr Tryd.prog 45 [AV.agg (evC b), AV.agg [AV.str (W.A.getD i nm0).sp, AV.str (W.A.getD i nm0).lo], AV.sl none (W.V.getD i []).length (strsC (W.V.getD i [])) .no] (AV.int .i64 (valR b.attrs (W.A.getD i nm0) (W.V.getD i [])))) (.ob ((!decide (valR a.attrs (W.A.getD i nm0) (W.V.getD i []) = valR b.attrs (W.A.getD i nm0) (W.V.getD i []))) = false) (.head (pt Tryd.f20 2) ({ tmps := [(4, AV.ptr 4 0), (5, AV.ptr 5 0), (7, AV.ptr 7 0), (10, AV.int .i64 (IntKind.i64.wrap ((↑i : Int) + (1 : Int))))], heap := [(3, .var true (pthL p)), (4, .var true (evC a)), (5, .var true (evC b)), (7, .var true [AV.sl none W.N.length (nmsC W.N) .no, AV.sl none W.A.length (nmsC W.A) .no, AV.sl none W.V.length (valsC W.V) .no, AV.sl none W.T.length (strsC W.T) .no])], tags := [] }))))))))))))))))) (by kernel_rfl) (by
    have h0 : decide ((i : Int) < W.A.length) = true := by simp; omega
    have w2 : IntKind.i64.wrap ((i : Int) + 1) = ((i + 1 : Nat) : Int) := by rw [i64_wrap (by omega) (by omega)]; rfl
    simp only [PT.holds, h0, w2, Int.toNat_natCast, nmsC_len, valsC_len, Nat.mul_one, true_implies, Bool.false_eq_true, Bool.true_eq_false, false_implies, true_and, and_true, and_false, false_and, or_false, false_or, eq_self]
    by_cases h : valR a.attrs (W.A.getD i nm0) (W.V.getD i []) ≠ valR b.attrs (W.A.getD i nm0) (W.V.getD i [])
    · refine .inl ?_
      repeat' (with_reducible apply And.intro)
      all_goals first | omega | rfl | ((try simp only [Nat.add_assoc, Nat.reduceAdd, Nat.add_zero]) <;> first | (rw [ats_take _ _ _ _ hi (by decide)]; rfl) | (rw [ats_nth _ _ _ hi (by decide)]; rfl) | (rw [evs_take _ _ _ _ hi (by decide)]; rfl) | (rw [evs_nth _ _ _ hi (by decide)]; rfl) | (rw [ats_take0 _ _ _ hi (by decide)]; rfl) | (rw [ats_nth0 _ _ hi]; rfl) | (rw [evs_take0 _ _ _ hi (by decide)]; rfl) | (rw [evs_nth0 _ _ hi]; rfl)) | (simp only [Nat.add_zero]; ((try simp only [Nat.add_assoc, Nat.reduceAdd, Nat.add_zero]) <;> first | (rw [ats_take _ _ _ _ hi (by decide)]; rfl) | (rw [ats_nth _ _ _ hi (by decide)]; rfl) | (rw [evs_take _ _ _ _ hi (by decide)]; rfl) | (rw [evs_nth _ _ _ hi (by decide)]; rfl) | (rw [ats_take0 _ _ _ hi (by decide)]; rfl) | (rw [ats_nth0 _ _ hi]; rfl) | (rw [evs_take0 _ _ _ hi (by decide)]; rfl) | (rw [evs_nth0 _ _ hi]; rfl))) | exact strs_nth _ _ (by omega) | (rw [nms_take0 _ _ _ (by omega) (by decide)]; rfl) | exact vals_nth _ _ (by omega) | exact ca | exact cb | exact (kf h).symm | (rw [decide_eq_false h]; rfl)
    · refine .inr ?_
      repeat' (with_reducible apply And.intro)
      all_goals first | omega | rfl | ((try simp only [Nat.add_assoc, Nat.reduceAdd, Nat.add_zero]) <;> first | (rw [ats_take _ _ _ _ hi (by decide)]; rfl) | (rw [ats_nth _ _ _ hi (by decide)]; rfl) | (rw [evs_take _ _ _ _ hi (by decide)]; rfl) | (rw [evs_nth _ _ _ hi (by decide)]; rfl) | (rw [ats_take0 _ _ _ hi (by decide)]; rfl) | (rw [ats_nth0 _ _ hi]; rfl) | (rw [evs_take0 _ _ _ hi (by decide)]; rfl) | (rw [evs_nth0 _ _ hi]; rfl)) | (simp only [Nat.add_zero]; ((try simp only [Nat.add_assoc, Nat.reduceAdd, Nat.add_zero]) <;> first | (rw [ats_take _ _ _ _ hi (by decide)]; rfl) | (rw [ats_nth _ _ _ hi (by decide)]; rfl) | (rw [evs_take _ _ _ _ hi (by decide)]; rfl) | (rw [evs_nth _ _ _ hi (by decide)]; rfl) | (rw [ats_take0 _ _ _ hi (by decide)]; rfl) | (rw [ats_nth0 _ _ hi]; rfl) | (rw [evs_take0 _ _ _ hi (by decide)]; rfl) | (rw [evs_nth0 _ _ hi]; rfl))) | exact strs_nth _ _ (by omega) | (rw [nms_take0 _ _ _ (by omega) (by decide)]; rfl) | exact vals_nth _ _ (by omega) | exact ca | exact cb | (rw [decide_eq_true (Classical.byContradiction h)]; rfl) | exact head_eq (kk (Classical.byContradiction h)) (by simp [stK, evC, pthL, spkC]))
theorem K2_e (p : Pth) (W : Wd) (a b : Ev) (i : Nat) (hi : i = W.A.length) : HT Tryd.prog Tryd.f20.ntmps (pt Tryd.f20 2) (stK p W a b 10 i) (EndsA Γ (.pure [] (.bool true)) Tryd.f20) :=
  HT.walk Γ_ok mo_ok (⟨[(73, .val (.bool false)), (12, .call [] (.agg (spkC W.N W.A W.V W.T))), (34, .val (.str ⟨#[]⟩)), (42, .val (.str ⟨#[]⟩)), (58, .val (.agg (nmC nm0))), (66, .val (.agg (nmC nm0))), (81, .val (.agg (nmC nm0))), (86, .val (.sl none ([] : List ByteArray).length (strsC ([] : List ByteArray)) .no)), (87, .call [] (.int .i64 0)), (93, .val (.agg (nmC nm0))), (98, .val (.sl none ([] : List ByteArray).length (strsC ([] : List ByteArray)) .no)), (99, .call [] (.int .i64 0))], (sp20).filter (fun x => !Nat.beq x 73), hd20 [] [] [] [], dsp20, .pure [] (.bool true)⟩ : Wk) 4000 (T := .ob (decide ((↑i : Int) < (↑W.A.length : Int)) = false) (.ob (true = true) (.tt))) (by kernel_rfl) (by
    have h0 : decide ((i : Int) < W.A.length) = false := by simp; omega
    simp only [PT.holds, h0, true_implies, Bool.false_eq_true, Bool.true_eq_false, false_implies, true_and, and_true, and_false, false_and, or_false, false_or, eq_self]
    try trivial)
end Go.Proofs.YteimloiaipiadaaDoor
end

section
set_option linter.unusedVariables false
set_option linter.unusedSimpArgs false
set_option maxRecDepth 100000
namespace Go.Proofs.YteimloiaipiadaaDoor
open Go Go.AX

theorem V1_l (e : Ev) (n : Nm) (v : List ByteArray) (i : Nat) (hi : i < e.attrs.length) (hl : e.attrs.length ≤ 1048600) (hv : v.length ≤ 1000000) : ∀ d k, k + d = v.length → HT Tryd.prog Tryd.f45.ntmps (pt Tryd.f45 1) (stV1 e n v i k) (EndsA Γ (.pure [] (.int .i64 (posG (e.attrs.getD i atr0).v (v.drop k) k))) Tryd.f45) := by
  intro d
  induction d with
  | zero =>
    intro k h
    rw [List.drop_of_length_le (by omega)]
    have hk : k = v.length := by omega
    subst hk
    exact V1_e e n v i v.length rfl
  | succ d ih =>
    intro k h
    rw [drop_cons v k ⟨#[]⟩ (by omega)]
    simp only [posG]
    refine V1_h e n v i k _ hi hl (by omega) hv (fun hne => ?_) (fun he => by rw [if_pos he])
    rw [if_neg hne]
    exact ih (k + 1) (by omega)
theorem V0_l (e : Ev) (n : Nm) (v : List ByteArray) (hl : e.attrs.length ≤ 1048600) (hv : v.length ≤ 1000000) : ∀ d i, i + d = e.attrs.length → HT Tryd.prog Tryd.f45.ntmps (pt Tryd.f45 0) (stV0 e n v i) (EndsA Γ (.pure [] (.int .i64 (valR (e.attrs.drop i) n v))) Tryd.f45) := by
  intro d
  induction d with
  | zero =>
    intro i h
    rw [List.drop_of_length_le (by omega)]
    exact V0_e e n v i (by omega)
  | succ d ih =>
    intro i h
    rw [drop_cons e.attrs i atr0 (by omega)]
    refine V0_h e n v i _ (by omega) hl (fun hm => ?_) (fun hm => ?_)
    · have : valR (e.attrs.getD i atr0 :: e.attrs.drop (i + 1)) n v = valR (e.attrs.drop (i + 1)) n v := by
        unfold valR; rw [List.find?_cons, decide_eq_false hm]
      rw [this]
      exact ih (i + 1) (by omega)
    · have : valR (e.attrs.getD i atr0 :: e.attrs.drop (i + 1)) n v = posG (e.attrs.getD i atr0).v v 0 := by
        unfold valR; rw [List.find?_cons, decide_eq_true hm]
      rw [this]
      have := V1_l e n v i (by omega) hl hv v.length 0 (Nat.zero_add _)
      rwa [List.drop_zero] at this
theorem value_ctr (e : Ev) (n : Nm) (v : List ByteArray) (hl : e.attrs.length ≤ 1048600) (hv : v.length ≤ 1000000) : Ctr Tryd.prog 45 [.agg (evC e), .agg (nmC n), .sl none v.length (strsC v) .no] (.int .i64 (valR e.attrs n v)) := V_p e n v _ (by have := V0_l e n v hl hv e.attrs.length 0 (Nat.zero_add _); rwa [List.drop_zero] at this)
def telG {α : Type} [DecidableEq α] (l : List α) (a b : α) : Bool := l.all fun t => decide (a = t) == decide (b = t)
def refA (a b : Ev) : List Nm → List (List ByteArray) → Bool
  | n :: A, v :: V => decide (valR a.attrs n v = valR b.attrs n v) && refA a b A V
  | _, _ => true
def refLik (W : Wd) (a b : Ev) : Bool := decide (a.kind = b.kind) && (if a.kind = 2 then telG W.T a.text b.text else telG W.N a.nm b.nm && refA a b W.A W.V)
theorem K0_l (p : Pth) (W : Wd) (a b : Ev) (hT : W.T.length ≤ 1000000) : ∀ d i, i + d = W.T.length → HT Tryd.prog Tryd.f20.ntmps (pt Tryd.f20 0) (stK p W a b 8 i) (EndsA Γ (.pure [] (.bool (telG (W.T.drop i) a.text b.text))) Tryd.f20) := by
  intro d
  induction d with
  | zero =>
    intro i h
    rw [List.drop_of_length_le (by omega)]
    exact K0_e p W a b i (by omega)
  | succ d ih =>
    intro i h
    rw [drop_cons W.T i ⟨#[]⟩ (by omega)]
    refine K0_h p W a b _ i (by omega) hT (fun h1 => ?_) (fun h1 => ?_)
    · have : telG (W.T.getD i ⟨#[]⟩ :: W.T.drop (i + 1)) a.text b.text = telG (W.T.drop (i + 1)) a.text b.text := by unfold telG; rw [List.all_cons, h1, Bool.true_and]
      rw [this]
      exact ih (i + 1) (by omega)
    · unfold telG; rw [List.all_cons, h1, Bool.false_and]
theorem K2_l (p : Pth) (W : Wd) (a b : Ev) (hA : W.A.length ≤ 1000000) (hV : W.V.length = W.A.length) (hVs : ∀ v ∈ W.V, v.length ≤ 1000000) (ha : a.attrs.length ≤ 1048600) (hb : b.attrs.length ≤ 1048600) : ∀ d i, i + d = W.A.length → HT Tryd.prog Tryd.f20.ntmps (pt Tryd.f20 2) (stK p W a b 10 i) (EndsA Γ (.pure [] (.bool (refA a b (W.A.drop i) (W.V.drop i)))) Tryd.f20) := by
  intro d
  induction d with
  | zero =>
    intro i h
    have e : refA a b (W.A.drop i) (W.V.drop i) = true := by rw [List.drop_of_length_le (by omega)]; simp [refA]
    rw [e]
    exact K2_e p W a b i (by omega)
  | succ d ih =>
    intro i h
    have hv := hVs _ (getD_mem W.V i [] (by omega))
    rw [drop_cons W.A i nm0 (by omega), drop_cons W.V i [] (by omega)]
    simp only [refA]
    refine K2_h p W a b _ i (by omega) hA hV (value_ctr a _ _ ha hv) (value_ctr b _ _ hb hv) (fun h1 => ?_) (fun h1 => ?_)
    · rw [decide_eq_true h1, Bool.true_and]
      exact ih (i + 1) (by omega)
    · rw [decide_eq_false h1, Bool.false_and]
theorem K1_l (p : Pth) (W : Wd) (a b : Ev) (hN : W.N.length ≤ 1000000) (hA : W.A.length ≤ 1000000) (hV : W.V.length = W.A.length) (hVs : ∀ v ∈ W.V, v.length ≤ 1000000) (ha : a.attrs.length ≤ 1048600) (hb : b.attrs.length ≤ 1048600) : ∀ d i, i + d = W.N.length → HT Tryd.prog Tryd.f20.ntmps (pt Tryd.f20 1) (stK p W a b 9 i) (EndsA Γ (.pure [] (.bool (telG (W.N.drop i) a.nm b.nm && refA a b W.A W.V))) Tryd.f20) := by
  intro d
  induction d with
  | zero =>
    intro i h
    rw [List.drop_of_length_le (by omega)]
    have := K2_l p W a b hA hV hVs ha hb W.A.length 0 (Nat.zero_add _)
    rw [List.drop_zero, List.drop_zero] at this
    exact K1_e p W a b _ i (by omega) this
  | succ d ih =>
    intro i h
    rw [drop_cons W.N i nm0 (by omega)]
    refine K1_h p W a b _ i (by omega) hN (fun h1 => ?_) (fun h1 => ?_)
    · have : telG (W.N.getD i nm0 :: W.N.drop (i + 1)) a.nm b.nm = telG (W.N.drop (i + 1)) a.nm b.nm := by unfold telG; rw [List.all_cons, h1, Bool.true_and]
      rw [this]
      exact ih (i + 1) (by omega)
    · unfold telG; rw [List.all_cons, h1, Bool.false_and, Bool.false_and]
theorem refLike_ctr (p : Pth) (W : Wd) (a b : Ev) (hm : Ctr Tryd.prog 32 [.agg (pthL p)] (.agg (spkC W.N W.A W.V W.T))) (hT : W.T.length ≤ 1000000) (hN : W.N.length ≤ 1000000) (hA : W.A.length ≤ 1000000) (hV : W.V.length = W.A.length) (hVs : ∀ v ∈ W.V, v.length ≤ 1000000) (ha : a.attrs.length ≤ 1048600) (hb : b.attrs.length ≤ 1048600) : Ctr Tryd.prog 20 [.agg (pthL p), .agg (evC a), .agg (evC b)] (.bool (refLik W a b)) := by
  refine K_p p W a b _ hm (fun h h2 => ?_) (fun h h2 => ?_) (fun h => ?_)
  · unfold refLik
    rw [decide_eq_true h, if_pos h2, Bool.true_and]
    have := K0_l p W a b hT W.T.length 0 (Nat.zero_add _)
    rwa [List.drop_zero] at this
  · unfold refLik
    rw [decide_eq_true h, if_neg h2, Bool.true_and]
    have := K1_l p W a b hN hA hV hVs ha hb W.N.length 0 (Nat.zero_add _)
    rwa [List.drop_zero] at this
  · unfold refLik
    rw [decide_eq_false h, Bool.false_and]
/-! Both tell the same. -/
theorem ixG_mem {α : Type} [DecidableEq α] (x d : α) (l : List α) : decide (0 ≤ ixG x l 0) = decide (x ∈ l) := by
  have := ixG_ge x d l
  by_cases h : x ∈ l
  · rw [this.2 h, decide_eq_true h]
  · rw [decide_eq_false h]
    cases e : decide (0 ≤ ixG x l 0) with
    | true => exact absurd (this.1 e) h
    | false => rfl
theorem alG_iff {α : Type} [DecidableEq α] (d : α) (l : List α) (a b : α) : alG l a b = true ↔ a = b ∨ (a ∉ l ∧ b ∉ l) := by
  unfold alG
  rw [ixG_mem a d, ixG_mem b d]
  simp
theorem telG_iff {α : Type} [DecidableEq α] (l : List α) (a b : α) : telG l a b = true ↔ a = b ∨ (a ∉ l ∧ b ∉ l) := by
  unfold telG
  simp only [List.all_eq_true, beq_iff_eq]
  constructor
  · intro h
    by_cases e : a = b
    · exact .inl e
    · refine .inr ⟨fun ha => ?_, fun hb => ?_⟩
      · have := h a ha
        rw [decide_eq_true rfl, eq_comm, decide_eq_true_eq] at this
        exact e this.symm
      · have := h b hb
        rw [decide_eq_true (rfl : b = b), decide_eq_true_eq] at this
        exact e this
  · rintro (rfl | ⟨h1, h2⟩) t ht
    · rfl
    · rw [decide_eq_false (fun e : a = t => h1 (e ▸ ht)), decide_eq_false (fun e : b = t => h2 (e ▸ ht))]
theorem tel_al {α : Type} [DecidableEq α] (d : α) (l : List α) (a b : α) : telG l a b = alG l a b := by
  rw [Bool.eq_iff_iff, telG_iff, alG_iff d]
theorem posG_in (x : ByteArray) : ∀ (l : List ByteArray) (i : Nat), (x ∉ l ∧ posG x l i = ((i + l.length : Nat) : Int)) ∨ ∃ j, j < l.length ∧ l.getD j ⟨#[]⟩ = x ∧ posG x l i = ((i + j : Nat) : Int)
  | [], i => .inl ⟨by simp, rfl⟩
  | y :: r, i => by
    simp only [posG]
    by_cases h : y = x
    · exact .inr ⟨0, by simp, by simpa using h, by simp [h]⟩
    · rw [if_neg h]
      rcases posG_in x r (i + 1) with ⟨h1, h2⟩ | ⟨j, h1, h2, h3⟩
      · exact .inl ⟨fun hm => (List.mem_cons.1 hm).elim (fun e => h e.symm) h1, by rw [h2]; simp; omega⟩
      · exact .inr ⟨j + 1, by simpa using h1, by simpa using h2, by rw [h3]; congr 1; omega⟩
theorem posG_iff (x y : ByteArray) (l : List ByteArray) : posG x l 0 = posG y l 0 ↔ x = y ∨ (x ∉ l ∧ y ∉ l) := by
  have mem : ∀ j, j < l.length → l.getD j ⟨#[]⟩ ∈ l := fun j hj => getD_mem l j _ hj
  constructor
  · intro h
    rcases posG_in x l 0 with ⟨h1, h2⟩ | ⟨j, h1, h2, h3⟩ <;> rcases posG_in y l 0 with ⟨k1, k2⟩ | ⟨j', k1, k2, k3⟩
    · exact .inr ⟨h1, k1⟩
    · rw [h2, k3] at h; omega
    · rw [h3, k2] at h; omega
    · rw [h3, k3] at h
      have : j = j' := by omega
      subst this
      exact .inl (h2.symm.trans k2)
  · rintro (rfl | ⟨h1, h2⟩)
    · rfl
    · rcases posG_in x l 0 with ⟨_, k2⟩ | ⟨j, q1, q2, _⟩
      · rcases posG_in y l 0 with ⟨_, k3⟩ | ⟨j, q1, q2, _⟩
        · rw [k2, k3]
        · exact absurd (q2 ▸ mem j q1) h2
      · exact absurd (q2 ▸ mem j q1) h1
theorem posG_ge (x : ByteArray) (l : List ByteArray) : 0 ≤ posG x l 0 := by
  rcases posG_in x l 0 with ⟨_, h2⟩ | ⟨j, _, _, h3⟩
  · rw [h2]; omega
  · rw [h3]; omega
theorem valR_al (a b : Ev) (n : Nm) (v : List ByteArray) : decide (valR a.attrs n v = valR b.attrs n v) = lkA1 a b n v := by
  rw [Bool.eq_iff_iff, decide_eq_true_eq]
  unfold lkA1 valR atV
  have q : ∀ (x y : ByteArray), (decide (true = true) && alG v x y) = true ↔ posG x v 0 = posG y v 0 := fun x y => by
    rw [posG_iff, ← alG_iff ⟨#[]⟩]
    simp
  cases ha : a.attrs.find? (fun a => decide (a.nm = n)) <;> cases hb : b.attrs.find? (fun a => decide (a.nm = n))
  · refine ⟨fun _ => ?_, fun _ => rfl⟩
    show (decide (false = false) && alG v ⟨#[]⟩ ⟨#[]⟩) = true
    rw [Bool.and_eq_true]
    exact ⟨rfl, (alG_iff ⟨#[]⟩ v _ _).2 (.inl rfl)⟩
  · rename_i y
    refine ⟨fun h => ?_, fun h => ?_⟩
    · have := posG_ge y.v v
      have h' : (-1 : Int) = posG y.v v 0 := h
      omega
    · have h' : (decide (false = true) && alG v ⟨#[]⟩ y.v) = true := h
      simp at h'
  · rename_i x
    refine ⟨fun h => ?_, fun h => ?_⟩
    · have := posG_ge x.v v
      have h' : posG x.v v 0 = (-1 : Int) := h
      omega
    · have h' : (decide (true = false) && alG v x.v ⟨#[]⟩) = true := h
      simp at h'
  · exact (q _ _).symm
theorem refA_al (a b : Ev) : ∀ (A : List Nm) (V : List (List ByteArray)), refA a b A V = lkA a b A V
  | [], V => by simp [refA, lkA]
  | n :: A, [] => by simp [refA, lkA]
  | n :: A, v :: V => by
    simp only [refA, lkA]
    rw [valR_al, refA_al a b A V]
theorem lkA_none (a b : Ev) (ha : a.attrs = []) (hb : b.attrs = []) : ∀ (A : List Nm) (V : List (List ByteArray)), lkA a b A V = true
  | [], V => by simp [lkA]
  | n :: A, [] => by simp [lkA]
  | n :: A, v :: V => by
    simp only [lkA, lkA_none a b ha hb A V, Bool.and_true]
    unfold lkA1 atV
    rw [ha, hb]
    show (decide (false = false) && alG v ⟨#[]⟩ ⟨#[]⟩) = true
    rw [Bool.and_eq_true]
    exact ⟨rfl, (alG_iff ⟨#[]⟩ v _ _).2 (.inl rfl)⟩
theorem refLik_eq (W : Wd) (a b : Ev) (ha : a.nd) (hb : b.nd) : refLik W a b = likW W a b := by
  unfold refLik likW
  by_cases h : a.kind = b.kind
  · rw [decide_eq_true h, Bool.true_and, Bool.true_and, tel_al ⟨#[]⟩, tel_al nm0, refA_al]
    by_cases h2 : a.kind = 2
    · rw [if_pos h2]
      have h3 := ha.text h2
      have h4 := hb.text (h ▸ h2)
      have e1 : alG W.N a.nm b.nm = true := (alG_iff nm0 _ _ _).2 (.inl (h3.1.trans h4.1.symm))
      rw [e1, lkA_none a b h3.2 h4.2, Bool.true_and, Bool.and_true]
    · rw [if_neg h2]
      have h3 := ha.elem h2
      have h4 := hb.elem (h ▸ h2)
      have e1 : alG W.T a.text b.text = true := (alG_iff ⟨#[]⟩ _ _ _).2 (.inl (h3.trans h4.symm))
      rw [e1, Bool.true_and]
  · rw [decide_eq_false h, Bool.false_and, Bool.false_and]

end Go.Proofs.YteimloiaipiadaaDoor
end

section
set_option linter.unusedVariables false
set_option linter.unusedSimpArgs false
set_option maxRecDepth 100000
namespace Go.Proofs.YteimloiaipiadaaDoor
open Go Go.AX

theorem addG_pos {α : Type} [DecidableEq α] (d : α) {l : List α} {x : α} (h : x ∈ l) : addG l x = l := by
  unfold addG; rw [if_pos (of_decide_eq_true ((ixG_ge x d l).2 h))]
theorem addG_neg {α : Type} [DecidableEq α] (d : α) {l : List α} {x : α} (h : x ∉ l) : addG l x = l ++ [x] := by
  unfold addG; rw [if_neg (fun h2 => h ((ixG_ge x d l).1 (decide_eq_true h2)))]
/-- What is spoken of, by the document's answer. -/
def refW (l : List Flt) : Wd := ⟨namesF 4 4 l, namesF 5 6 l, valsF l (namesF 5 6 l), valuesF 7 nm0 l⟩
theorem namesF_snoc (a b : Int) (l : List Flt) (f : Flt) : namesF a b (l ++ [f]) = stepN a b (namesF a b l) f := by simp [namesF]
theorem valuesF_snoc (o : Int) (n : Nm) (l : List Flt) (f : Flt) : valuesF o n (l ++ [f]) = stepV o n (valuesF o n l) f := by simp [valuesF]
theorem snoc_ind {α : Type} {P : List α → Prop} (h0 : P []) (h1 : ∀ l x, P l → P (l ++ [x])) : ∀ l, P l := by
  intro l
  have : ∀ r : List α, P r.reverse := fun r => by
    induction r with
    | nil => exact h0
    | cons x r ih => rw [List.reverse_cons]; exact h1 _ _ ih
  have := this l.reverse
  rwa [List.reverse_reverse] at this
theorem namesF_nodup (a b : Int) : ∀ l, (namesF a b l).Nodup := by
  refine snoc_ind ?_ (fun l f ih => ?_)
  · simp [namesF]
  · rw [namesF_snoc]
    unfold stepN
    split
    · rename_i h
      rw [List.nodup_append]
      exact ⟨ih, by simp, fun x hx y hy => by simp at hy; subst hy; exact fun e => h.2.2 (e ▸ hx)⟩
    · exact ih
theorem namesF_mem (a b : Int) (n : Nm) : ∀ l, n ∈ namesF a b l ↔ ∃ f ∈ l, a ≤ f.op ∧ f.op ≤ b ∧ f.nm = n := by
  refine snoc_ind ?_ (fun l f ih => ?_)
  · simp [namesF]
  · rw [namesF_snoc]
    unfold stepN
    constructor
    · intro h
      split at h
      · rename_i hc
        rcases List.mem_append.1 h with h | h
        · obtain ⟨g, hg, h2⟩ := ih.1 h
          exact ⟨g, List.mem_append.2 (.inl hg), h2⟩
        · simp at h
          exact ⟨f, by simp, hc.1, hc.2.1, h.symm⟩
      · obtain ⟨g, hg, h2⟩ := ih.1 h
        exact ⟨g, List.mem_append.2 (.inl hg), h2⟩
    · rintro ⟨g, hg, h1, h2, h3⟩
      rcases List.mem_append.1 hg with hg | hg
      · have := ih.2 ⟨g, hg, h1, h2, h3⟩
        split
        · exact List.mem_append.2 (.inl this)
        · exact this
      · simp at hg
        subst hg
        split
        · exact List.mem_append.2 (.inr (by simp [h3]))
        · rename_i hc
          refine Classical.byContradiction fun hn => hc ⟨h1, h2, ?_⟩
          rw [h3]
          exact hn
theorem valuesF_mem (o : Int) (n : Nm) (x : ByteArray) : ∀ l, x ∈ valuesF o n l ↔ ∃ f ∈ l, f.op = o ∧ f.nm = n ∧ f.val = x := by
  refine snoc_ind ?_ (fun l f ih => ?_)
  · simp [valuesF]
  · rw [valuesF_snoc]
    unfold stepV
    constructor
    · intro h
      split at h
      · rename_i hc
        rcases List.mem_append.1 h with h | h
        · obtain ⟨g, hg, h2⟩ := ih.1 h
          exact ⟨g, List.mem_append.2 (.inl hg), h2⟩
        · simp at h
          exact ⟨f, by simp, hc.1, hc.2.1, h.symm⟩
      · obtain ⟨g, hg, h2⟩ := ih.1 h
        exact ⟨g, List.mem_append.2 (.inl hg), h2⟩
    · rintro ⟨g, hg, h1, h2, h3⟩
      rcases List.mem_append.1 hg with hg | hg
      · have := ih.2 ⟨g, hg, h1, h2, h3⟩
        split
        · exact List.mem_append.2 (.inl this)
        · exact this
      · simp at hg
        subst hg
        split
        · exact List.mem_append.2 (.inr (by simp [h3]))
        · rename_i hc
          refine Classical.byContradiction fun hn => hc ⟨h1, h2, ?_⟩
          rw [h3]
          exact hasB_false _ _ hn
theorem valuesF_none (n : Nm) (l : List Flt) (h : n ∉ namesF 5 6 l) : valuesF 6 n l = [] := by
  cases e : valuesF 6 n l with
  | nil => rfl
  | cons x r =>
    have hx : x ∈ valuesF 6 n l := by rw [e]; simp
    obtain ⟨f, hf, h1, h2, _⟩ := (valuesF_mem 6 n x l).1 hx
    exact absurd ((namesF_mem 5 6 n l).2 ⟨f, hf, by omega, by omega, h2⟩) h
theorem map_set_nodup {β : Type} (A : List Nm) (hA : A.Nodup) (g g' : Nm → β) (i : Nat) (n : Nm) (hi : i < A.length) (hn : A.getD i nm0 = n) (hg : ∀ m, m ≠ n → g' m = g m) : (A.map g).set i (g' n) = A.map g' := by
  have hn' : A[i] = n := by rw [← hn, List.getD_eq_getElem?_getD, List.getElem?_eq_getElem hi]; rfl
  refine List.ext_getElem (by simp) (fun j h1 h2 => ?_)
  have hj : j < A.length := by simpa using h2
  rw [List.getElem_set]
  split
  · rename_i e
    subst e
    rw [List.getElem_map, hn']
  · rename_i e
    rw [List.getElem_map, List.getElem_map]
    refine (hg _ fun e2 => e ?_).symm
    exact (List.getElem_inj hA).1 (hn'.trans e2.symm)
theorem stepV_other (n m : Nm) (f : Flt) (l : List ByteArray) (h : m ≠ f.nm) : stepV 6 m l f = l := by
  unfold stepV; rw [if_neg (fun hc => h hc.2.1.symm)]
theorem stepV_op (o : Int) (n : Nm) (f : Flt) (l : List ByteArray) (h : f.op ≠ o) : stepV o n l f = l := by
  unfold stepV; rw [if_neg (fun hc => h hc.1)]
theorem stepN_op (a b : Int) (f : Flt) (l : List Nm) (h : ¬ (a ≤ f.op ∧ f.op ≤ b)) : stepN a b l f = l := by
  unfold stepN; rw [if_neg (fun hc => h ⟨hc.1, hc.2.1⟩)]
theorem stepN_add (a b : Int) (f : Flt) (l : List Nm) (h : a ≤ f.op ∧ f.op ≤ b) : stepN a b l f = addG l f.nm := by
  unfold stepN
  by_cases hm : f.nm ∈ l
  · rw [if_neg (fun hc => hc.2.2 hm), addG_pos nm0 hm]
  · rw [if_pos ⟨h.1, h.2, hm⟩, addG_neg nm0 hm]
theorem stepV_add (o : Int) (n : Nm) (f : Flt) (l : List ByteArray) (h : f.op = o) (hn : f.nm = n) : stepV o n l f = addG l f.val := by
  unfold stepV
  by_cases hm : f.val ∈ l
  · rw [if_neg (fun hc => by rw [(hasB_iff _ _).2 hm] at hc; exact absurd hc.2.2 (by decide)), addG_pos ⟨#[]⟩ hm]
  · rw [if_pos ⟨h, hn, hasB_false _ _ hm⟩, addG_neg ⟨#[]⟩ hm]
theorem valsF_snoc (l : List Flt) (f : Flt) (A : List Nm) : valsF (l ++ [f]) A = A.map fun n => stepV 6 n (valuesF 6 n l) f := by
  unfold valsF
  congr 1
  funext n
  rw [valuesF_snoc]
theorem attW_ref (l : List Flt) (n : Nm) : attW (refW l) n = ⟨namesF 4 4 l, addG (namesF 5 6 l) n, (addG (namesF 5 6 l) n).map (fun m => valuesF 6 m l), valuesF 7 nm0 l⟩ := by
  unfold attW refW
  by_cases h : n ∈ namesF 5 6 l
  · rw [if_pos (of_decide_eq_true ((ixG_ge n nm0 _).2 h)), addG_pos nm0 h]
    rfl
  · rw [if_neg (fun h2 => h ((ixG_ge n nm0 _).1 (decide_eq_true h2))), addG_neg nm0 h]
    simp [valsF, valuesF_none n l h]
theorem attI_ref (l : List Flt) (n : Nm) : (attI (refW l) n).toNat < (addG (namesF 5 6 l) n).length ∧ (addG (namesF 5 6 l) n).getD (attI (refW l) n).toNat nm0 = n := by
  unfold attI refW
  by_cases h : n ∈ namesF 5 6 l
  · rw [if_pos (of_decide_eq_true ((ixG_ge n nm0 _).2 h)), addG_pos nm0 h]
    rcases ixG_spec n nm0 (namesF 5 6 l) 0 with ⟨h1, _⟩ | ⟨j, h1, h2, h3⟩
    · exact absurd h h1
    · rw [h3]
      simpa using ⟨h1, h2⟩
  · rw [if_neg (fun h2 => h ((ixG_ge n nm0 _).1 (decide_eq_true h2))), addG_neg nm0 h]
    simp
theorem gstep_ref (l : List Flt) (f : Flt) (h7 : f.op = 7 → f.nm = nm0) : gstep (refW l) f = refW (l ++ [f]) := by
  unfold gstep
  split
  · rename_i h4
    unfold refW
    rw [namesF_snoc, namesF_snoc, valuesF_snoc, valsF_snoc, stepN_add 4 4 f _ (by omega), stepN_op 5 6 f _ (by omega), stepV_op 7 nm0 f _ (by omega)]
    congr 1
    show List.map _ _ = List.map _ _
    congr 1
    funext n
    rw [stepV_op 6 n f _ (by omega)]
  · split
    · rename_i _ h5
      rw [attW_ref]
      unfold refW
      rw [namesF_snoc, namesF_snoc, valuesF_snoc, valsF_snoc, stepN_op 4 4 f _ (by omega), stepN_add 5 6 f _ (by omega), stepV_op 7 nm0 f _ (by omega)]
      congr 1
      congr 1
      funext n
      rw [stepV_op 6 n f _ (by omega)]
    · split
      · rename_i _ _ h6
        obtain ⟨k1, k2⟩ := attI_ref l f.nm
        rw [attW_ref]
        simp only
        have hnd : (addG (namesF 5 6 l) f.nm).Nodup := by
          have := namesF_nodup 5 6 (l ++ [f])
          rwa [namesF_snoc, stepN_add 5 6 f _ (by omega)] at this
        have e1 : ((addG (namesF 5 6 l) f.nm).map (fun m => valuesF 6 m l)).getD (attI (refW l) f.nm).toNat [] = valuesF 6 f.nm l := by
          rw [List.getD_eq_getElem?_getD, List.getElem?_map]
          rw [List.getD_eq_getElem?_getD, List.getElem?_eq_getElem k1] at k2
          rw [List.getElem?_eq_getElem k1]
          simp only [Option.getD_some] at k2
          simp [k2]
        rw [e1, ← stepV_add 6 f.nm f _ h6 rfl, map_set_nodup _ hnd (fun m => valuesF 6 m l) (fun m => stepV 6 m (valuesF 6 m l) f) _ f.nm k1 k2 (fun m hm => stepV_other m m f _ hm)]
        unfold refW
        rw [namesF_snoc, namesF_snoc, valuesF_snoc, valsF_snoc, stepN_op 4 4 f _ (by omega), stepN_add 5 6 f _ (by omega), stepV_op 7 nm0 f _ (by omega)]
      · split
        · rename_i _ _ _ h7'
          unfold refW
          rw [namesF_snoc, namesF_snoc, valuesF_snoc, valsF_snoc, stepN_op 4 4 f _ (by omega), stepN_op 5 6 f _ (by omega), stepV_add 7 nm0 f _ h7' (h7 h7')]
          congr 1
          show List.map _ _ = List.map _ _
          congr 1
          funext n
          rw [stepV_op 6 n f _ (by omega)]
        · rename_i h4 h5 h6 h7'
          unfold refW
          rw [namesF_snoc, namesF_snoc, valuesF_snoc, valsF_snoc, stepN_op 4 4 f _ (by omega), stepN_op 5 6 f _ (by omega), stepV_op 7 nm0 f _ h7']
          congr 1
          show List.map _ _ = List.map _ _
          congr 1
          funext n
          rw [stepV_op 6 n f _ h6]
theorem fold_ref : ∀ l : List Flt, (∀ f ∈ l, f.op = 7 → f.nm = nm0) → l.foldl gstep wd0 = refW l := by
  refine snoc_ind ?_ (fun l f ih => ?_)
  · intro _; rfl
  · intro h
    rw [List.foldl_append, ih (fun g hg => h g (List.mem_append.2 (.inl hg)))]
    exact gstep_ref l f (h f (by simp))
/-- What the program gathers is what the document says. -/
theorem spkW_ref (p : Pth) (h : ∀ f ∈ filtersP p, f.op = 7 → f.nm = nm0) : spkW p = refW (filtersP p) := fold_ref _ h
theorem make_ctr_spk (p : Pth) (hok : p.ok) (hl : (filtersP p).length ≤ 1000000) (h : ∀ f ∈ filtersP p, f.op = 7 → f.nm = nm0) : Ctr Tryd.prog 32 [.agg (pthL p)] (.agg (spkC (spkW p).N (spkW p).A (spkW p).V (spkW p).T)) := by
  rw [spkW_ref p h]
  exact make_ctr p hok hl

end Go.Proofs.YteimloiaipiadaaDoor
end

section
set_option linter.unusedVariables false
set_option linter.unusedSimpArgs false
set_option maxRecDepth 100000
namespace Go.Proofs.YteimloiaipiadaaDoor
open Go Go.AX

mutual
/-- How many parts there are. -/
def partsP : Pth → Nat
  | .mk _ sub test => 1 + partsPs sub + partsFs test
def partsPs : List Pth → Nat
  | [] => 0
  | p :: r => partsP p + partsPs r
def partsF : Flt → Nat
  | .mk _ _ _ sub way => 1 + partsFs sub + partsPs way
def partsFs : List Flt → Nat
  | [] => 0
  | f :: r => partsF f + partsFs r
end
theorem partsP_eq (p : Pth) : partsP p = 1 + partsPs p.sub + partsFs p.test := by cases p; simp only [partsP, Pth.sub, Pth.test]
theorem partsF_eq (p : Flt) : partsF p = 1 + partsFs p.sub + partsPs p.way := by cases p; simp only [partsF, Flt.sub, Flt.way]
theorem sP1_l (p : Pth) (m : Nat) (hm : m ≤ 1000) (hl : p.test.length ≤ 1048600) (hc : ∀ q ∈ p.test, ∀ k : Nat, k ≤ 1000 → Ctr Tryd.prog 65 [.agg (fltL q), .int .i64 k] (.int .i64 (min (partsF q) (k + 1) : Nat))) : ∀ d i n, i + d = p.test.length → n ≤ m + 1 → HT Tryd.prog Tryd.f48.ntmps (pt Tryd.f48 1) (stP1 p m n i) (EndsA Γ (.pure [] (.int .i64 (min (n + partsFs (p.test.drop i)) (m + 1) : Nat))) Tryd.f48) := by
  intro d
  induction d with
  | zero =>
    intro i n h hn
    rw [List.drop_of_length_le (by omega)]
    have e : min (n + partsFs []) (m + 1) = n := by simp only [partsFs]; omega
    rw [e]
    exact sP1_e p m n i (.inl (by omega))
  | succ d ih =>
    intro i n h hn
    rcases Nat.lt_or_ge m n with h1 | h1
    · have e : min (n + partsFs (p.test.drop i)) (m + 1) = n := by omega
      rw [e]
      exact sP1_e p m n i (.inr h1)
    · have hk := hc _ (getD_mem p.test i flt0 (by omega)) (m - n) (by omega)
      have e2 : partsFs (p.test.drop i) = partsF (p.test.getD i flt0) + partsFs (p.test.drop (i + 1)) := by rw [drop_cons p.test i flt0 (by omega)]; simp only [partsFs]
      have k := ih (i + 1) (n + min (partsF (p.test.getD i flt0)) (m - n + 1)) (by omega) (by omega)
      have e : min (n + partsFs (p.test.drop i)) (m + 1) = min (n + min (partsF (p.test.getD i flt0)) (m - n + 1) + partsFs (p.test.drop (i + 1))) (m + 1) := by rw [e2]; omega
      rw [e]
      exact sP1_h p m n i _ (min (partsF (p.test.getD i flt0)) (m - n + 1)) (by omega) hl hm h1 (by omega) hk k
theorem sP0_l (p : Pth) (m : Nat) (hm : m ≤ 1000) (hl : p.sub.length ≤ 1048600) (hl2 : p.test.length ≤ 1048600) (hc : ∀ q ∈ p.sub, ∀ k : Nat, k ≤ 1000 → Ctr Tryd.prog 48 [.agg (pthL q), .int .i64 k] (.int .i64 (min (partsP q) (k + 1) : Nat))) (hc2 : ∀ q ∈ p.test, ∀ k : Nat, k ≤ 1000 → Ctr Tryd.prog 65 [.agg (fltL q), .int .i64 k] (.int .i64 (min (partsF q) (k + 1) : Nat))) : ∀ d i n, i + d = p.sub.length → n ≤ m + 1 → HT Tryd.prog Tryd.f48.ntmps (pt Tryd.f48 0) (stP0 p m n i) (EndsA Γ (.pure [] (.int .i64 (min (n + partsPs (p.sub.drop i) + partsFs p.test) (m + 1) : Nat))) Tryd.f48) := by
  intro d
  induction d with
  | zero =>
    intro i n h hn
    rw [List.drop_of_length_le (by omega)]
    have k := sP1_l p m hm hl2 hc2 p.test.length 0 n (Nat.zero_add _) hn
    rw [List.drop_zero] at k
    have e : n + partsPs [] + partsFs p.test = n + partsFs p.test := by simp only [partsPs]; omega
    rw [e]
    exact sP0_e p m n i _ (.inl (by omega)) k
  | succ d ih =>
    intro i n h hn
    rcases Nat.lt_or_ge m n with h1 | h1
    · have k := sP1_l p m hm hl2 hc2 p.test.length 0 n (Nat.zero_add _) hn
      rw [List.drop_zero] at k
      have e : min (n + partsPs (p.sub.drop i) + partsFs p.test) (m + 1) = min (n + partsFs p.test) (m + 1) := by omega
      rw [e]
      exact sP0_e p m n i _ (.inr h1) k
    · have hk := hc _ (getD_mem p.sub i pth0 (by omega)) (m - n) (by omega)
      have e2 : partsPs (p.sub.drop i) = partsP (p.sub.getD i pth0) + partsPs (p.sub.drop (i + 1)) := by rw [drop_cons p.sub i pth0 (by omega)]; simp only [partsPs]
      have k := ih (i + 1) (n + min (partsP (p.sub.getD i pth0)) (m - n + 1)) (by omega) (by omega)
      have e : min (n + partsPs (p.sub.drop i) + partsFs p.test) (m + 1) = min (n + min (partsP (p.sub.getD i pth0)) (m - n + 1) + partsPs (p.sub.drop (i + 1)) + partsFs p.test) (m + 1) := by rw [e2]; omega
      rw [e]
      exact sP0_h p m n i _ (min (partsP (p.sub.getD i pth0)) (m - n + 1)) (by omega) hl hm h1 (by omega) hk k
theorem sQ1_l (p : Flt) (m : Nat) (hm : m ≤ 1000) (hl : p.way.length ≤ 1048600) (hc : ∀ q ∈ p.way, ∀ k : Nat, k ≤ 1000 → Ctr Tryd.prog 48 [.agg (pthL q), .int .i64 k] (.int .i64 (min (partsP q) (k + 1) : Nat))) : ∀ d i n, i + d = p.way.length → n ≤ m + 1 → HT Tryd.prog Tryd.f65.ntmps (pt Tryd.f65 1) (stQ1 p m n i) (EndsA Γ (.pure [] (.int .i64 (min (n + partsPs (p.way.drop i)) (m + 1) : Nat))) Tryd.f65) := by
  intro d
  induction d with
  | zero =>
    intro i n h hn
    rw [List.drop_of_length_le (by omega)]
    have e : min (n + partsPs []) (m + 1) = n := by simp only [partsPs]; omega
    rw [e]
    exact sQ1_e p m n i (.inl (by omega))
  | succ d ih =>
    intro i n h hn
    rcases Nat.lt_or_ge m n with h1 | h1
    · have e : min (n + partsPs (p.way.drop i)) (m + 1) = n := by omega
      rw [e]
      exact sQ1_e p m n i (.inr h1)
    · have hk := hc _ (getD_mem p.way i pth0 (by omega)) (m - n) (by omega)
      have e2 : partsPs (p.way.drop i) = partsP (p.way.getD i pth0) + partsPs (p.way.drop (i + 1)) := by rw [drop_cons p.way i pth0 (by omega)]; simp only [partsPs]
      have k := ih (i + 1) (n + min (partsP (p.way.getD i pth0)) (m - n + 1)) (by omega) (by omega)
      have e : min (n + partsPs (p.way.drop i)) (m + 1) = min (n + min (partsP (p.way.getD i pth0)) (m - n + 1) + partsPs (p.way.drop (i + 1))) (m + 1) := by rw [e2]; omega
      rw [e]
      exact sQ1_h p m n i _ (min (partsP (p.way.getD i pth0)) (m - n + 1)) (by omega) hl hm h1 (by omega) hk k
theorem sQ0_l (p : Flt) (m : Nat) (hm : m ≤ 1000) (hl : p.sub.length ≤ 1048600) (hl2 : p.way.length ≤ 1048600) (hc : ∀ q ∈ p.sub, ∀ k : Nat, k ≤ 1000 → Ctr Tryd.prog 65 [.agg (fltL q), .int .i64 k] (.int .i64 (min (partsF q) (k + 1) : Nat))) (hc2 : ∀ q ∈ p.way, ∀ k : Nat, k ≤ 1000 → Ctr Tryd.prog 48 [.agg (pthL q), .int .i64 k] (.int .i64 (min (partsP q) (k + 1) : Nat))) : ∀ d i n, i + d = p.sub.length → n ≤ m + 1 → HT Tryd.prog Tryd.f65.ntmps (pt Tryd.f65 0) (stQ0 p m n i) (EndsA Γ (.pure [] (.int .i64 (min (n + partsFs (p.sub.drop i) + partsPs p.way) (m + 1) : Nat))) Tryd.f65) := by
  intro d
  induction d with
  | zero =>
    intro i n h hn
    rw [List.drop_of_length_le (by omega)]
    have k := sQ1_l p m hm hl2 hc2 p.way.length 0 n (Nat.zero_add _) hn
    rw [List.drop_zero] at k
    have e : n + partsFs [] + partsPs p.way = n + partsPs p.way := by simp only [partsFs]; omega
    rw [e]
    exact sQ0_e p m n i _ (.inl (by omega)) k
  | succ d ih =>
    intro i n h hn
    rcases Nat.lt_or_ge m n with h1 | h1
    · have k := sQ1_l p m hm hl2 hc2 p.way.length 0 n (Nat.zero_add _) hn
      rw [List.drop_zero] at k
      have e : min (n + partsFs (p.sub.drop i) + partsPs p.way) (m + 1) = min (n + partsPs p.way) (m + 1) := by omega
      rw [e]
      exact sQ0_e p m n i _ (.inr h1) k
    · have hk := hc _ (getD_mem p.sub i flt0 (by omega)) (m - n) (by omega)
      have e2 : partsFs (p.sub.drop i) = partsF (p.sub.getD i flt0) + partsFs (p.sub.drop (i + 1)) := by rw [drop_cons p.sub i flt0 (by omega)]; simp only [partsFs]
      have k := ih (i + 1) (n + min (partsF (p.sub.getD i flt0)) (m - n + 1)) (by omega) (by omega)
      have e : min (n + partsFs (p.sub.drop i) + partsPs p.way) (m + 1) = min (n + min (partsF (p.sub.getD i flt0)) (m - n + 1) + partsFs (p.sub.drop (i + 1)) + partsPs p.way) (m + 1) := by rw [e2]; omega
      rw [e]
      exact sQ0_h p m n i _ (min (partsF (p.sub.getD i flt0)) (m - n + 1)) (by omega) hl hm h1 (by omega) hk k

mutual
theorem sizeP_ctr (p : Pth) (hok : p.ok) (m : Nat) (hm : m ≤ 1000) : Ctr Tryd.prog 48 [.agg (pthL p), .int .i64 m] (.int .i64 (min (partsP p) (m + 1) : Nat)) := by
  have ho := Pth.ok_i hok
  have k := sP0_l p m hm ho.1 ho.2.1 (fun q hq k hk => have := sub_lt p q hq; sizeP_ctr q (ho.2.2.1 q hq) k hk) (fun q hq k hk => have := test_lt p q hq; sizeQ_ctr q (ho.2.2.2 q hq) k hk) p.sub.length 0 1 (Nat.zero_add _) (by omega)
  rw [List.drop_zero, ← partsP_eq] at k
  exact sP_p p m _ k
termination_by SizeOf.sizeOf p
theorem sizeQ_ctr (p : Flt) (hok : p.ok) (m : Nat) (hm : m ≤ 1000) : Ctr Tryd.prog 65 [.agg (fltL p), .int .i64 m] (.int .i64 (min (partsF p) (m + 1) : Nat)) := by
  have ho := Flt.ok_i hok
  have k := sQ0_l p m hm ho.2.2.1 ho.2.2.2.1 (fun q hq k hk => have := fsub_lt p q hq; sizeQ_ctr q (ho.2.2.2.2.1 q hq) k hk) (fun q hq k hk => have := way_lt p q hq; sizeP_ctr q (ho.2.2.2.2.2 q hq) k hk) p.sub.length 0 1 (Nat.zero_add _) (by omega)
  rw [List.drop_zero, ← partsF_eq] at k
  exact sQ_p p m _ k
termination_by SizeOf.sizeOf p
end
mutual
theorem filtersP_le : ∀ p : Pth, (filtersP p).length ≤ partsP p
  | .mk _ sub test => by
    simp only [filtersP, partsP, List.length_append]
    have h1 := filtersPs_le sub
    have h2 := withinFs_le test
    omega
theorem filtersPs_le : ∀ l : List Pth, (filtersPs l).length ≤ partsPs l
  | [] => by simp [filtersPs]
  | p :: r => by
    simp only [filtersPs, partsPs, List.length_append]
    have h1 := filtersP_le p
    have h2 := filtersPs_le r
    omega
theorem withinF_le : ∀ f : Flt, (withinF f).length ≤ partsF f
  | .mk o n v sub way => by
    simp only [withinF, partsF, List.length_append, List.length_cons]
    have h1 := withinFs_le sub
    have h2 := filtersPs_le way
    omega
theorem withinFs_le : ∀ l : List Flt, (withinFs l).length ≤ partsFs l
  | [] => by simp [withinFs]
  | f :: r => by
    simp only [withinFs, partsFs, List.length_append]
    have h1 := withinF_le f
    have h2 := withinFs_le r
    omega
end

theorem size23_ctr (p : Pth) (hok : p.ok) : Ctr Tryd.prog 23 [.agg (pthL p)] (.int .i64 (min (partsP p) 65 : Nat)) :=
  Ctr.mk Γ_ok Tryd.func23 (by kernel_rfl) Tryd.call23 [] (by kernel_rfl) (HT.walk Γ_ok mo_ok (⟨([(4, .call [] (.int .i64 (min (partsP p) 65 : Nat)))] ++ []), sp23, [], [], .pure [] (.int .i64 (min (partsP p) 65 : Nat))⟩ : Wk) 4000 (T := .ob ((3 : Nat) ≤ (3 : Nat)) (.ob (Ctr Tryd.prog 48 [AV.agg (pthL p), AV.int .i64 (64 : Int)] (AV.int .i64 (↑(min (partsP p) (65 : Nat)) : Int))) (.ob ((↑(min (partsP p) (65 : Nat)) : Int) = (↑(min (partsP p) (65 : Nat)) : Int)) (.tt)))) (by kernel_rfl) (by
    simp only [PT.holds, true_implies, Bool.false_eq_true, Bool.true_eq_false, false_implies, true_and, and_true]
    exact ⟨by omega, sizeP_ctr p hok 64 (by omega)⟩))
theorem rightp2_p (p : Pth) (hok : p.ok) (b : Bool) (hb : (b = true → p.r) ∧ Ctr Tryd.prog 24 [.agg (pthL p), .int .i64 16] (.bool b)) : ∃ x : Bool, (x = true → p.r ∧ partsP p ≤ 64) ∧ Ctr Tryd.prog 10 [.agg (pthL p)] (.bool x) := by
    have H : ∃ x : Bool, (x = true → p.r ∧ partsP p ≤ 64) ∧ PT.holds Tryd.prog Tryd.f10.ntmps (EndsA Γ (.pure [] (.bool x)) Tryd.f10) (.ob ((3 : Nat) ≤ (3 : Nat)) (.ob (Ctr Tryd.prog 23 [AV.agg (pthL p)] (AV.int .i64 (↑(min (partsP p) (65 : Nat)) : Int))) (.split (decide ((↑(min (partsP p) (65 : Nat)) : Int) ≤ (64 : Int))) (.ob ((3 : Nat) ≤ (3 : Nat)) (.ob (Ctr Tryd.prog 24 [AV.agg (pthL p), AV.int .i64 (16 : Int)] (AV.bool b)) (.ob (b = x) (.tt)))) (.ob (false = x) (.tt))))) := by
      simp only [PT.holds, true_implies, Bool.false_eq_true, Bool.true_eq_false, false_implies, true_and, and_true]
      (repeat' first | exact ⟨_, triv, rfl, trivial⟩ | exact ⟨_, triv, rfl⟩ | refine ex_split (fun _ => ?_) (fun _ => ?_) | refine ex_ob ?_ ?_)
      all_goals first | exact hb.2 | exact size23_ctr p hok | omega | (first | exact ⟨_, (fun h => absurd h (by decide)), rfl, trivial⟩ | exact ⟨_, (fun h => absurd h (by decide)), rfl⟩) | exact ⟨_, fun h => ⟨hb.1 h, by have := of_decide_eq_true ‹decide (((min (partsP p) 65 : Nat) : Int) ≤ 64) = true›; omega⟩, rfl⟩
    obtain ⟨x, hR, hx⟩ := H
    exact ⟨x, hR, Ctr.mk Γ_ok Tryd.func10 (by kernel_rfl) Tryd.call10 [] (by kernel_rfl) (HT.walk Γ_ok mo_ok (⟨([(4, .call [] (.int .i64 (min (partsP p) 65 : Nat))), (8, .call [] (.bool b))] ++ []), sp10, [], [], .pure [] (.bool x)⟩ : Wk) 4000 (by kernel_rfl) hx)⟩
theorem rightp2_ex (p : Pth) (hok : p.ok) : ∃ x : Bool, (x = true → p.r ∧ partsP p ≤ 64) ∧ Ctr Tryd.prog 10 [.agg (pthL p)] (.bool x) := by
  obtain ⟨b, hb⟩ := path_ex p hok 16
  exact rightp2_p p hok b hb
mutual
theorem filtersP_r : ∀ p : Pth, p.r → ∀ f ∈ filtersP p, f.r
  | .mk o sub test, h, f, hf => by
    cases h with
    | mk _ h1 hs ht =>
      simp only [filtersP, List.mem_append] at hf
      rcases hf with hf | hf
      · exact filtersPs_r sub hs f hf
      · exact withinFs_r test ht f hf
theorem filtersPs_r : ∀ l : List Pth, (∀ q ∈ l, q.r) → ∀ f ∈ filtersPs l, f.r
  | [], h, f, hf => by simp [filtersPs] at hf
  | p :: r, h, f, hf => by
    simp only [filtersPs, List.mem_append] at hf
    rcases hf with hf | hf
    · exact filtersP_r p (h p (by simp)) f hf
    · exact filtersPs_r r (fun q hq => h q (by simp [hq])) f hf
theorem withinF_r : ∀ g : Flt, g.r → ∀ f ∈ withinF g, f.r
  | .mk o n v sub way, h, f, hf => by
    have h' := h
    cases h with
    | mk _ h1 hs ht =>
      simp only [withinF, List.mem_append, List.mem_cons] at hf
      rcases hf with hf | hf | hf
      · rw [hf]; exact h'
      · exact withinFs_r sub hs f hf
      · exact filtersPs_r way ht f hf
theorem withinFs_r : ∀ l : List Flt, (∀ q ∈ l, q.r) → ∀ f ∈ withinFs l, f.r
  | [], h, f, hf => by simp [withinFs] at hf
  | g :: r, h, f, hf => by
    simp only [withinFs, List.mem_append] at hf
    rcases hf with hf | hf
    · exact withinF_r g (h g (by simp)) f hf
    · exact withinFs_r r (fun q hq => h q (by simp [hq])) f hf
end
theorem Flt.r_1 {f : Flt} (h : f.r) : f.r1 := by cases h; assumption
theorem spk_of_r (p : Pth) (h : p.r) : spkW p = refW (filtersP p) := spkW_ref p fun f hf h7 => Classical.byContradiction fun hn => by
  have := (Flt.r_1 (filtersP_r p h f hf)).named.2 hn
  omega
theorem filters_64 (p : Pth) (h : partsP p ≤ 64) : (filtersP p).length ≤ 64 := Nat.le_trans (filtersP_le p) h

end Go.Proofs.YteimloiaipiadaaDoor
end

section
set_option linter.unusedVariables false
set_option linter.unusedSimpArgs false
set_option maxRecDepth 100000
namespace Go.Proofs.YteimloiaipiadaaDoor
open Go Go.AX

def nA : Nm := ⟨⟨#[]⟩, ⟨#[97]⟩⟩
def fW : Flt := .mk 4 nA ⟨#[]⟩ [] []
def pW : Pth := .mk 7 [] [fW]
def eB : Ev := ⟨1, ⟨⟨#[]⟩, ⟨#[98]⟩⟩, [], ⟨#[]⟩⟩
def labsA : List Ev := [⟨1, nA, [], ⟨#[]⟩⟩, ⟨1, ⟨⟨#[]⟩, ⟨#[122]⟩⟩, [], ⟨#[]⟩⟩, ⟨2, nm0, [], ⟨#[48]⟩⟩]

theorem awake_p (h11 : Ctr Tryd.prog 11 [.agg (pthL pW)] (.tup [.sl none 3 (evsC labsA) .no, .int .i64 0])) (h15 : Ctr Tryd.prog 15 [.agg (pthL pW), .sl none 3 (evsC labsA) .no, .agg (evC eB)] (.int .i64 1)) : Ctr Tryd.prog 9 [] (.bool true) :=
  Ctr.mk Γ_ok Tryd.func9 (by kernel_rfl) Tryd.call9 [] (by kernel_rfl) (HT.walk Γ_ok mo_ok (⟨([(10, .call [] (.tup [.sl none 3 (evsC labsA) .no, .int .i64 0])), (48, .call [] (.int .i64 1))] ++ []), [], [], [], .pure [] (.bool true)⟩ : Wk) 4000 (T := .ob ((3 : Nat) ≤ (3 : Nat)) (.ob (Ctr Tryd.prog 11 [AV.agg [AV.int .i64 (7 : Int), AV.sl (some true) (0 : Nat) [] .clip, AV.sl (some false) (1 : Nat) [AV.int .i64 (4 : Int), AV.str (ByteArray.mk #[]), AV.str (ByteArray.mk #[(97 : UInt8)]), AV.str (ByteArray.mk #[]), AV.sl none (0 : Nat) [] .no, AV.sl none (0 : Nat) [] .no] .clip]] (AV.tup [AV.sl none (3 : Nat) [AV.int .i64 (1 : Int), AV.str nA.sp, AV.str nA.lo, AV.sl none (0 : Nat) [] .no, AV.str (ByteArray.mk #[]), AV.int .i64 (1 : Int), AV.str (ByteArray.mk #[]), AV.str (ByteArray.mk #[(122 : UInt8)]), AV.sl none (0 : Nat) [] .no, AV.str (ByteArray.mk #[]), AV.int .i64 (2 : Int), AV.str nm0.sp, AV.str nm0.lo, AV.sl none (0 : Nat) [] .no, AV.str (ByteArray.mk #[(48 : UInt8)])] .no, AV.int .i64 (0 : Int)])) (.ob ((0 : Int) ≤ (0 : Int) ∧ (0 : Int) < (↑(3 : Nat) : Int) ∧ Int.toNat (0 : Int) * (5 : Nat) < (evsC labsA).length) (.ob ((0 : Int) ≤ (1 : Int) ∧ (1 : Int) < (↑(3 : Nat) : Int) ∧ Int.toNat (1 : Int) * (5 : Nat) < (evsC labsA).length) (.ob ((0 : Int) ≤ (2 : Int) ∧ (2 : Int) < (↑(3 : Nat) : Int) ∧ Int.toNat (2 : Int) * (5 : Nat) < (evsC labsA).length) (.ob ((3 : Nat) ≤ (3 : Nat)) (.ob (Ctr Tryd.prog 15 [AV.agg [AV.int .i64 (7 : Int), AV.sl (some true) (0 : Nat) [] .clip, AV.sl (some false) (1 : Nat) [AV.int .i64 (4 : Int), AV.str (ByteArray.mk #[]), AV.str (ByteArray.mk #[(97 : UInt8)]), AV.str (ByteArray.mk #[]), AV.sl none (0 : Nat) [] .no, AV.sl none (0 : Nat) [] .no] .clip], AV.sl none (3 : Nat) [AV.int .i64 (1 : Int), AV.str nA.sp, AV.str nA.lo, AV.sl none (0 : Nat) [] .no, AV.str (ByteArray.mk #[]), AV.int .i64 (1 : Int), AV.str (ByteArray.mk #[]), AV.str (ByteArray.mk #[(122 : UInt8)]), AV.sl none (0 : Nat) [] .no, AV.str (ByteArray.mk #[]), AV.int .i64 (2 : Int), AV.str nm0.sp, AV.str nm0.lo, AV.sl none (0 : Nat) [] .no, AV.str (ByteArray.mk #[(48 : UInt8)])] .no, AV.agg [AV.int .i64 (1 : Int), AV.str (ByteArray.mk #[]), AV.str (ByteArray.mk #[(98 : UInt8)]), AV.sl (some true) (0 : Nat) [] .clip, AV.str (ByteArray.mk #[])]] (AV.int .i64 (1 : Int))) (.ob (true = true) (.tt))))))))) (by kernel_rfl) (by
    simp only [PT.holds, true_implies, Bool.false_eq_true, Bool.true_eq_false, false_implies, true_and, and_true]
    have hl : (evsC labsA).length = 15 := rfl
    refine ⟨by omega, h11.args rfl ?_, by omega, by omega, by omega, by omega, h15.args rfl ?_⟩
    all_goals (repeat' first | exact rfl | refine And.intro ?_ ?_)))
theorem pW_ok : pW.ok := by simp [pW, fW, nA, Pth.ok, Flt.ok, oksP, oksF, Nm.ok, ByteArray.size]
theorem pW_filters : filtersP pW = [fW] := by simp [pW, fW, filtersP, filtersPs, withinF, withinFs]
theorem pW_spk : spkW pW = ⟨[nA], [], [], []⟩ := by
  unfold spkW
  rw [pW_filters]
  rfl
theorem othA : othN [nA] = ⟨⟨#[]⟩, ⟨#[122]⟩⟩ := by
  have h : FirstZ [nA] 0 := ⟨by simp, by decide, fun j hj => by omega⟩
  have := other_same [nA] _ 0 (kOf_first bZ (localsF [nA] ++ [bZ0])) h
  unfold othN
  rw [this]
  rfl
theorem anoA : anoT [] = ⟨#[48]⟩ := by
  have hk := (kOf_first ⟨#[]⟩ []).le
  have h0 : kOf ⟨#[]⟩ [] = 0 := by simpa using hk
  unfold anoT
  rw [h0]
  simp only [frR]
  rw [digN_1 0 (by omega)]
  rfl
theorem labsA_eq : labsW (spkW pW) = labsA := by
  rw [pW_spk]
  unfold labsW
  rw [othA, anoA]
  simp [opnW, txtW, labF, labsA]
theorem awake_ctr : Ctr Tryd.prog 9 [] (.bool true) := by
  have h11 := Labels_ctr pW pW_ok (by rw [pW_filters]; decide) (by rw [labsA_eq]; decide)
  rw [labsA_eq] at h11
  have h15 := Class_ctr pW pW_ok (by rw [pW_filters]; decide) labsA eB (by decide) (fun x hx => by simp [labsA] at hx; rcases hx with rfl | rfl | rfl <;> simp) (by decide)
  have e : clsR (spkW pW) eB labsA 0 = 1 := by rw [pW_spk]; decide
  rw [e] at h15
  exact awake_p h11 h15

end Go.Proofs.YteimloiaipiadaaDoor
end

section
set_option linter.unusedVariables false
set_option linter.unusedSimpArgs false
set_option maxRecDepth 100000
namespace Go.Proofs.YteimloiaipiadaaDoor
open Go Go.AX

theorem node_p (e : Ev) (xr xf : Bool) (hr : (xr = true → EvR e ∧ e.nd) ∧ Ctr Tryd.prog 22 [.agg (evC e)] (.bool xr)) (hf : Ctr Tryd.prog 37 [.sl none 1 (evsC [e]) .no] (.bool xf)) : ∃ x : Bool, (x = true → EvR e ∧ e.nd ∧ e.kind ≠ 3) ∧ Ctr Tryd.prog 14 [.agg (evC e)] (.bool x) := by
    have H : ∃ x : Bool, (x = true → EvR e ∧ e.nd ∧ e.kind ≠ 3) ∧ PT.holds Tryd.prog Tryd.f14.ntmps (EndsA Γ (.pure [] (.bool x)) Tryd.f14) (.ob ((5 : Nat) ≤ (5 : Nat)) (.ob (Ctr Tryd.prog 22 [AV.agg (evC e)] (AV.bool xr)) (.split (xr) (.split (!decide (e.kind = (3 : Int))) (.ob ((5 : Nat) ≤ (5 : Nat)) (.ob (Ctr Tryd.prog 37 [AV.sl (some false) (1 : Nat) (evC e) .clip] (AV.bool xf)) (.ob (xf = x) (.tt)))) (.ob (false = x) (.tt))) (.ob (false = x) (.tt))))) := by
      simp only [PT.holds, true_implies, Bool.false_eq_true, Bool.true_eq_false, false_implies, true_and, and_true]
      have hf' : Ctr Tryd.prog 37 [.sl (some false) 1 (evC e) .clip] (.bool xf) := by
        refine hf.args rfl ?_
        refine ⟨rfl, ?_⟩
        simp [evsC, All]
      (repeat' first | exact ⟨_, triv, rfl, trivial⟩ | exact ⟨_, triv, rfl⟩ | refine ex_split (fun _ => ?_) (fun _ => ?_) | refine ex_ob ?_ ?_)
      all_goals first | exact hr.2 | exact hf' | omega | (first | exact ⟨_, (fun h => absurd h (by decide)), rfl, trivial⟩ | exact ⟨_, (fun h => absurd h (by decide)), rfl⟩) | (first | exact ⟨_, (fun _ => ⟨(hr.1 (by assumption)).1, (hr.1 (by assumption)).2, by simpa using ‹(!decide (e.kind = 3)) = true›⟩), rfl, trivial⟩ | exact ⟨_, (fun _ => ⟨(hr.1 (by assumption)).1, (hr.1 (by assumption)).2, by simpa using ‹(!decide (e.kind = 3)) = true›⟩), rfl⟩)
    obtain ⟨x, hR, hx⟩ := H
    exact ⟨x, hR, Ctr.mk Γ_ok Tryd.func14 (by kernel_rfl) Tryd.call14 [] (by kernel_rfl) (HT.walk Γ_ok mo_ok (⟨([(4, .call [] (.bool xr)), (13, .call [] (.bool xf))] ++ []), sp14, [], [], .pure [] (.bool x)⟩ : Wk) 4000 (by kernel_rfl) hx)⟩
theorem labels_law (p : Pth) (x : Bool) (L : List Ev) (c : Int) (h9 : Ctr Tryd.prog 9 [] (.bool true)) (h10 : Ctr Tryd.prog 10 [.agg (pthL p)] (.bool x)) (k : x = true → Ctr Tryd.prog 11 [.agg (pthL p)] (.tup [.sl none L.length (evsC L) .no, .int .i64 c]) ∧ Ctr Tryd.prog 12 [.agg (pthL p)] (.tup [.sl none L.length (evsC L) .no, .int .i64 c]) ∧ Ctr Tryd.prog 13 [.sl none L.length (evsC L) .no, .sl none L.length (evsC L) .no] (.bool true)) : Ctr Tryd.prog 3 [.agg (pthL p)] (.bool true) :=
  Ctr.mk Γ_ok Tryd.func3 (by kernel_rfl) Tryd.call3 [] (by kernel_rfl) (HT.walk Γ_ok mo_ok (⟨([(7, .call [] (.bool true)), (14, .call [] (.bool true)), (11, .call [] (.bool x)), (17, .call [] (.tup [.sl none L.length (evsC L) .no, .int .i64 c])), (22, .call [] (.tup [.sl none L.length (evsC L) .no, .int .i64 c])), (27, .call [] (.bool true))] ++ []), [11], [], [], .pure [] (.bool true)⟩ : Wk) 4000 (T := .ob (Ctr Tryd.prog 9 [] (AV.bool true)) (.ob ((3 : Nat) ≤ (3 : Nat)) (.ob (Ctr Tryd.prog 10 [AV.agg (pthL p)] (AV.bool x)) (.split (x) (.ob ((3 : Nat) ≤ (3 : Nat)) (.ob (Ctr Tryd.prog 11 [AV.agg (pthL p)] (AV.tup [AV.sl none L.length (evsC L) .no, AV.int .i64 c])) (.ob ((3 : Nat) ≤ (3 : Nat)) (.ob (Ctr Tryd.prog 12 [AV.agg (pthL p)] (AV.tup [AV.sl none L.length (evsC L) .no, AV.int .i64 c])) (.ob (Ctr Tryd.prog 13 [AV.sl none L.length (evsC L) .no, AV.sl none L.length (evsC L) .no] (AV.bool true)) (.ob (decide (c = c) = true) (.tt))))))) (.ob (Ctr Tryd.prog 9 [] (AV.bool true)) (.ob (true = true) (.tt))))))) (by kernel_rfl) (by
    simp only [PT.holds, true_implies, Bool.false_eq_true, Bool.true_eq_false, false_implies, true_and, and_true]
    exact ⟨h9, by omega, h10, fun h => ⟨by omega, (k h).1, by omega, (k h).2.1, (k h).2.2, by simp⟩, fun _ => h9⟩))
theorem node_ex (e : Ev) (he : e.ok) : ∃ x : Bool, (x = true → EvR e ∧ e.nd ∧ e.kind ≠ 3) ∧ Ctr Tryd.prog 14 [.agg (evC e)] (.bool x) := by
  obtain ⟨xr, hr⟩ := evr2_ex e he
  obtain ⟨xf, _, hf⟩ := fewe_ex [e] (by simp)
  exact node_p e xr xf hr hf
/-! How long the attributes of labels are. -/
theorem labF_attrs : ∀ (A : List Nm) (V : List (List ByteArray)) (e x : Ev), x ∈ labF A V e → x.attrs.length ≤ e.attrs.length + A.length
  | [], V, e, x, h => by simp [labF] at h; subst h; simp
  | n :: A, [], e, x, h => by simp [labF] at h; subst h; simp
  | n :: A, v :: V, e, x, h => by
    simp only [labF, List.mem_append, List.mem_flatMap] at h
    rcases h with h | ⟨y, _, h⟩
    · have := labF_attrs A V e x h
      simp; omega
    · have := labF_attrs A V (addA e n y) x h
      simp [addA] at this ⊢
      omega
theorem labsW_attrs (W : Wd) (x : Ev) (h : x ∈ labsW W) : x.attrs.length ≤ W.A.length := by
  unfold labsW at h
  rcases List.mem_append.1 h with h | h
  · unfold opnW at h
    obtain ⟨n, _, h⟩ := List.mem_flatMap.1 h
    have := labF_attrs _ _ _ _ h
    simpa using this
  · unfold txtW at h
    obtain ⟨s, _, rfl⟩ := List.mem_map.1 h
    simp
/-- What is answered. -/
noncomputable def ansL (W : Wd) : List Ev := if (labsW W).length ≤ 24 then labsW W else []
noncomputable def ansC (W : Wd) : Int := if (labsW W).length ≤ 24 then 0 else 13
theorem Labels_all (p : Pth) (hok : p.ok) (hl : (filtersP p).length ≤ 64) : Ctr Tryd.prog 11 [.agg (pthL p)] (.tup [.sl none (ansL (spkW p)).length (evsC (ansL (spkW p))) .no, .int .i64 (ansC (spkW p))]) := by
  unfold ansL ansC
  by_cases h : (labsW (spkW p)).length ≤ 24
  · rw [if_pos h, if_pos h]
    exact Labels_ctr p hok hl h
  · rw [if_neg h, if_neg h]
    exact Labels_ctr_f p hok hl (by omega)
theorem ans_good (W : Wd) : Good (ansL W) (ansC W) (labsW W) := by
  unfold ansL ansC
  refine ⟨fun h => ?_, fun h => ?_⟩
  · rw [if_pos h, if_pos h]; exact ⟨rfl, rfl⟩
  · rw [if_neg (by omega), if_neg (by omega)]; exact ⟨rfl, rfl⟩
theorem ansL_len (W : Wd) : (ansL W).length ≤ 24 := by
  unfold ansL; split
  · assumption
  · simp
theorem ansL_mem (W : Wd) (x : Ev) (h : x ∈ ansL W) : x ∈ labsW W := by
  unfold ansL at h; split at h
  · exact h
  · simp at h
theorem refLabels_all (p : Pth) (hok : p.ok) (hr : p.r) (hl : (filtersP p).length ≤ 64) : Ctr Tryd.prog 12 [.agg (pthL p)] (.tup [.sl none (ansL (spkW p)).length (evsC (ansL (spkW p))) .no, .int .i64 (ansC (spkW p))]) := by
  obtain ⟨h1, h2, h3, h4, h5⟩ := speaks_small p hl
  have hm := make_ctr_spk p hok (by omega) (fun f hf h7 => Classical.byContradiction fun hn => by
    have := (Flt.r_1 (filtersP_r p hr f hf)).named.2 hn
    omega)
  exact refLabels_ctr p (spkW p) (by omega) h4 (fun v hv => by have := h5 v hv; omega) (by omega) (by omega) hm _ _ (ans_good _)
/-- The law of labels. -/
theorem labelsLaw_ctr (p : Pth) (hok : p.ok) : Ctr Tryd.prog 3 [.agg (pthL p)] (.bool true) := by
  obtain ⟨x, hx, h10⟩ := rightp2_ex p hok
  refine labels_law p x (ansL (spkW p)) (ansC (spkW p)) awake_ctr h10 (fun h => ?_)
  have hl := filters_64 p (hx h).2
  have hs := speaks_small p hl
  exact ⟨Labels_all p hok hl, refLabels_all p hok (hx h).1 hl, same_ctr _ (by have := ansL_len (spkW p); omega) (fun e he => by have := labsW_attrs _ _ (ansL_mem _ _ he); omega)⟩

end Go.Proofs.YteimloiaipiadaaDoor
end

section
set_option linter.unusedVariables false
set_option linter.unusedSimpArgs false
set_option maxRecDepth 100000
namespace Go.Proofs.YteimloiaipiadaaDoor
open Go Go.AX Go.RowKit Go.WideShapes Go.ChangeShapes

/-! ### The bulk -/
theorem bulk_part {H : Type} {d : DataW H} {l : List (DataW H)} (h : d ∈ l) : Rows.uptoBulk d ≤ Rows.uptoBulkAll l := by
  induction l with
  | nil => cases h
  | cons x r ih =>
    simp only [Rows.uptoBulkAll]
    cases List.mem_cons.1 h with
    | inl e => subst e; omega
    | inr e => have := ih e; omega
theorem bulk_one {H : Type} (d : DataW H) : 1 ≤ Rows.uptoBulk d := by
  cases d with
  | lit l => cases l <;> simp [Rows.uptoBulk]
  | nil => simp [Rows.uptoBulk]
  | ptr d => simp [Rows.uptoBulk]
  | slice elems spare => simp [Rows.uptoBulk]
  | agg parts => simp [Rows.uptoBulk]
  | iface t d => simp [Rows.uptoBulk]
  | map entries => simp [Rows.uptoBulk]
  | held h => simp [Rows.uptoBulk]
theorem bulk_length {H : Type} (l : List (DataW H)) : l.length ≤ Rows.uptoBulkAll l := by
  induction l with
  | nil => simp [Rows.uptoBulkAll]
  | cons x r ih => have := bulk_one x; simp only [Rows.uptoBulkAll, List.length_cons]; omega
theorem bulk_meas (H : Type) : Meas (Rows.uptoBulk (H := H)) := by
  refine ⟨fun es sp x h => ?_, fun es sp => ?_, fun es x h => ?_, fun b => ?_⟩
  · have := bulk_part h
    simp only [Rows.uptoBulk]; omega
  · have := bulk_length es
    simp only [Rows.uptoBulk]; omega
  · have := bulk_part h
    simp only [Rows.uptoBulk]; omega
  · simp only [Rows.uptoBulk]; omega

/-! ### Names, attributes, events, paths -/
section
variable {H : Type} {enc : TypeId × Value → H} {w : World} {base : Nat} {spare : Nat → Bool} {held : Bool}
theorem open_str {n : Nat} {cs : List Value} {x : DataW H × List MemPlace} (h : DataW.trod enc Tryd.prog w base spare held n 9 cs = some x) (hx : Rows.uptoBulk x.1 ≤ 1048576) :
    ∃ s : ByteArray, cs = [.string s] ∧ s.size ≤ 1048600 := by
  obtain ⟨s, rfl, rfl, _⟩ := DataW.trod_string Tryd.underlying9 h
  have := (bulk_meas H).str s.data.toList
  have e : s.data.toList.length = s.size := by simp
  simp only at hx
  exact ⟨s, rfl, by omega⟩
theorem open_nm {n : Nat} {cs : List Value} {x : DataW H × List MemPlace} (h : DataW.trod enc Tryd.prog w base spare held n 36 cs = some x) (hx : Rows.uptoBulk x.1 ≤ 1048576) :
    ∃ a : Nm, Reps w (heldAt w) (nmC a) cs ∧ a.ok := by
  obtain ⟨xs, m, rfl, rfl, hl, hn, hf⟩ := DataW.trod_struct Tryd.underlying36 h
  have c36 : Tryd.prog.cellsOf 36 = 2 := by kernel_rfl
  have c9 : Tryd.prog.cellsOf 9 = 1 := by kernel_rfl
  rw [c36] at hl
  match cs, hl with
  | [c0, c1], _ =>
  have h0 : DataW.trod enc Tryd.prog w base spare held m 9 (([c0, c1].drop 0).take (Tryd.prog.cellsOf 9)) = _ := hf 0 _ rfl
  have h1 : DataW.trod enc Tryd.prog w base spare held m 9 (([c0, c1].drop 1).take (Tryd.prog.cellsOf 9)) = _ := hf 1 _ rfl
  simp only [c9] at h0 h1
  match xs, hn with
  | [x0, x1], _ =>
  have b0 := Nat.le_trans ((bulk_meas H).ag [x0.1, x1.1] x0.1 (by simp)) hx
  have b1 := Nat.le_trans ((bulk_meas H).ag [x0.1, x1.1] x1.1 (by simp)) hx
  obtain ⟨s0, e0, k0⟩ := open_str (x := x0) (by simpa using h0) b0
  obtain ⟨s1, e1, k1⟩ := open_str (x := x1) (by simpa using h1) b1
  simp only [List.drop_zero, List.take_succ_cons, List.take_zero, List.drop_succ_cons, List.cons.injEq, and_true] at e0 e1
  subst e0; subst e1
  exact ⟨⟨s0, s1⟩, .append (.one (.str _ _) rfl) (.one (.str _ _) rfl), k0, k1⟩
theorem open_atr {n : Nat} {cs : List Value} {x : DataW H × List MemPlace} (h : DataW.trod enc Tryd.prog w base spare held n 58 cs = some x) (hx : Rows.uptoBulk x.1 ≤ 1048576) :
    ∃ a : Atr, Reps w (heldAt w) (atC a) cs ∧ a.ok := by
  obtain ⟨xs, m, rfl, rfl, hl, hn, hf⟩ := DataW.trod_struct Tryd.underlying58 h
  have c58 : Tryd.prog.cellsOf 58 = 3 := by kernel_rfl
  have c9 : Tryd.prog.cellsOf 9 = 1 := by kernel_rfl
  have c36 : Tryd.prog.cellsOf 36 = 2 := by kernel_rfl
  rw [c58] at hl
  match cs, hl with
  | [v0, v1, v2], _ =>
  have h0 : DataW.trod enc Tryd.prog w base spare held m 36 (([v0, v1, v2].drop 0).take (Tryd.prog.cellsOf 36)) = _ := hf 0 _ rfl
  have h1 : DataW.trod enc Tryd.prog w base spare held m 9 (([v0, v1, v2].drop 2).take (Tryd.prog.cellsOf 9)) = _ := hf 1 _ rfl
  simp only [c9, c36] at h0 h1
  match xs, hn with
  | [x0, x1], _ =>
  have b0 := Nat.le_trans ((bulk_meas H).ag [x0.1, x1.1] x0.1 (by simp)) hx
  have b1 := Nat.le_trans ((bulk_meas H).ag [x0.1, x1.1] x1.1 (by simp)) hx
  obtain ⟨a, r0, k0⟩ := open_nm (x := x0) (by simpa using h0) b0
  obtain ⟨s1, e1, k1⟩ := open_str (x := x1) (by simpa using h1) b1
  simp only [List.drop_zero, List.take_succ_cons, List.take_zero, List.drop_succ_cons, List.cons.injEq, and_true] at e1 r0
  subst e1
  exact ⟨⟨a, s1⟩, Reps.append r0 (.one (.str _ _) rfl), k0, k1⟩
theorem open_atrs {n : Nat} {cs : List Value} {x : DataW H × List MemPlace} (h : DataW.trod enc Tryd.prog w base spare held n 37 cs = some x) (hx : Rows.uptoBulk x.1 ≤ 1048576) :
    ∃ l : List Atr, Reps w (heldAt w) [.sl none l.length (atsC l) .no] cs ∧ l.length ≤ 1048576 ∧ ∀ a ∈ l, a.ok :=
  open_list atC Atr.ok atC_len (by omega) (by kernel_rfl) Tryd.underlying37 (bulk_meas H) (fun n' _ cs x hh hb => open_atr hh hb) h hx
theorem open_int64 {n : Nat} {cs : List Value} {x : DataW H × List MemPlace} (h : DataW.trod enc Tryd.prog w base spare held n 3 cs = some x) : ∃ k : Int, cs = [.int .i64 k] ∧ (Lit.int .i64 k).wf = true := by
  obtain ⟨k, rfl, _, h⟩ := DataW.trod_int Tryd.underlying3 h
  exact ⟨k, rfl, h⟩
theorem open_ev {n : Nat} {cs : List Value} {x : DataW H × List MemPlace} (h : DataW.trod enc Tryd.prog w base spare held n 39 cs = some x) (hx : Rows.uptoBulk x.1 ≤ 1048576) :
    ∃ a : Ev, Reps w (heldAt w) (evC a) cs ∧ a.ok := by
  obtain ⟨xs, m, rfl, rfl, hl, hn, hf⟩ := DataW.trod_struct Tryd.underlying39 h
  have c39 : Tryd.prog.cellsOf 39 = 5 := by kernel_rfl
  have c9 : Tryd.prog.cellsOf 9 = 1 := by kernel_rfl
  have c3 : Tryd.prog.cellsOf 3 = 1 := by kernel_rfl
  have c36 : Tryd.prog.cellsOf 36 = 2 := by kernel_rfl
  have c37 : Tryd.prog.cellsOf 37 = 1 := by kernel_rfl
  rw [c39] at hl
  match cs, hl with
  | [v0, v1, v2, v3, v4], _ =>
  have h0 : DataW.trod enc Tryd.prog w base spare held m 3 (([v0, v1, v2, v3, v4].drop 0).take (Tryd.prog.cellsOf 3)) = _ := hf 0 _ rfl
  have h1 : DataW.trod enc Tryd.prog w base spare held m 36 (([v0, v1, v2, v3, v4].drop 1).take (Tryd.prog.cellsOf 36)) = _ := hf 1 _ rfl
  have h2 : DataW.trod enc Tryd.prog w base spare held m 37 (([v0, v1, v2, v3, v4].drop 3).take (Tryd.prog.cellsOf 37)) = _ := hf 2 _ rfl
  have h3 : DataW.trod enc Tryd.prog w base spare held m 9 (([v0, v1, v2, v3, v4].drop 4).take (Tryd.prog.cellsOf 9)) = _ := hf 3 _ rfl
  simp only [c9, c36, c3, c37] at h0 h1 h2 h3
  match xs, hn with
  | [x0, x1, x2, x3], _ =>
  have b1 := Nat.le_trans ((bulk_meas H).ag [x0.1, x1.1, x2.1, x3.1] x1.1 (by simp)) hx
  have b2 := Nat.le_trans ((bulk_meas H).ag [x0.1, x1.1, x2.1, x3.1] x2.1 (by simp)) hx
  have b3 := Nat.le_trans ((bulk_meas H).ag [x0.1, x1.1, x2.1, x3.1] x3.1 (by simp)) hx
  obtain ⟨k, e0, _⟩ := open_int64 (x := x0) (by simpa using h0)
  obtain ⟨a, r1, k1⟩ := open_nm (x := x1) (by simpa using h1) b1
  obtain ⟨l, r2, k2, k2'⟩ := open_atrs (x := x2) (by simpa using h2) b2
  obtain ⟨s, e3, k3⟩ := open_str (x := x3) (by simpa using h3) b3
  simp only [List.drop_zero, List.take_succ_cons, List.take_zero, List.drop_succ_cons, List.cons.injEq, and_true] at e0 r1 r2 e3
  subst e0; subst e3
  exact ⟨⟨k, a, l, s⟩, Reps.append (.one (.int _ _ _) rfl) (Reps.append r1 (Reps.append r2 (.one (.str _ _) rfl))), k1, k3, Nat.le_trans k2 (by omega), k2'⟩
theorem open_evs {n : Nat} {cs : List Value} {x : DataW H × List MemPlace} (h : DataW.trod enc Tryd.prog w base spare held n 28 cs = some x) (hx : Rows.uptoBulk x.1 ≤ 1048576) :
    ∃ l : List Ev, Reps w (heldAt w) [.sl none l.length (evsC l) .no] cs ∧ l.length ≤ 1048576 ∧ okEvs l :=
  open_list evC Ev.ok evC_len (by omega) (by kernel_rfl) Tryd.underlying28 (bulk_meas H) (fun n' _ cs x hh hb => open_ev hh hb) h hx
theorem oksP_of : ∀ {l : List Pth}, (∀ p ∈ l, p.ok) → oksP l
  | [], _ => trivial
  | p :: r, h => ⟨h p List.mem_cons_self, oksP_of fun q hq => h q (List.mem_cons_of_mem _ hq)⟩
theorem oksF_of : ∀ {l : List Flt}, (∀ p ∈ l, p.ok) → oksF l
  | [], _ => trivial
  | p :: r, h => ⟨h p List.mem_cons_self, oksF_of fun q hq => h q (List.mem_cons_of_mem _ hq)⟩
theorem open_pf : ∀ (n : Nat), (∀ (cs : List Value) (x : DataW H × List MemPlace), DataW.trod enc Tryd.prog w base spare held n 25 cs = some x → Rows.uptoBulk x.1 ≤ 1048576 → ∃ a : Pth, Reps w (heldAt w) (pthC a) cs ∧ a.ok) ∧
    (∀ (cs : List Value) (x : DataW H × List MemPlace), DataW.trod enc Tryd.prog w base spare held n 55 cs = some x → Rows.uptoBulk x.1 ≤ 1048576 → ∃ a : Flt, Reps w (heldAt w) (fltC a) cs ∧ a.ok) := by
  intro n
  induction n using Nat.strongRecOn with
  | ind n ih =>
  have hP : ∀ n', n' < n → ∀ {cs : List Value} {x : DataW H × List MemPlace}, DataW.trod enc Tryd.prog w base spare held n' 22 cs = some x → Rows.uptoBulk x.1 ≤ 1048576 → ∃ l : List Pth, Reps w (heldAt w) [.sl none l.length (pthsC l) .no] cs ∧ l.length ≤ 1048576 ∧ ∀ a ∈ l, a.ok := by
    intro n' hn' cs x h hx
    obtain ⟨l, a, b⟩ := open_list pthC Pth.ok pthC_len (by omega) (by kernel_rfl) Tryd.underlying22 (bulk_meas H) (fun n'' hn'' cs x hh hb => (ih n'' (by omega)).1 cs x hh hb) h hx
    exact ⟨l, by rw [pthsC_eq]; exact a, b⟩
  have hF : ∀ n', n' < n → ∀ {cs : List Value} {x : DataW H × List MemPlace}, DataW.trod enc Tryd.prog w base spare held n' 23 cs = some x → Rows.uptoBulk x.1 ≤ 1048576 → ∃ l : List Flt, Reps w (heldAt w) [.sl none l.length (fltsC l) .no] cs ∧ l.length ≤ 1048576 ∧ ∀ a ∈ l, a.ok := by
    intro n' hn' cs x h hx
    obtain ⟨l, a, b⟩ := open_list fltC Flt.ok fltC_len (by omega) (by kernel_rfl) Tryd.underlying23 (bulk_meas H) (fun n'' hn'' cs x hh hb => (ih n'' (by omega)).2 cs x hh hb) h hx
    exact ⟨l, by rw [fltsC_eq]; exact a, b⟩
  have c9 : Tryd.prog.cellsOf 9 = 1 := by kernel_rfl
  have c3 : Tryd.prog.cellsOf 3 = 1 := by kernel_rfl
  have c36 : Tryd.prog.cellsOf 36 = 2 := by kernel_rfl
  have c22 : Tryd.prog.cellsOf 22 = 1 := by kernel_rfl
  have c23 : Tryd.prog.cellsOf 23 = 1 := by kernel_rfl
  refine ⟨fun cs x h hx => ?_, fun cs x h hx => ?_⟩
  · obtain ⟨xs, m, rfl, rfl, hl, hn, hf⟩ := DataW.trod_struct Tryd.underlying25 h
    have c25 : Tryd.prog.cellsOf 25 = 3 := by kernel_rfl
    rw [c25] at hl
    match cs, hl with
    | [v0, v1, v2], _ =>
    have h0 : DataW.trod enc Tryd.prog w base spare held m 3 (([v0, v1, v2].drop 0).take (Tryd.prog.cellsOf 3)) = _ := hf 0 _ rfl
    have h1 : DataW.trod enc Tryd.prog w base spare held m 22 (([v0, v1, v2].drop 1).take (Tryd.prog.cellsOf 22)) = _ := hf 1 _ rfl
    have h2 : DataW.trod enc Tryd.prog w base spare held m 23 (([v0, v1, v2].drop 2).take (Tryd.prog.cellsOf 23)) = _ := hf 2 _ rfl
    simp only [c3, c22, c23] at h0 h1 h2
    match xs, hn with
    | [x0, x1, x2], _ =>
    have b1 := Nat.le_trans ((bulk_meas H).ag [x0.1, x1.1, x2.1] x1.1 (by simp)) hx
    have b2 := Nat.le_trans ((bulk_meas H).ag [x0.1, x1.1, x2.1] x2.1 (by simp)) hx
    obtain ⟨k, e0, _⟩ := open_int64 (x := x0) (by simpa using h0)
    obtain ⟨l, r1, k1, k1'⟩ := hP m (by omega) (x := x1) (by simpa using h1) b1
    obtain ⟨l2, r2, k2, k2'⟩ := hF m (by omega) (x := x2) (by simpa using h2) b2
    simp only [List.drop_zero, List.take_succ_cons, List.take_zero, List.drop_succ_cons, List.cons.injEq, and_true] at e0 r1 r2
    subst e0
    exact ⟨.mk k l l2, by rw [pthC]; exact Reps.append (.one (.int _ _ _) rfl) (Reps.append r1 r2), by rw [Pth.ok]; exact ⟨by omega, by omega, oksP_of k1', oksF_of k2'⟩⟩
  · obtain ⟨xs, m, rfl, rfl, hl, hn, hf⟩ := DataW.trod_struct Tryd.underlying55 h
    have c55 : Tryd.prog.cellsOf 55 = 6 := by kernel_rfl
    rw [c55] at hl
    match cs, hl with
    | [v0, v1, v2, v3, v4, v5], _ =>
    have h0 : DataW.trod enc Tryd.prog w base spare held m 3 (([v0, v1, v2, v3, v4, v5].drop 0).take (Tryd.prog.cellsOf 3)) = _ := hf 0 _ rfl
    have h1 : DataW.trod enc Tryd.prog w base spare held m 36 (([v0, v1, v2, v3, v4, v5].drop 1).take (Tryd.prog.cellsOf 36)) = _ := hf 1 _ rfl
    have h2 : DataW.trod enc Tryd.prog w base spare held m 9 (([v0, v1, v2, v3, v4, v5].drop 3).take (Tryd.prog.cellsOf 9)) = _ := hf 2 _ rfl
    have h3 : DataW.trod enc Tryd.prog w base spare held m 23 (([v0, v1, v2, v3, v4, v5].drop 4).take (Tryd.prog.cellsOf 23)) = _ := hf 3 _ rfl
    have h4 : DataW.trod enc Tryd.prog w base spare held m 22 (([v0, v1, v2, v3, v4, v5].drop 5).take (Tryd.prog.cellsOf 22)) = _ := hf 4 _ rfl
    simp only [c3, c22, c23, c9, c36] at h0 h1 h2 h3 h4
    match xs, hn with
    | [x0, x1, x2, x3, x4], _ =>
    have b1 := Nat.le_trans ((bulk_meas H).ag [x0.1, x1.1, x2.1, x3.1, x4.1] x1.1 (by simp)) hx
    have b2 := Nat.le_trans ((bulk_meas H).ag [x0.1, x1.1, x2.1, x3.1, x4.1] x2.1 (by simp)) hx
    have b3 := Nat.le_trans ((bulk_meas H).ag [x0.1, x1.1, x2.1, x3.1, x4.1] x3.1 (by simp)) hx
    have b4 := Nat.le_trans ((bulk_meas H).ag [x0.1, x1.1, x2.1, x3.1, x4.1] x4.1 (by simp)) hx
    obtain ⟨k, e0, _⟩ := open_int64 (x := x0) (by simpa using h0)
    obtain ⟨a, r1, k1⟩ := open_nm (x := x1) (by simpa using h1) b1
    obtain ⟨s, e2, k2⟩ := open_str (x := x2) (by simpa using h2) b2
    obtain ⟨l3, r3, k3, k3'⟩ := hF m (by omega) (x := x3) (by simpa using h3) b3
    obtain ⟨l4, r4, k4, k4'⟩ := hP m (by omega) (x := x4) (by simpa using h4) b4
    simp only [List.drop_zero, List.take_succ_cons, List.take_zero, List.drop_succ_cons, List.cons.injEq, and_true] at e0 r1 e2 r3 r4
    subst e0; subst e2
    exact ⟨.mk k a s l3 l4, by rw [fltC]; exact Reps.append (.one (.int _ _ _) rfl) (Reps.append r1 (Reps.append (.one (.str _ _) rfl) (Reps.append r3 r4))), by rw [Flt.ok]; exact ⟨k1, k2, by omega, by omega, oksF_of k3', oksP_of k4'⟩⟩

/-! ### As arguments -/
theorem open_path {r : Reach} {b0 : Nat} {v : Value} {d : DataW H} {ps : List MemPlace} (hok : Value.okWide Tryd.prog w r b0 25 v) (h : DataW.Trod enc Tryd.prog w base spare held 25 v d ps) (hd : Rows.uptoBulk d ≤ 1048576) : ∃ p : Pth, Rep w (envF (heldAt w)) false (.agg (pthL p)) v ∧ p.ok := by
  obtain ⟨cs, rfl, hsz⟩ := okWide_struct Tryd.underlying25 hok
  obtain ⟨fuel, hf⟩ := h
  obtain ⟨p, hr, hk⟩ := (open_pf fuel).1 _ _ hf hd
  rw [pthC_L] at hr
  exact ⟨p, hr.agg, hk⟩
theorem open_filter {r : Reach} {b0 : Nat} {v : Value} {d : DataW H} {ps : List MemPlace} (hok : Value.okWide Tryd.prog w r b0 55 v) (h : DataW.Trod enc Tryd.prog w base spare held 55 v d ps) (hd : Rows.uptoBulk d ≤ 1048576) : ∃ p : Flt, Rep w (envF (heldAt w)) false (.agg (fltL p)) v ∧ p.ok := by
  obtain ⟨cs, rfl, hsz⟩ := okWide_struct Tryd.underlying55 hok
  obtain ⟨fuel, hf⟩ := h
  obtain ⟨p, hr, hk⟩ := (open_pf fuel).2 _ _ hf hd
  rw [fltC_L] at hr
  exact ⟨p, hr.agg, hk⟩
theorem open_events {r : Reach} {b0 : Nat} {v : Value} {d : DataW H} {ps : List MemPlace} (hok : Value.okWide Tryd.prog w r b0 28 v) (h : DataW.Trod enc Tryd.prog w base spare held 28 v d ps) (hd : Rows.uptoBulk d ≤ 1048576) : ∃ l : List Ev, Rep w (envF (heldAt w)) false (.sl none l.length (evsC l) .no) v ∧ l.length ≤ 1048576 ∧ okEvs l := by
  obtain ⟨a, len, cap, rfl⟩ := okWide_slice Tryd.underlying28 hok
  obtain ⟨fuel, hf⟩ := h
  obtain ⟨l, hr, hk⟩ := open_evs hf hd
  exact ⟨l, (hr.2 0 _ _ rfl rfl).1, hk⟩
theorem open_event {r : Reach} {b0 : Nat} {v : Value} {d : DataW H} {ps : List MemPlace} (hok : Value.okWide Tryd.prog w r b0 39 v) (h : DataW.Trod enc Tryd.prog w base spare held 39 v d ps) (hd : Rows.uptoBulk d ≤ 1048576) : ∃ e : Ev, Rep w (envF (heldAt w)) false (.agg (evC e)) v ∧ e.ok := by
  obtain ⟨cs, rfl, hsz⟩ := okWide_struct Tryd.underlying39 hok
  obtain ⟨fuel, hf⟩ := h
  obtain ⟨e, hr, hk⟩ := open_ev hf hd
  exact ⟨e, hr.agg, hk⟩
/-- An argument read again. -/
theorem back {t : TypeId} {W W' : World} {v : Value} {d : DataW H} {ps : List MemPlace} (sp : Nat → Bool) (hl : laidOutB Tryd.prog = true) (hr : Tryd.prog.readableRec t = true) (hrow : t < Tryd.prog.types.size) (hb : Below W.heap.size W W') (h : DataW.Trod enc Tryd.prog W 0 (fun _ => true) true t v d ps) (hall : ∀ p ∈ ps, sp p.block = true) (hlt : ∀ x ∈ ps, x.block < W.heap.size) :
    DataW.Trod enc Tryd.prog W' 0 sp true t v d ps :=
  WideElems.Trod_stays hl hr hrow h (fun x hx => hb.same (hlt x hx)) (fun x hx => hall x hx)
end
end Go.Proofs.YteimloiaipiadaaDoor
end

section
set_option linter.unusedVariables false
set_option linter.unusedSimpArgs false
set_option maxRecDepth 100000
namespace Go.Proofs.YteimloiaipiadaaDoor
open Go Go.AX

/-! ### Each event has just one label -/
/-- What of a thing is told: which of those that are spoken of it is. -/
def cO {α : Type} [DecidableEq α] (d : α) (l : List α) (x : α) : Option α := if 0 ≤ ixG x l 0 then some x else none
theorem cO_in {α : Type} [DecidableEq α] (d : α) {l : List α} {x : α} (h : x ∈ l) : cO d l x = some x := by
  unfold cO; rw [if_pos (of_decide_eq_true ((ixG_ge x d l).2 h))]
theorem cO_out {α : Type} [DecidableEq α] (d : α) {l : List α} {x : α} (h : x ∉ l) : cO d l x = none := by
  unfold cO; rw [if_neg (fun h2 => h ((ixG_ge x d l).1 (decide_eq_true h2)))]
theorem cO_al {α : Type} [DecidableEq α] (d : α) (l : List α) (a b : α) : alG l a b = true ↔ cO d l a = cO d l b := by
  rw [alG_iff d]
  by_cases ha : a ∈ l <;> by_cases hb : b ∈ l
  · rw [cO_in d ha, cO_in d hb]
    simp only [Option.some.injEq]
    exact ⟨fun h => h.elim id (fun h => absurd ha h.1), .inl⟩
  · rw [cO_in d ha, cO_out d hb]
    exact ⟨fun h => h.elim (fun e => absurd (e ▸ ha) hb) (fun h => absurd ha h.1), fun h => by cases h⟩
  · rw [cO_out d ha, cO_in d hb]
    exact ⟨fun h => h.elim (fun e => absurd (e ▸ hb) ha) (fun h => absurd hb h.2), fun h => by cases h⟩
  · rw [cO_out d ha, cO_out d hb]
    exact ⟨fun _ => rfl, fun _ => .inr ⟨ha, hb⟩⟩
theorem cO_mem {α : Type} [DecidableEq α] (d : α) (l : List α) (x : α) : cO d l x ∈ l.map some ++ [none] := by
  by_cases h : x ∈ l
  · rw [cO_in d h]; simp [h]
  · rw [cO_out d h]; simp
def sigL : List Nm → List (List ByteArray) → List Atr → List (Bool × Option ByteArray)
  | n :: A, v :: V, l => ((atV l n).2, cO ⟨#[]⟩ v (atV l n).1) :: sigL A V l
  | _, _, _ => []
structure Sg where
  kind : Int
  nm : Option Nm
  text : Option ByteArray
  attrs : List (Bool × Option ByteArray)
def sigW (W : Wd) (e : Ev) : Sg := ⟨e.kind, cO nm0 W.N e.nm, cO ⟨#[]⟩ W.T e.text, sigL W.A W.V e.attrs⟩
theorem lkA_sig (a b : Ev) : ∀ (A : List Nm) (V : List (List ByteArray)), lkA a b A V = true ↔ sigL A V a.attrs = sigL A V b.attrs
  | [], V => by simp [lkA, sigL]
  | n :: A, [] => by simp [lkA, sigL]
  | n :: A, v :: V => by
    simp only [lkA, sigL, Bool.and_eq_true, List.cons.injEq, lkA_sig a b A V, Prod.mk.injEq]
    unfold lkA1
    rw [Bool.and_eq_true, cO_al ⟨#[]⟩, decide_eq_true_eq]
theorem likW_sig (W : Wd) (a b : Ev) : likW W a b = true ↔ sigW W a = sigW W b := by
  unfold likW sigW
  simp only [Bool.and_eq_true, decide_eq_true_eq, Sg.mk.injEq, cO_al nm0, cO_al (⟨#[]⟩ : ByteArray), lkA_sig]
theorem likW_refl (W : Wd) (a : Ev) : likW W a a = true := (likW_sig W a a).2 rfl
/-- All ways to have attributes. -/
def allS : List Nm → List (List ByteArray) → List (List (Bool × Option ByteArray))
  | n :: A, v :: V => (allS A V).map (fun s => (false, cO ⟨#[]⟩ v ⟨#[]⟩) :: s) ++ (v.map some ++ [none]).flatMap (fun o => (allS A V).map (fun s => (true, o) :: s))
  | _, _ => [[]]
theorem atV_app_ne (l : List Atr) (a : Atr) (n : Nm) (h : a.nm ≠ n) : atV (l ++ [a]) n = atV l n := by
  unfold atV
  rw [List.find?_append]
  cases l.find? (fun a => decide (a.nm = n)) with
  | some x => rfl
  | none => simp [decide_eq_false h]
theorem atV_app_new (l : List Atr) (n : Nm) (x : ByteArray) (h : (atV l n).2 = false) : atV (l ++ [⟨n, x⟩]) n = (x, true) := by
  unfold atV at h ⊢
  rw [List.find?_append]
  cases e : l.find? (fun a => decide (a.nm = n)) with
  | some y => rw [e] at h; cases h
  | none => simp
theorem atV_none (l : List Atr) (n : Nm) (h : (atV l n).2 = false) : atV l n = (⟨#[]⟩, false) := by
  unfold atV at h ⊢
  cases e : l.find? (fun a => decide (a.nm = n)) with
  | some y => rw [e] at h; cases h
  | none => rfl
theorem labF_atV (m : Nm) : ∀ (A : List Nm) (V : List (List ByteArray)) (e x : Ev), m ∉ A → x ∈ labF A V e → atV x.attrs m = atV e.attrs m
  | [], V, e, x, hm, h => by simp [labF] at h; rw [h]
  | n :: A, [], e, x, hm, h => by simp [labF] at h; rw [h]
  | n :: A, v :: V, e, x, hm, h => by
    have hm' : m ∉ A := fun h2 => hm (by simp [h2])
    have hn : n ≠ m := fun h2 => hm (by simp [h2])
    simp only [labF, List.mem_append, List.mem_flatMap] at h
    rcases h with h | ⟨y, _, h⟩
    · exact labF_atV m A V e x hm' h
    · rw [labF_atV m A V (addA e n y) x hm' h]
      exact atV_app_ne _ _ _ hn
theorem anoB_out (v : List ByteArray) : anoB v ∉ v := by
  have hk := kOf_first ⟨#[]⟩ v
  unfold anoB
  simp only [frR]
  by_cases h : hasB v ⟨#[]⟩ = true
  · rw [if_pos h]; exact hk.out
  · rw [if_neg h]; exact fun h2 => h ((hasB_iff _ _).2 h2)
theorem anoT_out (v : List ByteArray) : anoT v ∉ v := (kOf_first ⟨#[]⟩ v).out
theorem othN_out (l : List Nm) : othN l ∉ l := by
  obtain ⟨k', hk'⟩ := firstZ_ex l
  have := other_same l _ k' (kOf_first bZ (localsF l ++ [bZ0])) hk'
  unfold othN
  rw [this]
  exact hk'.out
theorem map_ano (v : List ByteArray) (x : ByteArray) (hx : x ∉ v) : (v ++ [x]).map (cO ⟨#[]⟩ v) = v.map some ++ [none] := by
  rw [List.map_append, List.map_singleton, cO_out _ hx]
  congr 1
  exact List.map_congr_left fun y hy => cO_in _ hy
theorem map_oth (v : List Nm) (x : Nm) (hx : x ∉ v) : (v ++ [x]).map (cO nm0 v) = v.map some ++ [none] := by
  rw [List.map_append, List.map_singleton, cO_out _ hx]
  congr 1
  exact List.map_congr_left fun y hy => cO_in _ hy
theorem labF_sigs : ∀ (A : List Nm) (V : List (List ByteArray)) (e : Ev), A.Nodup → (∀ n ∈ A, (atV e.attrs n).2 = false) → (labF A V e).map (fun x => sigL A V x.attrs) = allS A V
  | [], V, e, hA, he => by simp [labF, allS, sigL]
  | n :: A, [], e, hA, he => by simp [labF, allS, sigL]
  | n :: A, v :: V, e, hA, he => by
    obtain ⟨hn, hA'⟩ := List.nodup_cons.1 hA
    have h0 := atV_none _ _ (he n (by simp))
    simp only [labF, allS, List.map_append, List.map_flatMap]
    congr 1
    · rw [← labF_sigs A V e hA' (fun m hm => he m (by simp [hm])), List.map_map]
      refine List.map_congr_left fun x hx => ?_
      simp only [sigL, Function.comp]
      rw [labF_atV n A V e x hn hx, h0]
    · rw [← map_ano v (anoB v) (anoB_out v), List.flatMap_map]
      congr 1
      funext y
      rw [← labF_sigs A V (addA e n y) hA' (fun m hm => (by
        have : n ≠ m := fun e2 => hn (e2 ▸ hm)
        simp only [addA]
        rw [atV_app_ne _ _ _ this]
        exact he m (by simp [hm]))), List.map_map]
      refine List.map_congr_left fun x hx => ?_
      simp only [sigL, Function.comp]
      rw [labF_atV n A V (addA e n y) x hn hx]
      simp only [addA]
      rw [atV_app_new _ _ _ (by rw [h0])]
theorem sigL_in (l : List Atr) : ∀ (A : List Nm) (V : List (List ByteArray)), sigL A V l ∈ allS A V
  | [], V => by simp [sigL, allS]
  | n :: A, [] => by simp [sigL, allS]
  | n :: A, v :: V => by
    have ih := sigL_in l A V
    simp only [sigL, allS, List.mem_append, List.mem_map, List.mem_flatMap]
    cases h : (atV l n).2 with
    | false =>
      left
      exact ⟨_, ih, by rw [atV_none l n h]⟩
    | true =>
      right
      have := cO_mem (⟨#[]⟩ : ByteArray) v (atV l n).1
      rw [List.mem_append, List.mem_map] at this
      exact ⟨_, this, _, ih, rfl⟩
theorem nodup_flat {α β : Type} (f : α → List β) (l : List α) (hl : l.Nodup) (hf : ∀ x ∈ l, (f x).Nodup) (hd : ∀ x ∈ l, ∀ y ∈ l, x ≠ y → ∀ z ∈ f x, z ∉ f y) : (l.flatMap f).Nodup := by
  induction l with
  | nil => simp
  | cons a l ih =>
    obtain ⟨ha, hl'⟩ := List.nodup_cons.1 hl
    rw [List.flatMap_cons, List.nodup_append]
    refine ⟨hf a (by simp), ih hl' (fun x hx => hf x (by simp [hx])) (fun x hx y hy => hd x (by simp [hx]) y (by simp [hy])), fun x hx y hy e => ?_⟩
    obtain ⟨b, hb, hyb⟩ := List.mem_flatMap.1 hy
    exact hd a (by simp) b (by simp [hb]) (fun e2 => ha (e2 ▸ hb)) x hx (e ▸ hyb)
theorem nodup_map {α β : Type} (f : α → β) (hf : ∀ x y, f x = f y → x = y) {l : List α} (hl : l.Nodup) : (l.map f).Nodup := by
  rw [List.Nodup, List.pairwise_map]
  exact hl.imp fun h e => h (hf _ _ e)
theorem opts_nodup {α : Type} {l : List α} (hl : l.Nodup) : (l.map some ++ [none]).Nodup := by
  rw [List.nodup_append]
  exact ⟨nodup_map _ (fun x y e => by simpa using e) hl, by simp, fun x hx y hy e => by simp at hy hx; subst hy; obtain ⟨z, _, rfl⟩ := hx; cases e⟩
theorem allS_nodup : ∀ (A : List Nm) (V : List (List ByteArray)), (∀ v ∈ V, v.Nodup) → (allS A V).Nodup
  | [], V, h => by simp [allS]
  | n :: A, [], h => by simp [allS]
  | n :: A, v :: V, h => by
    have ih := allS_nodup A V (fun v hv => h v (by simp [hv]))
    simp only [allS]
    rw [List.nodup_append]
    refine ⟨nodup_map _ (fun x y e => by simpa using e) ih, ?_, fun x hx y hy e => ?_⟩
    · refine nodup_flat _ _ (opts_nodup (h v (by simp))) (fun o _ => nodup_map _ (fun x y e => by simpa using e) ih) (fun o _ o' _ hne z hz hz' => ?_)
      obtain ⟨s, _, rfl⟩ := List.mem_map.1 hz
      obtain ⟨s', _, e⟩ := List.mem_map.1 hz'
      simp only [List.cons.injEq, Prod.mk.injEq, true_and] at e
      exact hne e.1.symm
    · obtain ⟨s, _, rfl⟩ := List.mem_map.1 hx
      obtain ⟨o, _, hy⟩ := List.mem_flatMap.1 hy
      obtain ⟨s', _, rfl⟩ := List.mem_map.1 hy
      simp at e
/-- What is spoken of is spoken of once. -/
structure Wd.nd (W : Wd) : Prop where
  N : W.N.Nodup
  A : W.A.Nodup
  T : W.T.Nodup
  vs : ∀ v ∈ W.V, v.Nodup
/-- The labels' marks. -/
def allW (W : Wd) : List Sg := (W.N.map some ++ [none]).flatMap (fun o => (allS W.A W.V).map (fun s => ⟨1, o, cO ⟨#[]⟩ W.T ⟨#[]⟩, s⟩)) ++ (W.T.map some ++ [none]).map (fun o => ⟨2, cO nm0 W.N nm0, o, sigL W.A W.V []⟩)
theorem labF_same : ∀ (A : List Nm) (V : List (List ByteArray)) (e x : Ev), x ∈ labF A V e → x.kind = e.kind ∧ x.nm = e.nm ∧ x.text = e.text
  | [], V, e, x, h => by simp [labF] at h; rw [h]; exact ⟨rfl, rfl, rfl⟩
  | n :: A, [], e, x, h => by simp [labF] at h; rw [h]; exact ⟨rfl, rfl, rfl⟩
  | n :: A, v :: V, e, x, h => by
    simp only [labF, List.mem_append, List.mem_flatMap] at h
    rcases h with h | ⟨y, _, h⟩
    · exact labF_same A V e x h
    · exact labF_same A V (addA e n y) x h
theorem labs_sigs (W : Wd) (hW : W.nd) : (labsW W).map (sigW W) = allW W := by
  unfold labsW allW
  rw [List.map_append]
  congr 1
  · unfold opnW
    rw [List.map_flatMap, ← map_oth W.N (othN W.N) (othN_out W.N), List.flatMap_map]
    congr 1
    funext n
    rw [← labF_sigs W.A W.V ⟨1, n, [], ⟨#[]⟩⟩ hW.A (fun m _ => rfl), List.map_map]
    refine List.map_congr_left fun x hx => ?_
    obtain ⟨h1, h2, h3⟩ := labF_same _ _ _ _ hx
    simp only [sigW, Function.comp, h1, h2, h3]
  · unfold txtW
    rw [← map_ano W.T (anoT W.T) (anoT_out W.T), List.map_map, List.map_map]
    rfl
theorem allW_nodup (W : Wd) (hW : W.nd) : (allW W).Nodup := by
  have hS := allS_nodup W.A W.V hW.vs
  unfold allW
  rw [List.nodup_append]
  refine ⟨nodup_flat _ _ (opts_nodup hW.N) (fun o _ => nodup_map _ (fun x y e => by simpa using e) hS) (fun o _ o' _ hne z hz hz' => ?_), nodup_map _ (fun x y e => by simpa using e) (opts_nodup hW.T), fun x hx y hy e => ?_⟩
  · obtain ⟨s, _, rfl⟩ := List.mem_map.1 hz
    obtain ⟨s', _, e⟩ := List.mem_map.1 hz'
    simp only [Sg.mk.injEq, true_and] at e
    exact hne e.1.symm
  · obtain ⟨o, _, hx⟩ := List.mem_flatMap.1 hx
    obtain ⟨s, _, rfl⟩ := List.mem_map.1 hx
    obtain ⟨o', _, rfl⟩ := List.mem_map.1 hy
    simp at e
theorem sig_in (W : Wd) (e : Ev) (hk : e.kind = 1 ∨ e.kind = 2) (hn : e.nd) : sigW W e ∈ allW W := by
  unfold allW sigW
  rw [List.mem_append]
  rcases hk with hk | hk
  · left
    rw [List.mem_flatMap]
    refine ⟨_, cO_mem nm0 W.N e.nm, List.mem_map.2 ⟨_, sigL_in e.attrs W.A W.V, ?_⟩⟩
    rw [hk, hn.elem (by omega)]
  · right
    obtain ⟨h1, h2⟩ := hn.text hk
    exact List.mem_map.2 ⟨_, cO_mem ⟨#[]⟩ W.T e.text, by rw [hk, h1, h2]⟩
/-- Where in a list something stands. -/
theorem nodup_at {α β : Type} (f : α → β) (d : α) (l : List α) (h : (l.map f).Nodup) (i j : Nat) (hi : i < l.length) (hj : j < l.length) (e : f (l.getD i d) = f (l.getD j d)) : i = j := by
  have := (List.getElem_inj h (i := i) (j := j) (h₀ := by simpa using hi) (h₁ := by simpa using hj)).1
  refine this ?_
  rw [List.getD_eq_getElem?_getD, List.getElem?_eq_getElem hi, List.getD_eq_getElem?_getD, List.getElem?_eq_getElem hj] at e
  simpa using e
/-- Just one label is like an event. -/
theorem just_one (W : Wd) (hW : W.nd) (e : Ev) (hk : e.kind = 1 ∨ e.kind = 2) (hn : e.nd) : ∃ k, k < (labsW W).length ∧ likW W ((labsW W).getD k ev0) e = true ∧ ∀ j, j < (labsW W).length → likW W ((labsW W).getD j ev0) e = true → j = k := by
  have hm := sig_in W e hk hn
  rw [← labs_sigs W hW] at hm
  obtain ⟨x, hx, hs⟩ := List.mem_map.1 hm
  obtain ⟨k, hk', rfl⟩ := List.getElem_of_mem hx
  have hd : (labsW W).getD k ev0 = (labsW W)[k] := by rw [List.getD_eq_getElem?_getD, List.getElem?_eq_getElem hk']; rfl
  have hnd := allW_nodup W hW
  rw [← labs_sigs W hW] at hnd
  refine ⟨k, hk', (likW_sig W _ _).2 (by rw [hd]; exact hs), fun j hj h => ?_⟩
  refine nodup_at (sigW W) ev0 _ hnd j k hj hk' ?_
  rw [(likW_sig W _ _).1 h, hd, hs]
theorem only_self (W : Wd) (hW : W.nd) (i j : Nat) (hi : i < (labsW W).length) (hj : j < (labsW W).length) (h : likW W ((labsW W).getD i ev0) ((labsW W).getD j ev0) = true) : i = j := by
  have hnd := allW_nodup W hW
  rw [← labs_sigs W hW] at hnd
  exact nodup_at (sigW W) ev0 _ hnd i j hi hj ((likW_sig W _ _).1 h)
/-- The first that is like an event, by where it stands. -/
theorem clsR_at (W : Wd) (e : Ev) : ∀ (l : List Ev) (i k : Nat), k < l.length → likW W (l.getD k ev0) e = true → (∀ j, j < k → likW W (l.getD j ev0) e = false) → clsR W e l i = ((i + k : Nat) : Int)
  | [], i, k, hk, _, _ => by simp at hk
  | x :: l, i, 0, hk, h, _ => by
    have h' : likW W x e = true := h
    simp only [clsR, h', if_true]
    rfl
  | x :: l, i, k + 1, hk, h, hl => by
    have h0 : likW W x e = false := hl 0 (by omega)
    simp only [clsR, h0]
    rw [if_neg (by decide), clsR_at W e l (i + 1) k (by simpa using hk) (by simpa using h) (fun j hj => by simpa using hl (j + 1) (by omega))]
    congr 1; omega
theorem valuesF_nodup (o : Int) (n : Nm) : ∀ l, (valuesF o n l).Nodup := by
  refine snoc_ind ?_ (fun l f ih => ?_)
  · simp [valuesF]
  · rw [valuesF_snoc]
    unfold stepV
    split
    · rename_i h
      rw [List.nodup_append]
      exact ⟨ih, by simp, fun x hx y hy e => by simp at hy; subst hy; subst e; rw [(hasB_iff _ _).2 hx] at h; exact absurd h.2.2 (by decide)⟩
    · exact ih
theorem refW_nd (l : List Flt) : (refW l).nd := ⟨namesF_nodup 4 4 l, namesF_nodup 5 6 l, valuesF_nodup 7 nm0 l, fun v hv => by
  obtain ⟨n, _, rfl⟩ := List.mem_map.1 hv
  exact valuesF_nodup 6 n l⟩
theorem spk_nd (p : Pth) (h : p.r) : (spkW p).nd := by rw [spk_of_r p h]; exact refW_nd _
theorem labs_kind (W : Wd) (x : Ev) (h : x ∈ labsW W) : x.kind = 1 ∨ x.kind = 2 := by
  unfold labsW at h
  rcases List.mem_append.1 h with h | h
  · unfold opnW at h
    obtain ⟨n, _, h⟩ := List.mem_flatMap.1 h
    exact .inl (labF_same _ _ _ _ h).1
  · unfold txtW at h
    obtain ⟨s, _, rfl⟩ := List.mem_map.1 h
    exact .inr rfl

end Go.Proofs.YteimloiaipiadaaDoor
end
