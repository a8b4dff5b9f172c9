import Derived.Test.YteimloiaipiadaaDoorP10
section
set_option linter.unusedVariables false
set_option linter.unusedSimpArgs false
set_option maxRecDepth 100000
namespace Go.Proofs.YteimloiaipiadaaDoor
open Go Go.AX

def opsO : List Item → Array Oper
  | .code (.region _ ops _) :: _ => ops
  | _ => #[]
def spB : ByteArray := ⟨#[115, 112, 111, 105, 108, 116]⟩
theorem keep0 {a b c : World} (h : Keep (fun _ => False) a b) (k : Keep (fun _ => False) b c) : Keep (fun _ => False) a c :=
  ⟨k.os.trans h.os, k.tape.trans h.tape, k.output.trans h.output, Nat.le_trans h.size k.size, fun i hi _ => by
    rw [k.block i (Nat.lt_of_lt_of_le hi h.size) (fun h => h), h.block i hi (fun h => h)], h.fz.trans k.fz⟩
/-- A string over a string, in new memory. -/
theorem store_new {w3 w : World} (hk : Keep (fun _ => False) w3 w) {g off : Nat} (hg : w3.heap.size ≤ g) {s0 : ByteArray} (hc : w.cell? ⟨g, off, none⟩ = some (.string s0)) (b : ByteArray) :
    ∃ w', (Instr.storeAt 9 (.pointer (some ⟨g, off, none⟩)) (.string b)).run Tryd.prog w = .ok () w' ∧ Keep (fun _ => False) w3 w' ∧ w'.heap.size = w.heap.size ∧ ∀ F, StrOnly F w w' := by
  obtain ⟨vs, e, fr, hh⟩ : ∃ vs e fr, w.heap[g]? = some (.cells vs e fr) := by
    cases h : w.heap[g]? with
    | none => simp [World.cell?, h] at hc
    | some o => cases o with
      | cells vs e fr => exact ⟨vs, e, fr, rfl⟩
      | _ => simp [World.cell?, h] at hc
  have hv : vs[off]? = some (.string s0) := by simpa [World.cell?, hh] using hc
  have hfr : fr = (0, 0) := by
    rcases hk.fz g vs e fr hh (fun vs0 e0 fr0 h0 => by have := (Array.getElem?_eq_some_iff.1 h0).1; omega) with h | h
    · exact h
    · exact absurd hv (h off s0)
  subst hfr
  obtain ⟨i, d', z, hi, hd, hsz, _⟩ := (Γ_ok 9 ⟨1, 16, .str, [.str ⟨#[]⟩], none⟩ (by kernel_rfl)).ex
  have hlt : off < vs.size := (Array.getElem?_eq_some_iff.1 hv).1
  have hcs : (Value.string b).cells = #[.string b] := rfl
  have hrun := store_run (P := Tryd.prog) hi hh (u := .string b) (off := off) (by rw [hsz]; rfl) (fun v hv => by rw [hcs] at hv; simp at hv; subst hv; rfl) (by rw [hcs]; simp; omega)
  obtain ⟨s1, s2, s3, s4, s5⟩ := setRow_le (w := w) (g := g) (vs.toList.take off ++ (Value.string b).cells.toList ++ vs.toList.drop (off + (Value.string b).cells.toList.length)).toArray
  refine ⟨_, hrun, ⟨s3.trans hk.os, s4.trans hk.tape, s5.trans hk.output, by rw [s2]; exact hk.size, fun k hk1 hn => by rw [s1 k (by omega)]; exact hk.block k hk1 hn, hk.fz.trans (Unf.one (g := g) s1 (fun vs1 e1 fr1 h1 => ?_))⟩, s2, fun F => strOnly_set hh hc⟩
  rw [setRow_heap w g vs _ e (0, 0) hh] at h1
  cases h1
  exact .inl rfl
theorem wp_cons {ops : Array Oper} {k : Nat} {rest : List Nat} {o : Oper} (ho : ops[k]? = some o) (hgd : o.guard = none) {Q : Exit → Act → World → Prop} {a : Act} {w : World} (h : o.wp Tryd.prog a w (wpOps Tryd.prog ops Q rest) Q) : wpOps Tryd.prog ops Q (k :: rest) a w := by
  have hw : Region.wanted o (yielded ops a.tmps) = true := by simp [Region.wanted, hgd]
  simp only [wpOps, ho]
  rw [if_pos hw]
  exact .inl h
theorem store_wp {o : Oper} {t : TypeId} {p x : Operand} (hop : o.op = .store t p x) (hd : o.dst = none) {a : Act} {w w' : World} (h1 : (Instr.storeAt t (a.eval p) (a.eval x)).run Tryd.prog w = .ok () w') {K : Act → World → Prop} {Q : Exit → Act → World → Prop} (hK : K a w') : o.wp Tryd.prog a w K Q := by
  unfold Oper.wp
  have : (execOp a.eval o).run Tryd.prog w = .ok .skip w' := by
    simp only [execOp, hop, Sem.run_bind, h1, Result.andThen_ok, Sem.run_pure]
  rw [this, Oper.upon_skip, hd]
  exact hK
theorem EvsL.refl : ∀ l : List Ev, EvsL l l
  | [] => .nil
  | _ :: r => .cons rfl rfl (EvsL.refl r)
theorem EvsL.trans {a b c : List Ev} (h : EvsL a b) (k : EvsL b c) : EvsL a c := by
  induction h generalizing c with
  | nil => exact k
  | cons h1 h2 _ ih =>
    cases k with
    | cons k1 k2 k3 => exact .cons (k1.trans h1) (k2.trans h2) (ih k3)
theorem EvsL.get {a b : List Ev} (h : EvsL a b) : ∀ i, (b.getD i ev0).attrs.length = (a.getD i ev0).attrs.length := by
  induction h with
  | nil => exact fun i => rfl
  | cons h1 h2 _ ih =>
    intro i
    cases i with
    | zero => simpa using h2
    | succ i => simpa using ih i

/-- In the loops. -/
structure LK (w3 : World) (gb : Nat) (L0 L : List Ev) (FN : Nat → Nat → Prop) (a : Act) (w : World) : Prop where
  dom : ∀ b o, FN b o → w3.heap.size ≤ b ∧ b < w.heap.size
  box : a.tmps[1]? = some (.pointer (some ⟨gb, 0, none⟩))
  sl : ∃ u, a.tmps[3]? = some u ∧ Rep w (envF FN) false (.sl none L.length (evsC L) .no) u
  keep : Keep (fun _ => False) w3 w
  dfr : a.defers = []
  size : a.tmps.size = Tryd.f5.ntmps
  evs : EvsL L0 L
def K1 (w3 : World) (gb : Nat) (L0 L : List Ev) (i : Nat) (a : Act) (w : World) : Prop := ∃ FN, LK w3 gb L0 L FN a w ∧ a.tmps[5]? = some (.int .i64 i)
def K2 (w3 : World) (gb : Nat) (L0 L : List Ev) (i j : Nat) (a : Act) (w : World) : Prop := ∃ FN, LK w3 gb L0 L FN a w ∧ a.tmps[5]? = some (.int .i64 i) ∧ a.tmps[6]? = some (.int .i64 j)
structure KE (w3 : World) (gb : Nat) (a : Act) (w : World) : Prop where
  box : a.tmps[1]? = some (.pointer (some ⟨gb, 0, none⟩))
  keep : Keep (fun _ => False) w3 w
  dfr : a.defers = []
  size : a.tmps.size = Tryd.f5.ntmps
section
variable {w3 : World} {gb : Nat} {L0 L : List Ev} {FN : Nat → Nat → Prop} {a a' : Act} {w w' : World} {G' : Env} {i j : Nat}
theorem LK.s1 (h : LK w3 gb L0 L FN a w) : ∃ x, a.tmps[1]? = some x ∧ Rep w (ctxK w FN gb Tryd.f5.ntmps).G0 true (.vptr 1000001 3 0) x :=
  ⟨_, h.box, .vptr _ _ _ _ (recK gb) (by simp [ctxK]) (Nat.le_refl _) (fun _ => ⟨gb, _, _, rfl, rfl⟩)⟩
theorem LK.s3 (h : LK w3 gb L0 L FN a w) : ∃ x, a.tmps[3]? = some x ∧ Rep w (ctxK w FN gb Tryd.f5.ntmps).G0 true (.sl none L.length (evsC L) .no) x := by
  obtain ⟨u, h1, h2⟩ := h.sl
  exact ⟨u, h1, (h2.tree (G' := (ctxK w FN gb Tryd.f5.ntmps).G0) (fun _ _ h => h)).up⟩
theorem LK.rel1 (h : LK w3 gb L0 L FN a w) (h5 : a.tmps[5]? = some (.int .i64 i)) : RelG (ctxK w FN gb Tryd.f5.ntmps) (ctxK w FN gb Tryd.f5.ntmps).G0 (sKp1 L i) a w := by
  refine relK h.dfr h.size (fun b o hf => (h.dom b o hf).2) (fun k v hv => ?_)
  simp only [look_cons] at hv
  split at hv
  · rename_i e; subst e; cases hv; exact h.s1
  split at hv
  · rename_i e; subst e; cases hv; exact h.s3
  split at hv
  · rename_i e; subst e; cases hv; exact ⟨_, h5, .int _ _ _⟩
  · simp [AX.look] at hv
theorem LK.rel2 (h : LK w3 gb L0 L FN a w) (h5 : a.tmps[5]? = some (.int .i64 i)) (h6 : a.tmps[6]? = some (.int .i64 j)) : RelG (ctxK w FN gb Tryd.f5.ntmps) (ctxK w FN gb Tryd.f5.ntmps).G0 (sKp2 L i j) a w := by
  refine relK h.dfr h.size (fun b o hf => (h.dom b o hf).2) (fun k v hv => ?_)
  simp only [look_cons] at hv
  split at hv
  · rename_i e; subst e; cases hv; exact h.s1
  split at hv
  · rename_i e; subst e; cases hv; exact h.s3
  split at hv
  · rename_i e; subst e; cases hv; exact ⟨_, h5, .int _ _ _⟩
  split at hv
  · rename_i e; subst e; cases hv; exact ⟨_, h6, .int _ _ _⟩
  · simp [AX.look] at hv
theorem LK.of (h : LK w3 gb L0 L FN a w) {s : AS} (hR : RelG (ctxK w FN gb Tryd.f5.ntmps) G' s a' w') (h1 : AX.look s.tmps 1 = some (.vptr 1000001 3 0)) (h2 : AX.look s.tags 1000001 = some ⟨3, 25, 1, none⟩) (h3 : AX.look s.tmps 3 = some (.sl none L.length (evsC L) .no)) : LK w3 gb L0 L G'.F a' w' := by
  refine ⟨fun b o hf => ⟨?_, hR.mem.fdom b o hf⟩, slot1K hR h1 h2, ?_, keep0 h.keep hR.mem.keep, hR.defers, hR.size, h.evs⟩
  · by_cases hb : b < w.heap.size
    · rcases hR.mem.fold b o hf hb with h4 | h4
      · exact (h.dom b o h4).1
      · exact h4.elim
    · have := h.keep.size; omega
  · obtain ⟨x, h4, h5⟩ := hR.slots 3 _ h3
    exact ⟨x, h4, sl_tree h5⟩
theorem int_slot {C : Ctx} {s : AS} (hR : RelG C G' s a' w') {k : Nat} {n : Int} (h : AX.look s.tmps k = some (.int .i64 n)) : a'.tmps[k]? = some (.int .i64 n) := by
  obtain ⟨x, h1, h2⟩ := hR.slots k _ h
  cases h2
  exact h1
theorem LK.of1 (h : LK w3 gb L0 L FN a w) (hR : RelG (ctxK w FN gb Tryd.f5.ntmps) G' (sKp1 L i) a' w') : K1 w3 gb L0 L i a' w' :=
  ⟨_, h.of hR rfl rfl rfl, int_slot hR (k := 5) rfl⟩
theorem LK.of2 (h : LK w3 gb L0 L FN a w) (hR : RelG (ctxK w FN gb Tryd.f5.ntmps) G' (sKp2 L i j) a' w') : K2 w3 gb L0 L i j a' w' :=
  ⟨_, h.of hR rfl rfl rfl, int_slot hR (k := 5) rfl, int_slot hR (k := 6) rfl⟩
theorem LK.ofe (h : LK w3 gb L0 L FN a w) (hR : RelG (ctxK w FN gb Tryd.f5.ntmps) G' sKpe a' w') : KE w3 gb a' w' :=
  ⟨slot1K hR rfl rfl, keep0 h.keep hR.mem.keep, hR.defers, hR.size⟩
/-- A store through a pointer into what is read. -/
theorem LK.st (h : LK w3 gb L0 L FN a w) {d off : Nat} {cells : List AV} {s0 : ByteArray} {C : Ctx} {G : Env} {s : AS} (hR : RelG C G s a w) (hG : G.F = FN) (hl : AX.look s.tmps d = some (.rop cells off)) (hc : cells[off]? = some (.str s0)) {o : Oper} (hop : o.op = .store 9 (.tmp d) (.const (.string spB))) (hd : o.dst = none) {K : Act → World → Prop} {Q : Exit → Act → World → Prop}
    (hK : ∀ L' w', EvsL L L' → LK w3 gb L0 L' FN a w' → K a w') : o.wp Tryd.prog a w K Q := by
  obtain ⟨x, h1, h2⟩ := hR.slots d _ hl
  cases h2 with
  | rop _ _ _ ad vs hcell hrep =>
    obtain ⟨g1, g2, g3⟩ := hcell off _ hc
    have hr := hrep off _ hc
    generalize vs off = v at g2 hr
    cases hr
    rw [hG] at g1
    obtain ⟨w', q1, q2, q3, q4⟩ := store_new h.keep (h.dom _ _ g1).1 g2 spB
    have e1 : a.eval (.tmp d) = .pointer (some ⟨ad.block, ad.off + off, none⟩) := by simp [Act.eval, h1]
    refine store_wp hop hd (w' := w') (by rw [e1]; exact q1) ?_
    obtain ⟨u, k1, k2⟩ := h.sl
    obtain ⟨L', k3, k4⟩ := evs_any (q4 FN) k2
    exact hK L' w' k3 ⟨fun b o hf => by rw [q3]; exact h.dom b o hf, h.box, ⟨u, k1, k4⟩, q2, h.dfr, h.size, h.evs.trans k3⟩
end
end Go.Proofs.YteimloiaipiadaaDoor
end

section
set_option linter.unusedVariables false
set_option linter.unusedSimpArgs false
set_option maxRecDepth 100000
namespace Go.Proofs.YteimloiaipiadaaDoor
open Go Go.AX

def stKB (p : Pth) : AS := ⟨[(1, .ptr 1 0), (3, .sl none 0 [] .no), (5, .int .i64 0)], [(1, .var true (pthL p))], []⟩

theorem kb_e (p : Pth) (c : Int) (h10 : Ctr Tryd.prog 10 [.agg (pthL p)] (.bool true)) (h11 : Ctr Tryd.prog 11 [.agg (pthL p)] (.tup [.sl none ([] : List Ev).length (evsC ([] : List Ev)) .no, .int .i64 c])) (h12 : Ctr Tryd.prog 12 [.agg (pthL p)] (.tup [.sl none ([] : List Ev).length (evsC ([] : List Ev)) .no, .int .i64 c])) (h13 : Ctr Tryd.prog 13 [.sl none ([] : List Ev).length (evsC ([] : List Ev)) .no, .sl none ([] : List Ev).length (evsC ([] : List Ev)) .no] (.bool true)) : HT Tryd.prog Tryd.f5.ntmps (pt Tryd.f5 0) (stKB p) (EndsA Γ (.pure [] (.bool true)) Tryd.f5) :=
  HT.walk Γ_ok mo_ok (⟨[(27, .val (.bool false)), (54, .call [] (.tup [.sl none ([] : List Ev).length (evsC ([] : List Ev)) .no, .int .i64 c])), (59, .call [] (.tup [.sl none ([] : List Ev).length (evsC ([] : List Ev)) .no, .int .i64 c])), (64, .call [] (.bool true)), (67, .call [] (.bool true))], [], [(5, ⟨[1, 3, 5], [1], [], [], []⟩)], [], .pure [] (.bool true)⟩ : Wk) 4000 (T := .ob (false = false) (.ob ((3 : Nat) ≤ (3 : Nat)) (.ob (Ctr Tryd.prog 11 [AV.agg (pthL p)] (AV.tup [AV.sl none (0 : Nat) [] .no, AV.int .i64 c])) (.ob ((3 : Nat) ≤ (3 : Nat)) (.ob (Ctr Tryd.prog 12 [AV.agg (pthL p)] (AV.tup [AV.sl none (0 : Nat) [] .no, AV.int .i64 c])) (.ob (Ctr Tryd.prog 13 [AV.sl none (0 : Nat) [] .no, AV.sl none (0 : Nat) [] .no] (AV.bool true)) (.ob ((3 : Nat) ≤ (3 : Nat)) (.ob (Ctr Tryd.prog 10 [AV.agg (pthL p)] (AV.bool true)) (.ob (true = true) (.tt)))))))))) (by kernel_rfl) (by
    simp only [PT.holds, true_implies, Bool.false_eq_true, Bool.true_eq_false, false_implies, true_and, and_true]
    exact ⟨by omega, h11, by omega, h12, h13, by omega, h10⟩)
theorem kb_p (p : Pth) (c : Int) (h10 : Ctr Tryd.prog 10 [.agg (pthL p)] (.bool true)) (h11 : Ctr Tryd.prog 11 [.agg (pthL p)] (.tup [.sl none ([] : List Ev).length (evsC ([] : List Ev)) .no, .int .i64 c])) (h12 : Ctr Tryd.prog 12 [.agg (pthL p)] (.tup [.sl none ([] : List Ev).length (evsC ([] : List Ev)) .no, .int .i64 c])) (h13 : Ctr Tryd.prog 13 [.sl none ([] : List Ev).length (evsC ([] : List Ev)) .no, .sl none ([] : List Ev).length (evsC ([] : List Ev)) .no] (.bool true)) : HT Tryd.prog Tryd.f5.ntmps (pr Tryd.f5 3) (stKA p) (EndsA Γ (.pure [] (.bool true)) Tryd.f5) :=
  HT.walk Γ_ok mo_ok (⟨[(21, .call [] (.tup [.sl none ([] : List Ev).length (evsC ([] : List Ev)) .no, .int .i64 c]))], [], [(5, ⟨[1, 3, 5], [1], [], [], []⟩)], [], .pure [] (.bool true)⟩ : Wk) 4000 (T := .ob ((3 : Nat) ≤ (3 : Nat)) (.ob (Ctr Tryd.prog 11 [AV.agg (pthL p)] (AV.tup [AV.sl none (0 : Nat) [] .no, AV.int .i64 c])) (.head (pt Tryd.f5 0) ({ tmps := [(1, AV.ptr 1 0), (3, AV.sl none (0 : Nat) [] .no), (5, AV.int .i64 (0 : Int))], heap := [(1, .var true (pthL p))], tags := [] })))) (by kernel_rfl) (by
    simp only [PT.holds, true_implies, Bool.false_eq_true, Bool.true_eq_false, false_implies, true_and, and_true]
    exact ⟨by omega, h11, head_eq (kb_e p c h10 h11 h12 h13) rfl⟩)
end Go.Proofs.YteimloiaipiadaaDoor
end

section
set_option linter.unusedVariables false
set_option linter.unusedSimpArgs false
set_option maxRecDepth 100000
namespace Go.Proofs.YteimloiaipiadaaDoor
open Go Go.AX

theorem reg3_eq : pr Tryd.f5 3 = .code (.region 3 (opsO (pr Tryd.f5 3)) false) :: (pr Tryd.f5 3).tail := by kernel_rfl
theorem reg7_eq : pr Tryd.f5 7 = .code (.region 7 (opsO (pr Tryd.f5 7)) false) :: (pr Tryd.f5 7).tail := by kernel_rfl
theorem reg11_eq : pr Tryd.f5 11 = .code (.region 11 (opsO (pr Tryd.f5 11)) false) :: (pr Tryd.f5 11).tail := by kernel_rfl
theorem map_ex {x : Option Oper} {p : Op} {q : Option Nat} (h : x.map (fun o => (o.op, o.dst)) = some (p, q)) (hg : x.map (fun o => o.guard.isNone) = some true) : ∃ o, x = some o ∧ o.op = p ∧ o.dst = q ∧ o.guard = none := by
  rw [Option.map_eq_some_iff] at h hg
  obtain ⟨o, h1, h2⟩ := h
  obtain ⟨o', h3, h4⟩ := hg
  rw [h1] at h3
  cases h3
  simp only [Prod.mk.injEq] at h2
  exact ⟨o, h1, h2.1, h2.2, by simpa using h4⟩
theorem op7 : ∃ o, (opsO (pr Tryd.f5 7))[4]? = some o ∧ o.op = .store 9 (.tmp 33) (.const (.string spB)) ∧ o.dst = none ∧ o.guard = none := map_ex (by kernel_rfl) (by kernel_rfl)
theorem op11 : ∃ o, (opsO (pr Tryd.f5 11))[8]? = some o ∧ o.op = .store 9 (.tmp 51) (.const (.string spB)) ∧ o.dst = none ∧ o.guard = none := map_ex (by kernel_rfl) (by kernel_rfl)
theorem op3 : ∃ o, (opsO (pr Tryd.f5 3))[1]? = some o ∧ o.op = .call ⟨.value (.func 11), #[.tmp 20], #[25]⟩ ∧ o.dst = some 21 ∧ o.guard = none := map_ex (by kernel_rfl) (by kernel_rfl)
section
variable {w3 : World} {gb : Nat} {L0 L : List Ev} {a : Act} {w : World} {i j : Nat} {R : Act → World → Prop}
theorem st7 (h : K1 w3 gb L0 L i a w) (hi : i < L.length) (k : ∀ L' a' w', EvsL L L' → K1 w3 gb L0 L' i a' w' → TW Tryd.prog ((pr Tryd.f5 7).tail) R a' w') : TW Tryd.prog (pr Tryd.f5 7) R a w := by
  obtain ⟨FN, h1, h5⟩ := h
  rw [reg7_eq]
  refine TW.step (fun b cs => step_region) (TW.ops ?_)
  rw [show List.range (opsO (pr Tryd.f5 7)).size = [0, 1, 2, 3] ++ [4] from by kernel_rfl]
  obtain ⟨o, ho, hop, hd, hg⟩ := op7
  refine runIdx_pre Γ_ok (ann := []) (os := []) (h1.rel1 h5) (s' := ⟨[(33, .rop (evsC L) ((i : Int).toNat * 5 + 4)), (32, .rop (evsC L) ((i : Int).toNat * 5)), (31, .int .i64 i), (30, .sl none L.length (evsC L) .no), (1, .vptr 1000001 3 0), (3, .sl none L.length (evsC L) .no), (5, .int .i64 i)], [], [(1000001, ⟨3, 25, 1, none⟩)]⟩) (os' := [(0 : Int) ≤ (i : Int) ∧ (i : Int) < (L.length : Int) ∧ (i : Int).toNat * 5 < (evsC L).length]) (by kernel_rfl) (by simp only [All, and_true, Int.toNat_natCast]; rw [evsC_len]; omega) (fun G' a' w' hR' => wp_cons ho hg ?_)
  refine (h1.of hR' rfl rfl rfl).st hR' rfl (d := 33) (off := (i : Int).toNat * 5 + 4) (cells := evsC L) (s0 := (L.getD i ev0).text) rfl (by simp only [Int.toNat_natCast]; ((try simp only [Nat.add_assoc, Nat.reduceAdd, Nat.add_zero]) <;> first | (rw [ats_take _ _ _ _ hi (by decide)]; rfl) | (rw [ats_nth _ _ _ hi (by decide)]; rfl) | (rw [evs_take _ _ _ _ hi (by decide)]; rfl) | (rw [evs_nth _ _ _ hi (by decide)]; rfl) | (rw [trs_take _ _ _ _ hi (by decide)]; rfl) | (rw [trs_nth _ _ _ hi (by decide)]; rfl) | (rw [pths_take _ _ _ _ hi (by decide)]; rfl) | (rw [pths_nth _ _ _ hi (by decide)]; rfl) | (rw [flts_take _ _ _ _ hi (by decide)]; rfl) | (rw [flts_nth _ _ _ hi (by decide)]; rfl) | (rw [ats_take0 _ _ _ hi (by decide)]; rfl) | (rw [ats_nth0 _ _ hi]; rfl) | (rw [evs_take0 _ _ _ hi (by decide)]; rfl) | (rw [evs_nth0 _ _ hi]; rfl) | (rw [trs_take0 _ _ _ hi (by decide)]; rfl) | (rw [trs_nth0 _ _ hi]; rfl) | (rw [pths_take0 _ _ _ hi (by decide)]; rfl) | (rw [pths_nth0 _ _ hi]; rfl) | (rw [flts_take0 _ _ _ hi (by decide)]; rfl) | (rw [flts_nth0 _ _ hi]; rfl))) hop hd (fun L' w'' e1 e2 => ⟨rfl, k L' a' w'' e1 ⟨_, e2, int_slot hR' (k := 5) rfl⟩⟩)
theorem st11 (h : K2 w3 gb L0 L i j a w) (hi : i < L.length) (hj : j < (L.getD i ev0).attrs.length) (k : ∀ L' a' w', EvsL L L' → K2 w3 gb L0 L' i j a' w' → TW Tryd.prog ((pr Tryd.f5 11).tail) R a' w') : TW Tryd.prog (pr Tryd.f5 11) R a w := by
  obtain ⟨FN, h1, h5, h6⟩ := h
  rw [reg11_eq]
  refine TW.step (fun b cs => step_region) (TW.ops ?_)
  rw [show List.range (opsO (pr Tryd.f5 11)).size = [0, 1, 2, 3, 4, 5, 6, 7] ++ [8] from by kernel_rfl]
  obtain ⟨o, ho, hop, hd, hg⟩ := op11
  refine runIdx_pre Γ_ok (ann := [(48, .val (.sl none (L.getD i ev0).attrs.length (atsC (L.getD i ev0).attrs) .no))]) (os := []) (h1.rel2 h5 h6) (s' := ⟨[(51, .rop (atsC (L.getD i ev0).attrs) ((j : Int).toNat * 3 + 2)), (50, .rop (atsC (L.getD i ev0).attrs) ((j : Int).toNat * 3)), (49, .int .i64 j), (48, .sl none (L.getD i ev0).attrs.length (atsC (L.getD i ev0).attrs) .no), (47, .rop (evsC L) ((i : Int).toNat * 5 + 3)), (46, .rop (evsC L) ((i : Int).toNat * 5)), (45, .int .i64 i), (44, .sl none L.length (evsC L) .no), (1, .vptr 1000001 3 0), (3, .sl none L.length (evsC L) .no), (5, .int .i64 i), (6, .int .i64 j)], [], [(1000001, ⟨3, 25, 1, none⟩)]⟩) (os' := [(0 : Int) ≤ (i : Int) ∧ (i : Int) < (L.length : Int) ∧ (i : Int).toNat * 5 < (evsC L).length, (evsC L)[(i : Int).toNat * 5 + 3]? = some (.sl none (L.getD i ev0).attrs.length (atsC (L.getD i ev0).attrs) .no), (0 : Int) ≤ (j : Int) ∧ (j : Int) < ((L.getD i ev0).attrs.length : Int) ∧ (j : Int).toNat * 3 < (atsC (L.getD i ev0).attrs).length]) (by kernel_rfl) ?_ (fun G' a' w' hR' => wp_cons ho hg ?_)
  · simp only [All, and_true, Int.toNat_natCast]
    refine ⟨by rw [evsC_len]; omega, by ((try simp only [Nat.add_assoc, Nat.reduceAdd, Nat.add_zero]) <;> first | (rw [ats_take _ _ _ _ hi (by decide)]; rfl) | (rw [ats_nth _ _ _ hi (by decide)]; rfl) | (rw [evs_take _ _ _ _ hi (by decide)]; rfl) | (rw [evs_nth _ _ _ hi (by decide)]; rfl) | (rw [trs_take _ _ _ _ hi (by decide)]; rfl) | (rw [trs_nth _ _ _ hi (by decide)]; rfl) | (rw [pths_take _ _ _ _ hi (by decide)]; rfl) | (rw [pths_nth _ _ _ hi (by decide)]; rfl) | (rw [flts_take _ _ _ _ hi (by decide)]; rfl) | (rw [flts_nth _ _ _ hi (by decide)]; rfl) | (rw [ats_take0 _ _ _ hi (by decide)]; rfl) | (rw [ats_nth0 _ _ hi]; rfl) | (rw [evs_take0 _ _ _ hi (by decide)]; rfl) | (rw [evs_nth0 _ _ hi]; rfl) | (rw [trs_take0 _ _ _ hi (by decide)]; rfl) | (rw [trs_nth0 _ _ hi]; rfl) | (rw [pths_take0 _ _ _ hi (by decide)]; rfl) | (rw [pths_nth0 _ _ hi]; rfl) | (rw [flts_take0 _ _ _ hi (by decide)]; rfl) | (rw [flts_nth0 _ _ hi]; rfl)), by rw [atsC_len]; omega⟩
  · refine (h1.of hR' rfl rfl rfl).st hR' rfl (d := 51) (off := (j : Int).toNat * 3 + 2) (cells := atsC (L.getD i ev0).attrs) (s0 := ((L.getD i ev0).attrs.getD j atr0).v) rfl (by simp only [Int.toNat_natCast]; ((try simp only [Nat.add_assoc, Nat.reduceAdd, Nat.add_zero]) <;> first | (rw [ats_take _ _ _ _ hj (by decide)]; rfl) | (rw [ats_nth _ _ _ hj (by decide)]; rfl) | (rw [evs_take _ _ _ _ hj (by decide)]; rfl) | (rw [evs_nth _ _ _ hj (by decide)]; rfl) | (rw [trs_take _ _ _ _ hj (by decide)]; rfl) | (rw [trs_nth _ _ _ hj (by decide)]; rfl) | (rw [pths_take _ _ _ _ hj (by decide)]; rfl) | (rw [pths_nth _ _ _ hj (by decide)]; rfl) | (rw [flts_take _ _ _ _ hj (by decide)]; rfl) | (rw [flts_nth _ _ _ hj (by decide)]; rfl) | (rw [ats_take0 _ _ _ hj (by decide)]; rfl) | (rw [ats_nth0 _ _ hj]; rfl) | (rw [evs_take0 _ _ _ hj (by decide)]; rfl) | (rw [evs_nth0 _ _ hj]; rfl) | (rw [trs_take0 _ _ _ hj (by decide)]; rfl) | (rw [trs_nth0 _ _ hj]; rfl) | (rw [pths_take0 _ _ _ hj (by decide)]; rfl) | (rw [pths_nth0 _ _ hj]; rfl) | (rw [flts_take0 _ _ _ hj (by decide)]; rfl) | (rw [flts_nth0 _ _ hj]; rfl))) hop hd (fun L' w'' e1 e2 => ⟨rfl, k L' a' w'' e1 ⟨_, e2, int_slot hR' (k := 5) rfl, int_slot hR' (k := 6) rfl⟩⟩)
/-- The inner loop. -/
theorem kin (hL : L0.length ≤ 1000) (hA : ∀ i, (L0.getD i ev0).attrs.length ≤ 1000) (kk : ∀ L' a' w', EvsL L0 L' → K1 w3 gb L0 L' (i + 1) a' w' → TW Tryd.prog (pt Tryd.f5 0) R a' w') : ∀ d j L a w, j + d = (L0.getD i ev0).attrs.length → i < L0.length → K2 w3 gb L0 L i j a w → TW Tryd.prog (pt Tryd.f5 1) R a w := by
  intro d
  induction d with
  | zero =>
    intro j L a w hj hi h
    obtain ⟨FN, h1, h5, h6⟩ := h
    have hl := h1.evs.len
    have hg := h1.evs.get i
    exact k1_e rfl L i j (by omega) (by omega) (by omega) (fun G' a' w' hR => kk L a' w' h1.evs (h1.of1 hR)) _ a w (h1.rel2 h5 h6)
  | succ d ih =>
    intro j L a w hj hi h
    obtain ⟨FN, h1, h5, h6⟩ := h
    have hl := h1.evs.len
    have hg := h1.evs.get i
    have hA' := hA i
    refine k1_t rfl L i j (by omega) (by omega) (fun G' a' w' hR => ?_) _ a w (h1.rel2 h5 h6)
    refine st11 (h1.of2 hR) (by omega) (by omega) (fun L' a2 w2 _ h2 => ?_)
    obtain ⟨FN2, h3, h7, h8⟩ := h2
    exact k11_t rfl L' i j (by omega) (fun G3 a3 w3 hR3 => ih (j + 1) L' a3 w3 (by omega) hi (h3.of2 hR3)) _ a2 w2 (h3.rel2 h7 h8)
theorem kout (hL : L0.length ≤ 1000) (hA : ∀ i, (L0.getD i ev0).attrs.length ≤ 1000) (ke : ∀ a' w', KE w3 gb a' w' → TW Tryd.prog (pr Tryd.f5 12) R a' w') : ∀ d i L a w, i + d = L0.length → K1 w3 gb L0 L i a w → TW Tryd.prog (pt Tryd.f5 0) R a w := by
  intro d
  induction d with
  | zero =>
    intro i L a w hi h
    obtain ⟨FN, h1, h5⟩ := h
    have hl := h1.evs.len
    exact k0_e rfl L i (by omega) (fun G' a' w' hR => ke a' w' (h1.ofe hR)) _ a w (h1.rel1 h5)
  | succ d ih =>
    intro i L a w hi h
    obtain ⟨FN, h1, h5⟩ := h
    have hl := h1.evs.len
    refine k0_t rfl L i (by omega) (fun G' a' w' hR => ?_) _ a w (h1.rel1 h5)
    refine st7 (h1.of1 hR) (by omega) (fun L' a2 w2 _ h2 => ?_)
    obtain ⟨FN2, h3, h7⟩ := h2
    refine k7_t rfl L' i (fun G3 a3 w3 hR3 => ?_) _ a2 w2 (h3.rel1 h7)
    exact kin hL hA (fun L4 a4 w4 _ h4 => ih (i + 1) L4 a4 w4 (by omega) h4) _ 0 L' a3 w3 (Nat.zero_add _) (by omega) (h3.of2 hR3)
end
theorem call_wp {o : Oper} {f : FuncId} {args : Array Operand} {ts : Array TypeId} (hop : o.op = .call ⟨.value (.func f), args, ts⟩) (hc : ∀ vs w, (callFunc f vs).run Tryd.prog w = .ok (.enter f vs) w) {d : Nat} (hd : o.dst = some d) {a : Act} {w : World} {K : Act → World → Prop} {Q : Exit → Act → World → Prop} (h : Calls Tryd.prog f (args.map a.eval) w (fun e w' => ∃ v, e = .returned v ∧ K (a.put (some d) v) w')) : o.wp Tryd.prog a w K Q := by
  unfold Oper.wp
  have e1 : a.eval (.func f) = .func (.func f) #[] #[] := rfl
  have : (execOp a.eval o).run Tryd.prog w = .ok (.enter f (args.map a.eval)) w := by
    simp only [execOp, hop, resolve, Deferred.ofValue, e1, Sem.run_bind, Sem.run_pure, Result.andThen_ok, invoke, Array.empty_append, Array.append_empty]
    exact hc _ _
  rw [this, Oper.upon_enter]
  refine h.mono fun e' w' hh => ?_
  obtain ⟨v', rfl, h2⟩ := hh
  rw [hd]
  exact h2
end Go.Proofs.YteimloiaipiadaaDoor
end

section
set_option linter.unusedVariables false
set_option linter.unusedSimpArgs false
set_option maxRecDepth 100000
namespace Go.Proofs.YteimloiaipiadaaDoor
open Go Go.AX

/-- The call of Labels, and what is written into its answer. -/
theorem st3 (p : Pth) (hok : p.ok) (hl : (filtersP p).length ≤ 64) (h24 : (labsW (spkW p)).length ≤ 24) {C : Ctx} {G : Env} {a : Act} {w : World} (hnt : C.nt = Tryd.f5.ntmps) (hR : RelG C G (stKA p) a w) {R : Act → World → Prop} (k : ∀ G1 a' w', RelG C G1 (stKA p) a' w' → TW Tryd.prog (pr Tryd.f5 12) R a' w') : TW Tryd.prog (pr Tryd.f5 3) R a w := by
  obtain ⟨w0, G0, nt, Ln, d0, d1⟩ := C
  simp only at hnt
  subst hnt
  rw [reg3_eq]
  refine TW.step (fun b cs => step_region) (TW.ops ?_)
  rw [show List.range (opsO (pr Tryd.f5 3)).size = [0] ++ [1, 2, 3, 4, 5, 6] from by kernel_rfl]
  obtain ⟨o, ho, hop, hd, hg⟩ := op3
  refine runIdx_pre Γ_ok (ann := []) (os := []) hR (s' := ⟨[(20, .agg (pthL p)), (1, .ptr 1 0)], [(1, .var true (pthL p))], []⟩) (os' := [(3 : Nat) ≤ 3]) (by kernel_rfl) (by simp [All]) (fun G1 a1 w1 hR1 => wp_cons ho hg ?_)
  obtain ⟨x1, hx1, hp1⟩ := hR1.slots 1 (.ptr 1 0) rfl
  obtain ⟨x20, hx20, hp20⟩ := hR1.slots 20 (.agg (pthL p)) rfl
  cases hp1 with
  | ptr _ _ g hφ =>
    have htree := treeH_sound hR1 hp20 (y := .agg (pthL p)) rfl (by simp [All])
    have e20 : #[Operand.tmp 20].map a1.eval = #[x20] := by simp [Act.eval, hx20]
    refine call_wp hop Tryd.call11 hd ?_
    rw [e20]
    have hargs : Args w1 G1.F [.agg (pthL p)] #[x20] := ⟨rfl, fun i c v hc hv => by
      match i, hc, hv with
      | 0, hc, hv =>
        simp at hc hv
        subst hc; subst hv
        exact htree.tree (fun _ _ h => h)
      | n + 1, hc, hv => simp at hc⟩
    refine (labN p hok hl h24 w1 G1.F #[x20] hR1.mem.fdom hargs).mono fun e w2 hh => ?_
    obtain ⟨v, he, hk, F', hF', hrep⟩ := hh
    refine ⟨v, he, ?_⟩
    have hsz : a1.tmps.size = Tryd.f5.ntmps := hR1.size
    have hR2 : RelG (ctxK w2 F' g Tryd.f5.ntmps) (ctxK w2 F' g Tryd.f5.ntmps).G0 ⟨[(1, .vptr 1000001 3 0), (21, .tup [.sl none (labsW (spkW p)).length (evsC (labsW (spkW p))) .no, .int .i64 0])], [], tagK⟩ (a1.put (some 21) v) w2 := by
      refine relK hR1.defers (by simp [Act.put, hsz]) (fun b o h => (hF' b o h).2) (fun i y hy => ?_)
      simp only [look_cons] at hy
      split at hy
      · rename_i e; subst e; cases hy
        refine ⟨.pointer (some ⟨g, 0, none⟩), ?_, .vptr _ _ _ _ (recK g) (by simp [ctxK]) (Nat.le_refl _) (fun _ => ⟨g, _, _, rfl, rfl⟩)⟩
        simp only [Act.put]
        rw [Array.getElem?_setIfInBounds_ne (by decide)]
        exact hx1
      split at hy
      · rename_i e; subst e; cases hy
        refine ⟨v, ?_, (hrep.tree (G' := (ctxK w2 F' g Tryd.f5.ntmps).G0) (fun _ _ h => h)).up⟩
        simp only [Act.put]
        rw [Array.getElem?_setIfInBounds_self_of_lt (by rw [hsz]; exact of_decide_eq_true (by kernel_rfl))]
      · simp [AX.look] at hy
    refine runIdx_sound Γ_ok (ann := []) (os := []) hR2 (s' := ⟨[(4, .int .i64 0), (3, .sl none (labsW (spkW p)).length (evsC (labsW (spkW p))) .no), (23, .int .i64 0), (22, .sl none (labsW (spkW p)).length (evsC (labsW (spkW p))) .no), (19, .tup [.sl none (labsW (spkW p)).length (evsC (labsW (spkW p))) .no, .int .i64 0]), (1, .vptr 1000001 3 0), (21, .tup [.sl none (labsW (spkW p)).length (evsC (labsW (spkW p))) .no, .int .i64 0])], [], tagK⟩) (os' := []) (by kernel_rfl) trivial (fun G3 a3 w3 hR3 => ⟨rfl, ?_⟩)
    have hLK : LK w1 g (labsW (spkW p)) (labsW (spkW p)) G3.F a3 w3 := by
      obtain ⟨x, h4, h5⟩ := hR3.slots 3 _ rfl
      refine ⟨fun b o hf => ⟨?_, hR3.mem.fdom b o hf⟩, slot1K hR3 rfl rfl, ⟨x, h4, sl_tree h5⟩, keep0 hk hR3.mem.keep, hR3.defers, hR3.size, EvsL.refl _⟩
      by_cases hb : b < w2.heap.size
      · rcases hR3.mem.fold b o hf hb with h4 | h4
        · exact (hF' b o h4).1
        · exact h4.elim
      · have := hk.size; omega
    refine k3_t (C := ctxK w3 G3.F g Tryd.f5.ntmps) rfl (labsW (spkW p)) (fun G4 a4 w4 hR4 => ?_) _ a3 w3 (relK hLK.dfr hLK.size (fun b o hf => (hLK.dom b o hf).2) (fun i y hy => ?_))
    · have hs := speaks_small p hl
      refine kout (by omega) (fun i => ?_) (fun a5 w5 hE => ?_) _ 0 _ a4 w4 (Nat.zero_add _) (hLK.of1 hR4)
      · by_cases hi : i < (labsW (spkW p)).length
        · have := labsW_attrs (spkW p) ((labsW (spkW p)).getD i ev0) (by rw [List.getD_eq_getElem?_getD, List.getElem?_eq_getElem hi]; exact List.getElem_mem hi)
          omega
        · rw [List.getD_eq_getElem?_getD, List.getElem?_eq_none (by omega)]
          exact Nat.zero_le _
      · have hkb := hE.keep
        obtain ⟨q1, _⟩ := hR1.grow (G' := G1) (w' := w5) ⟨hkb.os, hkb.tape, hkb.output, hkb.size, fun k hk => hkb.block k hk (fun h => h)⟩ hkb.fz rfl rfl (fun _ _ h => h) (fun _ _ h => .inl h)
        refine k G1 a5 w5 ⟨hE.dfr, hE.size, fun i y hy => ?_, q1.mem⟩
        simp only [stKA, look_cons] at hy
        split at hy
        · rename_i e; subst e; cases hy
          exact ⟨_, hE.box, .ptr _ _ _ hφ⟩
        · simp [AX.look] at hy
    · simp only [look_cons] at hy
      split at hy
      · rename_i e; subst e; cases hy; exact hLK.s1
      split at hy
      · rename_i e; subst e; cases hy; exact hLK.s3
      · simp [AX.look] at hy
/-- The law: what is answered is new memory. -/
theorem keepsLaw_ctr (p : Pth) (hok : p.ok) : Ctr Tryd.prog 5 [.agg (pthL p)] (.bool true) := by
  obtain ⟨x, hx, h10⟩ := rightp2_ex p hok
  cases x with
  | false => exact keeps_f p awake_ctr h10
  | true =>
    have hl := filters_64 p (hx rfl).2
    have hs := speaks_small p hl
    have h11 := Labels_all p hok hl
    have h12 := refLabels_all p hok (hx rfl).1 hl
    have h13 := same_ctr (ansL (spkW p)) (by have := ansL_len (spkW p); omega) (fun e he => by have := labsW_attrs _ _ (ansL_mem _ _ he); omega)
    refine Ctr.mk Γ_ok Tryd.func5 (by kernel_rfl) Tryd.call5 [] (by kernel_rfl) ?_
    show HT0 _ _ _ _ _
    intro C G a w hnt hR
    refine ks_t hnt p awake_ctr h10 (fun G3 a3 w3 hR3 => ?_) G a w hR
    by_cases h24 : (labsW (spkW p)).length ≤ 24
    · exact st3 p hok hl h24 hnt hR3 (fun G1 a' w' hR' => (k12_ht p _ _ h10 h11 h12 h13).tw C G1 a' w' hnt hR')
    · have e : ansL (spkW p) = [] := by unfold ansL; rw [if_neg h24]
      rw [e] at h11 h12 h13
      exact (kb_p p _ h10 h11 h12 h13).tw C G3 a3 w3 hnt hR3
end Go.Proofs.YteimloiaipiadaaDoor
end
