import Derived.Test.YtbedjjckfmhdfaaAxD
set_option linter.unusedVariables false
set_option linter.unusedSimpArgs false
namespace Go.AX
open Go Go.RowKit

theorem kind_slice {P : Program} {d : TypeDesc} {e : TypeId} (h : kindOk P d (.slice e)) : d = .slice e := by cases d <;> simp_all [kindOk]
theorem kind_struct {P : Program} {d : TypeDesc} {gs : List (Nat × TypeId)} (h : kindOk P d (.struct gs)) : ∃ fs, d = .struct fs ∧ gs = fs.toList.map fun f => (f.offset, f.type) := by cases d <;> simp_all [kindOk]
theorem kind_int {P : Program} {d : TypeDesc} {k : IntKind} (h : kindOk P d (.int k)) : d = .int k := by cases d <;> simp_all [kindOk]
theorem kind_str {P : Program} {d : TypeDesc} (h : kindOk P d .str) : d = .string := by cases d <;> simp_all [kindOk]

def unA (op : UnOp) (x : AV) : VR :=
  match op, x with
  | .not, .bool b => some (.bool (!b), [])
  | .neg, .int k n => some (.int k (k.wrap (0 - n)), [])
  | _, _ => none
theorem unA_sound {P : Program} {op : UnOp} {x v : AV} {os : List Prop} (h : unA op x = some (v, os)) {w : World} {G : Env} {vx : Value} (hx : Rep w G true x vx) : ∃ u, (Op.unary op vx).run P w = .ok u w ∧ Rep w G true v u := by
  unfold unA at h
  split at h
  · cases h; cases hx; exact ⟨_, rfl, .bool _ _⟩
  · cases h; cases hx; exact ⟨_, by simp [Op.unary, Op.intArith], .int _ _ _⟩
  · cases h

/-! ### Fields -/
def fieldAddrA (Γ : TT) (t : TypeId) (p : AV) (f : Nat) : VR :=
  match look Γ t with
  | some ti => match ti.kind with
    | .struct fs => match fs[f]? with
      | some (off, ft) => match look Γ ft with
        | some fi => match fi.size with
          | 0 => none
          | _ + 1 => match p with
            | .rop cells o => some (.rop cells (o + off), [])
            | .ptr id o => some (.ptr id (o + off), [])
            | _ => none
        | none => none
      | none => none
    | _ => none
  | none => none
theorem fieldAddrA_sound {P : Program} {Γ : TT} (hΓ : Γok P Γ) {t : TypeId} {p v : AV} {f : Nat} {os : List Prop} (h : fieldAddrA Γ t p f = some (v, os)) {w : World} {G : Env} {vp : Value} (hp : Rep w G true p vp) :
    ∃ u, (Instr.fieldAt t vp f).run P w = .ok u w ∧ Rep w G true v u := by
  unfold fieldAddrA at h
  split at h
  · rename_i ti hti
    obtain ⟨i, d, z, hi, hd, hsz, hby, hz, hzs, hz0, hz1, hag, hk⟩ := (hΓ t ti hti).ex
    split at h
    · rename_i fs hfs
      rw [hfs] at hk
      obtain ⟨gs, rfl, rfl⟩ := kind_struct hk
      split at h
      · rename_i off ft hf
        simp only [List.getElem?_map, Option.map_eq_some_iff, Prod.mk.injEq] at hf
        obtain ⟨fd, hfd, rfl, rfl⟩ := hf
        have hfd' : gs[f]? = some fd := by simpa using hfd
        split at h
        · rename_i fi hfi
          obtain ⟨i2, d2, z2, hi2, hd2, hsz2, _⟩ := (hΓ _ fi hfi).ex
          split at h
          · cases h
          · rename_i k hk2
            have hne : i2.size ≠ 0 := by omega
            split at h
            · rename_i cells o
              cases h
              cases hp with
              | rop _ _ _ ad vs hcell hrep =>
                refine ⟨.pointer (some ⟨ad.block, ad.off + (o + fd.offset), none⟩), ?_, .rop _ _ _ ad vs hcell hrep⟩
                simp [Instr.fieldAt, run_underlying hd, hfd', Instr.sureAddr, fieldPlace, sizeOf, typeInfo, hi2, hne, Addr.add]
                by_cases h0 : fd.offset = 0 <;> simp [h0, Nat.add_assoc]
            · rename_i id o
              cases h
              cases hp with
              | ptr _ _ g hg =>
                refine ⟨.pointer (some ⟨g, o + fd.offset, none⟩), ?_, .ptr _ _ _ hg⟩
                simp [Instr.fieldAt, run_underlying hd, hfd', Instr.sureAddr, fieldPlace, sizeOf, typeInfo, hi2, hne, Addr.add]
            · cases h
        · cases h
      · cases h
    · cases h
  · cases h

/-- A part of a struct's cells. -/
theorem part_sound {P : Program} {ti : TI} {t : TypeId} (hok : TIok P t ti) {cells : List AV} {off : Nat} {ann : Option AV} {v : AV} {os : List Prop} (h : cellsAt ti cells off ann = some (v, os)) (ho : All os) {w : World} {G : Env} {l : Bool}
    {vs : Array Value} (hl : vs.size = cells.length) (hr : ∀ (i : Nat) (c : AV) (v : Value), cells[i]? = some c → vs[i]? = some v → Rep w G l c v) (h1 : ∀ v ∈ vs, v.oneCell' = true) :
    ∃ u, (part t vs off).run P w = .ok u w ∧ Rep w G l v u := by
  obtain ⟨i, d, z, hi, hd, hsz, hby, hz, hzs, hz0, hz1, hag, hk⟩ := hok.ex
  rcases cellsAt_spec h ho with ⟨ha, cs, rfl, hcl, hcs⟩ | ⟨ha, hc⟩
  · refine ⟨.agg (vs.extract off (off + ti.size)), ?_, ?_⟩
    · have hagg : (isAgg t).run P w = .ok true w := by
        unfold isAgg
        rw [Sem.run_bind, run_underlying hd w]
        unfold TI.agg at ha
        cases hkk : ti.kind <;> rw [hkk] at ha hk <;> first | cases ha | skip
        cases d <;> simp_all [kindOk]
      simp [part, hagg, sizeOf, typeInfo, hi, hsz]
    · have hlen : cs.length = min ti.size (cells.length - off) := by rw [← hcs]; simp
      refine .agg _ _ _ ?_ ?_ ?_
      · simp; omega
      · intro j c u hj hu
        rw [← hcs, List.getElem?_take] at hj
        split at hj
        · rename_i hlt
          rw [List.getElem?_drop] at hj
          refine hr (off + j) c u hj ?_
          rw [Array.getElem?_extract] at hu
          split at hu
          · exact hu
          · cases hu
        · cases hj
      · intro u hu
        obtain ⟨j, hj, rfl⟩ := Array.mem_iff_getElem.1 hu
        simp only [Array.getElem_extract]
        exact h1 _ (Array.getElem_mem _)
  · have hlt : off < vs.size := by rw [hl]; exact (List.getElem?_eq_some_iff.1 hc).1
    refine ⟨vs[off], ?_, hr off v _ hc (Array.getElem?_eq_getElem hlt)⟩
    have hagg : (isAgg t).run P w = .ok false w := by
      unfold isAgg
      rw [Sem.run_bind, run_underlying hd w]
      unfold TI.agg at ha
      cases hkk : ti.kind <;> rw [hkk] at ha hk <;> first | cases ha | skip
      all_goals cases d <;> simp_all [kindOk]
    simp [part, hagg, hlt]

def fieldA (Γ : TT) (t : TypeId) (x : AV) (f : Nat) (ann : Option AV) : VR :=
  match look Γ t with
  | some ti => match ti.kind with
    | .struct fs => match fs[f]? with
      | some (off, ft) => match look Γ ft with
        | some fi => match x with
          | .agg cs => cellsAt fi cs off ann
          | _ => none
        | none => none
      | none => none
    | _ => none
  | none => none
theorem fieldA_sound {P : Program} {Γ : TT} (hΓ : Γok P Γ) {t : TypeId} {x v : AV} {f : Nat} {ann : Option AV} {os : List Prop} (h : fieldA Γ t x f ann = some (v, os)) (ho : All os) {w : World} {G : Env} {vx : Value} (hx : Rep w G true x vx) :
    ∃ u, (Instr.field t vx f).run P w = .ok u w ∧ Rep w G true v u := by
  unfold fieldA at h
  split at h
  · rename_i ti hti
    obtain ⟨i, d, z, hi, hd, hsz, hby, hz, hzs, hz0, hz1, hag, hk⟩ := (hΓ t ti hti).ex
    split at h
    · rename_i fs hfs
      rw [hfs] at hk
      obtain ⟨gs, rfl, rfl⟩ := kind_struct hk
      split at h
      · rename_i off ft hf
        simp only [List.getElem?_map, Option.map_eq_some_iff, Prod.mk.injEq] at hf
        obtain ⟨fd, hfd, rfl, rfl⟩ := hf
        have hfd' : gs[f]? = some fd := by simpa using hfd
        split at h
        · rename_i fi hfi
          split at h
          · cases hx with
            | agg _ cs vs hl hr h1 =>
              obtain ⟨u, h2, h3⟩ := part_sound (P := P) (hΓ _ fi hfi) h ho hl hr h1
              exact ⟨u, by simp [Instr.field, run_underlying hd, hfd', asAgg, h2], h3⟩
          · cases h
        · cases h
      · cases h
    · cases h
  · cases h

/-! ### Elements -/
def indexAddrA (Γ : TT) (t : TypeId) (x i : AV) : VR :=
  match look Γ t with
  | some ti => match ti.kind with
    | .slice e => match look Γ e with
      | some ei => match x, i with
        | .sl _ n cells _, .int _ j => some (.rop cells (j.toNat * ei.size), [0 ≤ j ∧ j < n ∧ j.toNat * ei.size < cells.length])
        | .row id off n, .int _ j => some (.ptr id (off + j.toNat * ei.size), [0 ≤ j ∧ j < n])
        | _, _ => none
      | none => none
    | _ => none
  | none => none
theorem indexAddrA_sound {P : Program} {Γ : TT} (hΓ : Γok P Γ) {t : TypeId} {x j v : AV} {os : List Prop} (h : indexAddrA Γ t x j = some (v, os)) (ho : All os) {w : World} {G : Env} {vx vj : Value} (hx : Rep w G true x vx) (hj : Rep w G true j vj) :
    ∃ u, (Instr.indexAt t vx vj).run P w = .ok u w ∧ Rep w G true v u := by
  unfold indexAddrA at h
  split at h
  · rename_i ti hti
    obtain ⟨i, d, z, hi, hd, hsz, hby, hz, hzs, hz0, hz1, hag, hk⟩ := (hΓ t ti hti).ex
    split at h
    · rename_i e he
      rw [he] at hk
      obtain rfl := kind_slice hk
      split at h
      · rename_i ei hei
        obtain ⟨i2, d2, z2, hi2, hd2, hsz2, _⟩ := (hΓ _ ei hei).ex
        split at h
        · rename_i nl n cells oo k j
          cases h
          cases hj
          simp only [All] at ho
          obtain ⟨h0, h1, h2⟩ := ho
          cases hx with
          | sl _ _ _ _ _ A c vs hnl hpos hc hcell hrep hclip hown =>
            obtain ⟨ad, rfl, hsp⟩ := hpos (by omega)
            refine ⟨.pointer (some ⟨ad.block, ad.off + j.toNat * ei.size, none⟩), ?_, .rop _ _ _ ad vs (fun k x hx => ?_) hrep⟩
            · have := add_spot ad (j.toNat * ei.size) hsp
              simp [Instr.indexAt, asIntOf, run_underlying hd, h0, h1, sizeOf, typeInfo, hi2, hsz2, this]
            · obtain ⟨ad', e', hs', hf, hw, h3⟩ := hcell k x hx
              cases e'
              exact ⟨hf, hw, h3⟩
        · rename_i id off n k j
          cases h
          cases hj
          simp only [All] at ho
          obtain ⟨h0, h1⟩ := ho
          cases hx with
          | row _ _ _ g c hg hc =>
            refine ⟨.pointer (some ⟨g, off + j.toNat * ei.size, none⟩), ?_, .ptr _ _ _ hg⟩
            have := add_spot ⟨g, off, none⟩ (j.toNat * ei.size) rfl
            simp [Instr.indexAt, asIntOf, run_underlying hd, h0, h1, sizeOf, typeInfo, hi2, hsz2, this]
        · cases h
      · cases h
    · cases h
  · cases h

def byteAt (s : ByteArray) (i : Int) : Int := ((s[i.toNat]?).getD 0).toNat
def indexA (Γ : TT) (t : TypeId) (x i : AV) : VR :=
  match look Γ t with
  | some ti => match ti.kind with
    | .str => match x, i with
      | .str s, .int _ j => some (.int .u8 (byteAt s j), [0 ≤ j ∧ j < s.size])
      | _, _ => none
    | _ => none
  | none => none
theorem indexA_sound {P : Program} {Γ : TT} (hΓ : Γok P Γ) {t : TypeId} {x j v : AV} {os : List Prop} (h : indexA Γ t x j = some (v, os)) (ho : All os) {w : World} {G : Env} {vx vj : Value} (hx : Rep w G true x vx) (hj : Rep w G true j vj) :
    ∃ u, (Instr.index t vx vj).run P w = .ok u w ∧ Rep w G true v u := by
  unfold indexA at h
  split at h
  · rename_i ti hti
    obtain ⟨i, d, z, hi, hd, hsz, hby, hz, hzs, hz0, hz1, hag, hk⟩ := (hΓ t ti hti).ex
    split at h
    · rename_i he
      rw [he] at hk
      obtain rfl := kind_str hk
      split at h
      · rename_i s k j
        cases h
        cases hj
        cases hx
        simp only [All] at ho
        obtain ⟨h0, h1⟩ := ho
        have hlt : j.toNat < s.size := by omega
        refine ⟨.int .u8 (byteAt s j), ?_, .int _ _ _⟩
        simp [Instr.index, asIntOf, run_underlying hd, h0, byteAt, hlt]
      · cases h
    · cases h
  · cases h

def extractA (x : AV) (ix : Nat) : VR :=
  match x with
  | .tup vs => match vs[ix]? with
    | some v => some (v, [])
    | none => none
  | _ => none
theorem extractA_sound {P : Program} {x v : AV} {ix : Nat} {os : List Prop} (h : extractA x ix = some (v, os)) {w : World} {G : Env} {vx : Value} (hx : Rep w G true x vx) : ∃ u, (Instr.extract vx ix).run P w = .ok u w ∧ Rep w G true v u := by
  unfold extractA at h
  split at h
  · split at h
    · rename_i v' hv
      cases h
      cases hx with
      | tup _ cs vs hl hr =>
        have hlt : ix < vs.size := by rw [hl]; exact (List.getElem?_eq_some_iff.1 hv).1
        exact ⟨vs[ix], by simp [Instr.extract, hlt], hr ix _ _ hv (Array.getElem?_eq_getElem hlt)⟩
    · cases h
  · cases h

end Go.AX
