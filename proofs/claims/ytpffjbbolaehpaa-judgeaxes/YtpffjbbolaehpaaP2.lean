import Derived.Test.YtpffjbbolaehpaaP1
import Derived.Laws.Cover4
import Derived.Laws.BytesArg
import Derived.Lib.ConvBytes
import Derived.Lib.OthersKept
section
set_option linter.unusedVariables false
set_option linter.unusedSimpArgs false
namespace Go.AX
open Go Go.RowKit

/-- What an operation leaves: the state but for its destination, the value, what must hold. -/
abbrev SR := Option (AS × AV × List Prop)

def VSound (P : Program) (C : Ctx) (s' : AS) (a : Act) (w : World) (m : Sem Value) (v : AV) : Prop :=
  ∃ x w' G', m.run P w = .ok x w' ∧ RelG C G' s' a w' ∧ Rep w' G' true v x

theorem VSound.pure {P : Program} {C : Ctx} {G : Env} {s : AS} {a : Act} {w : World} {m : Sem Value} {v : AV} (h : RelG C G s a w) (hm : ∃ x, m.run P w = .ok x w ∧ Rep w G true v x) : VSound P C s a w m v := by
  obtain ⟨x, h1, h2⟩ := hm
  exact ⟨x, w, G, h1, h, h2⟩

/-! ### A new variable -/
def newA (s : AS) (d : Nat) (cs : List AV) : SR :=
  match look s.heap d with
  | none => some (s.blk d (.var true cs), .ptr d 0, [])
  | some _ => none

theorem newA_sound {P : Program} {C : Ctx} {G : Env} {s s' : AS} {a : Act} {w : World} (h : RelG C G s a w) {d : Nat} {cs : List AV} {v : AV} {os : List Prop} (hn : newA s d cs = some (s', v, os)) {vs : Array Value} (hp : Pw w G true cs vs) (t : TypeId) :
    ∃ G', RelG C G' s' a (w.alloc (.cells vs t)) ∧ Rep (w.alloc (.cells vs t)) G' true v (.pointer (some ⟨w.heap.size, 0, none⟩)) := by
  unfold newA at hn
  split at hn
  · rename_i hl
    cases hn
    have hgr := (h.grow (G' := G) (w' := w.alloc (.cells vs t)) ((Below.refl _ _).alloc (Nat.le_refl _) _) (Unf.alloc _ (fun _ _ _ h => by cases h; exact .inl rfl)) rfl rfl (fun _ _ h => h) (fun _ _ h => .inl h)).2
    obtain ⟨h1, h2⟩ := h.alloc (i := d) (b := .var true cs) (o := .cells vs t) hl ⟨vs, t, heap_alloc_new w _, hp.1, fun i c v a b => (hp.2.1 i c v a b).mono hgr, hp.2.2, fun o ho hw => by cases hw⟩
    exact ⟨_, h1, .ptr _ _ _ (by simp [Env.addB])⟩
  · cases hn

def allocA (Γ : TT) (s : AS) (d : Nat) (t : TypeId) : SR :=
  match look Γ t with
  | some ti => newA s d ti.zero
  | none => none
theorem allocA_sound {P : Program} {Γ : TT} (hΓ : Γok P Γ) {C : Ctx} {G : Env} {s s' : AS} {a : Act} {w : World} (h : RelG C G s a w) {d : Nat} {t : TypeId} {v : AV} {os : List Prop} (hn : allocA Γ s d t = some (s', v, os)) :
    VSound P C s' a w (Instr.alloc t true (.tuple #[])) v := by
  unfold allocA at hn
  split at hn
  · rename_i ti hti
    obtain ⟨i, d', z, hi, hd, hsz, hby, hz, hzs, hz0, hz1, hag, hk⟩ := (hΓ t ti hti).ex
    rw [hz0] at hn
    obtain ⟨G', h1, h2⟩ := newA_sound (P := P) h hn (pw_zero w G true z hz1) t
    exact ⟨_, _, G', by simp [Instr.alloc, zeroValue, typeInfo, hi, hz, newVar, newRow], h1, h2⟩
  · cases hn

def boxA (Γ : TT) (s : AS) (d : Nat) (t : TypeId) (x : AV) : SR :=
  match look Γ t, x.real with
  | some ti, true => newA s d (cellsOf x)
  | _, _ => none
theorem boxA_sound {P : Program} {Γ : TT} (hΓ : Γok P Γ) {C : Ctx} {G : Env} {s s' : AS} {a : Act} {w : World} (h : RelG C G s a w) {d : Nat} {t : TypeId} {x v : AV} {u : Value} (hx : Rep w G true x u) {os : List Prop} (hn : boxA Γ s d t x = some (s', v, os)) :
    VSound P C s' a w (Instr.box t u) v := by
  unfold boxA at hn
  split at hn
  · rename_i ti hti hr
    obtain ⟨G', h1, h2⟩ := newA_sound (P := P) h hn (real_pw hx hr) t
    exact ⟨_, _, G', by simp [Instr.box, newVar, newRow], h1, h2⟩
  · cases hn

/-! ### make -/
def makeA (Γ : TT) (s : AS) (d : Nat) (t : TypeId) (l c : AV) : SR :=
  match look Γ t with
  | some ti => match ti.kind with
    | .slice e => match look Γ e with
      | some ei => match l, c, ei.zero, look s.heap d with
        | .int _ n, .int _ m, [z], none => some (s.blk d (.rows true (List.replicate n.toNat (zn z))), .row d 0 n.toNat, [n = m ∧ 0 ≤ n ∧ n * ei.bytes ≤ 281474976710656 ∧ n ≤ 9223372036854775807])
        | _, _, _, _ => none
      | none => none
    | _ => none
  | none => none

theorem makeA_sound {P : Program} {Γ : TT} (hΓ : Γok P Γ) {C : Ctx} {G : Env} {s s' : AS} {a : Act} {w : World} (h : RelG C G s a w) {d : Nat} {t : TypeId} {l c v : AV} {vl vc : Value} (hl : Rep w G true l vl) (hc : Rep w G true c vc) {os : List Prop} (hn : makeA Γ s d t l c = some (s', v, os)) (ho : All os) :
    VSound P C s' a w (Instr.makeSlice t vl vc) v := by
  unfold makeA at hn
  split at hn
  · rename_i ti hti
    obtain ⟨i, d', z, hi, hd, hsz, hby, hz, hzs, hz0, hz1, hag, hk⟩ := (hΓ t ti hti).ex
    split at hn
    · rename_i e he
      rw [he] at hk
      obtain rfl := kind_slice hk
      split at hn
      · rename_i ei hei
        obtain ⟨i2, d2, z2, hi2, hd2, hsz2, hby2, hz2, hzs2, hz02, hz12, hag2, hk2⟩ := (hΓ _ ei hei).ex
        split at hn
        · rename_i kl n kc m z1 hzl hlk
          cases hn
          simp only [All] at ho
          obtain ⟨rfl, h0, hb, h63⟩ := ho
          cases hl; cases hc
          -- one cell an element
          obtain ⟨u, hu⟩ : ∃ u, z2.cells = #[u] := by
            rw [hzl] at hz02
            have hlen : z2.cells.size = 1 := by
              have := congrArg List.length hz02
              simpa using this.symm
            exact Array.size_eq_one_iff.1 hlen
          have hzu : zAV u = z1 := by rw [hzl, hu] at hz02; simpa using hz02.symm
          have hu1 : u.oneCell' = true := hz12 u (by rw [hu]; simp)
          have hs1 : i2.size = 1 := by rw [hsz2, ← hzs2, hu]; rfl
          have hw : IntKind.i64.wrap n = n := IntWalk.i64_in _ (by omega)
          have htl : ¬ (281474976710656 < (i2.bytes : Int) * n) := by rw [hby2, Int.mul_comm]; omega
          have hz' : (zeroValue e).run P w = .ok z2 w := by simp [zeroValue, typeInfo, hi2, hz2]
          let cells : Array Value := (Array.range n.toNat).map fun _ => u
          have hrun : (Instr.makeSlice t (.int kl n) (.int kc n)).run P w = .ok (.slice (some ⟨w.heap.size, 0, none⟩) n.toNat n.toNat) (w.alloc (.cells cells e)) := by
            have hneg : ¬ n < 0 := by omega
            have hroom : ∀ k, (askRoom k).run P w = .ok () w := fun k => by unfold askRoom; split <;> simp [mark, Sem.run]
            by_cases hn0 : n.toNat = 0
            · simp [Instr.makeSlice, run_underlying hd, asInt, asIntOf, typeInfo, hi2, hw, hneg, htl, hroom, sizeOf, hs1, hn0, newRow, cells]
              have hr0 : Array.range 0 = #[] := Array.eq_empty_of_size_eq_zero (by simp)
              rw [hr0]
              simp
            · simp [Instr.makeSlice, run_underlying hd, asInt, asIntOf, typeInfo, hi2, hw, hneg, htl, hroom, sizeOf, hs1, hn0, newRow, cells, zeroValue, hz2, hu, Nat.mod_one]
          have hgr := (h.grow (G' := G) (w' := w.alloc (.cells cells e)) ((Below.refl _ _).alloc (Nat.le_refl _) _) (Unf.alloc _ (fun _ _ _ h => by cases h; exact .inl rfl)) rfl rfl (fun _ _ h => h) (fun _ _ h => .inl h)).2
          have hcz : cells.size = n.toNat := by simp [cells]
          have hcg : ∀ x ∈ cells, x = u := fun x hx => by
            obtain ⟨k, _, rfl⟩ := Array.mem_map.1 hx
            rfl
          obtain ⟨h1, h2⟩ := h.alloc (i := d) (b := .rows true (List.replicate n.toNat (zn z1))) (o := .cells cells e) hlk ⟨cells, e, heap_alloc_new w _, by simp [hcz], fun i c v hc hv => by
            have e1 : c = zn z1 := by
              rw [List.getElem?_replicate] at hc
              split at hc
              · cases hc; rfl
              · cases hc
            have e2 : v = u := hcg v (Array.mem_of_getElem? hv)
            subst e1; subst e2
            rw [← hzu]
            exact zn_rep (zAV_rep _ _ _ _), fun v hv => by rw [hcg v hv]; exact hu1, fun o ho hw => by cases hw⟩
          exact ⟨_, _, _, hrun, h1, .row _ _ _ _ _ (by simp [Env.addB]) (Nat.le_refl _)⟩
        · cases hn
      · cases hn
    · cases hn
  · cases hn

/-! ### A store -/
/-- Cells are written over a row of cells. -/
def setAt (cells : List AV) (off : Nat) : List AV → List AV
  | [z] => cells.set off z
  | l => splice cells off l
/-- A slice of one's own is laid into the slice of slices; its tag is given up. -/
def putA (s : AS) (size n off : Nat) : AV → Option (AS × List Prop)
  | .vec k n' => match look s.tags k, look s.tags DT, Nat.beq k DT, size with
    | some ⟨n2, e2, sz2, some (false, xs)⟩, some ⟨m, e, sz, some (true, cells)⟩, false, 1 => match Nat.beq e2 DE, Nat.beq sz2 1 with
      | true, true => some ((s.tag k ⟨n2 + 1, e2, sz2, none⟩).tag DT ⟨m, e, sz, some (true, setAt cells off [.sl none n' xs .no])⟩, [n = m ∧ off + 1 ≤ cells.length ∧ n' = n2])
      | _, _ => none
    | _, _, _, _ => none
  | _ => none
def storeA (Γ : TT) (s : AS) (t : TypeId) (p x : AV) : Option (AS × List Prop) :=
  match look Γ t, x.real with
  | some ti, true => match p with
    | .ptr id off => match look s.heap id with
      | some (.var true cs) => match Nat.beq (cellsOf x).length ti.size, Nat.ble (off + ti.size) cs.length with
        | true, true => some (s.blk id (.var true (splice cs off (cellsOf x))), [])
        | _, _ => none
      | some (.rows true cs) => match ti.agg, x with
        | false, .bool b => some (s.blk id (.rows true (cs.set off (.bool b))), [off < cs.length])
        | false, .int k n => some (s.blk id (.rows true (cs.set off (.int k n))), [off < cs.length])
        | false, .str b => some (s.blk id (.rows true (cs.set off (.str b))), [off < cs.length])
        | _, _ => none
      | _ => none
    | .vptr t n off => match Nat.beq t DT with
      | true => putA s ti.size n off x
      | false => match look s.tags t, tree x with
        | some ⟨m, e, sz, some (true, cells)⟩, some y => match Nat.beq (cellsOf y).length ti.size with
          | true => some (s.tag t ⟨m, e, sz, some (true, setAt cells off (cellsOf y))⟩, [n = m ∧ off + ti.size ≤ cells.length])
          | false => none
        | _, _ => none
    | _ => none
  | _, _ => none

theorem setAt_splice {cells : List AV} {off : Nat} {l : List AV} (h : off + l.length ≤ cells.length) : setAt cells off l = splice cells off l := by
  unfold setAt
  split
  · rename_i z
    simp only [List.length_cons, List.length_nil] at h
    refine List.ext_getElem? fun k => ?_
    rw [splice_get (by simpa using h), List.getElem?_set]
    by_cases hk : off = k
    · subst hk
      simp [show off < cells.length by omega]
    · rw [if_neg hk, if_neg (by simp; omega)]
  · rfl

theorem Pw.mono {w w' : World} {G G' : Env} {l : Bool} {cs : List AV} {vs : Array Value} (h : Pw w G l cs vs) (hle : Env.Le w G w' G') : Pw w' G' l cs vs := ⟨h.1, fun i c v a b => (h.2.1 i c v a b).mono hle, h.2.2⟩

theorem setRow_le {w : World} {g : Nat} (cur : Array Value) : (∀ k, k ≠ g → (w.setRow g cur).heap[k]? = w.heap[k]?) ∧ (w.setRow g cur).heap.size = w.heap.size ∧ (w.setRow g cur).os = w.os ∧ (w.setRow g cur).tape = w.tape ∧ (w.setRow g cur).output = w.output :=
  ⟨fun k hk => setRow_other w g k cur hk, by simp, rfl, rfl, rfl⟩

theorem listSplice_get {α : Type} (l : List α) (off : Nat) (us : List α) (h : off + us.length ≤ l.length) (k : Nat) : (l.take off ++ us ++ l.drop (off + us.length))[k]? = if off ≤ k ∧ k < off + us.length then us[k - off]? else l[k]? := by
  rw [List.append_assoc]
  split
  · rename_i hk
    rw [List.getElem?_append_right (by simp; omega), List.getElem?_append_left (by simp; omega)]
    simp
    congr 1
    omega
  · rename_i hk
    by_cases h1 : k < off
    · rw [List.getElem?_append_left (by simp; omega), List.getElem?_take]
      simp [h1]
    · rw [List.getElem?_append_right (by simp; omega), List.getElem?_append_right (by simp; omega), List.getElem?_drop]
      simp
      congr 1
      omega

theorem store_run {P : Program} {w : World} {t : TypeId} {i : TypeInfo} (hi : P.info? t = some i) {g off : Nat} {cur : Array Value} {e : TypeId} (hg : w.heap[g]? = some (.cells cur e (0, 0))) {u : Value} (hu : u.cells.size = i.size) (h1 : ∀ v ∈ u.cells, v.oneCell' = true) (hl : off + u.cells.size ≤ cur.size) :
    (Instr.storeAt t (.pointer (some ⟨g, off, none⟩)) u).run P w = .ok () (w.setRow g (cur.toList.take off ++ u.cells.toList ++ cur.toList.drop (off + u.cells.toList.length)).toArray) := by
  have hst := run_storeCells_at P g off e u.cells.toList 0 cur w hg (by simpa using hl) (fun v hv => h1 v (Array.mem_toList_iff.1 hv))
  simp only [Nat.add_zero] at hst
  simp [Instr.storeAt, Instr.sureAddr, storeVar, sizeOf, typeInfo, hi, hu, hst]

/-- Cells of a slice that may be written are written. -/
theorem store_vec {P : Program} {C : Ctx} {G : Env} {s : AS} {a : Act} {w : World} (h : RelG C G s a w) {t : TypeId} {i : TypeInfo} (hi : P.info? t = some i) {tg m : Nat} {e : TypeId} {sz n off : Nat} {cells ys : List AV} (ht : look s.tags tg = some ⟨m, e, sz, some (true, cells)⟩) {vp vx : Value} (hp : Rep w G true (.vptr tg n off) vp)
    (hpy : Pw w G false ys vx.cells) (hlen : ys.length = i.size) (hnm : n = m) (hoff : off + i.size ≤ cells.length)
    (hdt : tg = DT → ∀ G' w', Env.Le w G w' G' → (∀ v, Inn C G w v → Inn C G' w' v) → ∀ r, G.τ tg = some r → InnOk C G' w' (setAt cells off ys) (r.xs.take off ++ vx.cells.toList ++ r.xs.drop (off + vx.cells.toList.length))) :
    ∃ w' G', (Instr.storeAt t vp vx).run P w = .ok () w' ∧ RelG C G' (s.tag tg ⟨m, e, sz, some (true, setAt cells off ys)⟩) a w' := by
  obtain ⟨r, hr, hok⟩ := h.tags tg _ ht
  obtain ⟨hro, hcl, hrep, _⟩ := hok.hcs true cells rfl
  cases hp with
  | vptr _ _ _ p r' hr' hle hv =>
    rw [hr] at hr'
    cases hr'
    obtain ⟨g, m', c', hrv, hpe⟩ := hv (by rw [hok.hn, hnm])
    subst hpe
    have hg : r.v.ownBlock = some g := by rw [hrv]; rfl
    rcases (hok.own hro).2 with ⟨h2, _⟩ | ⟨g2, cap, cur, h2, _, hcur, hncap, hcapm, hcsz, htake⟩
    · rw [hrv] at h2; cases h2
    · rw [hrv] at h2
      simp only [Value.slice.injEq, Option.some.injEq, Addr.mk.injEq] at h2
      obtain ⟨⟨h2, _⟩, h2n, h2c⟩ := h2
      subst h2; subst h2n; subst h2c
      have hus : vx.cells.size = i.size := by rw [hpy.1]; exact hlen
      have hxl : r.xs.length = r.n * r.sz := (hok.own hro).1
      have hcurle : r.n * r.sz ≤ cur.size := by rw [hcsz]; exact Nat.mul_le_mul_right _ hncap
      have hfit : off + vx.cells.size ≤ cur.size := by rw [hus]; omega
      have hrun := store_run (P := P) hi hcur (u := vx) (off := off) hus hpy.2.2 hfit
      obtain ⟨s1, s2, s3, s4, s5⟩ := setRow_le (w := w) (g := g) (cur.toList.take off ++ vx.cells.toList ++ cur.toList.drop (off + vx.cells.toList.length)).toArray
      have hul : vx.cells.toList.length = i.size := by simpa using hus
      have htl : (cur.toList.take off ++ vx.cells.toList ++ cur.toList.drop (off + vx.cells.toList.length)).take (r.n * r.sz) = r.xs.take off ++ vx.cells.toList ++ r.xs.drop (off + vx.cells.toList.length) := by
        refine List.ext_getElem? fun k => ?_
        rw [List.getElem?_take]
        rw [listSplice_get r.xs off _ (by rw [hul, hxl]; omega)]
        split
        · rename_i hk
          rw [listSplice_get _ _ _ (by simp only [Array.length_toList]; omega)]
          split
          · rfl
          · rw [← htake, List.getElem?_take, if_pos hk]
        · rename_i hk
          rw [if_neg (by rw [hul]; omega), List.getElem?_eq_none (by omega)]
      have hx1 : ∀ u ∈ r.xs.take off ++ vx.cells.toList ++ r.xs.drop (off + vx.cells.toList.length), u.oneCell' = true := fun u hu => by
        rcases List.mem_append.1 hu with hu | hu
        · rcases List.mem_append.1 hu with hu | hu
          · exact hok.one hro _ (List.mem_of_mem_take hu)
          · exact hpy.2.2 _ (Array.mem_toList_iff.1 hu)
        · exact hok.one hro _ (List.mem_of_mem_drop hu)
      have hnl : (r.xs.take off ++ vx.cells.toList ++ r.xs.drop (off + vx.cells.toList.length)).length = r.n * r.sz := by
        simp only [List.length_append, List.length_take, List.length_drop, hul, hxl]
        omega
      refine ⟨_, _, hrun, (h.setTagRoom (r' := { r with xs := r.xs.take off ++ vx.cells.toList ++ r.xs.drop (off + vx.cells.toList.length) }) (m' := ⟨m, e, sz, some (true, setAt cells off ys)⟩) ht hr hro hro (Nat.le_refl _) (fun _ => rfl) hg s3 s4 s5 s2 s1 ?_ hx1 hg rfl (fun hf => by cases hf) hok.hn hok.he hok.hsz false (fun _ => ⟨rfl, rfl⟩) (fun hle' b cells' hc => ?_) (fun cells' e' hc tr => ?_)).1⟩
      · refine ⟨hnl, .inr ⟨g, _, _, hrv, Nat.zero_le _, setRow_heap w g cur _ r.e _ hcur, hncap, hcapm, ?_, ?_⟩⟩
        · simp only [List.size_toArray, List.length_append, List.length_take, List.length_drop, Array.length_toList, hul]
          omega
        · simpa using htl
      · cases hc
        have hsl : off + ys.length ≤ cells.length := by rw [hlen]; exact hoff
        rw [setAt_splice hsl]
        refine ⟨?_, fun k c v hk hv => ?_, fun hb => by cases hb⟩
        · rw [splice_length hsl]
          show cells.length = _
          rw [hnl, hcl, hxl]
        · rw [splice_get hsl] at hk
          have hv' : (r.xs.take off ++ vx.cells.toList ++ r.xs.drop (off + vx.cells.toList.length))[k]? = some v := hv
          rw [listSplice_get r.xs off _ (by rw [hul, hxl]; omega), hul] at hv'
          rw [hlen] at hk
          split at hk
          · rename_i hkk
            rw [if_pos hkk] at hv'
            exact (hpy.2.1 (k - off) c v hk (by simpa using hv')).mono hle'
          · rename_i hkk
            rw [if_neg hkk] at hv'
            exact (hrep k c v hk hv').mono hle'
      · cases hc
        refine hdt e' _ _ ?_ tr r hr
        exact ⟨fun _ _ h => .inl h, fun b o hf => by
          by_cases hb : b = g
          · subst hb
            have := (hok.hF hro b hg o hf).2
            cases this
          · exact cell_heap (s1 b hb), fun _ _ h => h, fun u ru hu => by
          by_cases e : u = tg
          · subst e
            rw [hr] at hu
            cases hu
            exact ⟨{ r with xs := r.xs.take off ++ vx.cells.toList ++ r.xs.drop (off + vx.cells.toList.length) }, by simp [Env.upT, Env.setT], Nat.le_refl _, fun _ => rfl⟩
          · exact ⟨ru, by simp [Env.upT, Env.setT, e, hu], Nat.le_refl _, fun _ => rfl⟩⟩

/-- A slice whose cells are only read, as a tree. -/
theorem vec_still {C : Ctx} {G : Env} {s : AS} {a : Act} {w : World} (hR : RelG C G s a w) {t n m : Nat} {e : TypeId} {sz : Nat} {cells : List AV} {v : Value} (h : Rep w G true (.vec t n) v) (ht : look s.tags t = some ⟨m, e, sz, some (false, cells)⟩) (hnm : n = m) : Rep w G false (.sl none n cells .no) v := by
  cases h with
  | vec _ _ A k c r hr hle hv =>
    obtain ⟨r', hr', hok⟩ := hR.tags t _ ht
    rw [hr] at hr'
    cases hr'
    obtain ⟨hro, hlen, hrep, hF⟩ := hok.hcs false cells rfl
    have e1 : r.n = n := by rw [hok.hn, hnm]
    have hv' := hv e1
    have hx := hok.own hro
    rcases hx.2 with ⟨e2, e3⟩ | ⟨g, cap, cur, e2, _, _, h3, _⟩
    · rw [hv'] at e2
      cases e2
      have hn0 : n = 0 := by omega
      have hc0 : cells = [] := List.eq_nil_of_length_eq_zero (by rw [hlen, hx.1, e1, hn0]; simp)
      rw [hn0, hc0]
      exact .sl _ _ _ _ _ _ _ (fun _ => undef) (fun b hb => by cases hb) (fun h => by omega) (Nat.le_refl _) (fun j x h => by simp at h) (fun j x h => by simp at h) (fun e => by cases e) (fun t e => by cases e)
    · have hgb : r.v.ownBlock = some g := by rw [e2]; rfl
      rw [hv', e1] at e2
      cases e2
      refine .sl _ _ _ _ _ _ _ (fun j => r.xs.getD j undef) (fun b hb => by cases hb) (fun _ => ⟨_, rfl, rfl⟩) (by omega) (fun j x hj => ?_) (fun j x hj => ?_) (fun e => by cases e) (fun t e => by cases e)
      · have hlt : j < r.xs.length := by rw [← hlen]; exact (List.getElem?_eq_some_iff.1 hj).1
        have hcell := hx.cells hgb j r.xs[j] (List.getElem?_eq_getElem hlt)
        rw [add_plain] at hcell
        refine ⟨_, rfl, rfl, ?_, ?_, ?_⟩
        · simpa using hF rfl g hgb j (by rw [← hx.1]; exact hlt)
        · simpa [List.getD_eq_getElem?_getD, List.getElem?_eq_getElem hlt] using hcell
        · simpa [List.getD_eq_getElem?_getD, List.getElem?_eq_getElem hlt] using hok.one hro _ (List.getElem_mem hlt)
      · have hlt : j < r.xs.length := by rw [← hlen]; exact (List.getElem?_eq_some_iff.1 hj).1
        simpa [List.getD_eq_getElem?_getD, List.getElem?_eq_getElem hlt] using hrep j x _ hj (List.getElem?_eq_getElem hlt)

theorem putA_sound {P : Program} {C : Ctx} {G : Env} {s s' : AS} {a : Act} {w : World} (h : RelG C G s a w) {t : TypeId} {i : TypeInfo} (hi : P.info? t = some i) {size n off : Nat} (hsize : i.size = size) {x : AV} {vp vx : Value} (hp : Rep w G true (.vptr DT n off) vp) (hx : Rep w G true x vx) {os : List Prop} (hn : putA s size n off x = some (s', os)) (ho : All os) :
    ∃ w' G', (Instr.storeAt t vp vx).run P w = .ok () w' ∧ RelG C G' s' a w' := by
  unfold putA at hn
  split at hn
  · rename_i k n'
    split at hn
    · rename_i n2 e2 sz2 xs m e sz cells hk hd hne
      split at hn
      · rename_i he2 hs2
        cases hn
        simp only [All] at ho
        obtain ⟨hnm, hoff, h2n⟩ := ho
        subst h2n
        have e1 : e2 = DE := Nat.eq_of_beq_eq_true he2
        have e3 := Nat.eq_of_beq_eq_true hs2
        subst e1; subst e3
        have hkd : k ≠ DT := Nat.ne_of_beq_eq_false hne
        obtain ⟨rk, hrk, hok⟩ := h.tags k _ hk
        have hkn : rk.n = n' := hok.hn
        have hke : rk.e = DE := hok.he
        have hks : rk.sz = 1 := hok.hsz
        have hko := (hok.hcs false xs rfl).1
        have hx0 := vec_still h hx hk rfl
        have hvx : rk.v = vx := by
          cases hx with
          | vec _ _ A k c r hr hle hv =>
            rw [hrk] at hr
            cases hr
            exact hv hkn
        obtain ⟨h1, hle⟩ := h.kill hk hkd
        have hd1 : look (s.tag k ⟨n' + 1, DE, 1, none⟩).tags DT = some ⟨m, e, sz, some (true, cells)⟩ := by
          simp only [AS.tag, look_cons, if_neg hkd]
          exact hd
        have sub : ∀ t' r', (G.setT k ⟨false, .slice (some ⟨0, 0, none⟩) (n' + 1) (n' + 1), n' + 1, DE, 1, []⟩).τ t' = some r' → r'.o = true → t' ≠ k ∧ G.τ t' = some r' := by
          intro t' r' hr' ho'
          simp only [Env.setT] at hr'
          split at hr'
          · cases hr'; cases ho'
          · rename_i e'; exact ⟨e', hr'⟩
        have hown := hok.own hko
        rw [hke, hks, hkn, hvx] at hown
        -- the slice as an inner one
        have hinn : Inn C (G.setT k ⟨false, .slice (some ⟨0, 0, none⟩) (n' + 1) (n' + 1), n' + 1, DE, 1, []⟩) w vx := by
          refine ⟨n', rk.xs, hown, hok.one hko, fun g hg => ?_⟩
          rw [← hvx] at hg
          refine ⟨hok.base hko g hg, fun o hf => ?_, hok.hφ hko g hg, fun t' r' hr' ho' hb' => ?_⟩
          · have := (hok.hF hko g hg o hf).1
            rw [hkn, hks] at this
            exact this
          · obtain ⟨h2, h3⟩ := sub t' r' hr' ho'
            exact h2 (hok.hτ hko g hg t' r' h3 ho' hb')
        have hcs1 : vx.cells = #[vx] := by cases hx; rfl
        have hone : vx.oneCell' = true := by cases hx; rfl
        have hpw := one_pw (hx0.tree (G' := G.setT k ⟨false, .slice (some ⟨0, 0, none⟩) (n' + 1) (n' + 1), n' + 1, DE, 1, []⟩) (fun b o hf => hf)) hcs1 hone
        refine store_vec (n := n) h1 hi hd1 (hp.mono hle) hpw (by rw [hsize]; rfl) hnm (by rw [hsize]; exact hoff) (fun _ G' w' hle' tr r hr => ?_)
        have hrD : G.τ DT = some r := by
          have hne' : DT ≠ k := fun hh => hkd hh.symm
          simp only [Env.setT, if_neg hne'] at hr
          exact hr
        obtain ⟨k1, k2⟩ := h1.deep cells r ⟨_, hd1, rfl⟩ hr
        have hcl : cells.length = r.xs.length := by
          obtain ⟨r2, hr2, hok2⟩ := h.tags DT _ hd
          rw [hrD] at hr2
          cases hr2
          exact (hok2.hcs true cells rfl).2.1
        have hul : vx.cells.toList.length = 1 := by rw [hcs1]; rfl
        have at1 : ∀ i v, InnAt (setAt cells off [.sl none n' xs .no]) (r.xs.take off ++ vx.cells.toList ++ r.xs.drop (off + vx.cells.toList.length)) i v → (i = off ∧ v = vx) ∨ (i ≠ off ∧ InnAt cells r.xs i v) := by
          rintro i v ⟨c, h2, h3, h4⟩
          rw [listSplice_get _ _ _ (by rw [hul]; omega), hul] at h4
          simp only [setAt, List.getElem?_set] at h2
          by_cases hio : off = i
          · subst hio
            rw [if_pos ⟨Nat.le_refl _, by omega⟩, hcs1] at h4
            simp at h4
            exact .inl ⟨rfl, h4.symm⟩
          · rw [if_neg hio] at h2
            rw [if_neg (by omega)] at h4
            exact .inr ⟨fun hh => hio hh.symm, c, h2, h3, h4⟩
        have hno : ∀ i v, InnAt cells r.xs i v → ∀ g, v.ownBlock = some g → vx.ownBlock ≠ some g := by
          intro i v hv g hg hg'
          obtain ⟨q1, q2⟩ := h.deep cells r ⟨_, hd, rfl⟩ hrD
          exact (q1 i v hv).τ g hg k rk hrk hko (by rw [hvx]; exact hg')
        refine ⟨fun i v hv => ?_, fun i j v u g hv hu hg hg' => ?_⟩
        · rcases at1 i v hv with ⟨_, rfl⟩ | ⟨_, h2⟩
          · exact tr _ hinn
          · exact tr _ (k1 i v h2)
        · rcases at1 i v hv with ⟨e5, rfl⟩ | ⟨_, h2⟩ <;> rcases at1 j u hu with ⟨e6, rfl⟩ | ⟨_, h3⟩
          · rw [e5, e6]
          · exact absurd hg (hno j u h3 g hg')
          · exact absurd hg' (hno i v h2 g hg)
          · exact k2 i j v u g h2 h3 hg hg'
      · cases hn
    · cases hn
  · cases hn

theorem storeA_sound {P : Program} {Γ : TT} (hΓ : Γok P Γ) {C : Ctx} {G : Env} {s s' : AS} {a : Act} {w : World} (h : RelG C G s a w) {t : TypeId} {p x : AV} {vp vx : Value} (hp : Rep w G true p vp) (hx : Rep w G true x vx) {os : List Prop} (hn : storeA Γ s t p x = some (s', os)) (ho : All os) :
    ∃ w' G', (Instr.storeAt t vp vx).run P w = .ok () w' ∧ RelG C G' s' a w' := by
  unfold storeA at hn
  split at hn
  · rename_i ti hti hreal
    obtain ⟨i, d', z, hi, hd, hsz, hby, hz, hzs, hz0, hz1, hag, hk⟩ := (hΓ t ti hti).ex
    have hpx := real_pw hx hreal
    split at hn
    · rename_i id off
      cases hp with
      | ptr _ _ g hg =>
      split at hn
      · rename_i cs hb
        split at hn
        · rename_i hlen0 hble
          have hlen := Nat.eq_of_beq_eq_true hlen0
          have hoff := Nat.le_of_ble_eq_true hble
          cases hn
          obtain ⟨g', hg', hbase, ⟨vs, e, hh, hvs, hr, h1, _⟩, hnF⟩ := h.blocks id _ hb
          rw [hg] at hg'
          cases hg'
          have hus : vx.cells.size = ti.size := by rw [hpx.1]; exact hlen
          have hrun := store_run (P := P) hi hh (u := vx) (off := off) (by rw [hus, hsz]) hpx.2.2 (by rw [hus, hvs]; exact hoff)
          refine ⟨_, G, hrun, ?_⟩
          obtain ⟨s1, s2, s3, s4, s5⟩ := setRow_le (w := w) (g := g) (vs.toList.take off ++ vx.cells.toList ++ vs.toList.drop (off + vx.cells.toList.length)).toArray
          refine (h.setBlk (b' := .var true (splice cs off (cellsOf x))) hb hg rfl s3 s4 s5 s2 s1 (fun hle => ⟨_, e, setRow_heap w g vs _ e _ hh, ?_, ?_, ?_, fun o ho hw => by cases hw⟩) rfl).1
          · rw [splice_length (by rw [hlen]; exact hoff)]
            have hl : vx.cells.toList.length = ti.size := by simpa using hus
            have hl2 : vs.toList.length = cs.length := by simpa using hvs
            simp only [List.size_toArray, List.length_append, List.length_take, List.length_drop, hl, hl2]
            omega
          · intro k c v hc hv
            rw [splice_get (by rw [hlen]; exact hoff)] at hc
            rw [List.getElem?_toArray, listSplice_get _ _ _ (by simp only [Array.length_toList, hus, hvs]; exact hoff)] at hv
            simp only [Array.length_toList, hus] at hv
            rw [hlen] at hc
            split at hc
            · rename_i hk
              rw [if_pos hk] at hv
              exact (hpx.2.1 (k - off) c v hc (by simpa using hv)).mono hle
            · rename_i hk
              rw [if_neg hk] at hv
              exact (hr k c v hc (by simpa using hv)).mono hle
          · intro v hv
            rw [List.mem_toArray] at hv
            simp only [List.mem_append] at hv
            rcases hv with (hv | hv) | hv
            · exact h1 v (Array.mem_toList_iff.1 (List.mem_of_mem_take hv))
            · exact hpx.2.2 v (Array.mem_toList_iff.1 hv)
            · exact h1 v (Array.mem_toList_iff.1 (List.mem_of_mem_drop hv))
        · cases hn
      · rename_i cs hb
        have main : ∀ y : AV, (∀ w G l, Rep w G l y vx) → y.real = true → (cellsOf y) = [y] → cellsOf x = [y] → ti.agg = false → off < cs.length → ∃ w' G', (Instr.storeAt t (.pointer (some ⟨g, off, none⟩)) vx).run P w = .ok () w' ∧ RelG C G' (s.blk id (.rows true (cs.set off y))) a w' := by
          intro y hy hreal2 hy1 hxy hna hoff
          obtain ⟨g', hg', hbase, ⟨vs, e, hh, hvs, hr, h1, _⟩, hnF⟩ := h.blocks id _ hb
          rw [hg] at hg'
          cases hg'
          have hus : vx.cells.size = 1 := by rw [hpx.1, hxy]; rfl
          obtain ⟨u, hu⟩ := Array.size_eq_one_iff.1 hus
          have hsz1 : ti.size = 1 := by
            have hzc : ∀ cs, z ≠ .agg cs := fun cs e => by
              have := hag.2 ⟨cs, e⟩
              rw [hna] at this
              cases this
            rw [← hzs]
            cases z <;> first | rfl | exact absurd rfl (hzc _)
          have hrun := store_run (P := P) hi hh (u := vx) (off := off) (by rw [hus, hsz, hsz1]) hpx.2.2 (by rw [hus, hvs]; omega)
          refine ⟨_, G, hrun, ?_⟩
          obtain ⟨s1, s2, s3, s4, s5⟩ := setRow_le (w := w) (g := g) (vs.toList.take off ++ vx.cells.toList ++ vs.toList.drop (off + vx.cells.toList.length)).toArray
          refine (h.setBlk (b' := .rows true (cs.set off y)) hb hg rfl s3 s4 s5 s2 s1 (fun hle => ⟨_, e, setRow_heap w g vs _ e _ hh, ?_, ?_, ?_, fun o ho hw => by cases hw⟩) rfl).1
          · have hl : vx.cells.toList.length = 1 := by simpa using hus
            have hl2 : vs.toList.length = cs.length := by simpa using hvs
            simp only [List.size_toArray, List.length_append, List.length_take, List.length_drop, hl, hl2, List.length_set]
            omega
          · intro k c v hc hv
            rw [List.getElem?_toArray, listSplice_get _ _ _ (by simp only [Array.length_toList, hus, hvs]; omega)] at hv
            simp only [Array.length_toList, hus] at hv
            rw [List.getElem?_set] at hc
            by_cases hk : k = off
            · subst hk
              rw [if_pos ⟨Nat.le_refl _, by omega⟩] at hv
              simp only [Nat.sub_self] at hv
              rw [if_pos rfl, if_pos hoff] at hc
              cases hc
              have hy2 := hy (w.setRow g (vs.toList.take k ++ vx.cells.toList ++ vs.toList.drop (k + vx.cells.toList.length)).toArray) G false
              have := (real_pw hy2 hreal2).2.1 0 y v (by rw [hy1]; rfl) (by simpa using hv)
              exact this
            · rw [if_neg (by omega)] at hv
              rw [if_neg (fun h => hk h.symm)] at hc
              exact (hr k c v hc (by simpa using hv)).mono hle
          · intro v hv
            rw [List.mem_toArray] at hv
            simp only [List.mem_append] at hv
            rcases hv with (hv | hv) | hv
            · exact h1 v (Array.mem_toList_iff.1 (List.mem_of_mem_take hv))
            · exact hpx.2.2 v (Array.mem_toList_iff.1 hv)
            · exact h1 v (Array.mem_toList_iff.1 (List.mem_of_mem_drop hv))
        split at hn
        · rename_i b hag2
          cases hn
          simp only [All] at ho
          cases hx
          exact main (.bool b) (fun w G l => .bool l b) rfl rfl rfl hag2 ho
        · rename_i k n hag2
          cases hn
          simp only [All] at ho
          cases hx
          exact main (.int k n) (fun w G l => .int l k n) rfl rfl rfl hag2 ho
        · rename_i b hag2
          cases hn
          simp only [All] at ho
          cases hx
          exact main (.str b) (fun w G l => .str l b) rfl rfl rfl hag2 ho
        · cases hn
      · cases hn
    · rename_i tg n off
      split at hn
      · rename_i hdt
        have := Nat.eq_of_beq_eq_true hdt
        subst this
        exact putA_sound h hi hsz hp hx hn ho
      · rename_i hdt
        have hne := Nat.ne_of_beq_eq_false hdt
        split at hn
        · rename_i m e sz cells y ht hy
          split at hn
          · rename_i hlen0
            have hlen := Nat.eq_of_beq_eq_true hlen0
            cases hn
            simp only [All] at ho
            obtain ⟨hnm, hoff⟩ := ho
            have hpy := real_pw (tree_sound hx hy) (tree_real hy hreal)
            exact store_vec h hi ht hp hpy (by rw [hlen, hsz]) hnm (by rw [hsz]; exact hoff) (fun e => absurd e hne)
          · cases hn
        · cases hn
    · cases hn
  · cases hn

end Go.AX
end

section
set_option linter.unusedVariables false
set_option linter.unusedSimpArgs false
namespace Go.AX
open Go Go.RowKit

/-! ### A slice literal -/
def repL (l : List AV) : Nat → List AV
  | 0 => []
  | n + 1 => l ++ repL l n
theorem repL_length (l : List AV) (n : Nat) : (repL l n).length = n * l.length := by
  induction n with
  | zero => simp [repL]
  | succ n ih => simp [repL, ih, Nat.succ_mul]; omega
theorem repL_get (l : List AV) : ∀ (n k : Nat), k < n * l.length → (repL l n)[k]? = l[k % l.length]?
  | 0, k, h => by simp at h
  | n + 1, k, h => by
    simp only [repL]
    by_cases hk : k < l.length
    · rw [List.getElem?_append_left hk, Nat.mod_eq_of_lt hk]
    · rw [List.getElem?_append_right (by omega), repL_get l n (k - l.length) (by rw [Nat.succ_mul] at h; omega), ← Nat.mod_eq_sub_mod (by omega)]

def treeParts (f : AV → Option AV) : List (Nat × AV) → Option (List (Nat × AV))
  | [] => some []
  | (i, v) :: r => match f v, treeParts f r with
    | some y, some ys => some ((i, y) :: ys)
    | _, _ => none
def placesN (sz : Nat) : Nat → Nat → List (Nat × Nat)
  | 0, _ => []
  | n + 1, i => (i * sz, sz) :: placesN sz n (i + 1)
theorem placesN_get (sz : Nat) : ∀ (n i k : Nat) (p : Nat × Nat), (placesN sz n i)[k]? = some p → p = ((i + k) * sz, sz)
  | 0, i, k, p, h => by simp [placesN] at h
  | n + 1, i, 0, p, h => by simp [placesN] at h; simp [← h]
  | n + 1, i, k + 1, p, h => by
    simp only [placesN, List.getElem?_cons_succ] at h
    have := placesN_get sz n (i + 1) k p h
    rw [this]
    congr 2
    omega

def litA (f : AV → Option AV) (Γ : TT) (s : AS) (t : TypeId) (len : Nat) (ps : Array (Nat × Operand)) : VR :=
  match look Γ t with
  | some ti => match ti.kind with
    | .slice e => match look Γ e with
      | some ei => match Nat.ble (len * ei.size) 16777216, Nat.ble len 9223372036854775807, evParts s ps.toList with
        | true, true, some xs => match treeParts f xs with
          | some ys => match fillB (placesN ei.size len 0) (repL (ei.zero.map zn) len) ys with
            | some cs => some (.sl (some false) len cs .clip, [])
            | none => none
          | none => none
        | _, _, _ => none
      | none => none
    | _ => none
  | none => none

theorem treeParts_get {f : AV → Option AV} : ∀ {xs ys : List (Nat × AV)}, treeParts f xs = some ys → ys.length = xs.length ∧ ∀ (i : Nat) (p : Nat × AV), ys[i]? = some p → ∃ q, xs[i]? = some q ∧ q.1 = p.1 ∧ f q.2 = some p.2
  | [], ys, h => by simp only [treeParts] at h; cases h; exact ⟨rfl, fun i y h => by simp at h⟩
  | (j, x) :: xs, ys, h => by
    simp only [treeParts] at h
    split at h
    · rename_i y' ys' h1 h2
      cases h
      obtain ⟨h3, h4⟩ := treeParts_get h2
      refine ⟨by simp [h3], fun i y hy => ?_⟩
      match i, hy with
      | 0, hy =>
        simp at hy
        subst hy
        exact ⟨(j, x), rfl, rfl, h1⟩
      | n + 1, hy => simpa using h4 n y (by simpa using hy)
    · cases h

theorem litA_sound {P : Program} {Γ : TT} {f : AV → Option AV} {w : World} (hf : ∀ (G : Env) (x y : AV) {v : Value}, Rep w G true x v → f x = some y → Rep w G false y v) (hΓ : Γok P Γ) {C : Ctx} {G : Env} {s : AS} {a : Act} (h : RelG C G s a w) {t : TypeId} {len : Nat} {ps : Array (Nat × Operand)} {v : AV} {os : List Prop} (hb : litA f Γ s t len ps = some (v, os)) :
    VSound P C s a w (Instr.buildSlice t len (ps.map fun (i, x) => (i, a.eval x))) v := by
  unfold litA at hb
  split at hb
  · rename_i ti hti
    obtain ⟨i, d, z, hi, hd, hsz, hby, hz, hzs, hz0, hz1, hag, hk⟩ := (hΓ t ti hti).ex
    split at hb
    · rename_i e he
      rw [he] at hk
      obtain rfl := kind_slice hk
      split at hb
      · rename_i ei hei
        obtain ⟨i2, d2, z2, hi2, hd2, hsz2, hby2, hz2, hzs2, hz02, hz12, hag2, hk2⟩ := (hΓ _ ei hei).ex
        split at hb
        · rename_i xs hle hle2 hxs
          have hlen := Nat.le_of_ble_eq_true hle
          have hlen2 := Nat.le_of_ble_eq_true hle2
          split at hb
          · rename_i ys hys
            split at hb
            · rename_i cs hcs
              cases hb
              obtain ⟨hl, hr⟩ := evParts_sound h hxs
              obtain ⟨hl2, hr2⟩ := treeParts_get hys
              let zs : Array Value := (Array.range (len * ei.size)).map fun k => z2.cells[k % z2.cells.size]!
              have hzsz : zs.size = len * ei.size := by simp [zs]
              have hzl : (ei.zero.map zn).length = ei.size := by rw [hz02]; simp [hzs2]
              have hpz : Pw w G false (repL (ei.zero.map zn) len) zs := by
                refine ⟨by rw [hzsz, repL_length, hzl], fun k c v hc hv => ?_, fun v hv => ?_⟩
                · have hk : k < len * ei.size := by
                    rw [← hzsz]
                    exact (Array.getElem?_eq_some_iff.1 hv).1
                  have hpos : 0 < ei.size := Nat.pos_of_ne_zero fun e => by rw [e] at hk; omega
                  rw [repL_get _ _ _ (by rw [hzl]; exact hk), hzl, hz02] at hc
                  have hmod : k % ei.size < z2.cells.size := by rw [hzs2]; exact Nat.mod_lt _ hpos
                  have hrk : (Array.range (len * ei.size))[k]? = some k := by simp [hk]
                  simp only [zs, Array.getElem?_map, hrk, Option.map_some, Option.some.injEq] at hv
                  rw [hzs2, getElem!_pos z2.cells _ hmod] at hv
                  subst hv
                  simp only [List.getElem?_map, Array.getElem?_toList, Array.getElem?_eq_getElem hmod, Option.map_some, Option.some.injEq] at hc
                  subst hc
                  exact zn_rep (zAV_rep _ _ _ _)
                · obtain ⟨k, hk, rfl⟩ := Array.mem_map.1 hv
                  have hk' : k < len * ei.size := by simpa using hk
                  have hpos : 0 < ei.size := Nat.pos_of_ne_zero fun e => by rw [e] at hk'; omega
                  have hmod : k % z2.cells.size < z2.cells.size := by rw [hzs2]; exact Nat.mod_lt _ hpos
                  rw [getElem!_pos z2.cells _ hmod]
                  exact hz12 _ (Array.getElem_mem _)
              obtain ⟨vs', h2, h3⟩ := fill_sound (w := w) (G := G) (l := false) (place := fun i => some (i * ei.size, ei.size)) (fun i p hp => by rw [placesN_get _ _ _ _ _ hp]; simp) hcs (us := ps.toList.map fun (i, x) => (i, a.eval x)) (by simp [hl2, hl]) (fun k p q hp hq => by
                obtain ⟨p', h4, h5, h6⟩ := hr2 k p hp
                obtain ⟨h7, h8⟩ := hr k p' q h4 hq
                exact ⟨by rw [← h5]; exact h7, hf _ _ _ h8 h6⟩) hpz
              have hrun : (Instr.buildSlice t len (ps.map fun (i, x) => (i, a.eval x))).run P w = .ok (.slice (some ⟨w.heap.size, 0, none⟩) len len) (w.alloc (.cells vs' e)) := by
                have hlim : ¬ (16777216 < len * ei.size) := by omega
                by_cases h0 : len * ei.size = 0
                · have hz0' : zs = #[] := Array.eq_empty_of_size_eq_zero (by rw [hzsz]; exact h0)
                  rw [hz0'] at h2
                  simp only [Instr.buildSlice, Sem.run_bind, run_underlying hd, Result.andThen_ok, sizeOf, typeInfo, Sem.run_pure]
                  simp [hi2, hsz2, hlim, h0]
                  have hr0 : Array.range 0 = #[] := Array.eq_empty_of_size_eq_zero (by simp)
                  simp [hr0, h2, newRow]
                · simp only [Instr.buildSlice, Sem.run_bind, run_underlying hd, Result.andThen_ok, sizeOf, typeInfo, Sem.run_pure]
                  simp [hi2, hsz2, hlim, h0, zeroValue, typeInfo, hz2]
                  simp only [zs] at h2
                  simp [h2, newRow]
              obtain ⟨h4, h5⟩ := h.grow (G' := { G with F := fun b o => G.F b o ∨ b = w.heap.size }) (w' := w.alloc (.cells vs' e)) ((Below.refl _ _).alloc (Nat.le_refl _) _) (Unf.alloc _ (fun _ _ _ h => by cases h; exact .inl rfl)) rfl rfl (fun _ _ h => .inl h) (fun b o hf => by
                rcases hf with hf | hf
                · exact .inl hf
                · exact .inr ⟨by omega, by simp; omega⟩)
              refine ⟨_, _, _, hrun, h4, ?_⟩
              obtain ⟨p1, p2, p3⟩ := h3.mono h5
              refine .sl _ _ _ _ _ _ _ (fun j => vs'.getD j undef) (fun b hb => by cases hb; rfl) (fun _ => ⟨_, rfl, rfl⟩) (Nat.le_refl _) (fun j x hx => ?_) (fun j x hx => ?_) (fun _ => rfl) (fun t h => by cases h)
              · have hlt : j < vs'.size := by rw [p1]; exact (List.getElem?_eq_some_iff.1 hx).1
                refine ⟨_, rfl, rfl, .inr rfl, ?_, ?_⟩
                · simp [hlt]
                · simp [hlt, p3 _ (Array.getElem_mem hlt)]
              · have hlt : j < vs'.size := by rw [p1]; exact (List.getElem?_eq_some_iff.1 hx).1
                simpa [hlt] using p2 j x vs'[j] hx (Array.getElem?_eq_getElem hlt)
            · cases hb
          · cases hb
        · cases hb
      · cases hb
    · cases hb
  · cases hb

/-- A nil slice, as it is; else a tree. -/
def treeN : AV → Option AV
  | .sl (some true) 0 [] .clip => some (.sl (some true) 0 [] .clip)
  | x => tree x
theorem treeN_sound {w : World} {G : Env} {x y : AV} {v : Value} (h : Rep w G true x v) (hy : treeN x = some y) : Rep w G false y v := by
  unfold treeN at hy
  split at hy
  · cases hy
    cases h with
    | sl _ _ _ _ _ A c vs hnl hpos hc hcell hrep hclip hown => exact .sl _ _ _ _ _ _ _ vs hnl hpos hc hcell hrep hclip (fun t e => by cases e)
  · exact tree_sound h hy
def litN (Γ : TT) (s : AS) (t : TypeId) (len : Nat) (ps : Array (Nat × Operand)) (ann : Option AV) : VR :=
  match ann with
  | none => litA tree Γ s t len ps
  | some _ => litA treeN Γ s t len ps
theorem litN_sound {P : Program} {Γ : TT} (hΓ : Γok P Γ) {C : Ctx} {G : Env} {s : AS} {a : Act} {w : World} (h : RelG C G s a w) {t : TypeId} {len : Nat} {ps : Array (Nat × Operand)} {ann : Option AV} {v : AV} {os : List Prop} (hb : litN Γ s t len ps ann = some (v, os)) :
    VSound P C s a w (Instr.buildSlice t len (ps.map fun (i, x) => (i, a.eval x))) v := by
  unfold litN at hb
  split at hb
  · exact litA_sound (fun _ _ _ _ h hy => tree_sound h hy) hΓ h hb
  · exact litA_sound (fun _ _ _ _ h hy => treeN_sound h hy) hΓ h hb

end Go.AX
end

section
set_option linter.unusedVariables false
set_option linter.unusedSimpArgs false
namespace Go.AX
open Go Go.RowKit

/-! ### append -/
/-- What is appended: how many elements, their cells (trees). -/
def srcA (s : AS) (sz : Nat) : AV → Option (Nat × List AV)
  | .sl _ m cells _ => some (m, cells)
  | .row id off m => match look s.heap id with
    | some (.rows _ cs) => match off with
      | 0 => some (m, cs)
      | _ => none
    | _ => none
  | .vec t n => match look s.tags t with
    | some ⟨_, _, z, some (_, cells)⟩ => match Nat.beq z sz with
      | true => some (n, cells)
      | false => none
    | _ => none
  | _ => none
theorem srcA_tag {s : AS} {d : Nat} {g : Tag} (hd : look s.tags d = none) {sz : Nat} {x : AV} {r : Nat × List AV} (h : srcA s sz x = some r) : srcA (s.tag d g) sz x = some r := by
  unfold srcA at h ⊢
  split at h
  · exact h
  · exact h
  · rename_i t n
    have e : look (s.tag d g).tags t = look s.tags t := by
      rcases Nat.decEq t d with hne | he
      · show look ((d, g) :: s.tags) t = _
        rw [look_cons, if_neg (fun h => hne (by omega))]
      · subst he
        rw [hd] at h
        cases h
    simp only [e]
    exact h
  · cases h
/-- The tag of the slice that is appended to. -/
def dstA (s : AS) (d : Nat) (n e sz : Nat) : Own → Option (AS × Nat × List Prop)
  | .own t => match look s.tags t with
    | some g => match Nat.beq g.e e, Nat.beq g.sz sz, g.cs with
      | true, true, none => some (s, t, [g.n = n])
      | _, _, _ => none
    | none => none
  | .clip => match look s.tags d with
    | none => some (s.tag d ⟨n, e, sz, none⟩, d, [])
    | some _ => none
  | _ => none
/-- What is appended, as it stands in the row: of the slice of slices, none but a nil one. -/
def newsOk (t : Nat) (b : Bool) (news : List AV) : Option (List AV) :=
  match Nat.beq t DT, b with
  | true, true => match news with
    | [.sl (some true) 0 [] .clip] => some [.sl none 0 [] .no]
    | _ => none
  | _, _ => some news
theorem newsOk_spec {w : World} {G : Env} {t : Nat} {b : Bool} {news ys : List AV} {us : List Value} (h : newsOk t b news = some ys) (hl : us.length = news.length) (hr : ∀ (i : Nat) (c : AV) (v : Value), news[i]? = some c → us[i]? = some v → Rep w G false c v) :
    ys.length = news.length ∧ (∀ (i : Nat) (c : AV) (v : Value), ys[i]? = some c → us[i]? = some v → Rep w G false c v) ∧ (t = DT → b = true → ∀ u ∈ us, u = .slice none 0 0) := by
  unfold newsOk at h
  split at h
  · split at h
    · cases h
      refine ⟨rfl, fun i c v hc hv => ?_, fun _ _ u hu => ?_⟩
      · match i, hc, hv with
        | 0, hc, hv =>
          simp at hc
          subst hc
          exact zn_rep (hr 0 _ v rfl hv)
        | n + 1, hc, hv => simp at hc
      · match us, hl, hr with
        | [x], hl, hr =>
          simp at hu
          subst hu
          have := hr 0 _ u rfl rfl
          cases this with
          | sl _ _ _ _ _ A c vs hnl hpos hc hcell hrep hclip hown =>
            have := hclip rfl
            subst this
            have := hnl true rfl
            cases A with
            | none => rfl
            | some a => cases this
    · cases h
  · rename_i h1 h2
    cases h
    refine ⟨rfl, hr, fun e eb => ?_⟩
    subst e; subst eb
    exact (h2 (Nat.beq_refl _) rfl).elim
def appA (Γ : TT) (s : AS) (d : Nat) (t xT : TypeId) (v x : AV) : SR :=
  match look Γ t, look Γ xT with
  | some ti, some xi => match ti.kind, xi.kind with
    | .slice e, .slice _ => match look Γ e with
      | some ei => match v, srcA s ei.size x with
        | .sl _ n cells o, some (m, news) => match dstA s d n e ei.size o, ei.size, ei.bytes with
          | some (s1, t, os), sz + 1, by_ + 1 => some (s1.tag t ⟨n + m, e, sz + 1, none⟩, .sl none (n + m) (cells ++ news) (.own t), os ++ [cells.length = n * (sz + 1) ∧ news.length = m * (sz + 1) ∧ (n + m) * (by_ + 1) ≤ 140737488355328])
          | _, _, _ => none
        | .vec t n, some (m, news) => match look s.tags t, ei.size, ei.bytes with
          | some ⟨n', e', sz', some (b, cells)⟩, sz + 1, by_ + 1 => match Nat.beq e' e, Nat.beq sz' (sz + 1), newsOk t b news with
            | true, true, some ys => some (s.tag t ⟨n + m, e, sz + 1, some (b, cells ++ ys)⟩, .vec t (n + m), [n' = n ∧ news.length = m * (sz + 1) ∧ (n + m) * (by_ + 1) ≤ 140737488355328])
            | _, _, _ => none
          | _, _, _ => none
        | _, _ => none
      | none => none
    | _, _ => none
  | _, _ => none

/-- What is appended lies in memory. -/
theorem srcA_sound {P : Program} {C : Ctx} {G : Env} {s : AS} {a : Act} {w : World} (h : RelG C G s a w) {x : AV} {vx : Value} (hx : Rep w G true x vx) {m : Nat} {news : List AV} {sz : Nat} (h0 : 0 < sz) (hs : srcA s sz x = some (m, news)) (hl : news.length = m * sz) :
    ∃ us : List Value, us.length = news.length ∧ Yields P w sz m vx us ∧ (∀ (i : Nat) (c : AV) (v : Value), news[i]? = some c → us[i]? = some v → Rep w G false c v) ∧ ∀ v ∈ us, v.oneCell' = true := by
  unfold srcA at hs
  split at hs
  · cases hs
    cases hx with
    | sl _ nl _ cells o A c vs hnl hpos hc hcell hrep hclip hown =>
      refine ⟨(List.range news.length).map vs, by simp, yields_slice _ _ _ _ _ (by simp [hl]) (fun hA => ?_) (fun j u hj => ?_), fun i x v hx hv => ?_, fun v hv => ?_⟩
      · rcases Nat.eq_zero_or_pos m with h0 | h0
        · exact h0
        · obtain ⟨ad, e, _⟩ := hpos h0
          rw [hA] at e
          cases e
      · simp only [List.getElem?_map, Option.map_eq_some_iff] at hj
        obtain ⟨k, hk, rfl⟩ := hj
        have hlt : j < news.length := by
          rcases Nat.lt_or_ge j news.length with h | h
          · exact h
          · rw [List.getElem?_eq_none (by simpa using h)] at hk; cases hk
        rw [List.getElem?_range hlt] at hk
        cases hk
        obtain ⟨ad, e, hsp, _, hw, _⟩ := hcell j _ (List.getElem?_eq_getElem hlt)
        exact ⟨ad, e, by rw [add_spot _ _ hsp]; exact hw⟩
      · have hlt := (List.getElem?_eq_some_iff.1 hx).1
        simp only [List.getElem?_map, List.getElem?_range hlt, Option.map_some, Option.some.injEq] at hv
        subst hv
        exact hrep i x hx
      · obtain ⟨k, hk, rfl⟩ := List.mem_map.1 hv
        have hlt : k < news.length := by simpa using hk
        obtain ⟨ad, e, hsp, _, hw, h1⟩ := hcell k _ (List.getElem?_eq_getElem hlt)
        exact h1
  · split at hs
    · rename_i wr cs hb
      split at hs
      · cases hs
        cases hx with
        | row _ _ _ g c hg hc =>
          obtain ⟨g', hg', hbase, ⟨vs, e, hh, hvs, hr, h1, _⟩, _⟩ := h.blocks _ _ hb
          rw [hg] at hg'
          cases hg'
          refine ⟨vs.toList, by simpa using hvs, yields_slice _ _ _ _ _ (by simp [hvs, hl]) (fun hA => by cases hA) (fun j u hj => ⟨_, rfl, ?_⟩), fun i x v hx hv => hr i x v hx (by simpa using hv), fun v hv => h1 v (Array.mem_toList_iff.1 hv)⟩
          rw [add_plain]
          simp [World.cell?, hh]
          simpa using hj
      · cases hs
    · cases hs
  · split at hs
    · rename_i t n _ _ _ z b cells htag
      split at hs
      · rename_i hz
        cases hs
        have ez : z = sz := Nat.eq_of_beq_eq_true hz
        obtain ⟨r, hr, hok⟩ := h.tags _ _ htag
        obtain ⟨hro, hclen, hcrep, hcF⟩ := hok.hcs b news rfl
        have hx1 := hok.own hro
        have hx2 := hok.one hro
        have hrs : r.sz = sz := by rw [hok.hsz]; exact ez
        have hrl : r.xs.length = r.n * sz := by rw [hx1.1, hrs]
        have hrn : r.n = m := Nat.eq_of_mul_eq_mul_right h0 (by omega)
        cases hx with
        | vec _ _ A k c r' hr' hle hvv =>
          rw [hr] at hr'
          cases hr'
          have hrv := hvv hrn
          have hk : k = m := by
            rcases hx1.2 with ⟨e1, e2⟩ | ⟨g, cap, cur, e1, _⟩
            · rw [hrv] at e1; cases e1; omega
            · rw [hrv, hrn] at e1; cases e1; rfl
          subst hk
          refine ⟨r.xs, hclen.symm, yields_slice _ _ _ _ _ (by rw [hrl, hrn]) (fun hA => ?_) (fun j u hj => ?_), hcrep, hx2⟩
          · rcases hx1.2 with ⟨e1, e2⟩ | ⟨g, cap, cur, e1, _⟩
            · omega
            · rw [hrv] at e1; cases e1; cases hA
          · rcases hx1.2 with ⟨e1, e2⟩ | ⟨g, cap, cur, e1, _⟩
            · exfalso
              have hlt := (List.getElem?_eq_some_iff.1 hj).1
              rw [hrl, e2] at hlt
              simp at hlt
            · have hgb : r.v.ownBlock = some g := by rw [e1]; rfl
              have hc := hx1.cells hgb j u hj
              rw [hrv] at e1
              cases e1
              exact ⟨_, rfl, hc⟩
      · cases hs
    · cases hs
  · cases hs

/-- An owned slice, as a value. -/
theorem own_rep {C : Ctx} {G : Env} {s : AS} {a : Act} {w : World} (h : RelG C G s a w) {t : Nat} {r : TagRec} (hr : G.τ t = some r) (hown : w.ownsRow 0 r.e r.sz r.v r.n r.xs) (h1 : ∀ u ∈ r.xs, u.oneCell' = true)
    (hF : ∀ g, r.v.ownBlock = some g → ∀ o, o < r.n * r.sz → G.F g o) {cells : List AV} (hl : cells.length = r.xs.length) (hc : ∀ (i : Nat) (c : AV) (v : Value), cells[i]? = some c → r.xs[i]? = some v → Rep w G false c v) (hsz : 0 < r.sz) : Rep w G true (.sl none r.n cells (.own t)) r.v := by
  obtain ⟨A, c, hv⟩ : ∃ A c, r.v = .slice A r.n c := by
    rcases hown.2 with ⟨e, e2⟩ | ⟨g, cap, cur, e, _⟩
    · exact ⟨none, 0, by rw [e, e2]⟩
    · exact ⟨_, _, e⟩
  have hnc : r.n ≤ c := by
    rcases hown.2 with ⟨e, e2⟩ | ⟨g, cap, cur, e, _, _, h2, _⟩
    · omega
    · rw [hv] at e
      cases e
      exact h2
  rw [hv]
  refine .sl _ _ _ _ _ _ _ (fun j => r.xs.getD j undef) (fun b hb => by cases hb) (fun hp => ?_) hnc (fun j x hx => ?_) (fun j x hx => ?_) (fun e => by cases e) (fun t' ht => ?_)
  · rcases hown.2 with ⟨e, e2⟩ | ⟨g, cap, cur, e, _⟩
    · omega
    · rw [hv] at e
      cases e
      exact ⟨_, rfl, rfl⟩
  · have hlt : j < r.xs.length := by rw [← hl]; exact (List.getElem?_eq_some_iff.1 hx).1
    rcases hown.2 with ⟨e, e2⟩ | ⟨g, cap, cur, e, _⟩
    · have := hown.1
      rw [e2] at this
      omega
    · have hb : r.v.ownBlock = some g := by rw [e]; rfl
      have hcell := hown.cells hb j r.xs[j] (List.getElem?_eq_getElem hlt)
      rw [add_plain] at hcell
      rw [hv] at e
      cases e
      refine ⟨_, rfl, rfl, ?_, ?_, ?_⟩
      · simpa using hF g hb j (by rw [← hown.1]; exact hlt)
      · simpa [List.getD_eq_getElem?_getD, List.getElem?_eq_getElem hlt] using hcell
      · simpa [List.getD_eq_getElem?_getD, List.getElem?_eq_getElem hlt] using h1 _ (List.getElem_mem hlt)
  · have hlt : j < r.xs.length := by rw [← hl]; exact (List.getElem?_eq_some_iff.1 hx).1
    simpa [List.getD_eq_getElem?_getD, List.getElem?_eq_getElem hlt] using hc j x _ hx (List.getElem?_eq_getElem hlt)
  · cases ht
    exact ⟨rfl, r, hr, Nat.le_refl _, fun _ => hv⟩

/-- The entry of a tag, laid anew as it stands. -/
theorem RelG.sameTag {C : Ctx} {G : Env} {s : AS} {a : Act} {w : World} (h : RelG C G s a w) {t : Nat} {g : Tag} (ht : look s.tags t = some g) : RelG C G (s.tag t g) a w := by
  have e : ∀ u, look (s.tag t g).tags u = look s.tags u := fun u => by
    simp only [AS.tag, look_cons]
    split
    · rename_i e; subst e; exact ht.symm
    · rfl
  exact ⟨h.defers, h.size, h.slots, ⟨h.mem.keep, h.mem.le, h.mem.fdom, h.mem.fold, h.mem.blocks, h.mem.noblock, h.mem.inj, fun u n hu => h.tags u n (by rw [← e]; exact hu), fun u hu => h.notag u (by rw [← e]; exact hu), fun cells r hc hr => h.deep cells r (by obtain ⟨m, k1, k2⟩ := hc; exact ⟨m, by rw [← e]; exact k1, k2⟩) hr⟩⟩

theorem app_core {P : Program} {C : Ctx} {G : Env} {s : AS} {a : Act} {w : World} (h : RelG C G s a w) {t xT e ty : TypeId} {i : TypeInfo} {z : Value} {e' : TypeId} (hd : P.underlying t = some (.slice e)) (hxd : P.underlying xT = some (.slice e')) (hi : P.info? e = some i) (hz : i.zero = some z) (hzs : z.cells.size = i.size)
    (hsz : 0 < i.size) (hby : 0 < i.bytes) {tg n m : Nat} (ht : look s.tags tg = some ⟨n, e, i.size, none⟩) {nl : Option Bool} {cells news : List AV} {v vx : Value} (hv : Rep w G true (.sl nl n cells .no) v) (hvt : ∃ r, G.τ tg = some r ∧ (r.n = n → r.v = v))
    (hcl : cells.length = n * i.size) (hnl : news.length = m * i.size) (hb : (n + m) * i.bytes ≤ 140737488355328) {us : List Value} (hul : us.length = news.length) (hy : Yields P w i.size m vx us) (hur : ∀ (i : Nat) (c : AV) (v : Value), news[i]? = some c → us[i]? = some v → Rep w G false c v) (hu1 : ∀ v ∈ us, v.oneCell' = true) :
    VSound P C (s.tag tg ⟨n + m, e, i.size, none⟩) a w (Builtin.append_ #[t, xT] ty #[v, vx]) (.sl none (n + m) (cells ++ news) (.own tg)) := by
  obtain ⟨r, hr, hok⟩ := h.tags tg _ ht
  have hrn : r.n = n := hok.hn
  have hre : r.e = e := hok.he
  have hrs : r.sz = i.size := hok.hsz
  obtain ⟨r', hr', hvv⟩ := hvt
  rw [hr] at hr'
  cases hr'
  have hrv := hvv hrn
  have hnm : n + m ≤ 140737488355328 := Nat.le_trans (Nat.le_mul_of_pos_right _ hby) hb
  have hmax : n + m ≤ maxLen := by unfold maxLen; omega
  cases hv with
  | sl _ _ _ _ _ A c vs hnl' hpos hc hcell hrep _ _ =>
  -- the elder cells
  let olds : List Value := (List.range cells.length).map vs
  have holdl : olds.length = n * i.size := by simp [olds, hcl]
  have hog : ∀ j u, olds[j]? = some u → ∃ x, cells[j]? = some x ∧ u = vs j := by
    intro j u hj
    simp only [olds, List.getElem?_map, Option.map_eq_some_iff] at hj
    obtain ⟨k, hk, rfl⟩ := hj
    have hlt : j < cells.length := by
      rcases Nat.lt_or_ge j cells.length with h | h
      · exact h
      · rw [List.getElem?_eq_none (by simpa using h)] at hk; cases hk
    rw [List.getElem?_range hlt] at hk
    cases hk
    exact ⟨_, List.getElem?_eq_getElem hlt, rfl⟩
  have hyo : Yields P w i.size n (.slice A n c) olds := by
    refine yields_slice _ _ _ _ _ holdl (fun hA => ?_) (fun j u hj => ?_)
    · rcases Nat.eq_zero_or_pos n with h0 | h0
      · exact h0
      · obtain ⟨ad, e, _⟩ := hpos h0
        rw [hA] at e
        cases e
    · obtain ⟨x, hx, rfl⟩ := hog j u hj
      obtain ⟨ad, e, hsp, _, hw, _⟩ := hcell j x hx
      exact ⟨ad, e, by rw [add_spot _ _ hsp]; exact hw⟩
  have ho1 : ∀ u ∈ olds, u.oneCell' = true := fun u hu => by
    obtain ⟨j, hj⟩ := List.mem_iff_getElem?.1 hu
    obtain ⟨x, hx, rfl⟩ := hog j u hj
    obtain ⟨ad, e, hsp, _, hw, h1⟩ := hcell j x hx
    exact h1
  have holdr : ∀ (i : Nat) (c : AV) (v : Value), cells[i]? = some c → olds[i]? = some v → Rep w G false c v := fun j x u hx hj => by
    obtain ⟨x', hx', rfl⟩ := hog j u hj
    exact hrep j x hx
  have hboth : ∀ (xs : List Value), xs.length = n * i.size → (∀ (j : Nat) (c : AV) (v : Value), cells[j]? = some c → xs[j]? = some v → Rep w G false c v) → ∀ (j : Nat) (c : AV) (v : Value), (cells ++ news)[j]? = some c → (xs ++ us)[j]? = some v → Rep w G false c v := by
    intro xs hxl hxr j x u hx hj
    by_cases hlt : j < cells.length
    · rw [List.getElem?_append_left hlt] at hx
      rw [List.getElem?_append_left (by omega)] at hj
      exact hxr j x u hx hj
    · rw [List.getElem?_append_right (by omega)] at hx
      rw [List.getElem?_append_right (by omega)] at hj
      have : j - cells.length = j - xs.length := by omega
      rw [this] at hx
      exact hur _ x u hx hj
  by_cases hm : m = 0
  · subst hm
    have hun : us = [] := List.eq_nil_of_length_eq_zero (by rw [hul, hnl]; simp)
    have hnn : news = [] := List.eq_nil_of_length_eq_zero (by rw [hnl]; simp)
    subst hun; subst hnn
    refine ⟨_, w, G, app_none (P := P) hd hxd (.inl ⟨_, rfl⟩) hi A n c vx hy hc, h.sameTag ht, ?_⟩
    rw [List.append_nil]
    exact .sl _ _ _ _ _ _ _ vs (fun b hb => by cases hb) hpos hc hcell hrep (fun e => by cases e) (fun t' ht' => by cases ht'; exact ⟨rfl, r, hr, by omega, fun _ => hrv⟩)
  · -- it lies in a new block
    have newCase : c < n + m → VSound P C (s.tag tg ⟨n + m, e, i.size, none⟩) a w (Builtin.append_ #[t, xT] ty #[.slice A n c, vx]) (.sl none (n + m) (cells ++ news) (.own tg)) := by
      intro hgrow
      have hrun := app_grow (P := P) (ty := ty) hd hxd (.inl ⟨_, rfl⟩) hi hz A n c olds hyo vx m us hy hgrow (growslice_fits hgrow hb) (by omega)
      have hge := grownCap_ge w (n + m) c e
      have hcm : grownCap w (n + m) c e ≤ maxLen := grownCap_le_maxLen w (n + m) c e hmax
      let r' : TagRec := ⟨true, .slice (some ⟨w.heap.size, 0, none⟩) (n + m) (grownCap w (n + m) c e), n + m, e, i.size, olds ++ us⟩
      have hlen : (olds ++ us).length = (n + m) * i.size := by rw [List.length_append, holdl, hul, hnl, Nat.add_mul]
      have hown' : (w.drew.alloc (.cells (olds.toArray ++ us.toArray ++ Builtin.zeroCells z.cells (grownCap w (n + m) c e - (n + m))) e)).ownsRow 0 r'.e r'.sz r'.v r'.n r'.xs := by
        refine ⟨hlen, .inr ⟨w.heap.size, _, _, rfl, Nat.zero_le _, heap_alloc_new w.drew _, hge, hcm, ?_, ?_⟩⟩
        · simp only [Array.size_append, List.size_toArray, size_zeroCells, hzs, holdl, hul, hnl, ← Nat.add_mul]
          congr 1
          omega
        · show _ = olds ++ us
          simp only [Array.toList_append, List.append_assoc]
          rw [← List.append_assoc]
          have : (n + m) * i.size = (olds ++ us).length := hlen.symm
          show List.take ((n + m) * i.size) _ = _
          rw [this]
          exact List.take_left
      have hone : ∀ u ∈ olds ++ us, u.oneCell' = true := fun u hu => by
        rcases List.mem_append.1 hu with hu | hu
        · exact ho1 u hu
        · exact hu1 u hu
      obtain ⟨h1, hle⟩ := h.setTagNew (r' := r') (w' := w.drew.alloc (.cells (olds.toArray ++ us.toArray ++ Builtin.zeroCells z.cells (grownCap w (n + m) c e - (n + m))) e)) ht hr rfl (by show r.n < n + m; omega) ⟨rfl, rfl, rfl, by simp, fun k hk => heap_alloc_old w.drew _ hk⟩ ((Unf.same (w' := w.drew) rfl).trans (Unf.alloc _ (fun _ _ _ h => by cases h; exact .inl rfl))) (by simp) hown' hone rfl rfl rfl rfl true (m' := ⟨n + m, e, i.size, none⟩) (fun hh => by cases hh) (fun _ b cs hc => by cases hc) (fun cs _ hc => by cases hc)
      refine ⟨_, _, _, hrun, h1, ?_⟩
      refine own_rep h1 (t := tg) (r := r') (by simp [Env.upT, Env.setT]) hown' hone (fun g hg o ho => .inr ⟨rfl, by simpa [r', Value.ownBlock] using hg.symm, ho⟩) (by show (cells ++ news).length = (olds ++ us).length; rw [hlen, List.length_append, hcl, hnl, Nat.add_mul]) (fun j x u hx hj => (hboth olds holdl holdr j x u hx hj).mono hle) hsz
    cases hro : r.o with
    | false =>
      obtain ⟨_, A', e1, _⟩ := hok.clip hro
      rw [hrv, hrn] at e1
      cases e1
      exact newCase (by omega)
    | true =>
      have hx1 := hok.own hro
      have hx2 := hok.one hro
      rcases hx1.2 with ⟨e1, e2⟩ | ⟨g, cap, cur, e1, hbg, hgc, h3, h4, h5, h6⟩
      · rw [hrv] at e1
        cases e1
        exact newCase (by omega)
      · rw [hrv, hrn] at e1
        cases e1
        by_cases hroom : n + m ≤ c
        · rw [hrn, hrs] at h6
          rw [hrs] at h5
          have hxl : r.xs.length = n * i.size := by rw [hx1.1, hrn, hrs]
          have hfit : n * i.size + us.length ≤ cur.size := by rw [hul, hnl, h5, ← Nat.add_mul]; exact Nat.mul_le_mul_right _ hroom
          rw [hre] at hgc
          have hrun := app_room (P := P) (ty := ty) hd hxd (.inl ⟨_, rfl⟩) hi g n c cur hgc vx m us hy (by rw [hul, hnl]) hu1 hroom hfit
          let r' : TagRec := ⟨true, .slice (some ⟨g, 0, none⟩) (n + m) c, n + m, e, i.size, r.xs ++ us⟩
          obtain ⟨s1, s2, s3, s4, s5⟩ := setRow_le (w := w) (g := g) (cur.toList.take (n * i.size) ++ us ++ cur.toList.drop (n * i.size + us.length)).toArray
          have hlen : (r.xs ++ us).length = (n + m) * i.size := by rw [List.length_append, hxl, hul, hnl, Nat.add_mul]
          have hown' : (w.setRow g (cur.toList.take (n * i.size) ++ us ++ cur.toList.drop (n * i.size + us.length)).toArray).ownsRow 0 r'.e r'.sz r'.v r'.n r'.xs := by
            refine ⟨hlen, .inr ⟨g, c, _, rfl, Nat.zero_le _, setRow_heap w g cur _ e _ hgc, hroom, h4, ?_, ?_⟩⟩
            · simp only [List.size_toArray, List.length_append, List.length_take, List.length_drop, Array.length_toList]
              show _ = c * i.size
              omega
            · show List.take ((n + m) * i.size) _ = r.xs ++ us
              rw [h6]
              rw [← hlen]
              exact List.take_left
          have hone : ∀ u ∈ r.xs ++ us, u.oneCell' = true := fun u hu => by
            rcases List.mem_append.1 hu with hu | hu
            · exact hx2 u hu
            · exact hu1 u hu
          have hgb : r.v.ownBlock = some g := by rw [hrv]; rfl
          obtain ⟨h1, hle⟩ := h.setTagRoom (r' := r') ht hr hro rfl (by show r.n ≤ n + m; omega) (by intro e; exfalso; have : r.n = n + m := e; omega) hgb s3 s4 s5 s2 s1 hown' hone rfl hrs.symm (fun _ => ⟨us, rfl⟩) rfl rfl rfl true (m' := ⟨n + m, e, i.size, none⟩) (fun hh => by cases hh) (fun _ b cs hc => by cases hc) (fun cs _ hc => by cases hc)
          refine ⟨_, _, _, hrun, h1, ?_⟩
          refine own_rep h1 (t := tg) (r := r') (by simp [Env.upT, Env.setT]) hown' hone (fun g' hg' o ho => .inr ⟨rfl, by simpa [r', Value.ownBlock] using hg'.symm, ho⟩) (by show (cells ++ news).length = (r.xs ++ us).length; rw [hlen, List.length_append, hcl, hnl, Nat.add_mul]) (fun j x u hx hj => (hboth r.xs hxl (fun k x' u' hx' hk' => ?_) j x u hx hj).mono hle) hsz
          -- the row's cells are what the slice reads
          have hkl : k < r.xs.length := (List.getElem?_eq_some_iff.1 hk').1
          have c1 := hx1.cells hgb k u' hk'
          obtain ⟨ad, e9, hsp, _, hw, _⟩ := hcell k x' hx'
          cases e9
          rw [add_plain] at c1
          simp only [Nat.zero_add] at hw
          rw [c1] at hw
          cases hw
          exact hrep k x' hx'
        · exact newCase (by omega)


/-- A slice whose elements may be written, or were such, is appended to. -/
theorem appv_core {P : Program} {C : Ctx} {G : Env} {s : AS} {a : Act} {w : World} (h : RelG C G s a w) {t xT e ty : TypeId} {i : TypeInfo} {z : Value} {e' : TypeId} (hd : P.underlying t = some (.slice e)) (hxd : P.underlying xT = some (.slice e')) (hi : P.info? e = some i) (hz : i.zero = some z) (hzs : z.cells.size = i.size)
    (hby : 0 < i.bytes) {tg n m : Nat} {b : Bool} {cells news : List AV} (ht : look s.tags tg = some ⟨n, e, i.size, some (b, cells)⟩) {v vx : Value} (hv : Rep w G true (.vec tg n) v)
    (hnl : news.length = m * i.size) (hb : (n + m) * i.bytes ≤ 140737488355328) {us : List Value} (hul : us.length = news.length) (hy : Yields P w i.size m vx us) (hur : ∀ (i : Nat) (c : AV) (v : Value), news[i]? = some c → us[i]? = some v → Rep w G false c v) (hu1 : ∀ v ∈ us, v.oneCell' = true) (hnil : tg = DT → b = true → ∀ u ∈ us, u = .slice none 0 0) :
    VSound P C (s.tag tg ⟨n + m, e, i.size, some (b, cells ++ news)⟩) a w (Builtin.append_ #[t, xT] ty #[v, vx]) (.vec tg (n + m)) := by
  obtain ⟨r, hr, hok⟩ := h.tags tg _ ht
  have hrn : r.n = n := hok.hn
  have hre : r.e = e := hok.he
  have hrs : r.sz = i.size := hok.hsz
  obtain ⟨hro, hclen, hcrep, hcF⟩ := hok.hcs b cells rfl
  have hx1 := hok.own hro
  have hx2 := hok.one hro
  have hnm : n + m ≤ 140737488355328 := Nat.le_trans (Nat.le_mul_of_pos_right _ hby) hb
  have hmax : n + m ≤ maxLen := by unfold maxLen; omega
  have hxl : r.xs.length = n * i.size := by rw [hx1.1, hrn, hrs]
  cases hv with
  | vec _ _ A k c r' hr' hle hvv =>
  rw [hr] at hr'
  cases hr'
  have hrv := hvv hrn
  have hk : k = n := by
    rcases hx1.2 with ⟨e1, e2⟩ | ⟨g, cap, cur, e1, _⟩
    · rw [hrv] at e1; cases e1; omega
    · rw [hrv, hrn] at e1; cases e1; rfl
  subst hk
  have hkc : k ≤ c := by
    rcases hx1.2 with ⟨e1, e2⟩ | ⟨g, cap, cur, e1, _, _, h3, _⟩
    · rw [hrv] at e1; cases e1; exact Nat.le_refl _
    · rw [hrv, hrn] at e1; cases e1; omega
  have hyo : Yields P w i.size k (.slice A k c) r.xs := by
    refine yields_slice _ _ _ _ _ hxl (fun hA => ?_) (fun j u hj => ?_)
    · rcases hx1.2 with ⟨e1, e2⟩ | ⟨g, cap, cur, e1, _⟩
      · omega
      · rw [hrv] at e1; cases e1; cases hA
    · rcases hx1.2 with ⟨e1, e2⟩ | ⟨g, cap, cur, e1, _⟩
      · exfalso
        have hlt := (List.getElem?_eq_some_iff.1 hj).1
        rw [hxl, show k = 0 by omega] at hlt
        simp at hlt
      · have hgb : r.v.ownBlock = some g := by rw [e1]; rfl
        have hc := hx1.cells hgb j u hj
        rw [hrv] at e1
        cases e1
        exact ⟨_, rfl, hc⟩
  have hboth : ∀ (w' : World) (G' : Env), Env.Le w G w' G' → ∀ (j : Nat) (c : AV) (v : Value), (cells ++ news)[j]? = some c → (r.xs ++ us)[j]? = some v → Rep w' G' false c v := by
    intro w' G' hle' j x u hx hj
    by_cases hlt : j < cells.length
    · rw [List.getElem?_append_left hlt] at hx
      rw [List.getElem?_append_left (by omega)] at hj
      exact (hcrep j x u hx hj).mono hle'
    · rw [List.getElem?_append_right (by omega)] at hx
      rw [List.getElem?_append_right (by omega)] at hj
      have : j - cells.length = j - r.xs.length := by omega
      rw [this] at hx
      exact (hur _ x u hx hj).mono hle'
  by_cases hm : m = 0
  · subst hm
    have hun : us = [] := List.eq_nil_of_length_eq_zero (by rw [hul, hnl]; simp)
    have hnn : news = [] := List.eq_nil_of_length_eq_zero (by rw [hnl]; simp)
    subst hun; subst hnn
    refine ⟨_, w, G, app_none (P := P) hd hxd (.inl ⟨_, rfl⟩) hi A k c vx hy hkc, ?_, .vec _ _ _ _ _ r hr (by omega) (fun _ => hrv)⟩
    rw [List.append_nil]
    exact h.sameTag ht
  · have hlen : (r.xs ++ us).length = (k + m) * i.size := by rw [List.length_append, hxl, hul, hnl, Nat.add_mul]
    have hone : ∀ u ∈ r.xs ++ us, u.oneCell' = true := fun u hu => by
      rcases List.mem_append.1 hu with hu | hu
      · exact hx2 u hu
      · exact hu1 u hu
    have hcl2 : (cells ++ news).length = (r.xs ++ us).length := by rw [List.length_append, List.length_append, hclen, hul]
    have hin : ∀ (G' : Env) (w' : World) (cs : List AV), tg = DT → some (b, cells ++ news) = some (true, cs) → (∀ v, Inn C G w v → Inn C G' w' v) → InnOk C G' w' cs (r.xs ++ us) := by
      intro G' w' cs e1 e2 tr
      cases e2
      subst e1
      obtain ⟨k1, k2⟩ := h.deep cells r ⟨_, ht, rfl⟩ hr
      have at1 : ∀ i v, InnAt (cells ++ news) (r.xs ++ us) i v → (i < cells.length ∧ InnAt cells r.xs i v) ∨ v = .slice none 0 0 := by
        rintro i v ⟨c, h2, h3, h4⟩
        by_cases hlt : i < cells.length
        · rw [List.getElem?_append_left hlt] at h2
          rw [List.getElem?_append_left (by omega)] at h4
          exact .inl ⟨hlt, c, h2, h3, h4⟩
        · rw [List.getElem?_append_right (by omega)] at h4
          exact .inr (hnil rfl rfl v (List.mem_of_getElem? h4))
      refine ⟨fun i v hv => ?_, fun i j v u g hv hu hg hg' => ?_⟩
      · rcases at1 i v hv with ⟨_, h2⟩ | rfl
        · exact tr v (k1 i v h2)
        · exact ⟨0, [], ⟨rfl, .inl ⟨rfl, rfl⟩⟩, fun u hu => (by simp at hu), fun g hg => (by cases hg)⟩
      · rcases at1 i v hv with ⟨_, h2⟩ | rfl <;> rcases at1 j u hu with ⟨_, h3⟩ | rfl
        · exact k2 i j v u g h2 h3 hg hg'
        · cases hg'
        · cases hg
        · cases hg
    have newCase : c < k + m → VSound P C (s.tag tg ⟨k + m, e, i.size, some (b, cells ++ news)⟩) a w (Builtin.append_ #[t, xT] ty #[.slice A k c, vx]) (.vec tg (k + m)) := by
      intro hgrow
      have hrun := app_grow (P := P) (ty := ty) hd hxd (.inl ⟨_, rfl⟩) hi hz A k c r.xs hyo vx m us hy hgrow (growslice_fits hgrow hb) (by omega)
      have hge := grownCap_ge w (k + m) c e
      have hcm : grownCap w (k + m) c e ≤ maxLen := grownCap_le_maxLen w (k + m) c e hmax
      let r' : TagRec := ⟨true, .slice (some ⟨w.heap.size, 0, none⟩) (k + m) (grownCap w (k + m) c e), k + m, e, i.size, r.xs ++ us⟩
      have hown' : (w.drew.alloc (.cells (r.xs.toArray ++ us.toArray ++ Builtin.zeroCells z.cells (grownCap w (k + m) c e - (k + m))) e)).ownsRow 0 r'.e r'.sz r'.v r'.n r'.xs := by
        refine ⟨hlen, .inr ⟨w.heap.size, _, _, rfl, Nat.zero_le _, heap_alloc_new w.drew _, hge, hcm, ?_, ?_⟩⟩
        · simp only [Array.size_append, List.size_toArray, size_zeroCells, hzs, hxl, hul, hnl, ← Nat.add_mul]
          congr 1
          omega
        · show _ = r.xs ++ us
          simp only [Array.toList_append, List.append_assoc]
          rw [← List.append_assoc]
          show List.take ((k + m) * i.size) _ = _
          rw [← hlen]
          exact List.take_left
      obtain ⟨h1, hle⟩ := h.setTagNew (r' := r') (w' := w.drew.alloc (.cells (r.xs.toArray ++ us.toArray ++ Builtin.zeroCells z.cells (grownCap w (k + m) c e - (k + m))) e)) ht hr rfl (by show r.n < k + m; omega) ⟨rfl, rfl, rfl, by simp, fun k hk => heap_alloc_old w.drew _ hk⟩ ((Unf.same (w' := w.drew) rfl).trans (Unf.alloc _ (fun _ _ _ h => by cases h; exact .inl rfl))) (by simp) hown' hone rfl rfl rfl rfl (!b) (m' := ⟨k + m, e, i.size, some (b, cells ++ news)⟩) (fun hh => by cases b <;> simp_all [Tag.rw]) (fun hle' b' cs' hc => by
        cases hc
        exact ⟨hcl2, hboth _ _ hle', fun hb => by rw [hb]; rfl⟩) (fun cs e1 e2 tr => hin _ _ cs e1 e2 tr)
      exact ⟨_, _, _, hrun, h1, .vec _ _ _ _ _ r' (by simp [Env.upT, Env.setT]) (Nat.le_refl _) (fun _ => rfl)⟩
    rcases hx1.2 with ⟨e1, e2⟩ | ⟨g, cap, cur, e1, hbg, hgc, h3, h4, h5, h6⟩
    · rw [hrv] at e1
      cases e1
      exact newCase (by omega)
    · rw [hrv, hrn] at e1
      cases e1
      by_cases hroom : k + m ≤ c
      · rw [hrn, hrs] at h6
        rw [hrs] at h5
        have hfit : k * i.size + us.length ≤ cur.size := by rw [hul, hnl, h5, ← Nat.add_mul]; exact Nat.mul_le_mul_right _ hroom
        rw [hre] at hgc
        have hrun := app_room (P := P) (ty := ty) hd hxd (.inl ⟨_, rfl⟩) hi g k c cur hgc vx m us hy (by rw [hul, hnl]) hu1 hroom hfit
        let r' : TagRec := ⟨true, .slice (some ⟨g, 0, none⟩) (k + m) c, k + m, e, i.size, r.xs ++ us⟩
        obtain ⟨s1, s2, s3, s4, s5⟩ := setRow_le (w := w) (g := g) (cur.toList.take (k * i.size) ++ us ++ cur.toList.drop (k * i.size + us.length)).toArray
        have hown' : (w.setRow g (cur.toList.take (k * i.size) ++ us ++ cur.toList.drop (k * i.size + us.length)).toArray).ownsRow 0 r'.e r'.sz r'.v r'.n r'.xs := by
          refine ⟨hlen, .inr ⟨g, c, _, rfl, Nat.zero_le _, setRow_heap w g cur _ e _ hgc, hroom, h4, ?_, ?_⟩⟩
          · simp only [List.size_toArray, List.length_append, List.length_take, List.length_drop, Array.length_toList]
            show _ = c * i.size
            omega
          · show List.take ((k + m) * i.size) _ = r.xs ++ us
            rw [h6]
            rw [← hlen]
            exact List.take_left
        have hgb : r.v.ownBlock = some g := by rw [hrv]; rfl
        obtain ⟨h1, hle⟩ := h.setTagRoom (r' := r') ht hr hro rfl (by show r.n ≤ k + m; omega) (by intro e; exfalso; have : r.n = k + m := e; omega) hgb s3 s4 s5 s2 s1 hown' hone rfl hrs.symm (fun _ => ⟨us, rfl⟩) rfl rfl rfl (!b) (m' := ⟨k + m, e, i.size, some (b, cells ++ news)⟩) (fun hh => by cases b <;> simp_all [Tag.rw]) (fun hle' b' cs' hc => by
          cases hc
          exact ⟨hcl2, hboth _ _ hle', fun hb => by rw [hb]; rfl⟩) (fun cs e1 e2 tr => hin _ _ cs e1 e2 tr)
        exact ⟨_, _, _, hrun, h1, .vec _ _ _ _ _ r' (by simp [Env.upT, Env.setT]) (Nat.le_refl _) (fun _ => rfl)⟩
      · exact newCase (by omega)

theorem appA_sound {P : Program} {Γ : TT} (hΓ : Γok P Γ) {C : Ctx} {G : Env} {s s' : AS} {a : Act} {w : World} (h : RelG C G s a w) {d : Nat} {t xT ty : TypeId} {v x y : AV} {vv vx : Value} (hv : Rep w G true v vv) (hx : Rep w G true x vx) {os : List Prop} (hn : appA Γ s d t xT v x = some (s', y, os)) (ho : All os) :
    VSound P C s' a w (Builtin.append_ #[t, xT] ty #[vv, vx]) y := by
  unfold appA at hn
  split at hn
  · rename_i ti xi hti hxi
    obtain ⟨i, d', z, hi, hd, hsz, hby, hz, hzs, hz0, hz1, hag, hk⟩ := (hΓ t ti hti).ex
    obtain ⟨ix, dx, zx, hix, hdx, _, _, _, _, _, _, _, hkx⟩ := (hΓ xT xi hxi).ex
    split at hn
    · rename_i e e' he he'
      rw [he] at hk
      rw [he'] at hkx
      obtain rfl := kind_slice hk
      obtain rfl := kind_slice hkx
      split at hn
      · rename_i ei hei
        obtain ⟨i2, d2, z2, hi2, hd2, hsz2, hby2, hz2, hzs2, hz02, hz12, hag2, hk2⟩ := (hΓ _ ei hei).ex
        split at hn
        · rename_i nl n cells o m news hsrc
          split at hn
          · rename_i s1 tg os1 sz by_ hdst hsz1 hby1
            cases hn
            rw [All_append] at ho
            obtain ⟨ho1, ho2⟩ := ho
            simp only [All] at ho2
            obtain ⟨hcl, hnl, hb⟩ := ho2
            have hs2 : i2.size = sz + 1 := by omega
            have hb2 : i2.bytes = by_ + 1 := by omega
            -- the destination's tag
            have key : ∃ G1, RelG C G1 s1 a w ∧ Env.Le w G w G1 ∧ look s1.tags tg = some ⟨n, e, i2.size, none⟩ ∧ Rep w G1 true (.sl nl n cells .no) vv ∧ ∃ r, G1.τ tg = some r ∧ (r.n = n → r.v = vv) := by
              cases hv with
              | sl _ _ _ _ _ A c vs hnl' hpos hc hcell hrep hclip hown =>
              unfold dstA at hdst
              split at hdst
              · rename_i t0
                split at hdst
                · rename_i g hg
                  split at hdst
                  · rename_i hge hgs hgcs
                    cases hdst
                    simp only [All] at ho1
                    obtain ⟨_, r, hr, hrn, hrv⟩ := hown tg rfl
                    refine ⟨G, h, Env.Le.refl _ _, ?_, .sl _ _ _ _ _ _ _ vs hnl' hpos hc hcell hrep (fun e => by cases e) (fun t e => by cases e), r, hr, hrv⟩
                    rw [hg]
                    obtain ⟨gn, ge, gs, gc⟩ := g
                    have e1 := Nat.eq_of_beq_eq_true hge
                    have e2 := Nat.eq_of_beq_eq_true hgs
                    simp only at e1 e2 ho1 hgcs
                    rw [e1, e2, ho1, hsz2, hgcs]
                  · cases hdst
                · cases hdst
              · split at hdst
                · rename_i hlk
                  cases hdst
                  have hcn := hclip rfl
                  subst hcn
                  obtain ⟨h1, hle⟩ := h.addTag (t := d) (m := ⟨c, e, ei.size, none⟩) (r := ⟨false, .slice A c c, c, e, ei.size, []⟩) hlk rfl rfl rfl (fun _ => ⟨rfl, A, rfl, fun hA => by
                    rcases Nat.eq_zero_or_pos c with h0 | h0
                    · exact h0
                    · obtain ⟨ad, e, _⟩ := hpos h0
                      rw [hA] at e
                      cases e⟩) (fun ho => by cases ho) (fun cs _ hc => by cases hc) (fun b cs hc => by cases hc)
                  refine ⟨_, h1, hle, ?_, (Rep.sl true nl c cells .no A c vs hnl' hpos hc hcell hrep (fun e => by cases e) (fun t e => by cases e)).mono hle, ⟨false, .slice A c c, c, e, ei.size, []⟩, by simp [Env.setT], fun _ => rfl⟩
                  simp [AS.tag, look_cons, hsz2]
                · cases hdst
              · cases hdst
            obtain ⟨G1, h1, hle, htg, hv1, hvt⟩ := key
            have hsrc1 : srcA s1 i2.size x = some (m, news) := by
              rw [hsz2]
              unfold dstA at hdst
              split at hdst
              · split at hdst
                · split at hdst
                  · cases hdst; exact hsrc
                  · cases hdst
                · cases hdst
              · split at hdst
                · rename_i hnone
                  cases hdst
                  exact srcA_tag hnone hsrc
                · cases hdst
              · cases hdst
            obtain ⟨us, hul, hy, hur, hu1⟩ := srcA_sound (P := P) h1 (hx.mono hle) (sz := i2.size) (by omega) hsrc1 (by rw [hnl, hs2])
            have := app_core (P := P) (ty := ty) h1 hd hdx hi2 hz2 (by rw [hzs2, hsz2]) (by omega) (by omega) htg hv1 hvt (by rw [hcl, hs2]) (by rw [hnl, hs2]) (by rw [hb2]; exact hb) hul hy hur hu1
            rw [hs2] at this
            exact this
          · cases hn
        · rename_i tg n m news hsrc
          split at hn
          · rename_i n' e2 sz2 b cells sz by_ ht hsz1 hby1
            split at hn
            · rename_i ys he2 hsz3 hys
              cases hn
              simp only [All] at ho
              obtain ⟨rfl, hnl, hb⟩ := ho
              have e3 := Nat.eq_of_beq_eq_true he2
              have e4 := Nat.eq_of_beq_eq_true hsz3
              subst e3
              have hs2 : i2.size = sz + 1 := by omega
              have hb2 : i2.bytes = by_ + 1 := by omega
              rw [e4, ← hs2] at ht
              obtain ⟨us, hul, hy, hur, hu1⟩ := srcA_sound (P := P) h hx (sz := i2.size) (by omega) (by rw [hsz2]; exact hsrc) (by rw [hnl, hs2])
              obtain ⟨y1, y2, y3⟩ := newsOk_spec hys hul hur
              have := appv_core (P := P) (ty := ty) h hd hdx hi2 hz2 (by rw [hzs2, hsz2]) (by omega) ht hv (by rw [y1, hnl, hs2]) (by rw [hb2]; exact hb) (by rw [y1]; exact hul) hy y2 hu1 y3
              rw [hs2] at this
              exact this
            · cases hn
          · cases hn
        · cases hn
      · cases hn
    · cases hn
  · cases hn

/-! ### A new slice whose elements may be written: what is appended to none (tags that may be handed back: 1000000 and above) -/
def appN (Γ : TT) (s : AS) (d : Nat) (t xT : TypeId) (v x : AV) : SR :=
  match Nat.ble 1000000 d && !Nat.beq d DT, v with
  | true, .sl nl 0 [] .clip => match look Γ t, look Γ xT with
    | some ti, some xi => match ti.kind, xi.kind with
      | .slice e, .slice _ => match look Γ e with
        | some ei => match srcA s ei.size x, ei.size, ei.bytes, look s.tags d with
          | some (m, news), sz + 1, by_ + 1, none => some ((s.tag d ⟨0, e, sz + 1, some (true, [])⟩).tag d ⟨m, e, sz + 1, some (true, news)⟩, .vec d m, [0 < m ∧ news.length = m * (sz + 1) ∧ m * (by_ + 1) ≤ 140737488355328])
          | _, _, _, _ => none
        | none => none
      | _, _ => none
    | _, _ => none
  | _, _ => appA Γ s d t xT v x

theorem appn_core {P : Program} {C : Ctx} {G : Env} {s : AS} {a : Act} {w : World} (h : RelG C G s a w) {tg : Nat} (hne : tg ≠ DT) {t xT e ty : TypeId} {i : TypeInfo} {z : Value} {e' : TypeId} (hd : P.underlying t = some (.slice e)) (hxd : P.underlying xT = some (.slice e')) (hi : P.info? e = some i) (hz : i.zero = some z) (hzs : z.cells.size = i.size)
    (hby : 0 < i.bytes) {m : Nat} {news : List AV} (ht : look s.tags tg = none) {A : Option Addr} {vx : Value} (hm : 0 < m)
    (hnl : news.length = m * i.size) (hb : m * i.bytes ≤ 140737488355328) {us : List Value} (hul : us.length = news.length) (hy : Yields P w i.size m vx us) (hur : ∀ (i : Nat) (c : AV) (v : Value), news[i]? = some c → us[i]? = some v → Rep w G false c v) (hu1 : ∀ v ∈ us, v.oneCell' = true) :
    VSound P C ((s.tag tg ⟨0, e, i.size, some (true, [])⟩).tag tg ⟨m, e, i.size, some (true, news)⟩) a w (Builtin.append_ #[t, xT] ty #[.slice A 0 0, vx]) (.vec tg m) := by
  obtain ⟨h5, hle5⟩ := h.addTag (t := tg) (m := ⟨0, e, i.size, some (true, [])⟩) (r := ⟨true, .slice none 0 0, 0, e, i.size, []⟩) ht rfl rfl rfl (fun ho => by cases ho) (fun _ => ⟨⟨by simp, .inl ⟨rfl, rfl⟩⟩, fun u hu => by simp at hu, fun g hg => by cases hg⟩) (fun cs _ hc => by cases hc; rfl) (fun b cells hc => by
    cases hc
    exact ⟨rfl, rfl, fun i c v hi => by simp at hi, fun hb => by cases hb⟩)
  have hmm : m ≤ 140737488355328 := Nat.le_trans (Nat.le_mul_of_pos_right _ hby) hb
  have hmax : m ≤ maxLen := by unfold maxLen; omega
  have e0 : 0 + m = m := Nat.zero_add m
  have hyo : Yields P w i.size 0 (.slice A 0 0) [] := yields_slice _ _ _ _ _ (by simp) (fun hA => rfl) (fun j u hj => by simp at hj)
  have hgrow : 0 < 0 + m := by omega
  have hrun := app_grow (P := P) (ty := ty) hd hxd (.inl ⟨_, rfl⟩) hi hz A 0 0 [] hyo vx m us hy hgrow (growslice_fits hgrow (by rw [e0]; exact hb)) (by omega)
  rw [e0] at hrun
  have hge := grownCap_ge w m 0 e
  have hcm : grownCap w m 0 e ≤ maxLen := grownCap_le_maxLen w m 0 e hmax
  let r' : TagRec := ⟨true, .slice (some ⟨w.heap.size, 0, none⟩) m (grownCap w m 0 e), m, e, i.size, us⟩
  have hlen : us.length = m * i.size := by rw [hul, hnl]
  have hown' : (w.drew.alloc (.cells (([] : List Value).toArray ++ us.toArray ++ Builtin.zeroCells z.cells (grownCap w m 0 e - m)) e)).ownsRow 0 r'.e r'.sz r'.v r'.n r'.xs := by
    refine ⟨hlen, .inr ⟨w.heap.size, _, _, rfl, Nat.zero_le _, heap_alloc_new w.drew _, hge, hcm, ?_, ?_⟩⟩
    · simp only [Array.size_append, List.size_toArray, size_zeroCells, hzs, hlen, List.length_nil, Nat.zero_add, ← Nat.add_mul]
      congr 1
      omega
    · show _ = us
      simp only [Array.toList_append, List.nil_append]
      show List.take (m * i.size) _ = _
      rw [← hlen]
      exact List.take_left
  obtain ⟨h1, hle⟩ := h5.setTagNew (t := tg) (r := ⟨true, .slice none 0 0, 0, e, i.size, []⟩) (r' := r') (w' := w.drew.alloc (.cells (([] : List Value).toArray ++ us.toArray ++ Builtin.zeroCells z.cells (grownCap w m 0 e - m)) e)) (m := ⟨0, e, i.size, some (true, [])⟩) (by simp [AS.tag, look_cons]) (by simp [Env.setT]) rfl (by show 0 < m; exact hm) ⟨rfl, rfl, rfl, by simp, fun k hk => heap_alloc_old w.drew _ hk⟩ ((Unf.same (w' := w.drew) rfl).trans (Unf.alloc _ (fun _ _ _ h => by cases h; exact .inl rfl))) (by simp) hown' hu1 rfl rfl rfl rfl false (m' := ⟨m, e, i.size, some (true, news)⟩) (fun hh => rfl) (fun hle' b' cs' hc => by
    cases hc
    exact ⟨by rw [hul], fun j c v hj hv => (hur j c v hj hv).mono (hle5.trans hle'), fun hb => by cases hb⟩) (fun cs e1 _ _ => absurd e1 hne)
  exact ⟨_, _, _, hrun, h1, .vec _ _ _ _ _ r' (by simp [Env.upT, Env.setT]) (Nat.le_refl _) (fun _ => rfl)⟩

theorem appN_sound {P : Program} {Γ : TT} (hΓ : Γok P Γ) {C : Ctx} {G : Env} {s s' : AS} {a : Act} {w : World} (h : RelG C G s a w) {d : Nat} {t xT ty : TypeId} {v x y : AV} {vv vx : Value} (hv : Rep w G true v vv) (hx : Rep w G true x vx) {os : List Prop} (hn : appN Γ s d t xT v x = some (s', y, os)) (ho : All os) :
    VSound P C s' a w (Builtin.append_ #[t, xT] ty #[vv, vx]) y := by
  unfold appN at hn
  split at hn
  · rename_i nl hble
    have hne : d ≠ DT := by
      simp only [Bool.and_eq_true, Bool.not_eq_true'] at hble
      exact Nat.ne_of_beq_eq_false hble.2
    split at hn
    · rename_i ti xi hti hxi
      obtain ⟨i, d', z, hi, hd, hsz, hby, hz, hzs, hz0, hz1, hag, hk⟩ := (hΓ t ti hti).ex
      obtain ⟨ix, dx, zx, hix, hdx, _, _, _, _, _, _, _, hkx⟩ := (hΓ xT xi hxi).ex
      split at hn
      · rename_i e e' he he'
        rw [he] at hk
        rw [he'] at hkx
        obtain rfl := kind_slice hk
        obtain rfl := kind_slice hkx
        split at hn
        · rename_i ei hei
          obtain ⟨i2, d2, z2, hi2, hd2, hsz2, hby2, hz2, hzs2, hz02, hz12, hag2, hk2⟩ := (hΓ _ ei hei).ex
          split at hn
          · rename_i m news sz by_ hsrc hsz1 hby1 htg
            cases hn
            simp only [All] at ho
            obtain ⟨hm, hnl, hb⟩ := ho
            have hs2 : i2.size = sz + 1 := by omega
            have hb2 : i2.bytes = by_ + 1 := by omega
            obtain ⟨us, hul, hy, hur, hu1⟩ := srcA_sound (P := P) h hx (sz := i2.size) (by omega) (by rw [hsz2]; exact hsrc) (by rw [hnl, hs2])
            cases hv with
            | sl _ _ _ _ _ A c vs hnl' hpos hc hcell hrep hclip hown =>
            have hcn := hclip rfl
            subst hcn
            have := appn_core (P := P) (ty := ty) (A := A) h hne hd hdx hi2 hz2 (by rw [hzs2, hsz2]) (by omega) htg hm (by rw [hnl, hs2]) (by rw [hb2]; exact hb) hul hy hur hu1
            rw [hs2] at this
            exact this
          · cases hn
        · cases hn
      · cases hn
    · cases hn
  · exact appA_sound hΓ h hv hx hn ho
end Go.AX
end

section
set_option linter.unusedVariables false
set_option linter.unusedSimpArgs false
namespace Go.AX
open Go Go.RowKit

/-! ### Ranging over a string -/
def rangeA (Γ : TT) (s : AS) (d : Nat) (t : TypeId) (x : AV) : SR :=
  match look Γ t with
  | some ti => match ti.kind, x, look s.heap d with
    | .str, .str b, none => some (s.blk d (.iter b 0), .ptr d 0, [])
    | _, _, _ => none
  | none => none
theorem rangeA_sound {P : Program} {Γ : TT} (hΓ : Γok P Γ) {C : Ctx} {G : Env} {s s' : AS} {a : Act} {w : World} (h : RelG C G s a w) {d : Nat} {t : TypeId} {x v : AV} {u : Value} (hx : Rep w G true x u) {os : List Prop} (hn : rangeA Γ s d t x = some (s', v, os)) :
    VSound P C s' a w (Instr.range t u) v := by
  unfold rangeA at hn
  split at hn
  · rename_i ti hti
    obtain ⟨i, d', z, hi, hd, hsz, hby, hz, hzs, hz0, hz1, hag, hk⟩ := (hΓ t ti hti).ex
    split at hn
    · rename_i b he hl
      rw [he] at hk
      obtain rfl := kind_str hk
      cases hn
      cases hx
      obtain ⟨h1, h2⟩ := h.alloc (i := d) (b := .iter b 0) (o := .stringIter b 0) hl (heap_alloc_new w _)
      exact ⟨_, _, _, run_range_string w t b hd, h1, .ptr _ _ _ (by simp [Env.addB])⟩
    · cases hn
  · cases hn

def nextA (s : AS) (x : AV) (ann : Option AV) : SR :=
  match x with
  | .ptr id 0 => match look s.heap id with
    | some (.iter b pos) => match ann with
      | some (.tup [.bool false]) => some (s, .tup [.bool false], [¬ pos < b.size])
      | some (.tup (.bool true :: _)) => some (s.blk id (.iter b (pos + (Utf8.decode b pos).2)), .tup [.bool true, .int .i64 pos, .int .i32 (Utf8.decode b pos).1], [pos < b.size])
      | _ => none
    | _ => none
  | _ => none
theorem nextA_sound {P : Program} {C : Ctx} {G : Env} {s s' : AS} {a : Act} {w : World} (h : RelG C G s a w) {x v : AV} {ann : Option AV} {u : Value} (hx : Rep w G true x u) {os : List Prop} (hn : nextA s x ann = some (s', v, os)) (ho : All os) (ty : TypeId) :
    VSound P C s' a w (Instr.next u true ty) v := by
  unfold nextA at hn
  split at hn
  · rename_i id
    cases hx with
    | ptr _ _ g hg =>
    split at hn
    · rename_i b pos hb
      obtain ⟨g', hg', hbase, hok, hnF⟩ := h.blocks _ _ hb
      rw [hg] at hg'
      cases hg'
      split at hn
      · cases hn
        simp only [All] at ho
        refine ⟨_, w, G, Lib.run_next_end_at w g b pos ty hok ho, h, .tup _ _ _ rfl fun i c v hc hv => ?_⟩
        match i, hc, hv with
        | 0, hc, hv => simp at hc hv; subst hc; subst hv; exact .bool _ _
        | n + 1, hc, hv => simp at hc
      · cases hn
        simp only [All] at ho
        have h1 := h.setBlk (w' := w.iterAt g b (pos + (Utf8.decode b pos).2)) (b' := .iter b (pos + (Utf8.decode b pos).2)) hb hg rfl rfl rfl rfl (Lib.iterAt_size _ _ _ _) (fun k hk => Lib.iterAt_other w g k b _ hk) (fun _ => Lib.iterAt_heap w g b pos _ hok) rfl
        refine ⟨_, _, G, Lib.run_next_any_at w g b pos ty hok ho, h1.1, .tup _ _ _ rfl fun i c v hc hv => ?_⟩
        match i, hc, hv with
        | 0, hc, hv => simp at hc hv; subst hc; subst hv; exact .bool _ _
        | 1, hc, hv => simp at hc hv; subst hc; subst hv; exact .int _ _ _
        | 2, hc, hv => simp at hc hv; subst hc; subst hv; exact .int _ _ _
        | n + 3, hc, hv => simp at hc
      · cases hn
    · cases hn
  · cases hn

/-! ### Conversions -/
/-- A string's runes. -/
def runesL (s : ByteArray) : Nat → Nat → List Int
  | 0, _ => []
  | k + 1, i => if i < s.size then ((Utf8.decode s i).1 : Int) :: runesL s k (i + (Utf8.decode s i).2) else []
def runes (s : ByteArray) : List Int := runesL s s.size 0
theorem runesFrom_eq (s : ByteArray) : ∀ (k i : Nat) (acc : Array Value), Conv.runesFrom s k i acc = acc ++ ((runesL s k i).map (Value.int .i32)).toArray
  | 0, i, acc => by simp [Conv.runesFrom, runesL]
  | k + 1, i, acc => by
    simp only [Conv.runesFrom, runesL]
    split
    · rw [runesFrom_eq s k]
      simp
    · simp

def intsOf : List AV → List Int
  | [] => []
  | .int _ n :: r => n :: intsOf r
  | _ :: r => intsOf r
def convA (Γ : TT) (s : AS) (src dst : TypeId) (x : AV) : VR :=
  match look Γ src, look Γ dst with
  | some a, some b => match a.kind, b.kind, x with
    | .int _, .int k, .int _ n => some (.int k (k.wrap n), [])
    | .int _, .str, .int _ n => some (.str (Utf8.encode n), [])
    | .str, .str, .str b => some (.str b, [])
    | .slice e, .str, .sl _ n cells _ => match look Γ e with
      | some ei => match ei.kind with
        | .int .i32 => some (.str (runesBytes (intsOf cells)), [cells = (intsOf cells).map (.int .i32) ∧ cells.length = n])
        | .int .u8 => some (.str (strOfNums (intsOf cells)), [cells = (intsOf cells).map (.int .u8) ∧ cells.length = n])
        | _ => none
      | none => none
    | .str, .slice e, .str b => match look Γ e with
      | some ei => match ei.kind with
        | .int .i32 => some (.sl (some false) (runes b).length ((runes b).map (.int .i32)) .no, [b.size ≤ 9223372036854775807])
        | .int .u8 => some (.sl (some false) b.size ((b.data.toList.map fun c => (c.toNat : Int)).map (.int .u8)) .no, [b.size ≤ 9223372036854775807])
        | _ => none
      | none => none
    | _, _, _ => none
  | _, _ => none

theorem runesL_len (s : ByteArray) : ∀ (k i : Nat), (runesL s k i).length ≤ k
  | 0, i => by simp [runesL]
  | k + 1, i => by
    simp only [runesL]
    split
    · have := runesL_len s k (i + (Utf8.decode s i).2)
      simp only [List.length_cons]
      omega
    · simp

theorem unf_bytes (w : World) (e : TypeId) (b : ByteArray) : Unf w (Lib.bytesWorld w e b) := by
  intro k vs e' fr h1 h0
  by_cases hk : k < w.heap.size
  · exact h0 vs e' fr (by rw [← Lib.bytesWorld_at_old w e b k hk]; exact h1)
  · by_cases hk2 : k = w.heap.size
    · subst hk2
      rw [Lib.bytesWorld_at_new] at h1
      cases h1
      refine .inr (fun i s hs => ?_)
      have hm := Array.mem_of_getElem? hs
      simp [Lib.bytesCells] at hm
    · rw [Array.getElem?_eq_none (by rw [Lib.bytesWorld_size]; omega)] at h1
      cases h1
/-- A new row of plain values, that is only read. -/
theorem newTree {C : Ctx} {G : Env} {s : AS} {a : Act} {w w' : World} (h : RelG C G s a w) (hb : Below w.heap.size w w') (hz : Unf w w') (hlt : w.heap.size < w'.heap.size) {cs : Array Value} {e : TypeId} {fr : Nat × Nat} (hc : w'.heap[w.heap.size]? = some (.cells cs e fr)) {cells : List AV} {n c : Nat} (hn : n ≤ c)
    (hl : cells.length ≤ cs.size) (hr : ∀ (j : Nat) (x : AV) (v : Value), cells[j]? = some x → cs[j]? = some v → (∀ G, Rep w' G false x v) ∧ v.oneCell' = true) : ∃ G', RelG C G' s a w' ∧ Rep w' G' true (.sl (some false) n cells .no) (.slice (some ⟨w.heap.size, 0, none⟩) n c) := by
  obtain ⟨h1, h2⟩ := h.grow (G' := { G with F := fun b o => G.F b o ∨ b = w.heap.size }) hb hz rfl rfl (fun _ _ h => .inl h) (fun b o hf => by
    rcases hf with hf | hf
    · exact .inl hf
    · exact .inr ⟨by omega, by omega⟩)
  refine ⟨_, h1, .sl _ _ _ _ _ _ _ (fun j => cs.getD j undef) (fun b hb => by cases hb; rfl) (fun _ => ⟨_, rfl, rfl⟩) hn (fun j x hx => ?_) (fun j x hx => ?_) (fun h => by cases h) (fun t h => by cases h)⟩
  · have hj : j < cs.size := Nat.lt_of_lt_of_le (List.getElem?_eq_some_iff.1 hx).1 hl
    refine ⟨_, rfl, rfl, .inr rfl, ?_, ?_⟩
    · simp [World.cell?, hc, hj]
    · simpa [hj] using (hr j x cs[j] hx (Array.getElem?_eq_getElem hj)).2
  · have hj : j < cs.size := Nat.lt_of_lt_of_le (List.getElem?_eq_some_iff.1 hx).1 hl
    simpa [hj] using (hr j x cs[j] hx (Array.getElem?_eq_getElem hj)).1 _

theorem sl_ints {w : World} {G : Env} {l : Bool} {k : IntKind} {nl : Option Bool} {n : Nat} {cells : List AV} {o : Own} {A : Option Addr} {c : Nat} {ns : List Int} (h : Rep w G l (.sl nl n cells o) (.slice A n c)) (hc : cells = ns.map (.int k)) :
    ∀ j m, ns[j]? = some m → ∃ ad, A = some ad ∧ ad.spot = none ∧ w.cell? ⟨ad.block, ad.off + j, none⟩ = some (.int k m) := by
  intro j m hj
  cases h with
  | sl _ _ _ _ _ _ _ vs hnl hpos hc' hcell hrep hclip hown =>
    have hx : cells[j]? = some (.int k m) := by rw [hc]; simp [hj]
    obtain ⟨ad, e, hsp, hf, hw, h1⟩ := hcell j _ hx
    have := hrep j _ hx
    generalize vs j = u at hw this
    cases this
    exact ⟨ad, e, hsp, hw⟩

theorem convA_sound {P : Program} {Γ : TT} (hΓ : Γok P Γ) {C : Ctx} {G : Env} {s : AS} {a : Act} {w : World} (h : RelG C G s a w) {src dst : TypeId} {x v : AV} {u : Value} (hx : Rep w G true x u) {os : List Prop} (hn : convA Γ s src dst x = some (v, os)) (ho : All os) :
    VSound P C s a w (convert src dst u) v := by
  unfold convA at hn
  split at hn
  · rename_i ta tb hta htb
    obtain ⟨ia, da, za, hia, hda, _, _, _, _, _, _, _, hka⟩ := (hΓ src ta hta).ex
    obtain ⟨ib, db, zb, hib, hdb, _, _, _, _, _, _, _, hkb⟩ := (hΓ dst tb htb).ex
    split at hn
    · rename_i k1 k k2 n e1 e2
      cases hn
      rw [e2] at hkb
      obtain rfl := kind_int hkb
      cases hx
      exact VSound.pure h ⟨.int k (k.wrap n), by simp [convert, run_underlying hda, run_underlying hdb, Conv.intToInt], .int _ _ _⟩
    · rename_i k1 k2 n e1 e2
      cases hn
      rw [e2] at hkb
      obtain rfl := kind_str hkb
      rw [e1] at hka
      obtain rfl := kind_int hka
      cases hx
      exact VSound.pure h ⟨.string (Utf8.encode n), by simp [convert, run_underlying hda, run_underlying hdb, Conv.intToString], .str _ _⟩
    · rename_i b e1 e2
      cases hn
      rw [e2] at hkb
      obtain rfl := kind_str hkb
      rw [e1] at hka
      obtain rfl := kind_str hka
      cases hx
      exact VSound.pure h ⟨.string b, by simp [convert, run_underlying hda, run_underlying hdb], .str _ _⟩
    · rename_i e nl n cells o e1 e2
      rw [e2] at hkb
      obtain rfl := kind_str hkb
      rw [e1] at hka
      obtain rfl := kind_slice hka
      split at hn
      · rename_i ei hei
        obtain ⟨i2, d2, z2, hi2, hd2, _, _, _, _, _, _, _, hk2⟩ := (hΓ _ ei hei).ex
        split at hn
        · rename_i hk
          cases hn
          simp only [All] at ho
          obtain ⟨ho1, ho2⟩ := ho
          rw [hk] at hk2
          obtain rfl := kind_int hk2
          have hints := fun A c => sl_ints (ns := intsOf cells) (k := .i32) (w := w) (G := G) (l := true) (nl := nl) (n := n) (o := o) (A := A) (c := c) (cells := cells)
          have hlen : (intsOf cells).length = n := by rw [← ho2]; conv => rhs; rw [ho1]; simp
          have hx' := hx
          cases hx with
          | sl _ _ _ _ _ A c vs hnl hpos hc hcell hrep hclip hown =>
          refine VSound.pure h ⟨.string (runesBytes (intsOf cells)), ?_, .str _ _⟩
          cases A with
          | none =>
            have hn0 : n = 0 := by
              rcases Nat.eq_zero_or_pos n with h0 | h0
              · exact h0
              · obtain ⟨ad, e, _⟩ := hpos h0; cases e
            have : intsOf cells = [] := List.eq_nil_of_length_eq_zero (by omega)
            rw [this]
            exact run_convert_runes_nil w src dst e n c hda hd2 hdb
          | some ad =>
            have := run_convert_runes (P := P) w src dst e ad n c (intsOf cells) (by omega) hda hd2 hdb (fun j hj => by
              obtain ⟨ad', e', hsp, hw⟩ := hints (some ad) c hx' ho1 j _ (List.getElem?_eq_getElem hj)
              cases e'
              rw [add_spot _ _ hsp, hw]
              simp [List.getD_eq_getElem?_getD, List.getElem?_eq_getElem hj])
            rwa [List.take_of_length_le (by omega)] at this
        · rename_i hk
          cases hn
          simp only [All] at ho
          obtain ⟨ho1, ho2⟩ := ho
          rw [hk] at hk2
          obtain rfl := kind_int hk2
          have hints := fun A c => sl_ints (ns := intsOf cells) (k := .u8) (w := w) (G := G) (l := true) (nl := nl) (n := n) (o := o) (A := A) (c := c) (cells := cells)
          have hlen : (intsOf cells).length = n := by rw [← ho2]; conv => rhs; rw [ho1]; simp
          have hx' := hx
          cases hx with
          | sl _ _ _ _ _ A c vs hnl hpos hc hcell hrep hclip hown =>
          refine VSound.pure h ⟨.string (strOfNums (intsOf cells)), ?_, .str _ _⟩
          cases A with
          | none =>
            have hn0 : n = 0 := by
              rcases Nat.eq_zero_or_pos n with h0 | h0
              · exact h0
              · obtain ⟨ad, e, _⟩ := hpos h0; cases e
            have : intsOf cells = [] := List.eq_nil_of_length_eq_zero (by omega)
            rw [this]
            exact run_convert_bytes_nil w src e hda hd2 n c dst hdb
          | some ad =>
            rcases Nat.eq_zero_or_pos n with h0 | h0
            · have hi0 : intsOf cells = [] := List.eq_nil_of_length_eq_zero (by omega)
              rw [hi0]
              subst h0
              have hl0 : ∀ b, (loadCells b 0).run P w = .ok #[] w := fun b => by simp [loadCells, loadCellsFrom]
              simp [convert, run_underlying hda, run_underlying hdb, run_underlying hd2, Conv.bytesToString, hl0, strOfNums]
              rfl
            · obtain ⟨ad', e', hsp⟩ := hpos h0
              cases e'
              have := run_convert_bytes_arg (P := P) w src e hda hd2 ad.block ad.off n c (intsOf cells) hlen (fun j hj => by
                obtain ⟨ad', e', hsp, hw⟩ := hints (some ad) c hx' ho1 j _ (List.getElem?_eq_getElem (by omega))
                cases e'
                rw [hw]
                simp [List.getD_eq_getElem?_getD, List.getElem?_eq_getElem (show j < (intsOf cells).length by omega)]) dst hdb
              obtain ⟨bk, of, sp⟩ := ad
              simp only at hsp
              subst hsp
              exact this
        · cases hn
      · cases hn
    · rename_i e b e1 e2
      rw [e2] at hkb
      obtain rfl := kind_slice hkb
      rw [e1] at hka
      obtain rfl := kind_str hka
      cases hx
      split at hn
      · rename_i ei hei
        obtain ⟨i2, d2, z2, hi2, hd2, _, _, _, _, _, _, _, hk2⟩ := (hΓ _ ei hei).ex
        split at hn
        · rename_i hk
          cases hn
          simp only [All] at ho
          rw [hk] at hk2
          obtain rfl := kind_int hk2
          let cap := grownCap w (runes b).length 0 e
          have hcap : (runes b).length ≤ cap := grownCap_ge _ _ _ _
          have hrun : (convert src dst (.string b)).run P w = .ok (.slice (some ⟨w.heap.size, 0, none⟩) (runes b).length cap) (w.drew.alloc (.cells (((runes b).map (Value.int .i32)).toArray ++ Array.replicate (cap - (runes b).length) (.int .i32 0)) e)) := by
            have hre : Conv.runesFrom b b.size 0 #[] = ((runes b).map (Value.int .i32)).toArray := by rw [runesFrom_eq]; simp [runes]
            simp [convert, run_underlying hda, run_underlying hdb, run_underlying hd2, Conv.stringToRunes, hre, Question.forced, newRow, grownCap, cap]
          obtain ⟨G', h1, h2⟩ := newTree (cells := (runes b).map (.int .i32)) (n := (runes b).length) (c := cap) h (w' := w.drew.alloc (.cells (((runes b).map (Value.int .i32)).toArray ++ Array.replicate (cap - (runes b).length) (.int .i32 0)) e)) ⟨rfl, rfl, rfl, by simp, fun k hk => heap_alloc_old w.drew _ hk⟩ ((Unf.same (w' := w.drew) rfl).trans (Unf.alloc _ (fun _ _ _ h => by cases h; exact .inl rfl))) (by simp) (heap_alloc_new w.drew _) hcap (by simp) (fun j x v hx hv => by
            have hlt : j < (runes b).length := by simpa using (List.getElem?_eq_some_iff.1 hx).1
            rw [Array.getElem?_append_left (by simpa using hlt)] at hv
            simp only [List.getElem?_map, List.getElem?_toArray, List.getElem?_eq_getElem hlt, Option.map_some, Option.some.injEq] at hx hv
            subst hx; subst hv
            exact ⟨fun G => .int _ _ _, rfl⟩)
          exact ⟨_, _, G', hrun, h1, h2⟩
        · rename_i hk
          cases hn
          simp only [All] at ho
          rw [hk] at hk2
          obtain rfl := kind_int hk2
          have hrun := Lib.run_convert_string_bytes (P := P) w src dst e b hda hdb hd2
          obtain ⟨G', h1, h2⟩ := newTree (cells := (b.data.toList.map fun c => (c.toNat : Int)).map (.int .u8)) (n := b.size) (c := grownCap w b.size 0 e) h (w' := Lib.bytesWorld w e b) ⟨rfl, rfl, rfl, by rw [Lib.bytesWorld_size]; omega, fun k hk => Lib.bytesWorld_at_old w e b k hk⟩ (unf_bytes w e b) (by rw [Lib.bytesWorld_size]; omega) (Lib.bytesWorld_at_new w e b) (grownCap_ge _ _ _ _) (by
              simp [Lib.bytesCells]) (fun j x v hx hv => by
            have hlt : j < b.data.size := by simpa using (List.getElem?_eq_some_iff.1 hx).1
            unfold Lib.bytesCells at hv
            rw [Array.getElem?_append_left (by simpa using hlt)] at hv
            simp at hx hv
            obtain ⟨c1, e1, rfl⟩ := hx
            obtain ⟨c2, e2, rfl⟩ := hv
            rw [e1] at e2
            cases e2
            exact ⟨fun G => .int _ _ _, rfl⟩)
          exact ⟨_, _, G', hrun, h1, h2⟩
        · cases hn
      · cases hn
    · cases hn
  · cases hn

end Go.AX
end

section
set_option linter.unusedVariables false
set_option linter.unusedSimpArgs false
namespace Go.AX
open Go Go.RowKit

/-- What is asked where a value is said to be another one. -/
def eqP : AV → AV → Prop
  | .bool a, .bool b => a = b
  | .int k a, .int k' b => k = k' ∧ a = b
  | .str a, .str b => a = b
  | x, y => x = y
theorem eqP_eq {x y : AV} (h : eqP x y) : x = y := by
  unfold eqP at h
  split at h
  · rw [h]
  · rw [h.1, h.2]
  · rw [h]
  · exact h
/-- A value and, where one is hinted, the other that it is said to be. -/
def ovr (r : VR) : Option AV → VR
  | none => r
  | some y => match r with
    | some (x, os) => some (y, os ++ [eqP x y])
    | none => none
theorem ovr_spec {r : VR} {ann : Option AV} {v : AV} {os : List Prop} (h : ovr r ann = some (v, os)) (ho : All os) : ∃ os', r = some (v, os') ∧ All os' := by
  cases ann with
  | none => exact ⟨os, h, ho⟩
  | some y =>
    simp only [ovr] at h
    split at h
    · rename_i x os1
      cases h
      rw [All_append] at ho
      have := eqP_eq ho.2
      subst this
      exact ⟨os1, rfl, ho.1⟩
    · cases h

def evs (s : AS) : List Operand → Option (List AV)
  | [] => some []
  | x :: r => match s.ev x, evs s r with
    | some v, some l => some (v :: l)
    | _, _ => none
theorem evs_sound {C : Ctx} {G : Env} {s : AS} {a : Act} {w : World} (h : RelG C G s a w) : ∀ {xs : List Operand} {vs : List AV}, evs s xs = some vs → vs.length = xs.length ∧ ∀ (i : Nat) (c : AV) (v : Value), vs[i]? = some c → (xs.map a.eval)[i]? = some v → Rep w G true c v
  | [], vs, hx => by cases hx; exact ⟨rfl, fun i p q hp => by simp at hp⟩
  | x :: xs, vs, hx => by
    simp only [evs] at hx
    split at hx
    · rename_i v l hv hl
      cases hx
      obtain ⟨h1, h2⟩ := evs_sound h hl
      refine ⟨by simp [h1], fun i p q hp hq => ?_⟩
      match i, hp, hq with
      | 0, hp, hq =>
        simp at hp hq
        subst hp; subst hq
        exact h.ev hv
      | n + 1, hp, hq => exact h2 n p q (by simpa using hp) (by simpa using hq)
    · cases hx

def lenA (Γ : TT) (s : AS) (t : TypeId) (x : AV) : VR :=
  match look Γ t with
  | some ti => match ti.kind, x with
    | .str, .str s => some (.int .i64 s.size, [])
    | .slice _, .sl _ n _ _ => some (.int .i64 n, [])
    | .slice _, .row _ _ n => some (.int .i64 n, [])
    | .slice _, .vec t n => match look s.tags t with
      | some ⟨m, _, _, some _⟩ => some (.int .i64 n, [n = m])
      | _ => none
    | _, _ => none
  | none => none
theorem lenA_sound {P : Program} {Γ : TT} (hΓ : Γok P Γ) {C : Ctx} {G : Env} {s : AS} {a : Act} {w : World} (hR : RelG C G s a w) {t ty : TypeId} {x v : AV} {os : List Prop} (h : lenA Γ s t x = some (v, os)) (ho : All os) {vx : Value} (hx : Rep w G true x vx) : ∃ u, (Builtin.len_ #[t] ty #[vx]).run P w = .ok u w ∧ Rep w G true v u := by
  unfold lenA at h
  split at h
  · rename_i ti hti
    obtain ⟨i, d, z, hi, hd, hsz, hby, hz, hzs, hz0, hz1, hag, hk⟩ := (hΓ t ti hti).ex
    split at h
    · rename_i s he
      rw [he] at hk
      obtain rfl := kind_str hk
      cases h; cases hx
      exact ⟨_, by simp [Builtin.len_, run_underlying hd, goInt], .int _ _ _⟩
    · rename_i e nl n cells o he
      rw [he] at hk
      obtain rfl := kind_slice hk
      cases h; cases hx
      exact ⟨_, by simp [Builtin.len_, run_underlying hd, goInt], .int _ _ _⟩
    · rename_i e id off n he
      rw [he] at hk
      obtain rfl := kind_slice hk
      cases h; cases hx
      exact ⟨_, by simp [Builtin.len_, run_underlying hd, goInt], .int _ _ _⟩
    · rename_i e tg n he
      split at h
      · rename_i m e2 sz2 b ht
        cases h
        simp only [All] at ho
        rw [he] at hk
        obtain rfl := kind_slice hk
        obtain ⟨r, hr, hok⟩ := hR.tags _ _ ht
        cases hx with
        | vec _ _ A k c r' hr' hle hv =>
          rw [hr] at hr'
          cases hr'
          have e1 : r.n = n := by rw [hok.hn, ho]
          have hv' := hv e1
          have hkn : k = n := by
            rcases (hok.own (hok.hcs b.1 b.2 rfl).1).2 with ⟨e3, e4⟩ | ⟨g, cap, cur, e3, _⟩
            · rw [hv'] at e3; cases e3; omega
            · rw [hv', e1] at e3; cases e3; rfl
          subst hkn
          exact ⟨_, by simp [Builtin.len_, run_underlying hd, goInt], .int _ _ _⟩
      · cases h
    · cases h
  · cases h

def minA (x y : AV) : VR :=
  match x, y with
  | .int k a, .int k' b => if k = k' then some (.int k (if b < a then b else a), []) else none
  | _, _ => none
def maxA (x y : AV) : VR :=
  match x, y with
  | .int k a, .int k' b => if k = k' then some (.int k (if b > a then b else a), []) else none
  | _, _ => none

inductive Ann
  | val (v : AV)
  | call (zs : List Nat) (res : AV)
  | callF (zs : List Nat) (g : List AV → AV)
  | id (i : Nat)
  | callM (cv : List (Bool × Nat × Nat × Nat × TypeId × Nat)) (zs hs gs : List Nat) (h' : List (Nat × Blk)) (t' : List (Nat × Tag)) (res : AV)
/-- Of a call: what is frozen ahead of it, and its result, by its arguments. -/
def Ann.call? : Option Ann → Option (List Nat × (List AV → AV))
  | some (.call zs res) => some (zs, fun _ => res)
  | some (.callF zs g) => some (zs, g)
  | _ => none
def Ann.v? : Option Ann → Option AV
  | some (.val v) => some v
  | _ => none

/-- A slice is taken out of the slice of slices, under a tag of its own. -/
def takeA (Γ : TT) (s : AS) (ty : TypeId) (n off k n' : Nat) (xs : List AV) : SR :=
  match look Γ ty, look s.tags DT, look s.tags k, Nat.beq k DT with
  | some ti, some ⟨m, e, sz, some (true, cells)⟩, none, false => match ti.agg with
    | false => some ((s.tag DT ⟨m, e, sz, some (true, cells.set off .undef)⟩).tag k ⟨n', DE, 1, some (false, xs)⟩, .vec k n', [n = m ∧ cells[off]? = some (.sl none n' xs .no) ∧ xs.length = n'])
    | true => none
  | _, _, _, _ => none
theorem takeA_sound {P : Program} {Γ : TT} (hΓ : Γok P Γ) {C : Ctx} {G : Env} {s s' : AS} {a : Act} {w : World} (h : RelG C G s a w) {ty : TypeId} {n off k n' : Nat} {xs : List AV} {pv : Value} (hp : Rep w G true (.vptr DT n off) pv) {v : AV} {os : List Prop} (hn : takeA Γ s ty n off k n' xs = some (s', v, os)) (ho : All os) :
    VSound P C s' a w (Instr.loadAt ty pv) v := by
  unfold takeA at hn
  split at hn
  · rename_i ti m e sz cells hti hd hk hne
    split at hn
    · rename_i hag0
      cases hn
      simp only [All] at ho
      obtain ⟨hnm, hc, hxl⟩ := ho
      have hkd : k ≠ DT := Nat.ne_of_beq_eq_false hne
      obtain ⟨i, d, z, hi, hdd, hsz, hby, hz, hzs, hz0, hz1, hag, hkk⟩ := (hΓ ty ti hti).ex
      obtain ⟨r, hr, hok⟩ := h.tags DT _ hd
      obtain ⟨hro, hcl, hrep, _⟩ := hok.hcs true cells rfl
      cases hp with
      | vptr _ _ _ p r' hr' hle hv =>
      rw [hr] at hr'
      cases hr'
      obtain ⟨g, m', c', hrv, hpe⟩ := hv (by rw [hok.hn, hnm])
      subst hpe
      have hg : r.v.ownBlock = some g := by rw [hrv]; rfl
      have hlt : off < r.xs.length := by rw [← hcl]; exact (List.getElem?_eq_some_iff.1 hc).1
      have hx := List.getElem?_eq_getElem hlt
      have hcell := (hok.own hro).cells hg off r.xs[off] hx
      rw [add_plain] at hcell
      have hv0 := hrep off _ _ hc hx
      have hone := hok.one hro _ (List.getElem_mem hlt)
      generalize r.xs[off] = u at hx hcell hv0 hone
      have hrun : (Instr.loadAt ty (.pointer (some ⟨g, off, none⟩))).run P w = .ok u w := by
        have hrow : (isAgg ty).run P w = .ok false w := by
          unfold isAgg
          rw [Sem.run_bind, run_underlying hdd w]
          unfold TI.agg at hag0
          cases hkk2 : ti.kind <;> rw [hkk2] at hag0 hkk <;> first | cases hag0 | skip
          all_goals cases d <;> simp_all [kindOk]
        simp [Instr.loadAt, Instr.sureAddr, loadVar, hrow, load, Sem.run, hcell]
      have hat : InnAt cells r.xs off u := ⟨_, hc, (fun hh => by cases hh), hx⟩
      obtain ⟨k1, k2⟩ := h.deep cells r ⟨_, hd, rfl⟩ hr
      have hI := k1 off u hat
      obtain ⟨n2, zs, hown, hz1', hgs⟩ := hI
      cases hv0 with
      | sl _ _ _ _ _ A c vs hnl hpos hcc hcl2 hrep2 hclip hown2 =>
      have hn2 : n2 = n' := by
        rcases hown.2 with ⟨e1, e2⟩ | ⟨g2, cap, cur, e1, _⟩
        · cases e1; exact e2
        · cases e1; rfl
      subst hn2
      have h1 := h.hole hd off
      have hk1 : look (s.tag DT ⟨m, e, sz, some (true, cells.set off .undef)⟩).tags k = none := by
        simp only [AS.tag, look_cons, if_neg (fun hh => hkd hh.symm : ¬ DT = k)]
        exact hk
      have hzl : zs.length = xs.length := by rw [hown.1, hxl]; omega
      have hFz : ∀ g, (Value.slice A n2 c).ownBlock = some g → ∀ o, o < n2 * 1 → G.F g o := by
        intro g2 hg2 o hlt2
        have hx2 : xs[o]? = some xs[o] := List.getElem?_eq_getElem (by omega)
        obtain ⟨ad, e1, hsp, hf, _⟩ := hcl2 o _ hx2
        subst e1
        rcases hown.2 with ⟨e1, e2⟩ | ⟨g3, cap, cur, e1, _⟩
        · cases e1
        · cases e1
          cases hg2
          simpa using hf
      have hA : ∀ g2, (Value.slice A n2 c).ownBlock = some g2 → ∀ v, InnV G (s.tag DT ⟨m, e, sz, some (true, cells.set off .undef)⟩).tags v → v.ownBlock ≠ some g2 := by
        intro g2 hg2 v hv hb
        obtain ⟨cells2, r2, j, ⟨m2, q1, q2⟩, q3, c2, q4, q5, q6⟩ := hv
        simp only [AS.tag, look_cons, if_true, Option.some.injEq] at q1
        subst q1
        cases q2
        rw [hr] at q3
        cases q3
        rw [List.getElem?_set] at q4
        split at q4
        · split at q4
          · cases q4; exact q5 rfl
          · cases q4
        · rename_i hne2
          exact hne2 (k2 off j _ _ g2 hat ⟨c2, q4, q5, q6⟩ hg2 hb)
      have hB : ∀ (j : Nat) (cv : AV) (v : Value), xs[j]? = some cv → zs[j]? = some v → Rep w G false cv v := by
        intro j cv v hj hvv
        obtain ⟨ad, e1, hsp, hf, hw, _⟩ := hcl2 j cv hj
        have hjl : j < zs.length := (List.getElem?_eq_some_iff.1 hvv).1
        subst e1
        rcases hown.2 with ⟨e1, e2⟩ | ⟨g3, cap, cur, e1, _⟩
        · cases e1
        · cases e1
          have c1 := hown.cells (g := g3) rfl j v hvv
          rw [add_plain] at c1
          simp only [Nat.zero_add] at hw
          rw [c1] at hw
          cases hw
          exact hrep2 j cv hj
      have hadd := h1.addTag (t := k) (m := ⟨n2, DE, 1, some (false, xs)⟩) (r := ⟨true, .slice A n2 c, n2, DE, 1, zs⟩) hk1 rfl rfl rfl (fun ho => by cases ho) (fun _ => ⟨hown, hz1', fun g2 hg2 => ⟨(hgs g2 hg2).1, fun o hf => ⟨(hgs g2 hg2).2.1 o hf, rfl⟩, (hgs g2 hg2).2.2.1, (hgs g2 hg2).2.2.2, hA g2 hg2⟩⟩) (fun cells' e1 _ => absurd e1 hkd) (fun b cells' hc' => by
        cases hc'
        exact ⟨rfl, hzl.symm, hB, fun _ g2 hg2 o hlt2 => hFz g2 hg2 o hlt2⟩)
      obtain ⟨h2, hle2⟩ := hadd
      exact ⟨_, w, _, hrun, h2, .vec _ _ _ _ _ ⟨true, .slice A n2 c, n2, DE, 1, zs⟩ (by simp [Env.setT]) (Nat.le_refl _) (fun _ => rfl)⟩
    · cases hn
  · cases hn

/-- A load that is hinted to take a slice out. -/
def takeH : AV → Option AV → Option (Nat × Nat × Nat × Nat × List AV)
  | .vptr t n off, some (.tup [.vec k n', .agg xs]) => match Nat.beq t DT with
    | true => some (n, off, k, n', xs)
    | false => none
  | _, _ => none
theorem takeH_spec {p : AV} {ann : Option AV} {n off k n' : Nat} {xs : List AV} (h : takeH p ann = some (n, off, k, n', xs)) : p = .vptr DT n off := by
  unfold takeH at h
  split at h
  · split at h
    · rename_i hb
      cases h
      rw [Nat.eq_of_beq_eq_true hb]
    · cases h
  · cases h
def loadS (Γ : TT) (s : AS) (ty : TypeId) (p : AV) (ann : Option AV) : SR :=
  match takeH p ann with
  | some (n, off, k, n', xs) => takeA Γ s ty n off k n' xs
  | none => match loadA Γ s ty p ann with
    | some (v, os) => some (s, v, os)
    | none => none
theorem loadS_sound {P : Program} {Γ : TT} (hΓ : Γok P Γ) {C : Ctx} {G : Env} {s s' : AS} {a : Act} {w : World} (h : RelG C G s a w) {ty : TypeId} {p : AV} {ann : Option AV} {pv : Value} (hp : Rep w G true p pv) {v : AV} {os : List Prop} (hn : loadS Γ s ty p ann = some (s', v, os)) (ho : All os) :
    VSound P C s' a w (Instr.loadAt ty pv) v := by
  unfold loadS at hn
  split at hn
  · rename_i n off k n' xs hh
    obtain rfl := takeH_spec hh
    exact takeA_sound hΓ h hp hn ho
  · split at hn
    · rename_i hl
      cases hn
      exact VSound.pure h (loadA_sound hΓ h hp hl ho)
    · cases hn

/-- The operations but for stores and calls of functions. -/
def stepV (Γ : TT) (s : AS) (d : Nat) (op : Op) (ann : Option AV) : SR :=
  let pure (r : VR) : SR := match r with
    | some (v, os) => some (s, v, os)
    | none => none
  match op with
  | .move x => match s.ev x with | some v => pure (ovr (some (v, [])) ann) | none => none
  | .assign x => match s.ev x with | some v => pure (ovr (some (v, [])) ann) | none => none
  | .pick c x y => match s.ev c with
    | some (.bool true) => match s.ev x with | some v => pure (ovr (some (v, [])) ann) | none => none
    | some (.bool false) => match s.ev y with | some v => pure (ovr (some (v, [])) ann) | none => none
    | _ => none
  | .alloc t => allocA Γ s d t
  | .box t x => match s.ev x with | some v => boxA Γ s d t v | none => none
  | .build t ps => pure (ovr (buildA Γ s t ps) ann)
  | .buildSlice t len ps => pure (litN Γ s t len ps ann)
  | .load t x => match s.ev x with
    | some p => loadS Γ s t p ann
    | none => none
  | .nilCheck x => match s.ev x with
    | some (.rop cs off) => some (s, .rop cs off, [])
    | some (.ptr b off) => some (s, .ptr b off, [])
    | some (.fn f cs) => some (s, .fn f cs, [])
    | _ => none
  | .binOp op t x y _ => match s.ev x, s.ev y with
    | some v, some u => match v with
      | .sl _ _ _ _ => pure (binA Γ op t v u ann)
      | _ => pure (ovr (binA Γ op t v u ann) ann)
    | _, _ => none
  | .unOp op _ x => match s.ev x with | some v => pure (ovr (unA op v) ann) | none => none
  | .convert src dst x => match s.ev x with | some v => pure (ovr (convA Γ s src dst v) ann) | none => none
  | .makeFunc (.func f) ⟨[]⟩ cs => match evs s cs.toList with | some vs => some (s, .fn f vs, []) | none => none
  | .makeSlice t l c => match s.ev l, s.ev c with | some v, some u => makeA Γ s d t v u | _, _ => none
  | .slice t x lo hi mx => match s.ev x, (match lo with | some y => (s.ev y).map some | none => some none), (match hi with | some y => (s.ev y).map some | none => some none), (match mx with | some y => (s.ev y).map some | none => some none) with
    | some v, some l, some h, some m => pure (ovr (sliceA Γ t v l h m) ann)
    | _, _, _, _ => none
  | .fieldAddr t x f => match s.ev x with | some v => pure (ovr (fieldAddrA Γ t v f) ann) | none => none
  | .field t x f => match s.ev x with | some v => pure (fieldA Γ t v f ann) | none => none
  | .indexAddr t x i => match s.ev x, s.ev i with | some v, some u => pure (ovr (indexAddrA Γ s t v u) ann) | _, _ => none
  | .index t x i => match s.ev x, s.ev i with | some v, some u => pure (ovr (indexA Γ t v u) ann) | _, _ => none
  | .range t x => match s.ev x with | some v => rangeA Γ s d t v | none => none
  | .next x true => match s.ev x with | some v => nextA s v ann | none => none
  | .extract x i => match s.ev x with | some v => pure (ovr (extractA v i) ann) | none => none
  | .call ⟨.builtin .len, ⟨[x]⟩, ⟨[t]⟩⟩ => match s.ev x with | some v => pure (ovr (lenA Γ s t v) ann) | none => none
  | .call ⟨.builtin .min, ⟨[x, y]⟩, _⟩ => match s.ev x, s.ev y with | some v, some u => pure (ovr (minA v u) ann) | _, _ => none
  | .call ⟨.builtin .max, ⟨[x, y]⟩, _⟩ => match s.ev x, s.ev y with | some v, some u => pure (ovr (maxA v u) ann) | _, _ => none
  | .call ⟨.builtin .append, ⟨[x, y]⟩, ⟨[t, u]⟩⟩ => match s.ev x, s.ev y with | some v, some z => appN Γ s d t u v z | _, _ => none
  | _ => none

def OpV (P : Program) (C : Ctx) (s' : AS) (a : Act) (w : World) (o : Oper) (v : AV) : Prop :=
  ∃ x w' G', (execOp a.eval o).run P w = .ok (.value x) w' ∧ RelG C G' s' a w' ∧ Rep w' G' true v x

theorem OpV.of {P : Program} {C : Ctx} {s' : AS} {a : Act} {w : World} {o : Oper} {v : AV} {m : Sem Value} (h : VSound P C s' a w m v) (he : execOp a.eval o = (do pure (.value (← m)))) : OpV P C s' a w o v := by
  obtain ⟨x, w', G', h1, h2, h3⟩ := h
  refine ⟨x, w', G', ?_, h2, h3⟩
  rw [he, Sem.run_bind, h1]
  rfl

theorem OpV.of2 {P : Program} {C : Ctx} {s' : AS} {a : Act} {w : World} {o : Oper} {v : AV} {m : Sem Value} (h : VSound P C s' a w m v) (he : (execOp a.eval o).run P w = (m.run P w).andThen fun x w => .ok (.value x) w) : OpV P C s' a w o v := by
  obtain ⟨x, w', G', h1, h2, h3⟩ := h
  refine ⟨x, w', G', ?_, h2, h3⟩
  rw [he, h1]
  rfl

theorem pure_sr {s s' : AS} {r : VR} {v : AV} {os : List Prop} (h : (match r with | some (v, os) => some (s, v, os) | none => none : SR) = some (s', v, os)) : s' = s ∧ r = some (v, os) := by
  split at h
  · cases h; exact ⟨rfl, rfl⟩
  · cases h

theorem stepV_sound {P : Program} {Γ : TT} (hΓ : Γok P Γ) {C : Ctx} {G : Env} {s s' : AS} {a : Act} {w : World} (h : RelG C G s a w) {d : Nat} {o : Oper} {ann : Option AV} {v : AV} {os : List Prop} (hs : stepV Γ s d o.op ann = some (s', v, os)) (ho : All os) : OpV P C s' a w o v := by
  obtain ⟨dst, op, type, pos, after, guard⟩ := o
  simp only at hs
  have mv : ∀ {x : Operand} {y : AV}, s.ev x = some y → (match ovr (some (y, [])) ann with | some (v, os) => some (s, v, os) | none => none : SR) = some (s', v, os) → (execOp a.eval ⟨dst, op, type, pos, after, guard⟩ = pure (.value (a.eval x))) → OpV P C s' a w ⟨dst, op, type, pos, after, guard⟩ v := by
    intro x y hx hr he
    obtain ⟨rfl, hq⟩ := pure_sr hr
    obtain ⟨os', h1, h2⟩ := ovr_spec hq ho
    cases h1
    exact ⟨_, w, G, by rw [he]; rfl, h, h.ev hx⟩
  unfold stepV at hs
  split at hs
  · rename_i x
    split at hs
    · rename_i y hy; exact mv hy hs rfl
    · cases hs
  · rename_i x
    split at hs
    · rename_i y hy; exact mv hy hs rfl
    · cases hs
  · rename_i c x y
    split at hs
    · rename_i hc
      split at hs
      · rename_i u hu
        refine mv hu hs ?_
        have := h.ev hc
        generalize hcv : a.eval c = cv at this
        cases this
        simp [execOp, hcv, asBool]
      · cases hs
    · rename_i hc
      split at hs
      · rename_i u hu
        refine mv hu hs ?_
        have := h.ev hc
        generalize hcv : a.eval c = cv at this
        cases this
        simp [execOp, hcv, asBool]
      · cases hs
    · cases hs
  · exact OpV.of (allocA_sound hΓ h hs) rfl
  · split at hs
    · rename_i y hy; exact OpV.of (boxA_sound hΓ h (h.ev hy) hs) rfl
    · cases hs
  · obtain ⟨rfl, hr⟩ := pure_sr hs
    obtain ⟨os', h1, h2⟩ := ovr_spec hr ho
    exact OpV.of (VSound.pure h (buildA_sound hΓ h h1)) rfl
  · obtain ⟨rfl, hr⟩ := pure_sr hs
    exact OpV.of (litN_sound hΓ h hr) rfl
  · split at hs
    · rename_i p hy
      exact OpV.of (loadS_sound hΓ h (h.ev hy) hs ho) rfl
    · cases hs
  · rename_i x
    split at hs
    · rename_i cs off hy
      cases hs
      have := h.ev hy
      generalize hcv : a.eval x = cv at this
      cases this with
      | rop _ _ _ ad vs h1 h2 => exact ⟨_, w, G, by simp [execOp, hcv], h, .rop _ _ _ ad vs h1 h2⟩
    · rename_i b off hy
      cases hs
      have := h.ev hy
      generalize hcv : a.eval x = cv at this
      cases this with
      | ptr _ _ g hg => exact ⟨_, w, G, by simp [execOp, hcv], h, .ptr _ _ _ hg⟩
    · rename_i f cs hy
      cases hs
      have := h.ev hy
      generalize hcv : a.eval x = cv at this
      cases this with
      | fn _ _ _ vs h1 h2 => exact ⟨_, w, G, by simp [execOp, hcv], h, .fn _ _ _ vs h1 h2⟩
    · cases hs
  · rename_i bop t x y yt
    split at hs
    · rename_i u1 u2 h1 h2
      have key : ∃ os', binA Γ bop t u1 u2 ann = some (v, os') ∧ All os' ∧ s' = s := by
        split at hs
        · obtain ⟨rfl, hr⟩ := pure_sr hs
          exact ⟨os, hr, ho, rfl⟩
        · obtain ⟨rfl, hr⟩ := pure_sr hs
          obtain ⟨os', h3, h4⟩ := ovr_spec hr ho
          exact ⟨os', h3, h4, rfl⟩
      obtain ⟨os', h3, h4, rfl⟩ := key
      exact OpV.of (VSound.pure h (binA_sound (P := P) hΓ h3 h4 (ox := x) (oy := y) (h.ev h1) (h.ev h2))) rfl
    · cases hs
  · split at hs
    · rename_i y hy
      obtain ⟨rfl, hr⟩ := pure_sr hs
      obtain ⟨os', h1, h2⟩ := ovr_spec hr ho
      exact OpV.of (VSound.pure h (unA_sound h1 (h.ev hy))) rfl
    · cases hs
  · split at hs
    · rename_i y hy
      obtain ⟨rfl, hr⟩ := pure_sr hs
      obtain ⟨os', h1, h2⟩ := ovr_spec hr ho
      exact OpV.of (convA_sound hΓ h (h.ev hy) h1 h2) rfl
    · cases hs
  · rename_i f cs
    split at hs
    · rename_i vs hvs
      cases hs
      obtain ⟨h1, h2⟩ := evs_sound h hvs
      refine ⟨.func (.func f) #[] (cs.map a.eval), w, G, by simp [execOp, Instr.makeFunc], h, .fn _ _ _ _ (by simpa using h1.symm) fun i c v hc hv => h2 i c v hc (by simpa using hv)⟩
    · cases hs
  · split at hs
    · rename_i u1 u2 h1 h2
      exact OpV.of (makeA_sound hΓ h (h.ev h1) (h.ev h2) hs ho) rfl
    · cases hs
  · rename_i t x lo hi mx
    split at hs
    · rename_i v1 l1 h1 m1 e1 e2 e3 e4
      obtain ⟨rfl, hr⟩ := pure_sr hs
      obtain ⟨os', h5, h6⟩ := ovr_spec hr ho
      have ro : ∀ {y : Option Operand} {z : Option AV}, (match y with | some y => (s'.ev y).map some | none => some none : Option (Option AV)) = some z → RepO w G z (y.map a.eval) := by
        intro y z hz
        cases y with
        | none => cases hz; exact .none
        | some y =>
          simp only [Option.map_eq_some_iff] at hz
          obtain ⟨u, hu, rfl⟩ := hz
          exact .some (h.ev hu)
      exact OpV.of (VSound.pure h (sliceA_sound hΓ h5 h6 (h.ev e1) (ro e2) (ro e3) (ro e4))) rfl
    · cases hs
  · split at hs
    · rename_i y hy
      obtain ⟨rfl, hr⟩ := pure_sr hs
      obtain ⟨os', h1, h2⟩ := ovr_spec hr ho
      exact OpV.of (VSound.pure h (fieldAddrA_sound hΓ h1 (h.ev hy))) rfl
    · cases hs
  · split at hs
    · rename_i y hy
      obtain ⟨rfl, hr⟩ := pure_sr hs
      exact OpV.of (VSound.pure h (fieldA_sound hΓ hr ho (h.ev hy))) rfl
    · cases hs
  · split at hs
    · rename_i u1 u2 h1 h2
      obtain ⟨rfl, hr⟩ := pure_sr hs
      obtain ⟨os', h3, h4⟩ := ovr_spec hr ho
      exact OpV.of (VSound.pure h (indexAddrA_sound hΓ h h3 h4 (h.ev h1) (h.ev h2))) rfl
    · cases hs
  · split at hs
    · rename_i u1 u2 h1 h2
      obtain ⟨rfl, hr⟩ := pure_sr hs
      obtain ⟨os', h3, h4⟩ := ovr_spec hr ho
      exact OpV.of (VSound.pure h (indexA_sound hΓ h3 h4 (h.ev h1) (h.ev h2))) rfl
    · cases hs
  · split at hs
    · rename_i y hy; exact OpV.of (rangeA_sound hΓ h (h.ev hy) hs) rfl
    · cases hs
  · split at hs
    · rename_i y hy; exact OpV.of (nextA_sound h (h.ev hy) hs ho type) rfl
    · cases hs
  · split at hs
    · rename_i y hy
      obtain ⟨rfl, hr⟩ := pure_sr hs
      obtain ⟨os', h1, h2⟩ := ovr_spec hr ho
      exact OpV.of (VSound.pure h (extractA_sound h1 (h.ev hy))) rfl
    · cases hs
  · rename_i x t
    split at hs
    · rename_i y hy
      obtain ⟨rfl, hr⟩ := pure_sr hs
      obtain ⟨os', h1, h2⟩ := ovr_spec hr ho
      exact OpV.of2 (VSound.pure h (lenA_sound (ty := type) hΓ h h1 h2 (h.ev hy))) (by simp [execOp, resolve, invoke, builtin])
    · cases hs
  · rename_i x y ts
    split at hs
    · rename_i u1 u2 h1 h2
      obtain ⟨rfl, hr⟩ := pure_sr hs
      obtain ⟨os', h3, h4⟩ := ovr_spec hr ho
      have e1 := h.ev h1
      have e2 := h.ev h2
      generalize hx1 : a.eval x = x1 at e1
      generalize hx2 : a.eval y = x2 at e2
      unfold minA at h3
      split at h3
      · split at h3
        · rename_i k a1 k' b1 hk
          subst hk
          cases h3; cases e1; cases e2
          refine ⟨_, w, G, ?_, h, .int _ _ _⟩
          simp [execOp, resolve, invoke, builtin, Builtin.min_, Builtin.min2, hx1, hx2]
        · cases h3
      · cases h3
    · cases hs
  · rename_i x y ts
    split at hs
    · rename_i u1 u2 h1 h2
      obtain ⟨rfl, hr⟩ := pure_sr hs
      obtain ⟨os', h3, h4⟩ := ovr_spec hr ho
      have e1 := h.ev h1
      have e2 := h.ev h2
      generalize hx1 : a.eval x = x1 at e1
      generalize hx2 : a.eval y = x2 at e2
      unfold maxA at h3
      split at h3
      · split at h3
        · rename_i k a1 k' b1 hk
          subst hk
          cases h3; cases e1; cases e2
          refine ⟨_, w, G, ?_, h, .int _ _ _⟩
          simp [execOp, resolve, invoke, builtin, Builtin.max_, Builtin.max2, hx1, hx2]
        · cases h3
      · cases h3
    · cases hs
  · rename_i x y t u
    split at hs
    · rename_i u1 u2 h1 h2
      exact OpV.of2 (appN_sound (ty := type) hΓ h (h.ev h1) (h.ev h2) hs ho) (by simp [execOp, resolve, invoke, builtin])
    · cases hs
  · cases hs

end Go.AX
end
