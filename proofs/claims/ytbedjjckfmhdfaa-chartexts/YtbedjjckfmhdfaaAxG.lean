import Derived.Test.YtbedjjckfmhdfaaAxF
import Derived.Laws.Cover4
import Derived.Laws.BytesArg
import Derived.Lib.ConvBytes
import Derived.Lib.OthersKept
set_option linter.unusedVariables false
set_option linter.unusedSimpArgs false
namespace Go.AX
open Go Go.RowKit

/-- What an operation leaves: the state but for its destination, the value, what must hold. -/
abbrev SR := Option (AS × AV × List Prop)

def VSound (P : Program) (C : Ctx) (s' : AS) (a : Act) (w : World) (m : Sem Value) (v : AV) : Prop :=
  ∃ x w' G', m.run P w = .ok x w' ∧ RelG C G' s' a w' ∧ Rep w' G' true v x

theorem VSound.pure {P : Program} {C : Ctx} {G : Env} {s : AS} {a : Act} {w : World} {m : Sem Value} {v : AV} (h : RelG C G s a w) (hm : ∃ x, m.run P w = .ok x w ∧ Rep w G true v x) : VSound P C s a w m v := by
  obtain ⟨x, h1, h2⟩ := hm
  exact ⟨x, w, G, h1, h, h2⟩

/-! ### A new variable -/
def newA (s : AS) (d : Nat) (cs : List AV) : SR :=
  match look s.heap d with
  | none => some (s.blk d (.var true cs), .ptr d 0, [])
  | some _ => none

theorem newA_sound {P : Program} {C : Ctx} {G : Env} {s s' : AS} {a : Act} {w : World} (h : RelG C G s a w) {d : Nat} {cs : List AV} {v : AV} {os : List Prop} (hn : newA s d cs = some (s', v, os)) {vs : Array Value} (hp : Pw w G true cs vs) (t : TypeId) :
    ∃ G', RelG C G' s' a (w.alloc (.cells vs t)) ∧ Rep (w.alloc (.cells vs t)) G' true v (.pointer (some ⟨w.heap.size, 0, none⟩)) := by
  unfold newA at hn
  split at hn
  · rename_i hl
    cases hn
    have hgr := (h.grow (G' := G) (w' := w.alloc (.cells vs t)) ((Below.refl _ _).alloc (Nat.le_refl _) _) rfl rfl (fun _ _ h => h) (fun _ _ h => .inl h)).2
    obtain ⟨h1, h2⟩ := h.alloc (i := d) (b := .var true cs) (o := .cells vs t) hl ⟨vs, t, heap_alloc_new w _, hp.1, fun i c v a b => (hp.2.1 i c v a b).mono hgr, hp.2.2, fun o ho hw => by cases hw⟩
    exact ⟨_, h1, .ptr _ _ _ (by simp [Env.addB])⟩
  · cases hn

def allocA (Γ : TT) (s : AS) (d : Nat) (t : TypeId) : SR :=
  match look Γ t with
  | some ti => newA s d ti.zero
  | none => none
theorem allocA_sound {P : Program} {Γ : TT} (hΓ : Γok P Γ) {C : Ctx} {G : Env} {s s' : AS} {a : Act} {w : World} (h : RelG C G s a w) {d : Nat} {t : TypeId} {v : AV} {os : List Prop} (hn : allocA Γ s d t = some (s', v, os)) :
    VSound P C s' a w (Instr.alloc t true (.tuple #[])) v := by
  unfold allocA at hn
  split at hn
  · rename_i ti hti
    obtain ⟨i, d', z, hi, hd, hsz, hby, hz, hzs, hz0, hz1, hag, hk⟩ := (hΓ t ti hti).ex
    rw [hz0] at hn
    obtain ⟨G', h1, h2⟩ := newA_sound (P := P) h hn (pw_zero w G true z hz1) t
    exact ⟨_, _, G', by simp [Instr.alloc, zeroValue, typeInfo, hi, hz, newVar, newRow], h1, h2⟩
  · cases hn

def boxA (Γ : TT) (s : AS) (d : Nat) (t : TypeId) (x : AV) : SR :=
  match look Γ t, x.real with
  | some ti, true => newA s d (cellsOf x)
  | _, _ => none
theorem boxA_sound {P : Program} {Γ : TT} (hΓ : Γok P Γ) {C : Ctx} {G : Env} {s s' : AS} {a : Act} {w : World} (h : RelG C G s a w) {d : Nat} {t : TypeId} {x v : AV} {u : Value} (hx : Rep w G true x u) {os : List Prop} (hn : boxA Γ s d t x = some (s', v, os)) :
    VSound P C s' a w (Instr.box t u) v := by
  unfold boxA at hn
  split at hn
  · rename_i ti hti hr
    obtain ⟨G', h1, h2⟩ := newA_sound (P := P) h hn (real_pw hx hr) t
    exact ⟨_, _, G', by simp [Instr.box, newVar, newRow], h1, h2⟩
  · cases hn

/-! ### make -/
def makeA (Γ : TT) (s : AS) (d : Nat) (t : TypeId) (l c : AV) : SR :=
  match look Γ t with
  | some ti => match ti.kind with
    | .slice e => match look Γ e with
      | some ei => match l, c, ei.zero, look s.heap d with
        | .int _ n, .int _ m, [z], none => some (s.blk d (.rows true (List.replicate n.toNat z)), .row d 0 n.toNat, [n = m ∧ 0 ≤ n ∧ n * ei.bytes ≤ 281474976710656 ∧ n ≤ 9223372036854775807])
        | _, _, _, _ => none
      | none => none
    | _ => none
  | none => none

theorem makeA_sound {P : Program} {Γ : TT} (hΓ : Γok P Γ) {C : Ctx} {G : Env} {s s' : AS} {a : Act} {w : World} (h : RelG C G s a w) {d : Nat} {t : TypeId} {l c v : AV} {vl vc : Value} (hl : Rep w G true l vl) (hc : Rep w G true c vc) {os : List Prop} (hn : makeA Γ s d t l c = some (s', v, os)) (ho : All os) :
    VSound P C s' a w (Instr.makeSlice t vl vc) v := by
  unfold makeA at hn
  split at hn
  · rename_i ti hti
    obtain ⟨i, d', z, hi, hd, hsz, hby, hz, hzs, hz0, hz1, hag, hk⟩ := (hΓ t ti hti).ex
    split at hn
    · rename_i e he
      rw [he] at hk
      obtain rfl := kind_slice hk
      split at hn
      · rename_i ei hei
        obtain ⟨i2, d2, z2, hi2, hd2, hsz2, hby2, hz2, hzs2, hz02, hz12, hag2, hk2⟩ := (hΓ _ ei hei).ex
        split at hn
        · rename_i kl n kc m z1 hzl hlk
          cases hn
          simp only [All] at ho
          obtain ⟨rfl, h0, hb, h63⟩ := ho
          cases hl; cases hc
          -- one cell an element
          obtain ⟨u, hu⟩ : ∃ u, z2.cells = #[u] := by
            rw [hzl] at hz02
            have hlen : z2.cells.size = 1 := by
              have := congrArg List.length hz02
              simpa using this.symm
            exact Array.size_eq_one_iff.1 hlen
          have hzu : zAV u = z1 := by rw [hzl, hu] at hz02; simpa using hz02.symm
          have hu1 : u.oneCell' = true := hz12 u (by rw [hu]; simp)
          have hs1 : i2.size = 1 := by rw [hsz2, ← hzs2, hu]; rfl
          have hw : IntKind.i64.wrap n = n := IntWalk.i64_in _ (by omega)
          have htl : ¬ (281474976710656 < (i2.bytes : Int) * n) := by rw [hby2, Int.mul_comm]; omega
          have hz' : (zeroValue e).run P w = .ok z2 w := by simp [zeroValue, typeInfo, hi2, hz2]
          let cells : Array Value := (Array.range n.toNat).map fun _ => u
          have hrun : (Instr.makeSlice t (.int kl n) (.int kc n)).run P w = .ok (.slice (some ⟨w.heap.size, 0, none⟩) n.toNat n.toNat) (w.alloc (.cells cells e)) := by
            have hneg : ¬ n < 0 := by omega
            have hroom : ∀ k, (askRoom k).run P w = .ok () w := fun k => by unfold askRoom; split <;> simp [mark, Sem.run]
            by_cases hn0 : n.toNat = 0
            · simp [Instr.makeSlice, run_underlying hd, asInt, asIntOf, typeInfo, hi2, hw, hneg, htl, hroom, sizeOf, hs1, hn0, newRow, cells]
              have hr0 : Array.range 0 = #[] := Array.eq_empty_of_size_eq_zero (by simp)
              rw [hr0]
              simp
            · simp [Instr.makeSlice, run_underlying hd, asInt, asIntOf, typeInfo, hi2, hw, hneg, htl, hroom, sizeOf, hs1, hn0, newRow, cells, zeroValue, hz2, hu, Nat.mod_one]
          have hgr := (h.grow (G' := G) (w' := w.alloc (.cells cells e)) ((Below.refl _ _).alloc (Nat.le_refl _) _) rfl rfl (fun _ _ h => h) (fun _ _ h => .inl h)).2
          have hcz : cells.size = n.toNat := by simp [cells]
          have hcg : ∀ x ∈ cells, x = u := fun x hx => by
            obtain ⟨k, _, rfl⟩ := Array.mem_map.1 hx
            rfl
          obtain ⟨h1, h2⟩ := h.alloc (i := d) (b := .rows true (List.replicate n.toNat z1)) (o := .cells cells e) hlk ⟨cells, e, heap_alloc_new w _, by simp [hcz], fun i c v hc hv => by
            have e1 : c = z1 := by
              rw [List.getElem?_replicate] at hc
              split at hc
              · cases hc; rfl
              · cases hc
            have e2 : v = u := hcg v (Array.mem_of_getElem? hv)
            subst e1; subst e2
            rw [← hzu]
            exact zAV_rep _ _ _ _, fun v hv => by rw [hcg v hv]; exact hu1, fun o ho hw => by cases hw⟩
          exact ⟨_, _, _, hrun, h1, .row _ _ _ _ _ (by simp [Env.addB]) (Nat.le_refl _)⟩
        · cases hn
      · cases hn
    · cases hn
  · cases hn

/-! ### A store -/
def storeA (Γ : TT) (s : AS) (t : TypeId) (p x : AV) : Option (AS × List Prop) :=
  match look Γ t, x.real with
  | some ti, true => match p with
    | .ptr id off => match look s.heap id with
      | some (.var true cs) => match Nat.beq (cellsOf x).length ti.size, Nat.ble (off + ti.size) cs.length with
        | true, true => some (s.blk id (.var true (splice cs off (cellsOf x))), [])
        | _, _ => none
      | some (.rows true cs) => match ti.agg, x with
        | false, .bool b => some (s.blk id (.rows true (cs.set off (.bool b))), [off < cs.length])
        | false, .int k n => some (s.blk id (.rows true (cs.set off (.int k n))), [off < cs.length])
        | false, .str b => some (s.blk id (.rows true (cs.set off (.str b))), [off < cs.length])
        | _, _ => none
      | _ => none
    | _ => none
  | _, _ => none

theorem Pw.mono {w w' : World} {G G' : Env} {l : Bool} {cs : List AV} {vs : Array Value} (h : Pw w G l cs vs) (hle : Env.Le w G w' G') : Pw w' G' l cs vs := ⟨h.1, fun i c v a b => (h.2.1 i c v a b).mono hle, h.2.2⟩

theorem setRow_le {w : World} {g : Nat} (cur : Array Value) : (∀ k, k ≠ g → (w.setRow g cur).heap[k]? = w.heap[k]?) ∧ (w.setRow g cur).heap.size = w.heap.size ∧ (w.setRow g cur).os = w.os ∧ (w.setRow g cur).tape = w.tape ∧ (w.setRow g cur).output = w.output :=
  ⟨fun k hk => setRow_other w g k cur hk, by simp, rfl, rfl, rfl⟩

theorem listSplice_get {α : Type} (l : List α) (off : Nat) (us : List α) (h : off + us.length ≤ l.length) (k : Nat) : (l.take off ++ us ++ l.drop (off + us.length))[k]? = if off ≤ k ∧ k < off + us.length then us[k - off]? else l[k]? := by
  rw [List.append_assoc]
  split
  · rename_i hk
    rw [List.getElem?_append_right (by simp; omega), List.getElem?_append_left (by simp; omega)]
    simp
    congr 1
    omega
  · rename_i hk
    by_cases h1 : k < off
    · rw [List.getElem?_append_left (by simp; omega), List.getElem?_take]
      simp [h1]
    · rw [List.getElem?_append_right (by simp; omega), List.getElem?_append_right (by simp; omega), List.getElem?_drop]
      simp
      congr 1
      omega

theorem store_run {P : Program} {w : World} {t : TypeId} {i : TypeInfo} (hi : P.info? t = some i) {g off : Nat} {cur : Array Value} {e : TypeId} (hg : w.heap[g]? = some (.cells cur e (0, 0))) {u : Value} (hu : u.cells.size = i.size) (h1 : ∀ v ∈ u.cells, v.oneCell' = true) (hl : off + u.cells.size ≤ cur.size) :
    (Instr.storeAt t (.pointer (some ⟨g, off, none⟩)) u).run P w = .ok () (w.setRow g (cur.toList.take off ++ u.cells.toList ++ cur.toList.drop (off + u.cells.toList.length)).toArray) := by
  have hst := run_storeCells_at P g off e u.cells.toList 0 cur w hg (by simpa using hl) (fun v hv => h1 v (Array.mem_toList_iff.1 hv))
  simp only [Nat.add_zero] at hst
  simp [Instr.storeAt, Instr.sureAddr, storeVar, sizeOf, typeInfo, hi, hu, hst]

theorem storeA_sound {P : Program} {Γ : TT} (hΓ : Γok P Γ) {C : Ctx} {G : Env} {s s' : AS} {a : Act} {w : World} (h : RelG C G s a w) {t : TypeId} {p x : AV} {vp vx : Value} (hp : Rep w G true p vp) (hx : Rep w G true x vx) {os : List Prop} (hn : storeA Γ s t p x = some (s', os)) (ho : All os) :
    ∃ w', (Instr.storeAt t vp vx).run P w = .ok () w' ∧ RelG C G s' a w' := by
  unfold storeA at hn
  split at hn
  · rename_i ti hti hreal
    obtain ⟨i, d', z, hi, hd, hsz, hby, hz, hzs, hz0, hz1, hag, hk⟩ := (hΓ t ti hti).ex
    have hpx := real_pw hx hreal
    split at hn
    · rename_i id off
      cases hp with
      | ptr _ _ g hg =>
      split at hn
      · rename_i cs hb
        split at hn
        · rename_i hlen0 hble
          have hlen := Nat.eq_of_beq_eq_true hlen0
          have hoff := Nat.le_of_ble_eq_true hble
          cases hn
          obtain ⟨g', hg', hbase, ⟨vs, e, hh, hvs, hr, h1, _⟩, hnF⟩ := h.blocks id _ hb
          rw [hg] at hg'
          cases hg'
          have hus : vx.cells.size = ti.size := by rw [hpx.1]; exact hlen
          have hrun := store_run (P := P) hi hh (u := vx) (off := off) (by rw [hus, hsz]) hpx.2.2 (by rw [hus, hvs]; exact hoff)
          refine ⟨_, hrun, ?_⟩
          obtain ⟨s1, s2, s3, s4, s5⟩ := setRow_le (w := w) (g := g) (vs.toList.take off ++ vx.cells.toList ++ vs.toList.drop (off + vx.cells.toList.length)).toArray
          refine (h.setBlk (b' := .var true (splice cs off (cellsOf x))) hb hg rfl s3 s4 s5 s2 s1 (fun hle => ⟨_, e, setRow_heap w g vs _ e _ hh, ?_, ?_, ?_, fun o ho hw => by cases hw⟩) rfl).1
          · rw [splice_length (by rw [hlen]; exact hoff)]
            have hl : vx.cells.toList.length = ti.size := by simpa using hus
            have hl2 : vs.toList.length = cs.length := by simpa using hvs
            simp only [List.size_toArray, List.length_append, List.length_take, List.length_drop, hl, hl2]
            omega
          · intro k c v hc hv
            rw [splice_get (by rw [hlen]; exact hoff)] at hc
            rw [List.getElem?_toArray, listSplice_get _ _ _ (by simp only [Array.length_toList, hus, hvs]; exact hoff)] at hv
            simp only [Array.length_toList, hus] at hv
            rw [hlen] at hc
            split at hc
            · rename_i hk
              rw [if_pos hk] at hv
              exact (hpx.2.1 (k - off) c v hc (by simpa using hv)).mono hle
            · rename_i hk
              rw [if_neg hk] at hv
              exact (hr k c v hc (by simpa using hv)).mono hle
          · intro v hv
            rw [List.mem_toArray] at hv
            simp only [List.mem_append] at hv
            rcases hv with (hv | hv) | hv
            · exact h1 v (Array.mem_toList_iff.1 (List.mem_of_mem_take hv))
            · exact hpx.2.2 v (Array.mem_toList_iff.1 hv)
            · exact h1 v (Array.mem_toList_iff.1 (List.mem_of_mem_drop hv))
        · cases hn
      · rename_i cs hb
        have main : ∀ y : AV, (∀ w G l, Rep w G l y vx) → y.real = true → (cellsOf y) = [y] → cellsOf x = [y] → ti.agg = false → off < cs.length → ∃ w', (Instr.storeAt t (.pointer (some ⟨g, off, none⟩)) vx).run P w = .ok () w' ∧ RelG C G (s.blk id (.rows true (cs.set off y))) a w' := by
          intro y hy hreal2 hy1 hxy hna hoff
          obtain ⟨g', hg', hbase, ⟨vs, e, hh, hvs, hr, h1, _⟩, hnF⟩ := h.blocks id _ hb
          rw [hg] at hg'
          cases hg'
          have hus : vx.cells.size = 1 := by rw [hpx.1, hxy]; rfl
          obtain ⟨u, hu⟩ := Array.size_eq_one_iff.1 hus
          have hsz1 : ti.size = 1 := by
            have hzc : ∀ cs, z ≠ .agg cs := fun cs e => by
              have := hag.2 ⟨cs, e⟩
              rw [hna] at this
              cases this
            rw [← hzs]
            cases z <;> first | rfl | exact absurd rfl (hzc _)
          have hrun := store_run (P := P) hi hh (u := vx) (off := off) (by rw [hus, hsz, hsz1]) hpx.2.2 (by rw [hus, hvs]; omega)
          refine ⟨_, hrun, ?_⟩
          obtain ⟨s1, s2, s3, s4, s5⟩ := setRow_le (w := w) (g := g) (vs.toList.take off ++ vx.cells.toList ++ vs.toList.drop (off + vx.cells.toList.length)).toArray
          refine (h.setBlk (b' := .rows true (cs.set off y)) hb hg rfl s3 s4 s5 s2 s1 (fun hle => ⟨_, e, setRow_heap w g vs _ e _ hh, ?_, ?_, ?_, fun o ho hw => by cases hw⟩) rfl).1
          · have hl : vx.cells.toList.length = 1 := by simpa using hus
            have hl2 : vs.toList.length = cs.length := by simpa using hvs
            simp only [List.size_toArray, List.length_append, List.length_take, List.length_drop, hl, hl2, List.length_set]
            omega
          · intro k c v hc hv
            rw [List.getElem?_toArray, listSplice_get _ _ _ (by simp only [Array.length_toList, hus, hvs]; omega)] at hv
            simp only [Array.length_toList, hus] at hv
            rw [List.getElem?_set] at hc
            by_cases hk : k = off
            · subst hk
              rw [if_pos ⟨Nat.le_refl _, by omega⟩] at hv
              simp only [Nat.sub_self] at hv
              rw [if_pos rfl, if_pos hoff] at hc
              cases hc
              have hy2 := hy (w.setRow g (vs.toList.take k ++ vx.cells.toList ++ vs.toList.drop (k + vx.cells.toList.length)).toArray) G false
              have := (real_pw hy2 hreal2).2.1 0 y v (by rw [hy1]; rfl) (by simpa using hv)
              exact this
            · rw [if_neg (by omega)] at hv
              rw [if_neg (fun h => hk h.symm)] at hc
              exact (hr k c v hc (by simpa using hv)).mono hle
          · intro v hv
            rw [List.mem_toArray] at hv
            simp only [List.mem_append] at hv
            rcases hv with (hv | hv) | hv
            · exact h1 v (Array.mem_toList_iff.1 (List.mem_of_mem_take hv))
            · exact hpx.2.2 v (Array.mem_toList_iff.1 hv)
            · exact h1 v (Array.mem_toList_iff.1 (List.mem_of_mem_drop hv))
        split at hn
        · rename_i b hag2
          cases hn
          simp only [All] at ho
          cases hx
          exact main (.bool b) (fun w G l => .bool l b) rfl rfl rfl hag2 ho
        · rename_i k n hag2
          cases hn
          simp only [All] at ho
          cases hx
          exact main (.int k n) (fun w G l => .int l k n) rfl rfl rfl hag2 ho
        · rename_i b hag2
          cases hn
          simp only [All] at ho
          cases hx
          exact main (.str b) (fun w G l => .str l b) rfl rfl rfl hag2 ho
        · cases hn
      · cases hn
    · cases hn
  · cases hn

end Go.AX
