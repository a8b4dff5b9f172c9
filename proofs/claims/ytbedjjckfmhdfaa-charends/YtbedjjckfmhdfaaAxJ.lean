import Derived.Test.YtbedjjckfmhdfaaAxI
set_option linter.unusedVariables false
set_option linter.unusedSimpArgs false
namespace Go.AX
open Go Go.RowKit

/-! ### Ranging over a string -/
def rangeA (Γ : TT) (s : AS) (d : Nat) (t : TypeId) (x : AV) : SR :=
  match look Γ t with
  | some ti => match ti.kind, x, look s.heap d with
    | .str, .str b, none => some (s.blk d (.iter b 0), .ptr d 0, [])
    | _, _, _ => none
  | none => none
theorem rangeA_sound {P : Program} {Γ : TT} (hΓ : Γok P Γ) {C : Ctx} {G : Env} {s s' : AS} {a : Act} {w : World} (h : RelG C G s a w) {d : Nat} {t : TypeId} {x v : AV} {u : Value} (hx : Rep w G true x u) {os : List Prop} (hn : rangeA Γ s d t x = some (s', v, os)) :
    VSound P C s' a w (Instr.range t u) v := by
  unfold rangeA at hn
  split at hn
  · rename_i ti hti
    obtain ⟨i, d', z, hi, hd, hsz, hby, hz, hzs, hz0, hz1, hag, hk⟩ := (hΓ t ti hti).ex
    split at hn
    · rename_i b he hl
      rw [he] at hk
      obtain rfl := kind_str hk
      cases hn
      cases hx
      obtain ⟨h1, h2⟩ := h.alloc (i := d) (b := .iter b 0) (o := .stringIter b 0) hl (heap_alloc_new w _)
      exact ⟨_, _, _, run_range_string w t b hd, h1, .ptr _ _ _ (by simp [Env.addB])⟩
    · cases hn
  · cases hn

def nextA (s : AS) (x : AV) (ann : Option AV) : SR :=
  match x with
  | .ptr id 0 => match look s.heap id with
    | some (.iter b pos) => match ann with
      | some (.tup [.bool false]) => some (s, .tup [.bool false], [¬ pos < b.size])
      | some (.tup (.bool true :: _)) => some (s.blk id (.iter b (pos + (Utf8.decode b pos).2)), .tup [.bool true, .int .i64 pos, .int .i32 (Utf8.decode b pos).1], [pos < b.size])
      | _ => none
    | _ => none
  | _ => none
theorem nextA_sound {P : Program} {C : Ctx} {G : Env} {s s' : AS} {a : Act} {w : World} (h : RelG C G s a w) {x v : AV} {ann : Option AV} {u : Value} (hx : Rep w G true x u) {os : List Prop} (hn : nextA s x ann = some (s', v, os)) (ho : All os) (ty : TypeId) :
    VSound P C s' a w (Instr.next u true ty) v := by
  unfold nextA at hn
  split at hn
  · rename_i id
    cases hx with
    | ptr _ _ g hg =>
    split at hn
    · rename_i b pos hb
      obtain ⟨g', hg', hbase, hok, hnF⟩ := h.blocks _ _ hb
      rw [hg] at hg'
      cases hg'
      split at hn
      · cases hn
        simp only [All] at ho
        refine ⟨_, w, G, Lib.run_next_end_at w g b pos ty hok ho, h, .tup _ _ _ rfl fun i c v hc hv => ?_⟩
        match i, hc, hv with
        | 0, hc, hv => simp at hc hv; subst hc; subst hv; exact .bool _ _
        | n + 1, hc, hv => simp at hc
      · cases hn
        simp only [All] at ho
        have h1 := h.setBlk (w' := w.iterAt g b (pos + (Utf8.decode b pos).2)) (b' := .iter b (pos + (Utf8.decode b pos).2)) hb hg rfl rfl rfl rfl (Lib.iterAt_size _ _ _ _) (fun k hk => Lib.iterAt_other w g k b _ hk) (fun _ => Lib.iterAt_heap w g b pos _ hok) rfl
        refine ⟨_, _, G, Lib.run_next_any_at w g b pos ty hok ho, h1.1, .tup _ _ _ rfl fun i c v hc hv => ?_⟩
        match i, hc, hv with
        | 0, hc, hv => simp at hc hv; subst hc; subst hv; exact .bool _ _
        | 1, hc, hv => simp at hc hv; subst hc; subst hv; exact .int _ _ _
        | 2, hc, hv => simp at hc hv; subst hc; subst hv; exact .int _ _ _
        | n + 3, hc, hv => simp at hc
      · cases hn
    · cases hn
  · cases hn

/-! ### Conversions -/
/-- A string's runes. -/
def runesL (s : ByteArray) : Nat → Nat → List Int
  | 0, _ => []
  | k + 1, i => if i < s.size then ((Utf8.decode s i).1 : Int) :: runesL s k (i + (Utf8.decode s i).2) else []
def runes (s : ByteArray) : List Int := runesL s s.size 0
theorem runesFrom_eq (s : ByteArray) : ∀ (k i : Nat) (acc : Array Value), Conv.runesFrom s k i acc = acc ++ ((runesL s k i).map (Value.int .i32)).toArray
  | 0, i, acc => by simp [Conv.runesFrom, runesL]
  | k + 1, i, acc => by
    simp only [Conv.runesFrom, runesL]
    split
    · rw [runesFrom_eq s k]
      simp
    · simp

def intsOf : List AV → List Int
  | [] => []
  | .int _ n :: r => n :: intsOf r
  | _ :: r => intsOf r
def convA (Γ : TT) (s : AS) (src dst : TypeId) (x : AV) : VR :=
  match look Γ src, look Γ dst with
  | some a, some b => match a.kind, b.kind, x with
    | .int _, .int k, .int _ n => some (.int k (k.wrap n), [])
    | .int _, .str, .int _ n => some (.str (Utf8.encode n), [])
    | .str, .str, .str b => some (.str b, [])
    | .slice e, .str, .sl _ n cells _ => match look Γ e with
      | some ei => match ei.kind with
        | .int .i32 => some (.str (runesBytes (intsOf cells)), [cells = (intsOf cells).map (.int .i32) ∧ cells.length = n])
        | .int .u8 => some (.str (strOfNums (intsOf cells)), [cells = (intsOf cells).map (.int .u8) ∧ cells.length = n])
        | _ => none
      | none => none
    | .str, .slice e, .str b => match look Γ e with
      | some ei => match ei.kind with
        | .int .i32 => some (.sl (some false) (runes b).length ((runes b).map (.int .i32)) .no, [b.size ≤ 9223372036854775807])
        | .int .u8 => some (.sl (some false) b.size ((b.data.toList.map fun c => (c.toNat : Int)).map (.int .u8)) .no, [b.size ≤ 9223372036854775807])
        | _ => none
      | none => none
    | _, _, _ => none
  | _, _ => none

theorem runesL_len (s : ByteArray) : ∀ (k i : Nat), (runesL s k i).length ≤ k
  | 0, i => by simp [runesL]
  | k + 1, i => by
    simp only [runesL]
    split
    · have := runesL_len s k (i + (Utf8.decode s i).2)
      simp only [List.length_cons]
      omega
    · simp

/-- A new row of plain values, that is only read. -/
theorem newTree {C : Ctx} {G : Env} {s : AS} {a : Act} {w w' : World} (h : RelG C G s a w) (hb : Below w.heap.size w w') (hlt : w.heap.size < w'.heap.size) {cs : Array Value} {e : TypeId} {fr : Nat × Nat} (hc : w'.heap[w.heap.size]? = some (.cells cs e fr)) {cells : List AV} {n c : Nat} (hn : n ≤ c)
    (hl : cells.length ≤ cs.size) (hr : ∀ (j : Nat) (x : AV) (v : Value), cells[j]? = some x → cs[j]? = some v → (∀ G, Rep w' G false x v) ∧ v.oneCell' = true) : ∃ G', RelG C G' s a w' ∧ Rep w' G' true (.sl (some false) n cells .no) (.slice (some ⟨w.heap.size, 0, none⟩) n c) := by
  obtain ⟨h1, h2⟩ := h.grow (G' := { G with F := fun b o => G.F b o ∨ b = w.heap.size }) hb rfl rfl (fun _ _ h => .inl h) (fun b o hf => by
    rcases hf with hf | hf
    · exact .inl hf
    · exact .inr ⟨by omega, by omega⟩)
  refine ⟨_, h1, .sl _ _ _ _ _ _ _ (fun j => cs.getD j undef) (fun b hb => by cases hb; rfl) (fun _ => ⟨_, rfl, rfl⟩) hn (fun j x hx => ?_) (fun j x hx => ?_) (fun h => by cases h) (fun t h => by cases h)⟩
  · have hj : j < cs.size := Nat.lt_of_lt_of_le (List.getElem?_eq_some_iff.1 hx).1 hl
    refine ⟨_, rfl, rfl, .inr rfl, ?_, ?_⟩
    · simp [World.cell?, hc, hj]
    · simpa [hj] using (hr j x cs[j] hx (Array.getElem?_eq_getElem hj)).2
  · have hj : j < cs.size := Nat.lt_of_lt_of_le (List.getElem?_eq_some_iff.1 hx).1 hl
    simpa [hj] using (hr j x cs[j] hx (Array.getElem?_eq_getElem hj)).1 _

theorem sl_ints {w : World} {G : Env} {l : Bool} {k : IntKind} {nl : Option Bool} {n : Nat} {cells : List AV} {o : Own} {A : Option Addr} {c : Nat} {ns : List Int} (h : Rep w G l (.sl nl n cells o) (.slice A n c)) (hc : cells = ns.map (.int k)) :
    ∀ j m, ns[j]? = some m → ∃ ad, A = some ad ∧ ad.spot = none ∧ w.cell? ⟨ad.block, ad.off + j, none⟩ = some (.int k m) := by
  intro j m hj
  cases h with
  | sl _ _ _ _ _ _ _ vs hnl hpos hc' hcell hrep hclip hown =>
    have hx : cells[j]? = some (.int k m) := by rw [hc]; simp [hj]
    obtain ⟨ad, e, hsp, hf, hw, h1⟩ := hcell j _ hx
    have := hrep j _ hx
    generalize vs j = u at hw this
    cases this
    exact ⟨ad, e, hsp, hw⟩

theorem convA_sound {P : Program} {Γ : TT} (hΓ : Γok P Γ) {C : Ctx} {G : Env} {s : AS} {a : Act} {w : World} (h : RelG C G s a w) {src dst : TypeId} {x v : AV} {u : Value} (hx : Rep w G true x u) {os : List Prop} (hn : convA Γ s src dst x = some (v, os)) (ho : All os) :
    VSound P C s a w (convert src dst u) v := by
  unfold convA at hn
  split at hn
  · rename_i ta tb hta htb
    obtain ⟨ia, da, za, hia, hda, _, _, _, _, _, _, _, hka⟩ := (hΓ src ta hta).ex
    obtain ⟨ib, db, zb, hib, hdb, _, _, _, _, _, _, _, hkb⟩ := (hΓ dst tb htb).ex
    split at hn
    · rename_i k1 k k2 n e1 e2
      cases hn
      rw [e2] at hkb
      obtain rfl := kind_int hkb
      cases hx
      exact VSound.pure h ⟨.int k (k.wrap n), by simp [convert, run_underlying hda, run_underlying hdb, Conv.intToInt], .int _ _ _⟩
    · rename_i k1 k2 n e1 e2
      cases hn
      rw [e2] at hkb
      obtain rfl := kind_str hkb
      rw [e1] at hka
      obtain rfl := kind_int hka
      cases hx
      exact VSound.pure h ⟨.string (Utf8.encode n), by simp [convert, run_underlying hda, run_underlying hdb, Conv.intToString], .str _ _⟩
    · rename_i b e1 e2
      cases hn
      rw [e2] at hkb
      obtain rfl := kind_str hkb
      rw [e1] at hka
      obtain rfl := kind_str hka
      cases hx
      exact VSound.pure h ⟨.string b, by simp [convert, run_underlying hda, run_underlying hdb], .str _ _⟩
    · rename_i e nl n cells o e1 e2
      rw [e2] at hkb
      obtain rfl := kind_str hkb
      rw [e1] at hka
      obtain rfl := kind_slice hka
      split at hn
      · rename_i ei hei
        obtain ⟨i2, d2, z2, hi2, hd2, _, _, _, _, _, _, _, hk2⟩ := (hΓ _ ei hei).ex
        split at hn
        · rename_i hk
          cases hn
          simp only [All] at ho
          obtain ⟨ho1, ho2⟩ := ho
          rw [hk] at hk2
          obtain rfl := kind_int hk2
          have hints := fun A c => sl_ints (ns := intsOf cells) (k := .i32) (w := w) (G := G) (l := true) (nl := nl) (n := n) (o := o) (A := A) (c := c) (cells := cells)
          have hlen : (intsOf cells).length = n := by rw [← ho2]; conv => rhs; rw [ho1]; simp
          have hx' := hx
          cases hx with
          | sl _ _ _ _ _ A c vs hnl hpos hc hcell hrep hclip hown =>
          refine VSound.pure h ⟨.string (runesBytes (intsOf cells)), ?_, .str _ _⟩
          cases A with
          | none =>
            have hn0 : n = 0 := by
              rcases Nat.eq_zero_or_pos n with h0 | h0
              · exact h0
              · obtain ⟨ad, e, _⟩ := hpos h0; cases e
            have : intsOf cells = [] := List.eq_nil_of_length_eq_zero (by omega)
            rw [this]
            exact run_convert_runes_nil w src dst e n c hda hd2 hdb
          | some ad =>
            have := run_convert_runes (P := P) w src dst e ad n c (intsOf cells) (by omega) hda hd2 hdb (fun j hj => by
              obtain ⟨ad', e', hsp, hw⟩ := hints (some ad) c hx' ho1 j _ (List.getElem?_eq_getElem hj)
              cases e'
              rw [add_spot _ _ hsp, hw]
              simp [List.getD_eq_getElem?_getD, List.getElem?_eq_getElem hj])
            rwa [List.take_of_length_le (by omega)] at this
        · rename_i hk
          cases hn
          simp only [All] at ho
          obtain ⟨ho1, ho2⟩ := ho
          rw [hk] at hk2
          obtain rfl := kind_int hk2
          have hints := fun A c => sl_ints (ns := intsOf cells) (k := .u8) (w := w) (G := G) (l := true) (nl := nl) (n := n) (o := o) (A := A) (c := c) (cells := cells)
          have hlen : (intsOf cells).length = n := by rw [← ho2]; conv => rhs; rw [ho1]; simp
          have hx' := hx
          cases hx with
          | sl _ _ _ _ _ A c vs hnl hpos hc hcell hrep hclip hown =>
          refine VSound.pure h ⟨.string (strOfNums (intsOf cells)), ?_, .str _ _⟩
          cases A with
          | none =>
            have hn0 : n = 0 := by
              rcases Nat.eq_zero_or_pos n with h0 | h0
              · exact h0
              · obtain ⟨ad, e, _⟩ := hpos h0; cases e
            have : intsOf cells = [] := List.eq_nil_of_length_eq_zero (by omega)
            rw [this]
            exact run_convert_bytes_nil w src e hda hd2 n c dst hdb
          | some ad =>
            rcases Nat.eq_zero_or_pos n with h0 | h0
            · have hi0 : intsOf cells = [] := List.eq_nil_of_length_eq_zero (by omega)
              rw [hi0]
              subst h0
              have hl0 : ∀ b, (loadCells b 0).run P w = .ok #[] w := fun b => by simp [loadCells, loadCellsFrom]
              simp [convert, run_underlying hda, run_underlying hdb, run_underlying hd2, Conv.bytesToString, hl0, strOfNums]
              rfl
            · obtain ⟨ad', e', hsp⟩ := hpos h0
              cases e'
              have := run_convert_bytes_arg (P := P) w src e hda hd2 ad.block ad.off n c (intsOf cells) hlen (fun j hj => by
                obtain ⟨ad', e', hsp, hw⟩ := hints (some ad) c hx' ho1 j _ (List.getElem?_eq_getElem (by omega))
                cases e'
                rw [hw]
                simp [List.getD_eq_getElem?_getD, List.getElem?_eq_getElem (show j < (intsOf cells).length by omega)]) dst hdb
              obtain ⟨bk, of, sp⟩ := ad
              simp only at hsp
              subst hsp
              exact this
        · cases hn
      · cases hn
    · rename_i e b e1 e2
      rw [e2] at hkb
      obtain rfl := kind_slice hkb
      rw [e1] at hka
      obtain rfl := kind_str hka
      cases hx
      split at hn
      · rename_i ei hei
        obtain ⟨i2, d2, z2, hi2, hd2, _, _, _, _, _, _, _, hk2⟩ := (hΓ _ ei hei).ex
        split at hn
        · rename_i hk
          cases hn
          simp only [All] at ho
          rw [hk] at hk2
          obtain rfl := kind_int hk2
          let cap := grownCap w (runes b).length 0 e
          have hcap : (runes b).length ≤ cap := grownCap_ge _ _ _ _
          have hrun : (convert src dst (.string b)).run P w = .ok (.slice (some ⟨w.heap.size, 0, none⟩) (runes b).length cap) (w.drew.alloc (.cells (((runes b).map (Value.int .i32)).toArray ++ Array.replicate (cap - (runes b).length) (.int .i32 0)) e)) := by
            have hre : Conv.runesFrom b b.size 0 #[] = ((runes b).map (Value.int .i32)).toArray := by rw [runesFrom_eq]; simp [runes]
            simp [convert, run_underlying hda, run_underlying hdb, run_underlying hd2, Conv.stringToRunes, hre, Question.forced, newRow, grownCap, cap]
          obtain ⟨G', h1, h2⟩ := newTree (cells := (runes b).map (.int .i32)) (n := (runes b).length) (c := cap) h (w' := w.drew.alloc (.cells (((runes b).map (Value.int .i32)).toArray ++ Array.replicate (cap - (runes b).length) (.int .i32 0)) e)) ⟨rfl, rfl, rfl, by simp, fun k hk => heap_alloc_old w.drew _ hk⟩ (by simp) (heap_alloc_new w.drew _) hcap (by simp) (fun j x v hx hv => by
            have hlt : j < (runes b).length := by simpa using (List.getElem?_eq_some_iff.1 hx).1
            rw [Array.getElem?_append_left (by simpa using hlt)] at hv
            simp only [List.getElem?_map, List.getElem?_toArray, List.getElem?_eq_getElem hlt, Option.map_some, Option.some.injEq] at hx hv
            subst hx; subst hv
            exact ⟨fun G => .int _ _ _, rfl⟩)
          exact ⟨_, _, G', hrun, h1, h2⟩
        · rename_i hk
          cases hn
          simp only [All] at ho
          rw [hk] at hk2
          obtain rfl := kind_int hk2
          have hrun := Lib.run_convert_string_bytes (P := P) w src dst e b hda hdb hd2
          obtain ⟨G', h1, h2⟩ := newTree (cells := (b.data.toList.map fun c => (c.toNat : Int)).map (.int .u8)) (n := b.size) (c := grownCap w b.size 0 e) h (w' := Lib.bytesWorld w e b) ⟨rfl, rfl, rfl, by rw [Lib.bytesWorld_size]; omega, fun k hk => Lib.bytesWorld_at_old w e b k hk⟩ (by rw [Lib.bytesWorld_size]; omega) (Lib.bytesWorld_at_new w e b) (grownCap_ge _ _ _ _) (by
              simp [Lib.bytesCells]) (fun j x v hx hv => by
            have hlt : j < b.data.size := by simpa using (List.getElem?_eq_some_iff.1 hx).1
            unfold Lib.bytesCells at hv
            rw [Array.getElem?_append_left (by simpa using hlt)] at hv
            simp at hx hv
            obtain ⟨c1, e1, rfl⟩ := hx
            obtain ⟨c2, e2, rfl⟩ := hv
            rw [e1] at e2
            cases e2
            exact ⟨fun G => .int _ _ _, rfl⟩)
          exact ⟨_, _, G', hrun, h1, h2⟩
        · cases hn
      · cases hn
    · cases hn
  · cases hn

end Go.AX
