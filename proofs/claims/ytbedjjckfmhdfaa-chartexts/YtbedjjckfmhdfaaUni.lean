/- Runes of texts that are put together. -/
import Derived.Lib.DecodeN
import Derived.Test.YtbedjjckfmhdfaaAxJ
set_option linter.unusedVariables false
set_option maxRecDepth 100000
namespace Go.Proofs.Ytbedjjckfmhdfaa
open Go Go.AX Go.Lib

theorem get!_app_left (s t : ByteArray) (i : Nat) (h : i < s.size) : (s ++ t).get! i = s.get! i := by
  have h2 : i < (s ++ t).size := by rw [ByteArray.size_append]; omega
  have a : (s ++ t).get! i = (s ++ t)[i] := by
    show (s ++ t).data[i]! = _
    rw [getElem!_pos (s ++ t).data i (by simpa using h2)]; rfl
  have b : s.get! i = s[i] := by
    show s.data[i]! = _
    rw [getElem!_pos s.data i (by simpa using h)]; rfl
  rw [a, b, ByteArray.getElem_append_left h]
theorem get!_app_right (s t : ByteArray) (i : Nat) : (s ++ t).get! (s.size + i) = t.get! i := by
  by_cases h : i < t.size
  · have h2 : s.size + i < (s ++ t).size := by rw [ByteArray.size_append]; omega
    have a : (s ++ t).get! (s.size + i) = (s ++ t)[s.size + i] := by
      show (s ++ t).data[s.size + i]! = _
      rw [getElem!_pos (s ++ t).data _ (by simpa using h2)]; rfl
    have b : t.get! i = t[i] := by
      show t.data[i]! = _
      rw [getElem!_pos t.data i (by simpa using h)]; rfl
    rw [a, b, ByteArray.getElem_append_right (by omega)]
    simp
  · have a : (s ++ t).get! (s.size + i) = default := by
      show (s ++ t).data[s.size + i]! = _
      rw [getElem!_neg (s ++ t).data _ (by simp; omega)]
    have b : t.get! i = default := by
      show t.data[i]! = _
      rw [getElem!_neg t.data i (by simpa using h)]
    rw [a, b]
theorem get!_out (s : ByteArray) (i : Nat) (h : s.size ≤ i) : (s.get! i).toNat = 0 := by
  have b : s.get! i = default := by
    show s.data[i]! = _
    rw [getElem!_neg s.data i (by simpa using h)]
  rw [b]; rfl

theorem decode_right (s t : ByteArray) (i : Nat) : Utf8.decode (s ++ t) (s.size + i) = Utf8.decode t i := by
  rw [decode_at, decode_at, ByteArray.size_append, get!_app_right, Nat.add_assoc, get!_app_right, Nat.add_assoc, get!_app_right, Nat.add_assoc, get!_app_right]
  congr 1
  omega

set_option maxHeartbeats 4000000 in
theorem decodeN_cut (n N b0 b1 b2 b3 c1 c2 c3 : Nat) (hn : 1 ≤ n) (hN : n < N) (h1 : if 1 < n then c1 = b1 else (n = 1 → b1 < 128)) (h2 : if 2 < n then c2 = b2 else (n = 2 → b2 < 128)) (h3 : if 3 < n then c3 = b3 else (n = 3 → b3 < 128)) :
    decodeN N b0 b1 b2 b3 = decodeN n b0 c1 c2 c3 := by
  by_cases e1 : n = 1
  · subst e1
    simp only [Nat.lt_irrefl, if_false, true_implies] at h1
    unfold decodeN
    repeat' split
    all_goals first | (exfalso; omega) | rfl
  · rw [if_pos (by omega)] at h1
    subst h1
    by_cases e2 : n = 2
    · subst e2
      simp only [Nat.lt_irrefl, if_false, true_implies] at h2
      unfold decodeN
      repeat' split
      all_goals first | (exfalso; omega) | rfl
    · rw [if_pos (by omega)] at h2
      subst h2
      by_cases e3 : n = 3
      · subst e3
        simp only [Nat.lt_irrefl, if_false, true_implies] at h3
        unfold decodeN
        repeat' split
        all_goals first | (exfalso; omega) | rfl
      · rw [if_pos (by omega)] at h3
        subst h3
        unfold decodeN
        repeat' split
        all_goals first | (exfalso; omega) | rfl

theorem decode_left (s t : ByteArray) (i : Nat) (hi : i < s.size) (ht : 0 < t.size) (h0 : (t.get! 0).toNat < 128) : Utf8.decode (s ++ t) i = Utf8.decode s i := by
  have key : ∀ j, if j < s.size - i then (s.get! (i + j)).toNat = ((s ++ t).get! (i + j)).toNat else (s.size - i = j → ((s ++ t).get! (i + j)).toNat < 128) := by
    intro j
    split
    · rw [get!_app_left s t (i + j) (by omega)]
    · intro h
      have e : i + j = s.size + 0 := by omega
      rw [e, get!_app_right]
      exact h0
  rw [decode_at, decode_at, get!_app_left s t i hi]
  exact decodeN_cut _ _ _ _ _ _ _ _ _ (by omega) (by rw [ByteArray.size_append]; omega) (key 1) (key 2) (key 3)

theorem decodeN_width (n b0 b1 b2 b3 : Nat) (hn : 1 ≤ n) : 1 ≤ (decodeN n b0 b1 b2 b3).2 ∧ (decodeN n b0 b1 b2 b3).2 ≤ n := by
  unfold decodeN
  repeat' split
  all_goals (simp only; omega)
theorem decodeN_valid (n b0 b1 b2 b3 : Nat) : (decodeN n b0 b1 b2 b3).1 < 55296 ∨ (57344 ≤ (decodeN n b0 b1 b2 b3).1 ∧ (decodeN n b0 b1 b2 b3).1 ≤ 1114111) := by
  unfold decodeN
  repeat' split
  all_goals (simp only; omega)
theorem decode_width (s : ByteArray) (i : Nat) (h : i < s.size) : 1 ≤ (Utf8.decode s i).2 ∧ i + (Utf8.decode s i).2 ≤ s.size := by
  rw [decode_at]
  have := decodeN_width (s.size - i) (s.get! i).toNat (s.get! (i + 1)).toNat (s.get! (i + 2)).toNat (s.get! (i + 3)).toNat (by omega)
  omega

theorem runesL_fuel (s : ByteArray) : ∀ (k k' i : Nat), s.size ≤ i + k → s.size ≤ i + k' → runesL s k i = runesL s k' i := by
  intro k
  induction k with
  | zero =>
    intro k' i h h'
    cases k' with
    | zero => rfl
    | succ k' => simp only [runesL]; rw [if_neg (by omega)]
  | succ k ih =>
    intro k' i h h'
    cases k' with
    | zero => simp only [runesL]; rw [if_neg (by omega)]
    | succ k' =>
      simp only [runesL]
      split
      · rename_i hi
        have := decode_width s i hi
        rw [ih k' _ (by omega) (by omega)]
      · rfl
theorem runesL_right (s t : ByteArray) : ∀ (k i : Nat), runesL (s ++ t) k (s.size + i) = runesL t k i := by
  intro k
  induction k with
  | zero => intro i; rfl
  | succ k ih =>
    intro i
    simp only [runesL, decode_right, ByteArray.size_append]
    by_cases h : i < t.size
    · rw [if_pos (by omega), if_pos h, Nat.add_assoc, ih]
    · rw [if_neg (by omega), if_neg h]
theorem runesL_left (s t : ByteArray) (ht : 0 < t.size) (h0 : (t.get! 0).toNat < 128) : ∀ (k i : Nat), i ≤ s.size → s.size + t.size ≤ i + k → runesL (s ++ t) k i = runesL s k i ++ runes t := by
  intro k
  induction k with
  | zero => intro i hi h; omega
  | succ k ih =>
    intro i hi h
    by_cases hlt : i < s.size
    · have hw := decode_width s i hlt
      simp only [runesL, ByteArray.size_append]
      rw [if_pos (by omega), if_pos hlt, decode_left s t i hlt ht h0, ih _ (by omega) (by omega)]
      rfl
    · have e : i = s.size + 0 := by omega
      rw [e, runesL_right]
      have : runesL s (k + 1) (s.size + 0) = [] := by simp [runesL]
      rw [this, List.nil_append]
      exact runesL_fuel t _ _ 0 (by omega) (by omega)
/-- Where a text of ASCII begins, the runes of what stands ahead are as they were. -/
theorem runes_app (s t : ByteArray) (ht : 0 < t.size) (h0 : (t.get! 0).toNat < 128) : runes (s ++ t) = runes s ++ runes t := by
  unfold runes
  rw [runesL_left s t ht h0 _ 0 (by omega) (by rw [ByteArray.size_append]; omega)]
  rw [runesL_fuel s (s ++ t).size s.size 0 (by rw [ByteArray.size_append]; omega) (by omega)]
  rfl
theorem runes_cons (s t : ByteArray) (r : Nat) (hs : 0 < s.size) (h : Utf8.decode (s ++ t) 0 = (r, s.size)) : runes (s ++ t) = (r : Int) :: runes t := by
  unfold runes
  have hz : (s ++ t).size = (s.size + t.size - 1) + 1 := by rw [ByteArray.size_append]; omega
  rw [hz]
  simp only [runesL]
  rw [if_pos (by rw [ByteArray.size_append]; omega), h]
  simp only [Nat.zero_add]
  have := runesL_right s t (s.size + t.size - 1) 0
  rw [Nat.add_zero] at this
  rw [this, runesL_fuel t _ t.size 0 (by omega) (by omega)]

def okRune (r : Int) : Prop := 0 ≤ r ∧ (r < 55296 ∨ (57344 ≤ r ∧ r ≤ 1114111))
theorem runesL_ok (s : ByteArray) : ∀ (k i : Nat), ∀ r ∈ runesL s k i, okRune r := by
  intro k
  induction k with
  | zero => intro i r h; simp [runesL] at h
  | succ k ih =>
    intro i r h
    simp only [runesL] at h
    split at h
    · rcases List.mem_cons.1 h with rfl | h
      · have := decodeN_valid (s.size - i) (s.get! i).toNat (s.get! (i + 1)).toNat (s.get! (i + 2)).toNat (s.get! (i + 3)).toNat
        rw [← decode_at] at this
        unfold okRune
        omega
      · exact ih _ r h
    · simp at h
theorem runes_ok (s : ByteArray) : ∀ r ∈ runes s, okRune r := runesL_ok s _ _
theorem toN (n : Nat) (h : n < 256) : (UInt8.ofNat n).toNat = n := by simp; omega
theorem decode_encode (r : Int) (hr : okRune r) (t : ByteArray) : 0 < (Utf8.encode r).size ∧ Utf8.decode (Utf8.encode r ++ t) 0 = (r.toNat, (Utf8.encode r).size) := by
  obtain ⟨n, rfl⟩ : ∃ n : Nat, r = n := ⟨r.toNat, by unfold okRune at hr; omega⟩
  have hv : Utf8.valid (n : Int) = true := by
    unfold okRune at hr
    simp only [Utf8.valid, Bool.or_eq_true, Bool.and_eq_true, decide_eq_true_eq]
    omega
  unfold okRune at hr
  have bytes : ∀ (l : List UInt8) (hl : 0 < l.length) (k : Nat) (hk : k < l.length), ((⟨l.toArray⟩ : ByteArray) ++ t).get! k = l[k] := by
    intro l hl k hk
    rw [get!_app_left _ _ _ (by simpa [ByteArray.size] using hk)]
    show (l.toArray)[k]! = _
    rw [getElem!_pos l.toArray k (by simpa using hk)]
    simp
  have hsz : ∀ l : List UInt8, ((⟨l.toArray⟩ : ByteArray) ++ t).size = l.length + t.size := fun l => by rw [ByteArray.size_append]; rfl
  have hs1 : ∀ l : List UInt8, (⟨l.toArray⟩ : ByteArray).size = l.length := fun l => rfl
  unfold Utf8.encode
  simp only [hv, if_true, Int.toNat_natCast]
  split
  · rename_i h
    refine ⟨Nat.succ_pos _, ?_⟩
    rw [decode_at, bytes [UInt8.ofNat n] (by simp) 0 (by simp)]
    simp only [List.getElem_cons_zero, toN n (by omega)]
    unfold decodeN
    rw [if_pos h]
    rfl
  · split
    · rename_i h1 h2
      refine ⟨Nat.succ_pos _, ?_⟩
      rw [decode_at, bytes [UInt8.ofNat (192 + n / 64), UInt8.ofNat (128 + n % 64)] (by simp) 0 (by simp), bytes [UInt8.ofNat (192 + n / 64), UInt8.ofNat (128 + n % 64)] (by simp) 1 (by simp), hsz]
      simp only [List.getElem_cons_zero, List.getElem_cons_succ, toN (192 + n / 64) (by omega), toN (128 + n % 64) (by omega), List.length_cons, List.length_nil]
      unfold decodeN
      rw [if_neg (by omega), if_pos (by omega), if_pos (by omega)]
      refine Prod.ext ?_ rfl
      simp only
      omega
    · split
      · rename_i h1 h2 h3
        refine ⟨Nat.succ_pos _, ?_⟩
        rw [decode_at, bytes [UInt8.ofNat (224 + n / 4096), UInt8.ofNat (128 + n / 64 % 64), UInt8.ofNat (128 + n % 64)] (by simp) 0 (by simp), bytes [UInt8.ofNat (224 + n / 4096), UInt8.ofNat (128 + n / 64 % 64), UInt8.ofNat (128 + n % 64)] (by simp) 1 (by simp), bytes [UInt8.ofNat (224 + n / 4096), UInt8.ofNat (128 + n / 64 % 64), UInt8.ofNat (128 + n % 64)] (by simp) 2 (by simp), hsz]
        simp only [List.getElem_cons_zero, List.getElem_cons_succ, toN (224 + n / 4096) (by omega), toN (128 + n / 64 % 64) (by omega), toN (128 + n % 64) (by omega), List.length_cons, List.length_nil]
        unfold decodeN
        rw [if_neg (by omega), if_neg (by omega), if_pos (by omega), if_pos (by omega)]
        refine Prod.ext ?_ rfl
        simp only
        omega
      · rename_i h1 h2 h3
        refine ⟨Nat.succ_pos _, ?_⟩
        rw [decode_at, bytes [UInt8.ofNat (240 + n / 262144), UInt8.ofNat (128 + n / 4096 % 64), UInt8.ofNat (128 + n / 64 % 64), UInt8.ofNat (128 + n % 64)] (by simp) 0 (by simp), bytes [UInt8.ofNat (240 + n / 262144), UInt8.ofNat (128 + n / 4096 % 64), UInt8.ofNat (128 + n / 64 % 64), UInt8.ofNat (128 + n % 64)] (by simp) 1 (by simp), bytes [UInt8.ofNat (240 + n / 262144), UInt8.ofNat (128 + n / 4096 % 64), UInt8.ofNat (128 + n / 64 % 64), UInt8.ofNat (128 + n % 64)] (by simp) 2 (by simp), bytes [UInt8.ofNat (240 + n / 262144), UInt8.ofNat (128 + n / 4096 % 64), UInt8.ofNat (128 + n / 64 % 64), UInt8.ofNat (128 + n % 64)] (by simp) 3 (by simp), hsz]
        simp only [List.getElem_cons_zero, List.getElem_cons_succ, toN (240 + n / 262144) (by omega), toN (128 + n / 4096 % 64) (by omega), toN (128 + n / 64 % 64) (by omega), toN (128 + n % 64) (by omega), List.length_cons, List.length_nil]
        unfold decodeN
        rw [if_neg (by omega), if_neg (by omega), if_neg (by omega), if_pos (by omega), if_pos (by omega)]
        refine Prod.ext ?_ rfl
        simp only
        omega

theorem foldl_enc (l : List Int) : ∀ a : ByteArray, l.foldl (fun r n => r ++ Utf8.encode n) a = a ++ runesBytes l := by
  induction l with
  | nil => intro a; simp [runesBytes]
  | cons x l ih =>
    intro a
    unfold runesBytes
    simp only [List.foldl_cons]
    rw [ih, ih, ByteArray.append_assoc, ByteArray.empty_append]
theorem runesBytes_cons (x : Int) (l : List Int) : runesBytes (x :: l) = Utf8.encode x ++ runesBytes l := by
  conv => lhs; unfold runesBytes
  rw [List.foldl_cons, foldl_enc, ByteArray.empty_append]
/-- Runes that are written as a text are read as they were. -/
theorem runes_bytes (l : List Int) (hl : ∀ r ∈ l, okRune r) (t : ByteArray) : runes (runesBytes l ++ t) = l ++ runes t := by
  induction l with
  | nil => simp [runesBytes]
  | cons x l ih =>
    have hx := hl x (by simp)
    rw [runesBytes_cons, ByteArray.append_assoc]
    obtain ⟨h1, h2⟩ := decode_encode x hx (runesBytes l ++ t)
    rw [runes_cons _ _ _ h1 h2, ih (fun r hr => hl r (by simp [hr]))]
    have : ((x.toNat : Nat) : Int) = x := by unfold okRune at hx; omega
    rw [this]
    rfl
theorem runes_empty : runes ByteArray.empty = [] := rfl
theorem runes_two (s t : ByteArray) : runes (runesBytes (runes s) ++ runesBytes (runes t)) = runes s ++ runes t := by
  rw [runes_bytes _ (runes_ok s)]
  have := runes_bytes (runes t) (runes_ok t) ByteArray.empty
  rw [ByteArray.append_empty, runes_empty, List.append_nil] at this
  rw [this]
end Go.Proofs.Ytbedjjckfmhdfaa
