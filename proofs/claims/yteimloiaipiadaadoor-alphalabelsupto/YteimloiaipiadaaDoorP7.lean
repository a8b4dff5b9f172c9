import Derived.Test.YteimloiaipiadaaDoorP6
import Derived.Test.YteimloiaipiadaaDoorP5
section
set_option linter.unusedVariables false
set_option linter.unusedSimpArgs false
namespace Go.Proofs.YteimloiaipiadaaDoor
open Go Go.AX

/-! ### What is handed in, as plain data, and its cells -/
structure Nm where
  sp : ByteArray
  lo : ByteArray
deriving DecidableEq
structure Atr where
  nm : Nm
  v : ByteArray
deriving DecidableEq
structure Ev where
  kind : Int
  nm : Nm
  attrs : List Atr
  text : ByteArray
inductive Tr
  | mk (isText : Bool) (text : ByteArray) (nm : Nm) (attrs : List Atr) (kids : List Tr)
mutual
inductive Pth
  | mk (op : Int) (sub : List Pth) (test : List Flt)
inductive Flt
  | mk (op : Int) (nm : Nm) (value : ByteArray) (sub : List Flt) (way : List Pth)
end
def nmC (n : Nm) : List AV := [.str n.sp, .str n.lo]
def atC (a : Atr) : List AV := [.str a.nm.sp, .str a.nm.lo, .str a.v]
def atsC (l : List Atr) : List AV := l.flatMap atC
def evC (e : Ev) : List AV := [.int .i64 e.kind, .str e.nm.sp, .str e.nm.lo, .sl none e.attrs.length (atsC e.attrs) .no, .str e.text]
def evsC (l : List Ev) : List AV := l.flatMap evC
mutual
def trC : Tr → List AV
  | .mk b t n a k => [.bool b, .str t, .str n.sp, .str n.lo, .sl none a.length (atsC a) .no, .sl none k.length (trsC k) .no]
def trsC : List Tr → List AV
  | [] => []
  | t :: r => trC t ++ trsC r
end
mutual
def pthC : Pth → List AV
  | .mk op sub test => [.int .i64 op, .sl none sub.length (pthsC sub) .no, .sl none test.length (fltsC test) .no]
def pthsC : List Pth → List AV
  | [] => []
  | t :: r => pthC t ++ pthsC r
def fltC : Flt → List AV
  | .mk op n v sub way => [.int .i64 op, .str n.sp, .str n.lo, .str v, .sl none sub.length (fltsC sub) .no, .sl none way.length (pthsC way) .no]
def fltsC : List Flt → List AV
  | [] => []
  | t :: r => fltC t ++ fltsC r
end
theorem trsC_eq : ∀ l, trsC l = l.flatMap trC
  | [] => by simp [trsC]
  | t :: r => by simp [trsC, trsC_eq r]
theorem pthsC_eq : ∀ l, pthsC l = l.flatMap pthC
  | [] => by simp [pthsC]
  | t :: r => by simp [pthsC, pthsC_eq r]
theorem fltsC_eq : ∀ l, fltsC l = l.flatMap fltC
  | [] => by simp [fltsC]
  | t :: r => by simp [fltsC, fltsC_eq r]
theorem flat_get {α : Type} {f : α → List AV} {k : Nat} (hk : ∀ a, (f a).length = k) : ∀ (l : List α) (i j : Nat), j < k → (l.flatMap f)[i * k + j]? = l[i]?.bind fun a => (f a)[j]?
  | [], i, j, hj => by simp
  | a :: l, 0, j, hj => by
    rw [List.flatMap_cons, List.getElem?_append_left (by rw [hk]; omega)]
    simp
  | a :: l, i + 1, j, hj => by
    have e : (i + 1) * k + j = k + (i * k + j) := by rw [Nat.add_mul, Nat.one_mul]; omega
    rw [List.flatMap_cons, List.getElem?_append_right (by rw [hk, e]; omega), hk, e, Nat.add_sub_cancel_left, flat_get hk l i j hj]
    simp
theorem flat_len {α : Type} {f : α → List AV} {k : Nat} (hk : ∀ a, (f a).length = k) : ∀ (l : List α), (l.flatMap f).length = l.length * k
  | [] => by simp
  | a :: l => by rw [List.flatMap_cons, List.length_append, flat_len hk l, hk, List.length_cons, Nat.add_mul, Nat.one_mul, Nat.add_comm]
theorem atC_len (a : Atr) : (atC a).length = 3 := rfl
theorem evC_len (a : Ev) : (evC a).length = 5 := rfl
theorem trC_len (a : Tr) : (trC a).length = 6 := by cases a; rfl
theorem pthC_len (a : Pth) : (pthC a).length = 3 := by cases a; rfl
theorem fltC_len (a : Flt) : (fltC a).length = 6 := by cases a; rfl
theorem atsC_len (l : List Atr) : (atsC l).length = l.length * 3 := flat_len atC_len l
theorem evsC_len (l : List Ev) : (evsC l).length = l.length * 5 := flat_len evC_len l
theorem trsC_len (l : List Tr) : (trsC l).length = l.length * 6 := by rw [trsC_eq]; exact flat_len trC_len l
theorem pthsC_len (l : List Pth) : (pthsC l).length = l.length * 3 := by rw [pthsC_eq]; exact flat_len pthC_len l
theorem fltsC_len (l : List Flt) : (fltsC l).length = l.length * 6 := by rw [fltsC_eq]; exact flat_len fltC_len l
theorem atsC_get (l : List Atr) (i j : Nat) (hj : j < 3) : (atsC l)[i * 3 + j]? = l[i]?.bind fun a => (atC a)[j]? := flat_get atC_len l i j hj
theorem evsC_get (l : List Ev) (i j : Nat) (hj : j < 5) : (evsC l)[i * 5 + j]? = l[i]?.bind fun a => (evC a)[j]? := flat_get evC_len l i j hj
theorem trsC_get (l : List Tr) (i j : Nat) (hj : j < 6) : (trsC l)[i * 6 + j]? = l[i]?.bind fun a => (trC a)[j]? := by rw [trsC_eq]; exact flat_get trC_len l i j hj
theorem pthsC_get (l : List Pth) (i j : Nat) (hj : j < 3) : (pthsC l)[i * 3 + j]? = l[i]?.bind fun a => (pthC a)[j]? := by rw [pthsC_eq]; exact flat_get pthC_len l i j hj
theorem fltsC_get (l : List Flt) (i j : Nat) (hj : j < 6) : (fltsC l)[i * 6 + j]? = l[i]?.bind fun a => (fltC a)[j]? := by rw [fltsC_eq]; exact flat_get fltC_len l i j hj

theorem flat_take {α : Type} {f : α → List AV} {k : Nat} (hk : ∀ a, (f a).length = k) (d : α) (l : List α) (i j m : Nat) (hi : i < l.length) (hm : j + m ≤ k) : ((l.flatMap f).drop (i * k + j)).take m = ((f (l.getD i d)).drop j).take m := by
  apply List.ext_getElem?
  intro n
  rw [List.getElem?_take, List.getElem?_take]
  split
  · rw [List.getElem?_drop, List.getElem?_drop, Nat.add_assoc, flat_get hk l i (j + n) (by omega), List.getElem?_eq_getElem hi, List.getD_eq_getElem?_getD, List.getElem?_eq_getElem hi]
    rfl
  · rfl
theorem flat_nth {α : Type} {f : α → List AV} {k : Nat} (hk : ∀ a, (f a).length = k) (d : α) (l : List α) (i j : Nat) (hi : i < l.length) (hj : j < k) : (l.flatMap f)[i * k + j]? = (f (l.getD i d))[j]? := by
  rw [flat_get hk l i j hj, List.getElem?_eq_getElem hi, List.getD_eq_getElem?_getD, List.getElem?_eq_getElem hi]
  rfl
theorem flat_nth0 {α : Type} {f : α → List AV} {k : Nat} (hk : ∀ a, (f a).length = k) (d : α) (l : List α) (i : Nat) (hi : i < l.length) (hj : 0 < k) : (l.flatMap f)[i * k]? = (f (l.getD i d))[0]? := flat_nth hk d l i 0 hi hj
/-! Texts that are not too long. -/
def Nm.ok (n : Nm) : Prop := n.sp.size ≤ 1048600 ∧ n.lo.size ≤ 1048600
def Atr.ok (a : Atr) : Prop := a.nm.ok ∧ a.v.size ≤ 1048600
def Ev.ok (e : Ev) : Prop := e.nm.ok ∧ e.text.size ≤ 1048600 ∧ e.attrs.length ≤ 1048600 ∧ ∀ a ∈ e.attrs, a.ok
def nm0 : Nm := ⟨⟨#[]⟩, ⟨#[]⟩⟩
def atr0 : Atr := ⟨nm0, ⟨#[]⟩⟩
def ev0 : Ev := ⟨0, nm0, [], ⟨#[]⟩⟩
def pth0 : Pth := .mk 0 [] []
def flt0 : Flt := .mk 0 nm0 ⟨#[]⟩ [] []
def tr0 : Tr := .mk false ⟨#[]⟩ nm0 [] []
def Pth.op : Pth → Int | .mk op _ _ => op
def Pth.sub : Pth → List Pth | .mk _ s _ => s
def Pth.test : Pth → List Flt | .mk _ _ t => t
def Flt.op : Flt → Int | .mk op _ _ _ _ => op
def Flt.nm : Flt → Nm | .mk _ n _ _ _ => n
def Flt.val : Flt → ByteArray | .mk _ _ v _ _ => v
def Flt.sub : Flt → List Flt | .mk _ _ _ s _ => s
def Flt.way : Flt → List Pth | .mk _ _ _ _ w => w
def Tr.isText : Tr → Bool | .mk b _ _ _ _ => b
def Tr.text : Tr → ByteArray | .mk _ t _ _ _ => t
def Tr.nm : Tr → Nm | .mk _ _ n _ _ => n
def Tr.attrs : Tr → List Atr | .mk _ _ _ a _ => a
def Tr.kids : Tr → List Tr | .mk _ _ _ _ k => k
def pthL (p : Pth) : List AV := [.int .i64 p.op, .sl none p.sub.length (pthsC p.sub) .no, .sl none p.test.length (fltsC p.test) .no]
def fltL (f : Flt) : List AV := [.int .i64 f.op, .str f.nm.sp, .str f.nm.lo, .str f.val, .sl none f.sub.length (fltsC f.sub) .no, .sl none f.way.length (pthsC f.way) .no]
def trL (t : Tr) : List AV := [.bool t.isText, .str t.text, .str t.nm.sp, .str t.nm.lo, .sl none t.attrs.length (atsC t.attrs) .no, .sl none t.kids.length (trsC t.kids) .no]
theorem pthC_L (p : Pth) : pthC p = pthL p := by cases p; rfl
theorem fltC_L (p : Flt) : fltC p = fltL p := by cases p; rfl
theorem trC_L (p : Tr) : trC p = trL p := by cases p; rfl
theorem ats_take (l : List Atr) (i j m : Nat) (hi : i < l.length) (hm : j + m ≤ 3) : ((atsC l).drop (i * 3 + j)).take m = ((atC (l.getD i atr0)).drop j).take m := flat_take atC_len atr0 l i j m hi hm
theorem ats_nth (l : List Atr) (i j : Nat) (hi : i < l.length) (hj : j < 3) : (atsC l)[i * 3 + j]? = (atC (l.getD i atr0))[j]? := flat_nth atC_len atr0 l i j hi hj
theorem evs_take (l : List Ev) (i j m : Nat) (hi : i < l.length) (hm : j + m ≤ 5) : ((evsC l).drop (i * 5 + j)).take m = ((evC (l.getD i ev0)).drop j).take m := flat_take evC_len ev0 l i j m hi hm
theorem evs_nth (l : List Ev) (i j : Nat) (hi : i < l.length) (hj : j < 5) : (evsC l)[i * 5 + j]? = (evC (l.getD i ev0))[j]? := flat_nth evC_len ev0 l i j hi hj
theorem trs_take (l : List Tr) (i j m : Nat) (hi : i < l.length) (hm : j + m ≤ 6) : ((trsC l).drop (i * 6 + j)).take m = ((trL (l.getD i tr0)).drop j).take m := by rw [trsC_eq, ← trC_L]; exact flat_take trC_len tr0 l i j m hi hm
theorem trs_nth (l : List Tr) (i j : Nat) (hi : i < l.length) (hj : j < 6) : (trsC l)[i * 6 + j]? = (trL (l.getD i tr0))[j]? := by rw [trsC_eq, ← trC_L]; exact flat_nth trC_len tr0 l i j hi hj
theorem pths_take (l : List Pth) (i j m : Nat) (hi : i < l.length) (hm : j + m ≤ 3) : ((pthsC l).drop (i * 3 + j)).take m = ((pthL (l.getD i pth0)).drop j).take m := by rw [pthsC_eq, ← pthC_L]; exact flat_take pthC_len pth0 l i j m hi hm
theorem pths_nth (l : List Pth) (i j : Nat) (hi : i < l.length) (hj : j < 3) : (pthsC l)[i * 3 + j]? = (pthL (l.getD i pth0))[j]? := by rw [pthsC_eq, ← pthC_L]; exact flat_nth pthC_len pth0 l i j hi hj
theorem flts_take (l : List Flt) (i j m : Nat) (hi : i < l.length) (hm : j + m ≤ 6) : ((fltsC l).drop (i * 6 + j)).take m = ((fltL (l.getD i flt0)).drop j).take m := by rw [fltsC_eq, ← fltC_L]; exact flat_take fltC_len flt0 l i j m hi hm
theorem flts_nth (l : List Flt) (i j : Nat) (hi : i < l.length) (hj : j < 6) : (fltsC l)[i * 6 + j]? = (fltL (l.getD i flt0))[j]? := by rw [fltsC_eq, ← fltC_L]; exact flat_nth fltC_len flt0 l i j hi hj
theorem ats_take0 (l : List Atr) (i m : Nat) (hi : i < l.length) (hm : m ≤ 3) : ((atsC l).drop (i * 3)).take m = (atC (l.getD i atr0)).take m := by have := ats_take l i 0 m hi (by omega); simpa using this
theorem ats_nth0 (l : List Atr) (i : Nat) (hi : i < l.length) : (atsC l)[i * 3]? = (atC (l.getD i atr0))[0]? := ats_nth l i 0 hi (by decide)
theorem evs_take0 (l : List Ev) (i m : Nat) (hi : i < l.length) (hm : m ≤ 5) : ((evsC l).drop (i * 5)).take m = (evC (l.getD i ev0)).take m := by have := evs_take l i 0 m hi (by omega); simpa using this
theorem evs_nth0 (l : List Ev) (i : Nat) (hi : i < l.length) : (evsC l)[i * 5]? = (evC (l.getD i ev0))[0]? := evs_nth l i 0 hi (by decide)
theorem trs_take0 (l : List Tr) (i m : Nat) (hi : i < l.length) (hm : m ≤ 6) : ((trsC l).drop (i * 6)).take m = (trL (l.getD i tr0)).take m := by have := trs_take l i 0 m hi (by omega); simpa using this
theorem trs_nth0 (l : List Tr) (i : Nat) (hi : i < l.length) : (trsC l)[i * 6]? = (trL (l.getD i tr0))[0]? := trs_nth l i 0 hi (by decide)
theorem pths_take0 (l : List Pth) (i m : Nat) (hi : i < l.length) (hm : m ≤ 3) : ((pthsC l).drop (i * 3)).take m = (pthL (l.getD i pth0)).take m := by have := pths_take l i 0 m hi (by omega); simpa using this
theorem pths_nth0 (l : List Pth) (i : Nat) (hi : i < l.length) : (pthsC l)[i * 3]? = (pthL (l.getD i pth0))[0]? := pths_nth l i 0 hi (by decide)
theorem flts_take0 (l : List Flt) (i m : Nat) (hi : i < l.length) (hm : m ≤ 6) : ((fltsC l).drop (i * 6)).take m = (fltL (l.getD i flt0)).take m := by have := flts_take l i 0 m hi (by omega); simpa using this
theorem flts_nth0 (l : List Flt) (i : Nat) (hi : i < l.length) : (fltsC l)[i * 6]? = (fltL (l.getD i flt0))[0]? := flts_nth l i 0 hi (by decide)
theorem getD_mem {α : Type} (l : List α) (i : Nat) (d : α) (h : i < l.length) : l.getD i d ∈ l := by
  rw [List.getD_eq_getElem?_getD, List.getElem?_eq_getElem h]
  exact List.getElem_mem h
/-! Paths and filters: what is not too great; what is right. -/
mutual
def Pth.ok : Pth → Prop
  | .mk op sub test => sub.length ≤ 1048600 ∧ test.length ≤ 1048600 ∧ oksP sub ∧ oksF test
def oksP : List Pth → Prop
  | [] => True
  | p :: r => p.ok ∧ oksP r
def Flt.ok : Flt → Prop
  | .mk op n v sub way => n.ok ∧ v.size ≤ 1048600 ∧ sub.length ≤ 1048600 ∧ way.length ≤ 1048600 ∧ oksF sub ∧ oksP way
def oksF : List Flt → Prop
  | [] => True
  | p :: r => p.ok ∧ oksF r
end
theorem oksP_mem : ∀ {l : List Pth}, oksP l → ∀ p ∈ l, p.ok
  | p :: r, h, q, hq => by
    simp only [oksP] at h
    rcases List.mem_cons.1 hq with rfl | hq
    · exact h.1
    · exact oksP_mem h.2 q hq
theorem oksF_mem : ∀ {l : List Flt}, oksF l → ∀ p ∈ l, p.ok
  | p :: r, h, q, hq => by
    simp only [oksF] at h
    rcases List.mem_cons.1 hq with rfl | hq
    · exact h.1
    · exact oksF_mem h.2 q hq
theorem Pth.ok_i {p : Pth} (h : p.ok) : p.sub.length ≤ 1048600 ∧ p.test.length ≤ 1048600 ∧ (∀ q ∈ p.sub, q.ok) ∧ ∀ q ∈ p.test, q.ok := by
  cases p
  simp only [Pth.ok] at h
  exact ⟨h.1, h.2.1, oksP_mem h.2.2.1, oksF_mem h.2.2.2⟩
theorem Flt.ok_i {f : Flt} (h : f.ok) : f.nm.ok ∧ f.val.size ≤ 1048600 ∧ f.sub.length ≤ 1048600 ∧ f.way.length ≤ 1048600 ∧ (∀ q ∈ f.sub, q.ok) ∧ ∀ q ∈ f.way, q.ok := by
  cases f
  simp only [Flt.ok] at h
  exact ⟨h.1, h.2.1, h.2.2.1, h.2.2.2.1, oksF_mem h.2.2.2.2.1, oksP_mem h.2.2.2.2.2⟩
def xmlnsB : ByteArray := ByteArray.mk #[104, 116, 116, 112, 58, 47, 47, 119, 119, 119, 46, 119, 51, 46, 111, 114, 103, 47, 50, 48, 48, 48, 47, 120, 109, 108, 110, 115, 47]
/-- What a right name is. -/
structure NmOk (n : Nm) : Prop where
  sp : n.sp ≠ xmlnsB
  plain : exB Tryd.prog 64 [.str n.lo] = true
  lo : exB Tryd.prog 46 [.str n.lo] = true
  rsp : exB Tryd.prog 46 [.str n.sp] = true
structure Pth.r1 (p : Pth) : Prop where
  op : 1 ≤ p.op ∧ p.op ≤ 7
  two : p.op = 4 ∨ p.op = 5 → 2 ≤ p.sub.length
  one : p.op = 6 → p.sub.length = 1
  non : p.op ≠ 4 ∧ p.op ≠ 5 ∧ p.op ≠ 6 → p.sub.length = 0
  test : p.op = 7 ↔ p.test.length = 1
  le : p.test.length ≤ 1
structure Flt.r1 (p : Flt) : Prop where
  op : 1 ≤ p.op ∧ p.op ≤ 11
  two : p.op = 9 ∨ p.op = 10 → 2 ≤ p.sub.length
  one : p.op = 8 → p.sub.length = 1
  non : p.op ≠ 8 ∧ p.op ≠ 9 ∧ p.op ≠ 10 → p.sub.length = 0
  way : p.op = 11 ↔ p.way.length = 1
  le : p.way.length ≤ 1
  named : (4 ≤ p.op ∧ p.op ≤ 6) ↔ p.nm ≠ nm0
  nmd : 4 ≤ p.op ∧ p.op ≤ 6 → NmOk p.nm
  noval : ¬ (p.op = 6 ∨ p.op = 7) → p.val = ⟨#[]⟩
  hasval : p.op = 7 → p.val ≠ ⟨#[]⟩
  val : exB Tryd.prog 46 [.str p.val] = true
mutual
inductive Pth.r : Pth → Prop
  | mk (p : Pth) (h : p.r1) (hs : ∀ q ∈ p.sub, Pth.r q) (ht : ∀ f ∈ p.test, Flt.r f) : Pth.r p
inductive Flt.r : Flt → Prop
  | mk (p : Flt) (h : p.r1) (hs : ∀ q ∈ p.sub, Flt.r q) (ht : ∀ f ∈ p.way, Pth.r f) : Flt.r p
end
theorem all_getD {α : Type} {l : List α} {d : α} {Q : α → Prop} (h : ∀ k, k < l.length → Q (l.getD k d)) : ∀ q ∈ l, Q q := by
  intro q hq
  obtain ⟨k, hk, rfl⟩ := List.getElem_of_mem hq
  have := h k hk
  rwa [List.getD_eq_getElem?_getD, List.getElem?_eq_getElem hk] at this
theorem Pth.r_of {p : Pth} (h : p.r1) (hs : ∀ k, k < p.sub.length → (p.sub.getD k pth0).r) (ht : 0 < p.test.length → (p.test.getD 0 flt0).r) : p.r :=
  .mk p h (all_getD hs) (all_getD (d := flt0) fun k hk => by
    have : k = 0 := by have := h.le; omega
    subst this
    exact ht hk)
theorem Flt.r_of {p : Flt} (h : p.r1) (hs : ∀ k, k < p.sub.length → (p.sub.getD k flt0).r) (ht : 0 < p.way.length → (p.way.getD 0 pth0).r) : p.r :=
  .mk p h (all_getD hs) (all_getD (d := pth0) fun k hk => by
    have : k = 0 := by have := h.le; omega
    subst this
    exact ht hk)
/-- How many are open ahead of a place. -/
def stepE (e : Ev) : Int := if e.kind = 1 then 1 else if e.kind = 3 then -1 else 0
theorem stepE_1 {e : Ev} (h : e.kind = 1) : stepE e = 1 := by simp [stepE, h]
theorem stepE_2 {e : Ev} (h : e.kind = 2) : stepE e = 0 := by simp [stepE, h]
theorem stepE_3 {e : Ev} (h : e.kind = 3) : stepE e = -1 := by simp [stepE, h]
def dep (l : List Ev) : Nat → Int
  | 0 => 0
  | i + 1 => dep l i + stepE (l.getD i ev0)
/-- No two attributes have one name. -/
def DisF (e : Ev) (i : Nat) : Prop := ∀ j k, i ≤ k → j < k → k < e.attrs.length → (e.attrs.getD j atr0).nm ≠ (e.attrs.getD k atr0).nm
def EvR (e : Ev) : Prop := (e.kind = 1 ∨ e.kind = 2 ∨ e.kind = 3) ∧ DisF e 0
theorem ex_imp {α : Type} {R R' Q : α → Prop} (h : ∃ x, R x ∧ Q x) (k : ∀ x, R x → R' x) : ∃ x, R' x ∧ Q x := by
  obtain ⟨x, h1, h2⟩ := h
  exact ⟨x, k x h1, h2⟩
structure DocP (l : List Ev) (k : Nat) : Prop where
  kind : ∀ i, i < k → (l.getD i ev0).kind = 1 ∨ (l.getD i ev0).kind = 2 ∨ (l.getD i ev0).kind = 3
  dis : ∀ i, i < k → DisF (l.getD i ev0) 0
  pos : ∀ i, 0 < i → i < k → 1 ≤ dep l i
  first : 0 < k → (l.getD 0 ev0).kind = 1
theorem DocP.succ {l : List Ev} {i : Nat} (h : DocP l i) (hk : EvR (l.getD i ev0)) (hp : 0 < i → 1 ≤ dep l i) (hf : i = 0 → (l.getD i ev0).kind = 1) : DocP l (i + 1) := by
  refine ⟨fun j hj => ?_, fun j hj => ?_, fun j h0 hj => ?_, fun _ => ?_⟩
  · rcases Nat.lt_or_eq_of_le (Nat.lt_succ_iff.1 hj) with h1 | h1
    · exact h.kind j h1
    · rw [h1]; exact hk.1
  · rcases Nat.lt_or_eq_of_le (Nat.lt_succ_iff.1 hj) with h1 | h1
    · exact h.dis j h1
    · rw [h1]; exact hk.2
  · rcases Nat.lt_or_eq_of_le (Nat.lt_succ_iff.1 hj) with h1 | h1
    · exact h.pos j h0 h1
    · rw [h1]; exact hp (by omega)
  · rcases Nat.eq_zero_or_pos i with h1 | h1
    · subst h1; exact hf rfl
    · exact h.first h1
structure Doc (l : List Ev) : Prop where
  p : DocP l l.length
  ends : dep l l.length = 0
  len : 0 < l.length ∧ l.length ≤ 60
end Go.Proofs.YteimloiaipiadaaDoor
end

section
set_option linter.unusedVariables false
set_option linter.unusedSimpArgs false
set_option maxRecDepth 100000
namespace Go.Proofs.YteimloiaipiadaaDoor
open Go Go.AX
noncomputable def annL : List (Nat × Ann) := (1000046, .callF [] (fun args => .bool (exB Tryd.prog 46 args))) :: (1000064, .callF [] (fun args => .bool (exB Tryd.prog 64 args))) :: (1000047, .callF [] (fun args => .bool (exB Tryd.prog 47 args))) :: (1000066, .callF [] (fun args => .bool (exB Tryd.prog 66 args))) :: (1000022, .callF [] (fun args => .bool (exB Tryd.prog 22 args))) :: (1000010, .callF [] (fun args => .bool (exB Tryd.prog 10 args))) :: (1000010, .callF [] (fun args => .bool (exB Tryd.prog 10 args))) :: (1000078, .callF [] (fun args => .int .i64 (exI Tryd.prog 78 args))) :: annK

theorem nm_ne (a b : Nm) (h : (decide (a.sp = b.sp) && (decide (a.lo = b.lo) && true)) = false) : a ≠ b := by
  intro e
  rw [e] at h
  simp at h

theorem named9_ex (n : Nm) (hn : n.ok) : ∃ x : Bool, (Triv) ∧ Ctr Tryd.prog 47 [.agg (nmC n)] (.bool x) := by
    have H : ∃ x : Bool, (Triv) ∧ PT.holds Tryd.prog Tryd.f47.ntmps (EndsA Γ (.pure [] (.bool x)) Tryd.f47) (.ob (Ctr Tryd.prog 64 [AV.str n.lo] (AV.bool (exB Tryd.prog (64 : FuncId) [AV.str n.lo]))) (.split (exB Tryd.prog (64 : FuncId) [AV.str n.lo]) (.ob (Ctr Tryd.prog 46 [AV.str n.lo] (AV.bool (exB Tryd.prog (46 : FuncId) [AV.str n.lo]))) (.split (exB Tryd.prog (46 : FuncId) [AV.str n.lo]) (.ob (Ctr Tryd.prog 46 [AV.str n.sp] (AV.bool (exB Tryd.prog (46 : FuncId) [AV.str n.sp]))) (.split (exB Tryd.prog (46 : FuncId) [AV.str n.sp]) (.ob ((!decide (n.sp = (ByteArray.mk #[(104 : UInt8), (116 : UInt8), (116 : UInt8), (112 : UInt8), (58 : UInt8), (47 : UInt8), (47 : UInt8), (119 : UInt8), (119 : UInt8), (119 : UInt8), (46 : UInt8), (119 : UInt8), (51 : UInt8), (46 : UInt8), (111 : UInt8), (114 : UInt8), (103 : UInt8), (47 : UInt8), (50 : UInt8), (48 : UInt8), (48 : UInt8), (48 : UInt8), (47 : UInt8), (120 : UInt8), (109 : UInt8), (108 : UInt8), (110 : UInt8), (115 : UInt8), (47 : UInt8)]))) = x) (.tt)) (.ob (false = x) (.tt)))) (.ob (false = x) (.tt)))) (.ob (false = x) (.tt)))) := by
      simp only [PT.holds]
      (repeat' first | exact ⟨_, triv, rfl, trivial⟩ | exact ⟨_, triv, rfl⟩ | refine ex_split (fun _ => ?_) (fun _ => ?_) | refine ex_ob ?_ ?_)
      all_goals first | exact exB_ctr (plain_ex _ hn.2) | exact exB_ctr (right_ex _ hn.1) | exact exB_ctr (right_ex _ hn.2)
    obtain ⟨x, hR, hx⟩ := H
    exact ⟨x, hR, Ctr.mk Γ_ok Tryd.func47 (by kernel_rfl) Tryd.call47 [] (by kernel_rfl) (HT.walk Γ_ok mo_ok (⟨annL, sp47, [], [], .pure [] (.bool x)⟩ : Wk) 4000 (T := .ob (Ctr Tryd.prog 64 [AV.str n.lo] (AV.bool (exB Tryd.prog (64 : FuncId) [AV.str n.lo]))) (.split (exB Tryd.prog (64 : FuncId) [AV.str n.lo]) (.ob (Ctr Tryd.prog 46 [AV.str n.lo] (AV.bool (exB Tryd.prog (46 : FuncId) [AV.str n.lo]))) (.split (exB Tryd.prog (46 : FuncId) [AV.str n.lo]) (.ob (Ctr Tryd.prog 46 [AV.str n.sp] (AV.bool (exB Tryd.prog (46 : FuncId) [AV.str n.sp]))) (.split (exB Tryd.prog (46 : FuncId) [AV.str n.sp]) (.ob ((!decide (n.sp = (ByteArray.mk #[(104 : UInt8), (116 : UInt8), (116 : UInt8), (112 : UInt8), (58 : UInt8), (47 : UInt8), (47 : UInt8), (119 : UInt8), (119 : UInt8), (119 : UInt8), (46 : UInt8), (119 : UInt8), (51 : UInt8), (46 : UInt8), (111 : UInt8), (114 : UInt8), (103 : UInt8), (47 : UInt8), (50 : UInt8), (48 : UInt8), (48 : UInt8), (48 : UInt8), (47 : UInt8), (120 : UInt8), (109 : UInt8), (108 : UInt8), (110 : UInt8), (115 : UInt8), (47 : UInt8)]))) = x) (.tt)) (.ob (false = x) (.tt)))) (.ob (false = x) (.tt)))) (.ob (false = x) (.tt)))) (by kernel_rfl) hx)⟩
theorem named12_ex (n : Nm) (hn : n.ok) : ∃ x : Bool, (Triv) ∧ Ctr Tryd.prog 66 [.agg (nmC n)] (.bool x) := by
    have H : ∃ x : Bool, (Triv) ∧ PT.holds Tryd.prog Tryd.f66.ntmps (EndsA Γ (.pure [] (.bool x)) Tryd.f66) (.split (!decide (n.sp = (ByteArray.mk #[(104 : UInt8), (116 : UInt8), (116 : UInt8), (112 : UInt8), (58 : UInt8), (47 : UInt8), (47 : UInt8), (119 : UInt8), (119 : UInt8), (119 : UInt8), (46 : UInt8), (119 : UInt8), (51 : UInt8), (46 : UInt8), (111 : UInt8), (114 : UInt8), (103 : UInt8), (47 : UInt8), (50 : UInt8), (48 : UInt8), (48 : UInt8), (48 : UInt8), (47 : UInt8), (120 : UInt8), (109 : UInt8), (108 : UInt8), (110 : UInt8), (115 : UInt8), (47 : UInt8)]))) (.ob (Ctr Tryd.prog 64 [AV.str n.lo] (AV.bool (exB Tryd.prog (64 : FuncId) [AV.str n.lo]))) (.split (exB Tryd.prog (64 : FuncId) [AV.str n.lo]) (.ob (Ctr Tryd.prog 46 [AV.str n.lo] (AV.bool (exB Tryd.prog (46 : FuncId) [AV.str n.lo]))) (.split (exB Tryd.prog (46 : FuncId) [AV.str n.lo]) (.ob (Ctr Tryd.prog 46 [AV.str n.sp] (AV.bool (exB Tryd.prog (46 : FuncId) [AV.str n.sp]))) (.split (exB Tryd.prog (46 : FuncId) [AV.str n.sp]) (.ob (Ctr Tryd.prog 78 [AV.str n.sp, AV.int .i64 (0 : Int), AV.str (ByteArray.mk #[(123 : UInt8)])] (AV.int .i64 (exI Tryd.prog (78 : FuncId) [AV.str n.sp, AV.int .i64 (0 : Int), AV.str (ByteArray.mk #[(123 : UInt8)])]))) (.split (decide (exI Tryd.prog (78 : FuncId) [AV.str n.sp, AV.int .i64 (0 : Int), AV.str (ByteArray.mk #[(123 : UInt8)])] < (0 : Int))) (.ob (Ctr Tryd.prog 78 [AV.str n.sp, AV.int .i64 (0 : Int), AV.str (ByteArray.mk #[(125 : UInt8)])] (AV.int .i64 (exI Tryd.prog (78 : FuncId) [AV.str n.sp, AV.int .i64 (0 : Int), AV.str (ByteArray.mk #[(125 : UInt8)])]))) (.ob (decide (exI Tryd.prog (78 : FuncId) [AV.str n.sp, AV.int .i64 (0 : Int), AV.str (ByteArray.mk #[(125 : UInt8)])] < (0 : Int)) = x) (.tt))) (.ob (false = x) (.tt)))) (.ob (false = x) (.tt)))) (.ob (false = x) (.tt)))) (.ob (false = x) (.tt)))) (.ob (false = x) (.tt))) := by
      simp only [PT.holds]
      (repeat' first | exact ⟨_, triv, rfl, trivial⟩ | exact ⟨_, triv, rfl⟩ | refine ex_split (fun _ => ?_) (fun _ => ?_) | refine ex_ob ?_ ?_)
      all_goals first | exact exB_ctr (plain_ex _ hn.2) | exact exB_ctr (right_ex _ hn.1) | exact exB_ctr (right_ex _ hn.2) | exact exI_ctr (find_ex _ _ hn.1 (by decide))
    obtain ⟨x, hR, hx⟩ := H
    exact ⟨x, hR, Ctr.mk Γ_ok Tryd.func66 (by kernel_rfl) Tryd.call66 [] (by kernel_rfl) (HT.walk Γ_ok mo_ok (⟨annL, sp66, [], [], .pure [] (.bool x)⟩ : Wk) 4000 (T := .split (!decide (n.sp = (ByteArray.mk #[(104 : UInt8), (116 : UInt8), (116 : UInt8), (112 : UInt8), (58 : UInt8), (47 : UInt8), (47 : UInt8), (119 : UInt8), (119 : UInt8), (119 : UInt8), (46 : UInt8), (119 : UInt8), (51 : UInt8), (46 : UInt8), (111 : UInt8), (114 : UInt8), (103 : UInt8), (47 : UInt8), (50 : UInt8), (48 : UInt8), (48 : UInt8), (48 : UInt8), (47 : UInt8), (120 : UInt8), (109 : UInt8), (108 : UInt8), (110 : UInt8), (115 : UInt8), (47 : UInt8)]))) (.ob (Ctr Tryd.prog 64 [AV.str n.lo] (AV.bool (exB Tryd.prog (64 : FuncId) [AV.str n.lo]))) (.split (exB Tryd.prog (64 : FuncId) [AV.str n.lo]) (.ob (Ctr Tryd.prog 46 [AV.str n.lo] (AV.bool (exB Tryd.prog (46 : FuncId) [AV.str n.lo]))) (.split (exB Tryd.prog (46 : FuncId) [AV.str n.lo]) (.ob (Ctr Tryd.prog 46 [AV.str n.sp] (AV.bool (exB Tryd.prog (46 : FuncId) [AV.str n.sp]))) (.split (exB Tryd.prog (46 : FuncId) [AV.str n.sp]) (.ob (Ctr Tryd.prog 78 [AV.str n.sp, AV.int .i64 (0 : Int), AV.str (ByteArray.mk #[(123 : UInt8)])] (AV.int .i64 (exI Tryd.prog (78 : FuncId) [AV.str n.sp, AV.int .i64 (0 : Int), AV.str (ByteArray.mk #[(123 : UInt8)])]))) (.split (decide (exI Tryd.prog (78 : FuncId) [AV.str n.sp, AV.int .i64 (0 : Int), AV.str (ByteArray.mk #[(123 : UInt8)])] < (0 : Int))) (.ob (Ctr Tryd.prog 78 [AV.str n.sp, AV.int .i64 (0 : Int), AV.str (ByteArray.mk #[(125 : UInt8)])] (AV.int .i64 (exI Tryd.prog (78 : FuncId) [AV.str n.sp, AV.int .i64 (0 : Int), AV.str (ByteArray.mk #[(125 : UInt8)])]))) (.ob (decide (exI Tryd.prog (78 : FuncId) [AV.str n.sp, AV.int .i64 (0 : Int), AV.str (ByteArray.mk #[(125 : UInt8)])] < (0 : Int)) = x) (.tt))) (.ob (false = x) (.tt)))) (.ob (false = x) (.tt)))) (.ob (false = x) (.tt)))) (.ob (false = x) (.tt)))) (.ob (false = x) (.tt))) (by kernel_rfl) hx)⟩
def stE0 (e : Ev) (i : Nat) : AS := ⟨[(1, .ptr 1 0), (4, .int .i64 i)], [(1, .var true (evC e))], []⟩
def stE1 (e : Ev) (i j : Nat) : AS := ⟨[(1, .ptr 1 0), (4, .int .i64 i), (5, .int .i64 j)], [(1, .var true (evC e))], []⟩
theorem evr_h1 (e : Ev) (i j : Nat) (hj : j ≤ i) (hi : i < e.attrs.length) (he : e.attrs.length ≤ 1048600) (ih : j < i → ∃ x : Bool, (x = true → (e.kind = 1 ∨ e.kind = 2 ∨ e.kind = 3) ∧ DisF e (i + 1) ∧ ∀ k, (j + 1) ≤ k → k < i → (e.attrs.getD k atr0).nm ≠ (e.attrs.getD i atr0).nm) ∧ HT Tryd.prog Tryd.f22.ntmps (pt Tryd.f22 1) (stE1 e i (j + 1)) (EndsA Γ (.pure [] (.bool x)) Tryd.f22)) (k0 : ∃ x : Bool, (x = true → (e.kind = 1 ∨ e.kind = 2 ∨ e.kind = 3) ∧ DisF e (i + 1)) ∧ HT Tryd.prog Tryd.f22.ntmps (pt Tryd.f22 0) (stE0 e (i + 1)) (EndsA Γ (.pure [] (.bool x)) Tryd.f22)) : ∃ x : Bool, (x = true → (e.kind = 1 ∨ e.kind = 2 ∨ e.kind = 3) ∧ DisF e (i + 1) ∧ ∀ k, j ≤ k → k < i → (e.attrs.getD k atr0).nm ≠ (e.attrs.getD i atr0).nm) ∧ HT Tryd.prog Tryd.f22.ntmps (pt Tryd.f22 1) (stE1 e i j) (EndsA Γ (.pure [] (.bool x)) Tryd.f22) := by
    have H : ∃ x : Bool, (x = true → (e.kind = 1 ∨ e.kind = 2 ∨ e.kind = 3) ∧ DisF e (i + 1) ∧ ∀ k, j ≤ k → k < i → (e.attrs.getD k atr0).nm ≠ (e.attrs.getD i atr0).nm) ∧ PT.holds Tryd.prog Tryd.f22.ntmps (EndsA Γ (.pure [] (.bool x)) Tryd.f22) (.split (decide ((↑j : Int) < (↑i : Int))) (.or (.ob ((0 : Int) ≤ (↑j : Int) ∧ (↑j : Int) < (↑e.attrs.length : Int) ∧ (↑j : Int).toNat * (3 : Nat) < (atsC e.attrs).length) (.ob (List.take (2 : Nat) (List.drop ((↑j : Int).toNat * (3 : Nat) + (0 : Nat)) (atsC e.attrs)) = [AV.str (e.attrs.getD j atr0).nm.sp, AV.str (e.attrs.getD j atr0).nm.lo]) (.ob ((0 : Int) ≤ (↑i : Int) ∧ (↑i : Int) < (↑e.attrs.length : Int) ∧ (↑i : Int).toNat * (3 : Nat) < (atsC e.attrs).length) (.ob (List.take (2 : Nat) (List.drop ((↑i : Int).toNat * (3 : Nat) + (0 : Nat)) (atsC e.attrs)) = [AV.str (e.attrs.getD i atr0).nm.sp, AV.str (e.attrs.getD i atr0).nm.lo]) (.ob ((decide ((e.attrs.getD j atr0).nm.sp = (e.attrs.getD i atr0).nm.sp) && (decide ((e.attrs.getD j atr0).nm.lo = (e.attrs.getD i atr0).nm.lo) && true)) = true) (.ob (false = x) (.tt))))))) (.ob ((0 : Int) ≤ (↑j : Int) ∧ (↑j : Int) < (↑e.attrs.length : Int) ∧ (↑j : Int).toNat * (3 : Nat) < (atsC e.attrs).length) (.ob (List.take (2 : Nat) (List.drop ((↑j : Int).toNat * (3 : Nat) + (0 : Nat)) (atsC e.attrs)) = [AV.str (e.attrs.getD j atr0).nm.sp, AV.str (e.attrs.getD j atr0).nm.lo]) (.ob ((0 : Int) ≤ (↑i : Int) ∧ (↑i : Int) < (↑e.attrs.length : Int) ∧ (↑i : Int).toNat * (3 : Nat) < (atsC e.attrs).length) (.ob (List.take (2 : Nat) (List.drop ((↑i : Int).toNat * (3 : Nat) + (0 : Nat)) (atsC e.attrs)) = [AV.str (e.attrs.getD i atr0).nm.sp, AV.str (e.attrs.getD i atr0).nm.lo]) (.ob ((decide ((e.attrs.getD j atr0).nm.sp = (e.attrs.getD i atr0).nm.sp) && (decide ((e.attrs.getD j atr0).nm.lo = (e.attrs.getD i atr0).nm.lo) && true)) = false) (.head (pt Tryd.f22 1) ({ tmps := [(1, AV.ptr 1 0), (4, AV.int .i64 (↑i : Int)), (5, AV.int .i64 (IntKind.i64.wrap ((↑j : Int) + (1 : Int))))], heap := [(1, .var true (evC e))], tags := [] })))))))) (.head (pt Tryd.f22 0) ({ tmps := [(1, AV.ptr 1 0), (4, AV.int .i64 (IntKind.i64.wrap ((↑i : Int) + (1 : Int))))], heap := [(1, .var true (evC e))], tags := [] }))) := by
      have w2 : IntKind.i64.wrap ((i : Int) + 1) = ((i + 1 : Nat) : Int) := by rw [i64_wrap (by omega) (by omega)]; rfl
      have w3 : IntKind.i64.wrap ((j : Int) + 1) = ((j + 1 : Nat) : Int) := by rw [i64_wrap (by omega) (by omega)]; rfl
      simp only [PT.holds, w2, w3, Int.toNat_natCast, atsC_len]
      by_cases hji : j < i
      · have hj' : j < e.attrs.length := by omega
        have ih' := fun (hji : j < i) (hne : (e.attrs.getD j atr0).nm ≠ (e.attrs.getD i atr0).nm) => ex_imp (R' := fun x : Bool => x = true → (e.kind = 1 ∨ e.kind = 2 ∨ e.kind = 3) ∧ DisF e (i + 1) ∧ ∀ k, j ≤ k → k < i → (e.attrs.getD k atr0).nm ≠ (e.attrs.getD i atr0).nm) (ih hji) (fun x hx h => ⟨(hx h).1, (hx h).2.1, fun k h1 h2 => (by
          rcases Nat.lt_or_eq_of_le h1 with h3 | h3
          · exact (hx h).2.2 k h3 h2
          · rw [← h3]; exact hne)⟩)
        have hne0 := nm_ne (e.attrs.getD j atr0).nm (e.attrs.getD i atr0).nm
        cases hc : (decide ((e.attrs.getD j atr0).nm.sp = (e.attrs.getD i atr0).nm.sp) && (decide ((e.attrs.getD j atr0).nm.lo = (e.attrs.getD i atr0).nm.lo) && true))
        · have hne := hne0 hc
          refine ex_split (fun _ => ex_or2 ?_) (fun _ => ?_)
          all_goals (repeat' first | exact ⟨_, triv, rfl, trivial⟩ | exact ⟨_, triv, rfl⟩ | refine ex_split (fun _ => ?_) (fun _ => ?_) | refine ex_ob ?_ ?_)
          all_goals first | exact ih' hji hne | rfl | omega | ((try simp only [Nat.add_assoc, Nat.reduceAdd, Nat.add_zero]) <;> first | (rw [ats_take _ _ _ _ hi (by decide)]; rfl) | (rw [ats_nth _ _ _ hi (by decide)]; rfl) | (rw [evs_take _ _ _ _ hi (by decide)]; rfl) | (rw [evs_nth _ _ _ hi (by decide)]; rfl) | (rw [trs_take _ _ _ _ hi (by decide)]; rfl) | (rw [trs_nth _ _ _ hi (by decide)]; rfl) | (rw [pths_take _ _ _ _ hi (by decide)]; rfl) | (rw [pths_nth _ _ _ hi (by decide)]; rfl) | (rw [flts_take _ _ _ _ hi (by decide)]; rfl) | (rw [flts_nth _ _ _ hi (by decide)]; rfl) | (rw [ats_take0 _ _ _ hi (by decide)]; rfl) | (rw [ats_nth0 _ _ hi]; rfl) | (rw [evs_take0 _ _ _ hi (by decide)]; rfl) | (rw [evs_nth0 _ _ hi]; rfl) | (rw [trs_take0 _ _ _ hi (by decide)]; rfl) | (rw [trs_nth0 _ _ hi]; rfl) | (rw [pths_take0 _ _ _ hi (by decide)]; rfl) | (rw [pths_nth0 _ _ hi]; rfl) | (rw [flts_take0 _ _ _ hi (by decide)]; rfl) | (rw [flts_nth0 _ _ hi]; rfl)) | ((try simp only [Nat.add_assoc, Nat.reduceAdd, Nat.add_zero]) <;> first | (rw [ats_take _ _ _ _ hj' (by decide)]; rfl) | (rw [ats_nth _ _ _ hj' (by decide)]; rfl) | (rw [evs_take _ _ _ _ hj' (by decide)]; rfl) | (rw [evs_nth _ _ _ hj' (by decide)]; rfl) | (rw [trs_take _ _ _ _ hj' (by decide)]; rfl) | (rw [trs_nth _ _ _ hj' (by decide)]; rfl) | (rw [pths_take _ _ _ _ hj' (by decide)]; rfl) | (rw [pths_nth _ _ _ hj' (by decide)]; rfl) | (rw [flts_take _ _ _ _ hj' (by decide)]; rfl) | (rw [flts_nth _ _ _ hj' (by decide)]; rfl) | (rw [ats_take0 _ _ _ hj' (by decide)]; rfl) | (rw [ats_nth0 _ _ hj']; rfl) | (rw [evs_take0 _ _ _ hj' (by decide)]; rfl) | (rw [evs_nth0 _ _ hj']; rfl) | (rw [trs_take0 _ _ _ hj' (by decide)]; rfl) | (rw [trs_nth0 _ _ hj']; rfl) | (rw [pths_take0 _ _ _ hj' (by decide)]; rfl) | (rw [pths_nth0 _ _ hj']; rfl) | (rw [flts_take0 _ _ _ hj' (by decide)]; rfl) | (rw [flts_nth0 _ _ hj']; rfl)) | (exfalso; (first | omega | (simp only [decide_eq_true_eq, decide_eq_false_iff_not, Bool.not_eq_true', Bool.not_eq_false'] at *; omega)))
        · refine ex_split (fun _ => ex_or1 ?_) (fun _ => ?_)
          all_goals (repeat' first | exact ⟨_, triv, rfl, trivial⟩ | exact ⟨_, triv, rfl⟩ | refine ex_split (fun _ => ?_) (fun _ => ?_) | refine ex_ob ?_ ?_)
          all_goals first | exact ⟨_, fun h => (by cases h), rfl, trivial⟩ | rfl | omega | ((try simp only [Nat.add_assoc, Nat.reduceAdd, Nat.add_zero]) <;> first | (rw [ats_take _ _ _ _ hi (by decide)]; rfl) | (rw [ats_nth _ _ _ hi (by decide)]; rfl) | (rw [evs_take _ _ _ _ hi (by decide)]; rfl) | (rw [evs_nth _ _ _ hi (by decide)]; rfl) | (rw [trs_take _ _ _ _ hi (by decide)]; rfl) | (rw [trs_nth _ _ _ hi (by decide)]; rfl) | (rw [pths_take _ _ _ _ hi (by decide)]; rfl) | (rw [pths_nth _ _ _ hi (by decide)]; rfl) | (rw [flts_take _ _ _ _ hi (by decide)]; rfl) | (rw [flts_nth _ _ _ hi (by decide)]; rfl) | (rw [ats_take0 _ _ _ hi (by decide)]; rfl) | (rw [ats_nth0 _ _ hi]; rfl) | (rw [evs_take0 _ _ _ hi (by decide)]; rfl) | (rw [evs_nth0 _ _ hi]; rfl) | (rw [trs_take0 _ _ _ hi (by decide)]; rfl) | (rw [trs_nth0 _ _ hi]; rfl) | (rw [pths_take0 _ _ _ hi (by decide)]; rfl) | (rw [pths_nth0 _ _ hi]; rfl) | (rw [flts_take0 _ _ _ hi (by decide)]; rfl) | (rw [flts_nth0 _ _ hi]; rfl)) | ((try simp only [Nat.add_assoc, Nat.reduceAdd, Nat.add_zero]) <;> first | (rw [ats_take _ _ _ _ hj' (by decide)]; rfl) | (rw [ats_nth _ _ _ hj' (by decide)]; rfl) | (rw [evs_take _ _ _ _ hj' (by decide)]; rfl) | (rw [evs_nth _ _ _ hj' (by decide)]; rfl) | (rw [trs_take _ _ _ _ hj' (by decide)]; rfl) | (rw [trs_nth _ _ _ hj' (by decide)]; rfl) | (rw [pths_take _ _ _ _ hj' (by decide)]; rfl) | (rw [pths_nth _ _ _ hj' (by decide)]; rfl) | (rw [flts_take _ _ _ _ hj' (by decide)]; rfl) | (rw [flts_nth _ _ _ hj' (by decide)]; rfl) | (rw [ats_take0 _ _ _ hj' (by decide)]; rfl) | (rw [ats_nth0 _ _ hj']; rfl) | (rw [evs_take0 _ _ _ hj' (by decide)]; rfl) | (rw [evs_nth0 _ _ hj']; rfl) | (rw [trs_take0 _ _ _ hj' (by decide)]; rfl) | (rw [trs_nth0 _ _ hj']; rfl) | (rw [pths_take0 _ _ _ hj' (by decide)]; rfl) | (rw [pths_nth0 _ _ hj']; rfl) | (rw [flts_take0 _ _ _ hj' (by decide)]; rfl) | (rw [flts_nth0 _ _ hj']; rfl)) | (exfalso; (first | omega | (simp only [decide_eq_true_eq, decide_eq_false_iff_not, Bool.not_eq_true', Bool.not_eq_false'] at *; omega)))
      · refine ex_split (fun h => ?_) (fun _ => ex_imp k0 fun x hx h => ⟨(hx h).1, (hx h).2, fun k h1 h2 => absurd h2 (by omega)⟩)
        exfalso; (first | omega | (simp only [decide_eq_true_eq, decide_eq_false_iff_not, Bool.not_eq_true', Bool.not_eq_false'] at *; omega))
    obtain ⟨x, hR, hx⟩ := H
    exact ⟨x, hR, HT.walk Γ_ok mo_ok (⟨([(94, .val (.agg (nmC (e.attrs.getD j atr0).nm))), (100, .val (.agg (nmC (e.attrs.getD i atr0).nm)))] ++ annL), sp22, hd22 [] [] [] [], dsp22, .pure [] (.bool x)⟩ : Wk) 4000 (T := .split (decide ((↑j : Int) < (↑i : Int))) (.or (.ob ((0 : Int) ≤ (↑j : Int) ∧ (↑j : Int) < (↑e.attrs.length : Int) ∧ (↑j : Int).toNat * (3 : Nat) < (atsC e.attrs).length) (.ob (List.take (2 : Nat) (List.drop ((↑j : Int).toNat * (3 : Nat) + (0 : Nat)) (atsC e.attrs)) = [AV.str (e.attrs.getD j atr0).nm.sp, AV.str (e.attrs.getD j atr0).nm.lo]) (.ob ((0 : Int) ≤ (↑i : Int) ∧ (↑i : Int) < (↑e.attrs.length : Int) ∧ (↑i : Int).toNat * (3 : Nat) < (atsC e.attrs).length) (.ob (List.take (2 : Nat) (List.drop ((↑i : Int).toNat * (3 : Nat) + (0 : Nat)) (atsC e.attrs)) = [AV.str (e.attrs.getD i atr0).nm.sp, AV.str (e.attrs.getD i atr0).nm.lo]) (.ob ((decide ((e.attrs.getD j atr0).nm.sp = (e.attrs.getD i atr0).nm.sp) && (decide ((e.attrs.getD j atr0).nm.lo = (e.attrs.getD i atr0).nm.lo) && true)) = true) (.ob (false = x) (.tt))))))) (.ob ((0 : Int) ≤ (↑j : Int) ∧ (↑j : Int) < (↑e.attrs.length : Int) ∧ (↑j : Int).toNat * (3 : Nat) < (atsC e.attrs).length) (.ob (List.take (2 : Nat) (List.drop ((↑j : Int).toNat * (3 : Nat) + (0 : Nat)) (atsC e.attrs)) = [AV.str (e.attrs.getD j atr0).nm.sp, AV.str (e.attrs.getD j atr0).nm.lo]) (.ob ((0 : Int) ≤ (↑i : Int) ∧ (↑i : Int) < (↑e.attrs.length : Int) ∧ (↑i : Int).toNat * (3 : Nat) < (atsC e.attrs).length) (.ob (List.take (2 : Nat) (List.drop ((↑i : Int).toNat * (3 : Nat) + (0 : Nat)) (atsC e.attrs)) = [AV.str (e.attrs.getD i atr0).nm.sp, AV.str (e.attrs.getD i atr0).nm.lo]) (.ob ((decide ((e.attrs.getD j atr0).nm.sp = (e.attrs.getD i atr0).nm.sp) && (decide ((e.attrs.getD j atr0).nm.lo = (e.attrs.getD i atr0).nm.lo) && true)) = false) (.head (pt Tryd.f22 1) ({ tmps := [(1, AV.ptr 1 0), (4, AV.int .i64 (↑i : Int)), (5, AV.int .i64 (IntKind.i64.wrap ((↑j : Int) + (1 : Int))))], heap := [(1, .var true (evC e))], tags := [] })))))))) (.head (pt Tryd.f22 0) ({ tmps := [(1, AV.ptr 1 0), (4, AV.int .i64 (IntKind.i64.wrap ((↑i : Int) + (1 : Int))))], heap := [(1, .var true (evC e))], tags := [] }))) (by kernel_rfl) hx⟩
theorem evr_h0 (e : Ev) (i : Nat) (he : e.ok) (hi : i ≤ e.attrs.length) (k1 : i < e.attrs.length → ∃ x : Bool, (x = true → (e.kind = 1 ∨ e.kind = 2 ∨ e.kind = 3) ∧ DisF e (i + 1) ∧ ∀ k, 0 ≤ k → k < i → (e.attrs.getD k atr0).nm ≠ (e.attrs.getD i atr0).nm) ∧ HT Tryd.prog Tryd.f22.ntmps (pt Tryd.f22 1) (stE1 e i 0) (EndsA Γ (.pure [] (.bool x)) Tryd.f22)) (hk : e.kind = 1) : ∃ x : Bool, (x = true → (e.kind = 1 ∨ e.kind = 2 ∨ e.kind = 3) ∧ DisF e (i)) ∧ HT Tryd.prog Tryd.f22.ntmps (pt Tryd.f22 0) (stE0 e i) (EndsA Γ (.pure [] (.bool x)) Tryd.f22) := by
    have H : ∃ x : Bool, (x = true → (e.kind = 1 ∨ e.kind = 2 ∨ e.kind = 3) ∧ DisF e (i)) ∧ PT.holds Tryd.prog Tryd.f22.ntmps (EndsA Γ (.pure [] (.bool x)) Tryd.f22) (.split (decide ((↑i : Int) < (↑e.attrs.length : Int))) (.ob ((0 : Int) ≤ (↑i : Int) ∧ (↑i : Int) < (↑e.attrs.length : Int) ∧ (↑i : Int).toNat * (3 : Nat) < (atsC e.attrs).length) (.ob (List.take (2 : Nat) (List.drop ((↑i : Int).toNat * (3 : Nat) + (0 : Nat)) (atsC e.attrs)) = [AV.str (e.attrs.getD i atr0).nm.sp, AV.str (e.attrs.getD i atr0).nm.lo]) (.ob (Ctr Tryd.prog 47 [AV.agg [AV.str (e.attrs.getD i atr0).nm.sp, AV.str (e.attrs.getD i atr0).nm.lo]] (AV.bool (exB Tryd.prog (47 : FuncId) [AV.agg [AV.str (e.attrs.getD i atr0).nm.sp, AV.str (e.attrs.getD i atr0).nm.lo]]))) (.split (exB Tryd.prog (47 : FuncId) [AV.agg [AV.str (e.attrs.getD i atr0).nm.sp, AV.str (e.attrs.getD i atr0).nm.lo]]) (.ob ((0 : Int) ≤ (↑i : Int) ∧ (↑i : Int) < (↑e.attrs.length : Int) ∧ (↑i : Int).toNat * (3 : Nat) < (atsC e.attrs).length) (.ob ((atsC e.attrs)[(↑i : Int).toNat * (3 : Nat) + (2 : Nat)]? = some (AV.str (e.attrs.getD i atr0).v)) (.ob (Ctr Tryd.prog 46 [AV.str (e.attrs.getD i atr0).v] (AV.bool (exB Tryd.prog (46 : FuncId) [AV.str (e.attrs.getD i atr0).v]))) (.split (exB Tryd.prog (46 : FuncId) [AV.str (e.attrs.getD i atr0).v]) (.head (pt Tryd.f22 1) ({ tmps := [(1, AV.ptr 1 0), (4, AV.int .i64 (↑i : Int)), (5, AV.int .i64 (0 : Int))], heap := [(1, .var true (evC e))], tags := [] })) (.ob (false = x) (.tt)))))) (.ob (false = x) (.tt)))))) (.ob (true = x) (.tt))) := by
      simp only [PT.holds, Int.toNat_natCast, atsC_len]
      by_cases h : i < e.attrs.length
      · have ha := he.2.2.2 _ (getD_mem e.attrs i atr0 h)
        have k1' := ex_imp (R' := fun x : Bool => x = true → (e.kind = 1 ∨ e.kind = 2 ∨ e.kind = 3) ∧ DisF e (i)) (k1 h) (fun x hx hh => ⟨(hx hh).1, fun j k h1 h2 h3 => (by
          rcases Nat.lt_or_eq_of_le h1 with h4 | h4
          · exact (hx hh).2.1 j k h4 h2 h3
          · subst h4; exact (hx hh).2.2 j (Nat.zero_le _) h2)⟩)
        (repeat' first | exact ⟨_, triv, rfl, trivial⟩ | exact ⟨_, triv, rfl⟩ | refine ex_split (fun _ => ?_) (fun _ => ?_) | refine ex_ob ?_ ?_)
        all_goals first | exact k1' | ((try simp only [Nat.add_assoc, Nat.reduceAdd, Nat.add_zero]) <;> first | (rw [ats_take _ _ _ _ h (by decide)]; rfl) | (rw [ats_nth _ _ _ h (by decide)]; rfl) | (rw [evs_take _ _ _ _ h (by decide)]; rfl) | (rw [evs_nth _ _ _ h (by decide)]; rfl) | (rw [trs_take _ _ _ _ h (by decide)]; rfl) | (rw [trs_nth _ _ _ h (by decide)]; rfl) | (rw [pths_take _ _ _ _ h (by decide)]; rfl) | (rw [pths_nth _ _ _ h (by decide)]; rfl) | (rw [flts_take _ _ _ _ h (by decide)]; rfl) | (rw [flts_nth _ _ _ h (by decide)]; rfl) | (rw [ats_take0 _ _ _ h (by decide)]; rfl) | (rw [ats_nth0 _ _ h]; rfl) | (rw [evs_take0 _ _ _ h (by decide)]; rfl) | (rw [evs_nth0 _ _ h]; rfl) | (rw [trs_take0 _ _ _ h (by decide)]; rfl) | (rw [trs_nth0 _ _ h]; rfl) | (rw [pths_take0 _ _ _ h (by decide)]; rfl) | (rw [pths_nth0 _ _ h]; rfl) | (rw [flts_take0 _ _ _ h (by decide)]; rfl) | (rw [flts_nth0 _ _ h]; rfl)) | exact exB_ctr (named9_ex _ ha.1) | exact exB_ctr (right_ex _ ha.2) | omega | (first | exact ⟨_, (fun h => absurd h (by decide)), rfl, trivial⟩ | exact ⟨_, (fun h => absurd h (by decide)), rfl⟩) | (exfalso; (first | omega | (simp only [decide_eq_true_eq, decide_eq_false_iff_not, Bool.not_eq_true', Bool.not_eq_false'] at *; omega)))
      · (repeat' first | exact ⟨_, triv, rfl, trivial⟩ | exact ⟨_, triv, rfl⟩ | refine ex_split (fun _ => ?_) (fun _ => ?_) | refine ex_ob ?_ ?_)
        all_goals first | exact ⟨_, fun _ => ⟨.inl hk, fun j k h1 h2 h3 => absurd h3 (by omega)⟩, rfl, trivial⟩ | (exfalso; (first | omega | (simp only [decide_eq_true_eq, decide_eq_false_iff_not, Bool.not_eq_true', Bool.not_eq_false'] at *; omega)))
    obtain ⟨x, hR, hx⟩ := H
    exact ⟨x, hR, HT.walk Γ_ok mo_ok (⟨([(71, .val (.agg (nmC (e.attrs.getD i atr0).nm))), (80, .val (.str (e.attrs.getD i atr0).v))] ++ annL), sp22, hd22 [] [] [] [], dsp22, .pure [] (.bool x)⟩ : Wk) 4000 (T := .split (decide ((↑i : Int) < (↑e.attrs.length : Int))) (.ob ((0 : Int) ≤ (↑i : Int) ∧ (↑i : Int) < (↑e.attrs.length : Int) ∧ (↑i : Int).toNat * (3 : Nat) < (atsC e.attrs).length) (.ob (List.take (2 : Nat) (List.drop ((↑i : Int).toNat * (3 : Nat) + (0 : Nat)) (atsC e.attrs)) = [AV.str (e.attrs.getD i atr0).nm.sp, AV.str (e.attrs.getD i atr0).nm.lo]) (.ob (Ctr Tryd.prog 47 [AV.agg [AV.str (e.attrs.getD i atr0).nm.sp, AV.str (e.attrs.getD i atr0).nm.lo]] (AV.bool (exB Tryd.prog (47 : FuncId) [AV.agg [AV.str (e.attrs.getD i atr0).nm.sp, AV.str (e.attrs.getD i atr0).nm.lo]]))) (.split (exB Tryd.prog (47 : FuncId) [AV.agg [AV.str (e.attrs.getD i atr0).nm.sp, AV.str (e.attrs.getD i atr0).nm.lo]]) (.ob ((0 : Int) ≤ (↑i : Int) ∧ (↑i : Int) < (↑e.attrs.length : Int) ∧ (↑i : Int).toNat * (3 : Nat) < (atsC e.attrs).length) (.ob ((atsC e.attrs)[(↑i : Int).toNat * (3 : Nat) + (2 : Nat)]? = some (AV.str (e.attrs.getD i atr0).v)) (.ob (Ctr Tryd.prog 46 [AV.str (e.attrs.getD i atr0).v] (AV.bool (exB Tryd.prog (46 : FuncId) [AV.str (e.attrs.getD i atr0).v]))) (.split (exB Tryd.prog (46 : FuncId) [AV.str (e.attrs.getD i atr0).v]) (.head (pt Tryd.f22 1) ({ tmps := [(1, AV.ptr 1 0), (4, AV.int .i64 (↑i : Int)), (5, AV.int .i64 (0 : Int))], heap := [(1, .var true (evC e))], tags := [] })) (.ob (false = x) (.tt)))))) (.ob (false = x) (.tt)))))) (.ob (true = x) (.tt))) (by kernel_rfl) hx⟩
theorem evr_l1 (e : Ev) (i : Nat) (hi : i < e.attrs.length) (he : e.attrs.length ≤ 1048600) (k0 : ∃ x : Bool, (x = true → (e.kind = 1 ∨ e.kind = 2 ∨ e.kind = 3) ∧ DisF e (i + 1)) ∧ HT Tryd.prog Tryd.f22.ntmps (pt Tryd.f22 0) (stE0 e (i + 1)) (EndsA Γ (.pure [] (.bool x)) Tryd.f22)) : ∀ d j, j + d = i → ∃ x : Bool, (x = true → (e.kind = 1 ∨ e.kind = 2 ∨ e.kind = 3) ∧ DisF e (i + 1) ∧ ∀ k, j ≤ k → k < i → (e.attrs.getD k atr0).nm ≠ (e.attrs.getD i atr0).nm) ∧ HT Tryd.prog Tryd.f22.ntmps (pt Tryd.f22 1) (stE1 e i j) (EndsA Γ (.pure [] (.bool x)) Tryd.f22) := by
  intro d
  induction d with
  | zero => exact fun j h => evr_h1 e i j (by omega) hi he (fun h => by omega) k0
  | succ d ih => exact fun j h => evr_h1 e i j (by omega) hi he (fun h => ih (j + 1) (by omega)) k0
theorem evr_l0 (e : Ev) (he : e.ok) (hk : e.kind = 1) : ∀ d i, i + d = e.attrs.length → ∃ x : Bool, (x = true → (e.kind = 1 ∨ e.kind = 2 ∨ e.kind = 3) ∧ DisF e (i)) ∧ HT Tryd.prog Tryd.f22.ntmps (pt Tryd.f22 0) (stE0 e i) (EndsA Γ (.pure [] (.bool x)) Tryd.f22) := by
  intro d
  induction d with
  | zero => exact fun i h => evr_h0 e i he (by omega) (fun h => by omega) hk
  | succ d ih => exact fun i h => evr_h0 e i he (by omega) (fun h => evr_l1 e i h he.2.2.1 (ih (i + 1) (by omega)) i 0 (by omega)) hk

theorem evr_ex (e : Ev) (he : e.ok) : ∃ x : Bool, (x = true → EvR e) ∧ Ctr Tryd.prog 22 [.agg (evC e)] (.bool x) := by
    have H : ∃ x : Bool, (x = true → EvR e) ∧ PT.holds Tryd.prog Tryd.f22.ntmps (EndsA Γ (.pure [] (.bool x)) Tryd.f22) (.ob ((3 : Nat) ≤ (5 : Nat)) (.split (decide (e.nm.sp = (ByteArray.mk #[])) && (decide (e.nm.lo = (ByteArray.mk #[])) && true)) (.split (decide (e.kind = (2 : Int))) (.split (decide ((↑e.attrs.length : Int) = (0 : Int))) (.split (!decide (e.text = (ByteArray.mk #[]))) (.ob (Ctr Tryd.prog 46 [AV.str e.text] (AV.bool (exB Tryd.prog (46 : FuncId) [AV.str e.text]))) (.ob (exB Tryd.prog (46 : FuncId) [AV.str e.text] = x) (.tt))) (.ob (false = x) (.tt))) (.ob (false = x) (.tt))) (.split (decide (e.kind = (3 : Int))) (.split (decide ((↑e.attrs.length : Int) = (0 : Int))) (.ob (decide (e.text = (ByteArray.mk #[])) = x) (.tt)) (.ob (false = x) (.tt))) (.split (!decide (e.kind = (1 : Int))) (.ob (false = x) (.tt)) (.split (!decide (e.text = (ByteArray.mk #[]))) (.ob (false = x) (.tt)) (.ob ((3 : Nat) ≤ (5 : Nat)) (.ob (Ctr Tryd.prog 47 [AV.agg [AV.str e.nm.sp, AV.str e.nm.lo]] (AV.bool (exB Tryd.prog (47 : FuncId) [AV.agg [AV.str e.nm.sp, AV.str e.nm.lo]]))) (.split (exB Tryd.prog (47 : FuncId) [AV.agg [AV.str e.nm.sp, AV.str e.nm.lo]]) (.split (decide ((32 : Int) < (↑e.attrs.length : Int))) (.ob (false = x) (.tt)) (.head (pt Tryd.f22 0) ({ tmps := [(1, AV.ptr 1 0), (4, AV.int .i64 (0 : Int))], heap := [(1, .var true (evC e))], tags := [] }))) (.ob (false = x) (.tt))))))))) (.split (decide (e.kind = (2 : Int))) (.split (false) (.split (!decide (e.text = (ByteArray.mk #[]))) (.ob (Ctr Tryd.prog 46 [AV.str e.text] (AV.bool (exB Tryd.prog (46 : FuncId) [AV.str e.text]))) (.ob (exB Tryd.prog (46 : FuncId) [AV.str e.text] = x) (.tt))) (.ob (false = x) (.tt))) (.ob (false = x) (.tt))) (.split (decide (e.kind = (3 : Int))) (.split (false) (.ob (decide (e.text = (ByteArray.mk #[])) = x) (.tt)) (.ob (false = x) (.tt))) (.split (!decide (e.kind = (1 : Int))) (.ob (false = x) (.tt)) (.split (!decide (e.text = (ByteArray.mk #[]))) (.ob (false = x) (.tt)) (.ob ((3 : Nat) ≤ (5 : Nat)) (.ob (Ctr Tryd.prog 47 [AV.agg [AV.str e.nm.sp, AV.str e.nm.lo]] (AV.bool (exB Tryd.prog (47 : FuncId) [AV.agg [AV.str e.nm.sp, AV.str e.nm.lo]]))) (.split (exB Tryd.prog (47 : FuncId) [AV.agg [AV.str e.nm.sp, AV.str e.nm.lo]]) (.split (decide ((32 : Int) < (↑e.attrs.length : Int))) (.ob (false = x) (.tt)) (.head (pt Tryd.f22 0) ({ tmps := [(1, AV.ptr 1 0), (4, AV.int .i64 (0 : Int))], heap := [(1, .var true (evC e))], tags := [] }))) (.ob (false = x) (.tt))))))))))) := by
      simp only [PT.holds, true_implies, Bool.false_eq_true, Bool.true_eq_false, false_implies, true_and, and_true]
      (repeat' first | exact ⟨_, triv, rfl, trivial⟩ | exact ⟨_, triv, rfl⟩ | refine ex_split (fun _ => ?_) (fun _ => ?_) | refine ex_ob ?_ ?_)
      all_goals first | exact exB_ctr (right_ex _ he.2.1) | exact exB_ctr (named9_ex _ he.1) | omega | exact evr_l0 e he (by simpa using ‹(!decide (e.kind = 1)) = false›) e.attrs.length 0 (by omega) | (first | exact ⟨_, (fun h => absurd h (by decide)), rfl, trivial⟩ | exact ⟨_, (fun h => absurd h (by decide)), rfl⟩) | (first | exact ⟨_, (fun _ => ⟨(by simp only [decide_eq_true_eq] at *; omega), fun j k h1 h2 h3 => (by simp only [decide_eq_true_eq] at *; omega)⟩), rfl, trivial⟩ | exact ⟨_, (fun _ => ⟨(by simp only [decide_eq_true_eq] at *; omega), fun j k h1 h2 h3 => (by simp only [decide_eq_true_eq] at *; omega)⟩), rfl⟩)
    obtain ⟨x, hR, hx⟩ := H
    exact ⟨x, hR, Ctr.mk Γ_ok Tryd.func22 (by kernel_rfl) Tryd.call22 [] (by kernel_rfl) (HT.walk Γ_ok mo_ok (⟨annL, sp22, hd22 [] [] [] [], dsp22, .pure [] (.bool x)⟩ : Wk) 4000 (T := .ob ((3 : Nat) ≤ (5 : Nat)) (.split (decide (e.nm.sp = (ByteArray.mk #[])) && (decide (e.nm.lo = (ByteArray.mk #[])) && true)) (.split (decide (e.kind = (2 : Int))) (.split (decide ((↑e.attrs.length : Int) = (0 : Int))) (.split (!decide (e.text = (ByteArray.mk #[]))) (.ob (Ctr Tryd.prog 46 [AV.str e.text] (AV.bool (exB Tryd.prog (46 : FuncId) [AV.str e.text]))) (.ob (exB Tryd.prog (46 : FuncId) [AV.str e.text] = x) (.tt))) (.ob (false = x) (.tt))) (.ob (false = x) (.tt))) (.split (decide (e.kind = (3 : Int))) (.split (decide ((↑e.attrs.length : Int) = (0 : Int))) (.ob (decide (e.text = (ByteArray.mk #[])) = x) (.tt)) (.ob (false = x) (.tt))) (.split (!decide (e.kind = (1 : Int))) (.ob (false = x) (.tt)) (.split (!decide (e.text = (ByteArray.mk #[]))) (.ob (false = x) (.tt)) (.ob ((3 : Nat) ≤ (5 : Nat)) (.ob (Ctr Tryd.prog 47 [AV.agg [AV.str e.nm.sp, AV.str e.nm.lo]] (AV.bool (exB Tryd.prog (47 : FuncId) [AV.agg [AV.str e.nm.sp, AV.str e.nm.lo]]))) (.split (exB Tryd.prog (47 : FuncId) [AV.agg [AV.str e.nm.sp, AV.str e.nm.lo]]) (.split (decide ((32 : Int) < (↑e.attrs.length : Int))) (.ob (false = x) (.tt)) (.head (pt Tryd.f22 0) ({ tmps := [(1, AV.ptr 1 0), (4, AV.int .i64 (0 : Int))], heap := [(1, .var true (evC e))], tags := [] }))) (.ob (false = x) (.tt))))))))) (.split (decide (e.kind = (2 : Int))) (.split (false) (.split (!decide (e.text = (ByteArray.mk #[]))) (.ob (Ctr Tryd.prog 46 [AV.str e.text] (AV.bool (exB Tryd.prog (46 : FuncId) [AV.str e.text]))) (.ob (exB Tryd.prog (46 : FuncId) [AV.str e.text] = x) (.tt))) (.ob (false = x) (.tt))) (.ob (false = x) (.tt))) (.split (decide (e.kind = (3 : Int))) (.split (false) (.ob (decide (e.text = (ByteArray.mk #[])) = x) (.tt)) (.ob (false = x) (.tt))) (.split (!decide (e.kind = (1 : Int))) (.ob (false = x) (.tt)) (.split (!decide (e.text = (ByteArray.mk #[]))) (.ob (false = x) (.tt)) (.ob ((3 : Nat) ≤ (5 : Nat)) (.ob (Ctr Tryd.prog 47 [AV.agg [AV.str e.nm.sp, AV.str e.nm.lo]] (AV.bool (exB Tryd.prog (47 : FuncId) [AV.agg [AV.str e.nm.sp, AV.str e.nm.lo]]))) (.split (exB Tryd.prog (47 : FuncId) [AV.agg [AV.str e.nm.sp, AV.str e.nm.lo]]) (.split (decide ((32 : Int) < (↑e.attrs.length : Int))) (.ob (false = x) (.tt)) (.head (pt Tryd.f22 0) ({ tmps := [(1, AV.ptr 1 0), (4, AV.int .i64 (0 : Int))], heap := [(1, .var true (evC e))], tags := [] }))) (.ob (false = x) (.tt))))))))))) (by kernel_rfl) hx)⟩
end Go.Proofs.YteimloiaipiadaaDoor
end

section
set_option linter.unusedVariables false
set_option linter.unusedSimpArgs false
set_option maxRecDepth 100000
namespace Go.Proofs.YteimloiaipiadaaDoor
open Go Go.AX
noncomputable def annM : List (Nat × Ann) := (1000037, .callF [] (fun args => .bool (exB Tryd.prog 37 args))) :: (1000027, .callF [] (fun args => .bool (exB Tryd.prog 27 args))) :: (1000037, .callF [] (fun args => .bool (exB Tryd.prog 37 args))) :: (1000024, .callF [] (fun args => .bool (exB Tryd.prog 24 args))) :: (1000049, .callF [] (fun args => .bool (exB Tryd.prog 49 args))) :: (1000010, .callF [] (fun args => .bool (exB Tryd.prog 10 args))) :: (1000010, .callF [] (fun args => .bool (exB Tryd.prog 10 args))) :: (1000048, .callF [] (fun args => .int .i64 (exI Tryd.prog 48 args))) :: (1000065, .callF [] (fun args => .int .i64 (exI Tryd.prog 65 args))) :: (1000023, .callF [] (fun args => .int .i64 (exI Tryd.prog 23 args))) :: annL

def okEvs (l : List Ev) : Prop := ∀ e ∈ l, e.ok
def stF0 (l : List Ev) (n : Int) (i : Nat) : AS := ⟨[(0, .sl none l.length (evsC l) .no), (3, .int .i64 n), (4, .int .i64 i)], [], []⟩
def stF1 (l : List Ev) (n : Int) (i k : Nat) : AS := ⟨[(0, .sl none l.length (evsC l) .no), (3, .int .i64 n), (4, .int .i64 i), (5, .int .i64 k)], [], []⟩
theorem fewe_h1 (l : List Ev) (n : Int) (i k : Nat) (hi : i < l.length) (hl : l.length ≤ 1048600) (hk : k ≤ 100) (ih : k < 100 → ∃ x : Bool, (Triv) ∧ HT Tryd.prog Tryd.f37.ntmps (pt Tryd.f37 1) (stF1 l n i (k + 1)) (EndsA Γ (.pure [] (.bool x)) Tryd.f37)) (k0 : ∃ x : Bool, (Triv) ∧ HT Tryd.prog Tryd.f37.ntmps (pt Tryd.f37 0) (stF0 l n (i + 1)) (EndsA Γ (.pure [] (.bool x)) Tryd.f37)) : ∃ x : Bool, (Triv) ∧ HT Tryd.prog Tryd.f37.ntmps (pt Tryd.f37 1) (stF1 l n i k) (EndsA Γ (.pure [] (.bool x)) Tryd.f37) := by
    have H : ∃ x : Bool, (Triv) ∧ PT.holds Tryd.prog Tryd.f37.ntmps (EndsA Γ (.pure [] (.bool x)) Tryd.f37) (.ob ((0 : Int) ≤ (↑i : Int) ∧ (↑i : Int) < (↑l.length : Int) ∧ (↑i : Int).toNat * (5 : Nat) < (evsC l).length) (.ob ((evsC l)[(↑i : Int).toNat * (5 : Nat) + (3 : Nat)]? = some (AV.sl none (l.getD i ev0).attrs.length (atsC (l.getD i ev0).attrs) .no)) (.split (decide ((↑k : Int) < (↑(l.getD i ev0).attrs.length : Int))) (.split (decide ((↑k : Int) < (100 : Int))) (.ob ((0 : Int) ≤ (↑i : Int) ∧ (↑i : Int) < (↑l.length : Int) ∧ (↑i : Int).toNat * (5 : Nat) < (evsC l).length) (.ob ((evsC l)[(↑i : Int).toNat * (5 : Nat) + (3 : Nat)]? = some (AV.sl none (l.getD i ev0).attrs.length (atsC (l.getD i ev0).attrs) .no)) (.ob ((0 : Int) ≤ (↑k : Int) ∧ (↑k : Int) < (↑(l.getD i ev0).attrs.length : Int) ∧ (↑k : Int).toNat * (3 : Nat) < (atsC (l.getD i ev0).attrs).length) (.ob ((atsC (l.getD i ev0).attrs)[(↑k : Int).toNat * (3 : Nat) + (2 : Nat)]? = some (AV.str ((l.getD i ev0).attrs.getD k atr0).v)) (.split (decide ((300 : Int) < (↑((l.getD i ev0).attrs.getD k atr0).v.size : Int))) (.ob (false = x) (.tt)) (.ob ((0 : Int) ≤ (↑i : Int) ∧ (↑i : Int) < (↑l.length : Int) ∧ (↑i : Int).toNat * (5 : Nat) < (evsC l).length) (.ob ((evsC l)[(↑i : Int).toNat * (5 : Nat) + (3 : Nat)]? = some (AV.sl none (l.getD i ev0).attrs.length (atsC (l.getD i ev0).attrs) .no)) (.ob ((0 : Int) ≤ (↑k : Int) ∧ (↑k : Int) < (↑(l.getD i ev0).attrs.length : Int) ∧ (↑k : Int).toNat * (3 : Nat) < (atsC (l.getD i ev0).attrs).length) (.ob ((atsC (l.getD i ev0).attrs)[(↑k : Int).toNat * (3 : Nat) + (0 : Nat) + (1 : Nat)]? = some (AV.str ((l.getD i ev0).attrs.getD k atr0).nm.lo)) (.split (decide ((100 : Int) < (↑((l.getD i ev0).attrs.getD k atr0).nm.lo.size : Int))) (.ob (false = x) (.tt)) (.ob ((0 : Int) ≤ (↑i : Int) ∧ (↑i : Int) < (↑l.length : Int) ∧ (↑i : Int).toNat * (5 : Nat) < (evsC l).length) (.ob ((evsC l)[(↑i : Int).toNat * (5 : Nat) + (3 : Nat)]? = some (AV.sl none (l.getD i ev0).attrs.length (atsC (l.getD i ev0).attrs) .no)) (.ob ((0 : Int) ≤ (↑k : Int) ∧ (↑k : Int) < (↑(l.getD i ev0).attrs.length : Int) ∧ (↑k : Int).toNat * (3 : Nat) < (atsC (l.getD i ev0).attrs).length) (.ob ((atsC (l.getD i ev0).attrs)[(↑k : Int).toNat * (3 : Nat) + (0 : Nat) + (0 : Nat)]? = some (AV.str ((l.getD i ev0).attrs.getD k atr0).nm.sp)) (.split (decide ((100 : Int) < (↑((l.getD i ev0).attrs.getD k atr0).nm.sp.size : Int))) (.ob (false = x) (.tt)) (.head (pt Tryd.f37 1) ({ tmps := [(0, AV.sl none l.length (evsC l) .no), (3, AV.int .i64 n), (4, AV.int .i64 (↑i : Int)), (5, AV.int .i64 (IntKind.i64.wrap ((↑k : Int) + (1 : Int))))], heap := [], tags := [] }))))))))))))))))) (.head (pt Tryd.f37 0) ({ tmps := [(0, AV.sl none l.length (evsC l) .no), (3, AV.int .i64 n), (4, AV.int .i64 (IntKind.i64.wrap ((↑i : Int) + (1 : Int))))], heap := [], tags := [] }))) (.head (pt Tryd.f37 0) ({ tmps := [(0, AV.sl none l.length (evsC l) .no), (3, AV.int .i64 n), (4, AV.int .i64 (IntKind.i64.wrap ((↑i : Int) + (1 : Int))))], heap := [], tags := [] }))))) := by
      have w2 : IntKind.i64.wrap ((i : Int) + 1) = ((i + 1 : Nat) : Int) := by rw [i64_wrap (by omega) (by omega)]; rfl
      have w3 : IntKind.i64.wrap ((k : Int) + 1) = ((k + 1 : Nat) : Int) := by rw [i64_wrap (by omega) (by omega)]; rfl
      simp only [PT.holds, w2, w3, Int.toNat_natCast, evsC_len, atsC_len]
      by_cases hka : k < (l.getD i ev0).attrs.length
      · (repeat' first | exact ⟨_, triv, rfl, trivial⟩ | exact ⟨_, triv, rfl⟩ | refine ex_split (fun _ => ?_) (fun _ => ?_) | refine ex_ob ?_ ?_)
        all_goals first | exact ih (by (first | omega | (simp only [decide_eq_true_eq, decide_eq_false_iff_not, Bool.not_eq_true', Bool.not_eq_false'] at *; omega))) | exact k0 | omega | ((try simp only [Nat.add_assoc, Nat.reduceAdd, Nat.add_zero]) <;> first | (rw [ats_take _ _ _ _ hi (by decide)]; rfl) | (rw [ats_nth _ _ _ hi (by decide)]; rfl) | (rw [evs_take _ _ _ _ hi (by decide)]; rfl) | (rw [evs_nth _ _ _ hi (by decide)]; rfl) | (rw [trs_take _ _ _ _ hi (by decide)]; rfl) | (rw [trs_nth _ _ _ hi (by decide)]; rfl) | (rw [pths_take _ _ _ _ hi (by decide)]; rfl) | (rw [pths_nth _ _ _ hi (by decide)]; rfl) | (rw [flts_take _ _ _ _ hi (by decide)]; rfl) | (rw [flts_nth _ _ _ hi (by decide)]; rfl) | (rw [ats_take0 _ _ _ hi (by decide)]; rfl) | (rw [ats_nth0 _ _ hi]; rfl) | (rw [evs_take0 _ _ _ hi (by decide)]; rfl) | (rw [evs_nth0 _ _ hi]; rfl) | (rw [trs_take0 _ _ _ hi (by decide)]; rfl) | (rw [trs_nth0 _ _ hi]; rfl) | (rw [pths_take0 _ _ _ hi (by decide)]; rfl) | (rw [pths_nth0 _ _ hi]; rfl) | (rw [flts_take0 _ _ _ hi (by decide)]; rfl) | (rw [flts_nth0 _ _ hi]; rfl)) | ((try simp only [Nat.add_assoc, Nat.reduceAdd, Nat.add_zero]) <;> first | (rw [ats_take _ _ _ _ hka (by decide)]; rfl) | (rw [ats_nth _ _ _ hka (by decide)]; rfl) | (rw [evs_take _ _ _ _ hka (by decide)]; rfl) | (rw [evs_nth _ _ _ hka (by decide)]; rfl) | (rw [trs_take _ _ _ _ hka (by decide)]; rfl) | (rw [trs_nth _ _ _ hka (by decide)]; rfl) | (rw [pths_take _ _ _ _ hka (by decide)]; rfl) | (rw [pths_nth _ _ _ hka (by decide)]; rfl) | (rw [flts_take _ _ _ _ hka (by decide)]; rfl) | (rw [flts_nth _ _ _ hka (by decide)]; rfl) | (rw [ats_take0 _ _ _ hka (by decide)]; rfl) | (rw [ats_nth0 _ _ hka]; rfl) | (rw [evs_take0 _ _ _ hka (by decide)]; rfl) | (rw [evs_nth0 _ _ hka]; rfl) | (rw [trs_take0 _ _ _ hka (by decide)]; rfl) | (rw [trs_nth0 _ _ hka]; rfl) | (rw [pths_take0 _ _ _ hka (by decide)]; rfl) | (rw [pths_nth0 _ _ hka]; rfl) | (rw [flts_take0 _ _ _ hka (by decide)]; rfl) | (rw [flts_nth0 _ _ hka]; rfl))
      · (repeat' first | exact ⟨_, triv, rfl, trivial⟩ | exact ⟨_, triv, rfl⟩ | refine ex_split (fun _ => ?_) (fun _ => ?_) | refine ex_ob ?_ ?_)
        all_goals first | exact k0 | omega | ((try simp only [Nat.add_assoc, Nat.reduceAdd, Nat.add_zero]) <;> first | (rw [ats_take _ _ _ _ hi (by decide)]; rfl) | (rw [ats_nth _ _ _ hi (by decide)]; rfl) | (rw [evs_take _ _ _ _ hi (by decide)]; rfl) | (rw [evs_nth _ _ _ hi (by decide)]; rfl) | (rw [trs_take _ _ _ _ hi (by decide)]; rfl) | (rw [trs_nth _ _ _ hi (by decide)]; rfl) | (rw [pths_take _ _ _ _ hi (by decide)]; rfl) | (rw [pths_nth _ _ _ hi (by decide)]; rfl) | (rw [flts_take _ _ _ _ hi (by decide)]; rfl) | (rw [flts_nth _ _ _ hi (by decide)]; rfl) | (rw [ats_take0 _ _ _ hi (by decide)]; rfl) | (rw [ats_nth0 _ _ hi]; rfl) | (rw [evs_take0 _ _ _ hi (by decide)]; rfl) | (rw [evs_nth0 _ _ hi]; rfl) | (rw [trs_take0 _ _ _ hi (by decide)]; rfl) | (rw [trs_nth0 _ _ hi]; rfl) | (rw [pths_take0 _ _ _ hi (by decide)]; rfl) | (rw [pths_nth0 _ _ hi]; rfl) | (rw [flts_take0 _ _ _ hi (by decide)]; rfl) | (rw [flts_nth0 _ _ hi]; rfl)) | (exfalso; (first | omega | (simp only [decide_eq_true_eq, decide_eq_false_iff_not, Bool.not_eq_true', Bool.not_eq_false'] at *; omega)))
    obtain ⟨x, hR, hx⟩ := H
    exact ⟨x, hR, HT.walk Γ_ok mo_ok (⟨([(23, .val (.sl none (l.getD i ev0).attrs.length (atsC (l.getD i ev0).attrs) .no)), (30, .val (.str (l.getD i ev0).text)), (39, .val (.str (l.getD i ev0).nm.lo)), (49, .val (.str (l.getD i ev0).nm.sp)), (58, .val (.sl none (l.getD i ev0).attrs.length (atsC (l.getD i ev0).attrs) .no)), (71, .val (.sl none (l.getD i ev0).attrs.length (atsC (l.getD i ev0).attrs) .no)), (83, .val (.sl none (l.getD i ev0).attrs.length (atsC (l.getD i ev0).attrs) .no)), (97, .val (.sl none (l.getD i ev0).attrs.length (atsC (l.getD i ev0).attrs) .no)), (75, .val (.str ((l.getD i ev0).attrs.getD k atr0).v)), (88, .val (.str ((l.getD i ev0).attrs.getD k atr0).nm.lo)), (102, .val (.str ((l.getD i ev0).attrs.getD k atr0).nm.sp))] ++ annM), sp37, hd37 [] [] [] [], [], .pure [] (.bool x)⟩ : Wk) 4000 (T := .ob ((0 : Int) ≤ (↑i : Int) ∧ (↑i : Int) < (↑l.length : Int) ∧ (↑i : Int).toNat * (5 : Nat) < (evsC l).length) (.ob ((evsC l)[(↑i : Int).toNat * (5 : Nat) + (3 : Nat)]? = some (AV.sl none (l.getD i ev0).attrs.length (atsC (l.getD i ev0).attrs) .no)) (.split (decide ((↑k : Int) < (↑(l.getD i ev0).attrs.length : Int))) (.split (decide ((↑k : Int) < (100 : Int))) (.ob ((0 : Int) ≤ (↑i : Int) ∧ (↑i : Int) < (↑l.length : Int) ∧ (↑i : Int).toNat * (5 : Nat) < (evsC l).length) (.ob ((evsC l)[(↑i : Int).toNat * (5 : Nat) + (3 : Nat)]? = some (AV.sl none (l.getD i ev0).attrs.length (atsC (l.getD i ev0).attrs) .no)) (.ob ((0 : Int) ≤ (↑k : Int) ∧ (↑k : Int) < (↑(l.getD i ev0).attrs.length : Int) ∧ (↑k : Int).toNat * (3 : Nat) < (atsC (l.getD i ev0).attrs).length) (.ob ((atsC (l.getD i ev0).attrs)[(↑k : Int).toNat * (3 : Nat) + (2 : Nat)]? = some (AV.str ((l.getD i ev0).attrs.getD k atr0).v)) (.split (decide ((300 : Int) < (↑((l.getD i ev0).attrs.getD k atr0).v.size : Int))) (.ob (false = x) (.tt)) (.ob ((0 : Int) ≤ (↑i : Int) ∧ (↑i : Int) < (↑l.length : Int) ∧ (↑i : Int).toNat * (5 : Nat) < (evsC l).length) (.ob ((evsC l)[(↑i : Int).toNat * (5 : Nat) + (3 : Nat)]? = some (AV.sl none (l.getD i ev0).attrs.length (atsC (l.getD i ev0).attrs) .no)) (.ob ((0 : Int) ≤ (↑k : Int) ∧ (↑k : Int) < (↑(l.getD i ev0).attrs.length : Int) ∧ (↑k : Int).toNat * (3 : Nat) < (atsC (l.getD i ev0).attrs).length) (.ob ((atsC (l.getD i ev0).attrs)[(↑k : Int).toNat * (3 : Nat) + (0 : Nat) + (1 : Nat)]? = some (AV.str ((l.getD i ev0).attrs.getD k atr0).nm.lo)) (.split (decide ((100 : Int) < (↑((l.getD i ev0).attrs.getD k atr0).nm.lo.size : Int))) (.ob (false = x) (.tt)) (.ob ((0 : Int) ≤ (↑i : Int) ∧ (↑i : Int) < (↑l.length : Int) ∧ (↑i : Int).toNat * (5 : Nat) < (evsC l).length) (.ob ((evsC l)[(↑i : Int).toNat * (5 : Nat) + (3 : Nat)]? = some (AV.sl none (l.getD i ev0).attrs.length (atsC (l.getD i ev0).attrs) .no)) (.ob ((0 : Int) ≤ (↑k : Int) ∧ (↑k : Int) < (↑(l.getD i ev0).attrs.length : Int) ∧ (↑k : Int).toNat * (3 : Nat) < (atsC (l.getD i ev0).attrs).length) (.ob ((atsC (l.getD i ev0).attrs)[(↑k : Int).toNat * (3 : Nat) + (0 : Nat) + (0 : Nat)]? = some (AV.str ((l.getD i ev0).attrs.getD k atr0).nm.sp)) (.split (decide ((100 : Int) < (↑((l.getD i ev0).attrs.getD k atr0).nm.sp.size : Int))) (.ob (false = x) (.tt)) (.head (pt Tryd.f37 1) ({ tmps := [(0, AV.sl none l.length (evsC l) .no), (3, AV.int .i64 n), (4, AV.int .i64 (↑i : Int)), (5, AV.int .i64 (IntKind.i64.wrap ((↑k : Int) + (1 : Int))))], heap := [], tags := [] }))))))))))))))))) (.head (pt Tryd.f37 0) ({ tmps := [(0, AV.sl none l.length (evsC l) .no), (3, AV.int .i64 n), (4, AV.int .i64 (IntKind.i64.wrap ((↑i : Int) + (1 : Int))))], heap := [], tags := [] }))) (.head (pt Tryd.f37 0) ({ tmps := [(0, AV.sl none l.length (evsC l) .no), (3, AV.int .i64 n), (4, AV.int .i64 (IntKind.i64.wrap ((↑i : Int) + (1 : Int))))], heap := [], tags := [] }))))) (by kernel_rfl) hx⟩
theorem fewe_h0 (l : List Ev) (n : Int) (i : Nat) (hl : l.length ≤ 1048600) (k1 : i < l.length → ∀ n', ∃ x : Bool, (Triv) ∧ HT Tryd.prog Tryd.f37.ntmps (pt Tryd.f37 1) (stF1 l n' i 0) (EndsA Γ (.pure [] (.bool x)) Tryd.f37)) : ∃ x : Bool, (Triv) ∧ HT Tryd.prog Tryd.f37.ntmps (pt Tryd.f37 0) (stF0 l n i) (EndsA Γ (.pure [] (.bool x)) Tryd.f37) := by
    have H : ∃ x : Bool, (Triv) ∧ PT.holds Tryd.prog Tryd.f37.ntmps (EndsA Γ (.pure [] (.bool x)) Tryd.f37) (.split (decide ((↑i : Int) < (↑l.length : Int))) (.split (decide (n ≤ (400 : Int))) (.ob ((0 : Int) ≤ (↑i : Int) ∧ (↑i : Int) < (↑l.length : Int) ∧ (↑i : Int).toNat * (5 : Nat) < (evsC l).length) (.ob ((evsC l)[(↑i : Int).toNat * (5 : Nat) + (3 : Nat)]? = some (AV.sl none (l.getD i ev0).attrs.length (atsC (l.getD i ev0).attrs) .no)) (.ob ((0 : Int) ≤ (↑i : Int) ∧ (↑i : Int) < (↑l.length : Int) ∧ (↑i : Int).toNat * (5 : Nat) < (evsC l).length) (.ob ((evsC l)[(↑i : Int).toNat * (5 : Nat) + (4 : Nat)]? = some (AV.str (l.getD i ev0).text)) (.split (decide ((300 : Int) < (↑(l.getD i ev0).text.size : Int))) (.ob (false = x) (.tt)) (.ob ((0 : Int) ≤ (↑i : Int) ∧ (↑i : Int) < (↑l.length : Int) ∧ (↑i : Int).toNat * (5 : Nat) < (evsC l).length) (.ob ((evsC l)[(↑i : Int).toNat * (5 : Nat) + (1 : Nat) + (1 : Nat)]? = some (AV.str (l.getD i ev0).nm.lo)) (.split (decide ((100 : Int) < (↑(l.getD i ev0).nm.lo.size : Int))) (.ob (false = x) (.tt)) (.ob ((0 : Int) ≤ (↑i : Int) ∧ (↑i : Int) < (↑l.length : Int) ∧ (↑i : Int).toNat * (5 : Nat) < (evsC l).length) (.ob ((evsC l)[(↑i : Int).toNat * (5 : Nat) + (1 : Nat) + (0 : Nat)]? = some (AV.str (l.getD i ev0).nm.sp)) (.split (decide ((100 : Int) < (↑(l.getD i ev0).nm.sp.size : Int))) (.ob (false = x) (.tt)) (.head (pt Tryd.f37 1) ({ tmps := [(0, AV.sl none l.length (evsC l) .no), (3, AV.int .i64 (IntKind.i64.wrap (n + (↑(l.getD i ev0).attrs.length : Int)))), (4, AV.int .i64 (↑i : Int)), (5, AV.int .i64 (0 : Int))], heap := [], tags := [] }))))))))))))) (.ob (decide (n ≤ (400 : Int)) = x) (.tt))) (.ob (decide (n ≤ (400 : Int)) = x) (.tt))) := by
      simp only [PT.holds, Int.toNat_natCast, evsC_len, atsC_len]
      by_cases hi : i < l.length
      · (repeat' first | exact ⟨_, triv, rfl, trivial⟩ | exact ⟨_, triv, rfl⟩ | refine ex_split (fun _ => ?_) (fun _ => ?_) | refine ex_ob ?_ ?_)
        all_goals first | exact k1 hi _ | omega | ((try simp only [Nat.add_assoc, Nat.reduceAdd, Nat.add_zero]) <;> first | (rw [ats_take _ _ _ _ hi (by decide)]; rfl) | (rw [ats_nth _ _ _ hi (by decide)]; rfl) | (rw [evs_take _ _ _ _ hi (by decide)]; rfl) | (rw [evs_nth _ _ _ hi (by decide)]; rfl) | (rw [trs_take _ _ _ _ hi (by decide)]; rfl) | (rw [trs_nth _ _ _ hi (by decide)]; rfl) | (rw [pths_take _ _ _ _ hi (by decide)]; rfl) | (rw [pths_nth _ _ _ hi (by decide)]; rfl) | (rw [flts_take _ _ _ _ hi (by decide)]; rfl) | (rw [flts_nth _ _ _ hi (by decide)]; rfl) | (rw [ats_take0 _ _ _ hi (by decide)]; rfl) | (rw [ats_nth0 _ _ hi]; rfl) | (rw [evs_take0 _ _ _ hi (by decide)]; rfl) | (rw [evs_nth0 _ _ hi]; rfl) | (rw [trs_take0 _ _ _ hi (by decide)]; rfl) | (rw [trs_nth0 _ _ hi]; rfl) | (rw [pths_take0 _ _ _ hi (by decide)]; rfl) | (rw [pths_nth0 _ _ hi]; rfl) | (rw [flts_take0 _ _ _ hi (by decide)]; rfl) | (rw [flts_nth0 _ _ hi]; rfl))
      · (repeat' first | exact ⟨_, triv, rfl, trivial⟩ | exact ⟨_, triv, rfl⟩ | refine ex_split (fun _ => ?_) (fun _ => ?_) | refine ex_ob ?_ ?_)
        all_goals first | omega | (exfalso; (first | omega | (simp only [decide_eq_true_eq, decide_eq_false_iff_not, Bool.not_eq_true', Bool.not_eq_false'] at *; omega)))
    obtain ⟨x, hR, hx⟩ := H
    exact ⟨x, hR, HT.walk Γ_ok mo_ok (⟨([(23, .val (.sl none (l.getD i ev0).attrs.length (atsC (l.getD i ev0).attrs) .no)), (30, .val (.str (l.getD i ev0).text)), (39, .val (.str (l.getD i ev0).nm.lo)), (49, .val (.str (l.getD i ev0).nm.sp))] ++ annM), sp37, hd37 [] [] [] [], [], .pure [] (.bool x)⟩ : Wk) 4000 (T := .split (decide ((↑i : Int) < (↑l.length : Int))) (.split (decide (n ≤ (400 : Int))) (.ob ((0 : Int) ≤ (↑i : Int) ∧ (↑i : Int) < (↑l.length : Int) ∧ (↑i : Int).toNat * (5 : Nat) < (evsC l).length) (.ob ((evsC l)[(↑i : Int).toNat * (5 : Nat) + (3 : Nat)]? = some (AV.sl none (l.getD i ev0).attrs.length (atsC (l.getD i ev0).attrs) .no)) (.ob ((0 : Int) ≤ (↑i : Int) ∧ (↑i : Int) < (↑l.length : Int) ∧ (↑i : Int).toNat * (5 : Nat) < (evsC l).length) (.ob ((evsC l)[(↑i : Int).toNat * (5 : Nat) + (4 : Nat)]? = some (AV.str (l.getD i ev0).text)) (.split (decide ((300 : Int) < (↑(l.getD i ev0).text.size : Int))) (.ob (false = x) (.tt)) (.ob ((0 : Int) ≤ (↑i : Int) ∧ (↑i : Int) < (↑l.length : Int) ∧ (↑i : Int).toNat * (5 : Nat) < (evsC l).length) (.ob ((evsC l)[(↑i : Int).toNat * (5 : Nat) + (1 : Nat) + (1 : Nat)]? = some (AV.str (l.getD i ev0).nm.lo)) (.split (decide ((100 : Int) < (↑(l.getD i ev0).nm.lo.size : Int))) (.ob (false = x) (.tt)) (.ob ((0 : Int) ≤ (↑i : Int) ∧ (↑i : Int) < (↑l.length : Int) ∧ (↑i : Int).toNat * (5 : Nat) < (evsC l).length) (.ob ((evsC l)[(↑i : Int).toNat * (5 : Nat) + (1 : Nat) + (0 : Nat)]? = some (AV.str (l.getD i ev0).nm.sp)) (.split (decide ((100 : Int) < (↑(l.getD i ev0).nm.sp.size : Int))) (.ob (false = x) (.tt)) (.head (pt Tryd.f37 1) ({ tmps := [(0, AV.sl none l.length (evsC l) .no), (3, AV.int .i64 (IntKind.i64.wrap (n + (↑(l.getD i ev0).attrs.length : Int)))), (4, AV.int .i64 (↑i : Int)), (5, AV.int .i64 (0 : Int))], heap := [], tags := [] }))))))))))))) (.ob (decide (n ≤ (400 : Int)) = x) (.tt))) (.ob (decide (n ≤ (400 : Int)) = x) (.tt))) (by kernel_rfl) hx⟩
theorem fewe_l1 (l : List Ev) (n : Int) (i : Nat) (hi : i < l.length) (hl : l.length ≤ 1048600) (k0 : ∃ x : Bool, (Triv) ∧ HT Tryd.prog Tryd.f37.ntmps (pt Tryd.f37 0) (stF0 l n (i + 1)) (EndsA Γ (.pure [] (.bool x)) Tryd.f37)) : ∀ d k, k + d = 100 → ∃ x : Bool, (Triv) ∧ HT Tryd.prog Tryd.f37.ntmps (pt Tryd.f37 1) (stF1 l n i k) (EndsA Γ (.pure [] (.bool x)) Tryd.f37) := by
  intro d
  induction d with
  | zero => exact fun k h => fewe_h1 l n i k hi hl (by omega) (fun h => by omega) k0
  | succ d ih => exact fun k h => fewe_h1 l n i k hi hl (by omega) (fun h => ih (k + 1) (by omega)) k0
theorem fewe_l0 (l : List Ev) (hl : l.length ≤ 1048600) : ∀ d i n, l.length ≤ i + d → ∃ x : Bool, (Triv) ∧ HT Tryd.prog Tryd.f37.ntmps (pt Tryd.f37 0) (stF0 l n i) (EndsA Γ (.pure [] (.bool x)) Tryd.f37) := by
  intro d
  induction d with
  | zero => exact fun i n h => fewe_h0 l n i hl (fun h => by omega)
  | succ d ih => exact fun i n h => fewe_h0 l n i hl (fun h n' => fewe_l1 l n' i h hl (ih (i + 1) n' (by omega)) 100 0 (by omega))

theorem fewe_ex (l : List Ev) (hl : l.length ≤ 1048600) : ∃ x : Bool, (Triv) ∧ Ctr Tryd.prog 37 [.sl none l.length (evsC l) .no] (.bool x) := by
    have H : ∃ x : Bool, (Triv) ∧ PT.holds Tryd.prog Tryd.f37.ntmps (EndsA Γ (.pure [] (.bool x)) Tryd.f37) (.head (pt Tryd.f37 0) ({ tmps := [(0, AV.sl none l.length (evsC l) .no), (3, AV.int .i64 (↑l.length : Int)), (4, AV.int .i64 (0 : Int))], heap := [], tags := [] })) := by
      simp only [PT.holds]
      exact fewe_l0 l hl _ 0 _ (Nat.le_of_eq (Nat.zero_add _).symm)
    obtain ⟨x, hR, hx⟩ := H
    exact ⟨x, hR, Ctr.mk Γ_ok Tryd.func37 (by kernel_rfl) Tryd.call37 [] (by kernel_rfl) (HT.walk Γ_ok mo_ok (⟨annM, sp37, hd37 [] [] [] [], [], .pure [] (.bool x)⟩ : Wk) 4000 (T := .head (pt Tryd.f37 0) ({ tmps := [(0, AV.sl none l.length (evsC l) .no), (3, AV.int .i64 (↑l.length : Int)), (4, AV.int .i64 (0 : Int))], heap := [], tags := [] })) (by kernel_rfl) hx)⟩
end Go.Proofs.YteimloiaipiadaaDoor
end

section
set_option linter.unusedVariables false
set_option linter.unusedSimpArgs false
set_option maxRecDepth 100000
namespace Go.Proofs.YteimloiaipiadaaDoor
open Go Go.AX

def stP0 (p : Pth) (m n : Int) (i : Nat) : AS := ⟨[(1, .int .i64 m), (2, .ptr 2 0), (5, .int .i64 n), (6, .int .i64 i)], [(2, .var true (pthL p))], []⟩
def stP1 (p : Pth) (m n : Int) (i : Nat) : AS := ⟨[(1, .int .i64 m), (2, .ptr 2 0), (5, .int .i64 n), (7, .int .i64 i)], [(2, .var true (pthL p))], []⟩
theorem sizeP_h1 (p : Pth) (m n : Int) (i : Nat) (hl : p.test.length ≤ 1048600) (hc : i < p.test.length → ∀ m, ∃ x : Int, Triv ∧ Ctr Tryd.prog 65 [.agg (fltL (p.test.getD i flt0)), .int .i64 m] (.int .i64 x)) (ih : i < p.test.length → ∀ n', ∃ x : Int, (Triv) ∧ HT Tryd.prog Tryd.f48.ntmps (pt Tryd.f48 1) (stP1 p m n' (i + 1)) (EndsA Γ (.pure [] (.int .i64 x)) Tryd.f48)) : ∃ x : Int, (Triv) ∧ HT Tryd.prog Tryd.f48.ntmps (pt Tryd.f48 1) (stP1 p m n i) (EndsA Γ (.pure [] (.int .i64 x)) Tryd.f48) := by
    have H : ∃ x : Int, (Triv) ∧ PT.holds Tryd.prog Tryd.f48.ntmps (EndsA Γ (.pure [] (.int .i64 x)) Tryd.f48) (.split (decide ((↑i : Int) < (↑p.test.length : Int))) (.split (decide (n ≤ m)) (.ob ((0 : Int) ≤ (↑i : Int) ∧ (↑i : Int) < (↑p.test.length : Int) ∧ (↑i : Int).toNat * (6 : Nat) < (fltsC p.test).length) (.ob (List.take (6 : Nat) (List.drop ((↑i : Int).toNat * (6 : Nat)) (fltsC p.test)) = (fltL (p.test.getD i flt0))) (.ob (Ctr Tryd.prog 65 [AV.agg (fltL (p.test.getD i flt0)), AV.int .i64 (IntKind.i64.wrap (m - n))] (AV.int .i64 (exI Tryd.prog (65 : FuncId) [AV.agg [AV.int .i64 (p.test.getD i flt0).op, AV.str (p.test.getD i flt0).nm.sp, AV.str (p.test.getD i flt0).nm.lo, AV.str (p.test.getD i flt0).val, AV.sl none (p.test.getD i flt0).sub.length (fltsC (p.test.getD i flt0).sub) Own.no.tree, AV.sl none (p.test.getD i flt0).way.length (pthsC (p.test.getD i flt0).way) Own.no.tree], AV.int .i64 (IntKind.i64.wrap (m - n))]))) (.head (pt Tryd.f48 1) ({ tmps := [(1, AV.int .i64 m), (2, AV.ptr 2 0), (5, AV.int .i64 (IntKind.i64.wrap (n + exI Tryd.prog (65 : FuncId) [AV.agg [AV.int .i64 (p.test.getD i flt0).op, AV.str (p.test.getD i flt0).nm.sp, AV.str (p.test.getD i flt0).nm.lo, AV.str (p.test.getD i flt0).val, AV.sl none (p.test.getD i flt0).sub.length (fltsC (p.test.getD i flt0).sub) Own.no.tree, AV.sl none (p.test.getD i flt0).way.length (pthsC (p.test.getD i flt0).way) Own.no.tree], AV.int .i64 (IntKind.i64.wrap (m - n))]))), (7, AV.int .i64 (IntKind.i64.wrap ((↑i : Int) + (1 : Int))))], heap := [(2, .var true (pthL p))], tags := [] }))))) (.ob (n = x) (.tt))) (.ob (n = x) (.tt))) := by
      simp only [PT.holds, Int.toNat_natCast, fltsC_len]
      by_cases hi : i < p.test.length
      · have w2 : IntKind.i64.wrap ((i : Int) + 1) = ((i + 1 : Nat) : Int) := by rw [i64_wrap (by omega) (by omega)]; rfl
        simp only [w2]
        (repeat' first | exact ⟨_, triv, rfl, trivial⟩ | exact ⟨_, triv, rfl⟩ | refine ex_split (fun _ => ?_) (fun _ => ?_) | refine ex_ob ?_ ?_)
        all_goals first | exact ih hi _ | exact exI_ctr (hc hi _) | omega | ((try simp only [Nat.add_assoc, Nat.reduceAdd, Nat.add_zero]) <;> first | (rw [ats_take _ _ _ _ hi (by decide)]; rfl) | (rw [ats_nth _ _ _ hi (by decide)]; rfl) | (rw [evs_take _ _ _ _ hi (by decide)]; rfl) | (rw [evs_nth _ _ _ hi (by decide)]; rfl) | (rw [trs_take _ _ _ _ hi (by decide)]; rfl) | (rw [trs_nth _ _ _ hi (by decide)]; rfl) | (rw [pths_take _ _ _ _ hi (by decide)]; rfl) | (rw [pths_nth _ _ _ hi (by decide)]; rfl) | (rw [flts_take _ _ _ _ hi (by decide)]; rfl) | (rw [flts_nth _ _ _ hi (by decide)]; rfl) | (rw [ats_take0 _ _ _ hi (by decide)]; rfl) | (rw [ats_nth0 _ _ hi]; rfl) | (rw [evs_take0 _ _ _ hi (by decide)]; rfl) | (rw [evs_nth0 _ _ hi]; rfl) | (rw [trs_take0 _ _ _ hi (by decide)]; rfl) | (rw [trs_nth0 _ _ hi]; rfl) | (rw [pths_take0 _ _ _ hi (by decide)]; rfl) | (rw [pths_nth0 _ _ hi]; rfl) | (rw [flts_take0 _ _ _ hi (by decide)]; rfl) | (rw [flts_nth0 _ _ hi]; rfl))
      · (repeat' first | exact ⟨_, triv, rfl, trivial⟩ | exact ⟨_, triv, rfl⟩ | refine ex_split (fun _ => ?_) (fun _ => ?_) | refine ex_ob ?_ ?_)
        all_goals first | omega | (exfalso; (first | omega | (simp only [decide_eq_true_eq, decide_eq_false_iff_not, Bool.not_eq_true', Bool.not_eq_false'] at *; omega)))
    obtain ⟨x, hR, hx⟩ := H
    exact ⟨x, hR, HT.walk Γ_ok mo_ok (⟨([(25, .val (.agg (pthL (p.sub.getD i pth0)))), (48, .val (.agg (fltL (p.test.getD i flt0))))] ++ annM), sp48, hd48 [] [] [] [], [], .pure [] (.int .i64 x)⟩ : Wk) 4000 (T := .split (decide ((↑i : Int) < (↑p.test.length : Int))) (.split (decide (n ≤ m)) (.ob ((0 : Int) ≤ (↑i : Int) ∧ (↑i : Int) < (↑p.test.length : Int) ∧ (↑i : Int).toNat * (6 : Nat) < (fltsC p.test).length) (.ob (List.take (6 : Nat) (List.drop ((↑i : Int).toNat * (6 : Nat)) (fltsC p.test)) = (fltL (p.test.getD i flt0))) (.ob (Ctr Tryd.prog 65 [AV.agg (fltL (p.test.getD i flt0)), AV.int .i64 (IntKind.i64.wrap (m - n))] (AV.int .i64 (exI Tryd.prog (65 : FuncId) [AV.agg [AV.int .i64 (p.test.getD i flt0).op, AV.str (p.test.getD i flt0).nm.sp, AV.str (p.test.getD i flt0).nm.lo, AV.str (p.test.getD i flt0).val, AV.sl none (p.test.getD i flt0).sub.length (fltsC (p.test.getD i flt0).sub) Own.no.tree, AV.sl none (p.test.getD i flt0).way.length (pthsC (p.test.getD i flt0).way) Own.no.tree], AV.int .i64 (IntKind.i64.wrap (m - n))]))) (.head (pt Tryd.f48 1) ({ tmps := [(1, AV.int .i64 m), (2, AV.ptr 2 0), (5, AV.int .i64 (IntKind.i64.wrap (n + exI Tryd.prog (65 : FuncId) [AV.agg [AV.int .i64 (p.test.getD i flt0).op, AV.str (p.test.getD i flt0).nm.sp, AV.str (p.test.getD i flt0).nm.lo, AV.str (p.test.getD i flt0).val, AV.sl none (p.test.getD i flt0).sub.length (fltsC (p.test.getD i flt0).sub) Own.no.tree, AV.sl none (p.test.getD i flt0).way.length (pthsC (p.test.getD i flt0).way) Own.no.tree], AV.int .i64 (IntKind.i64.wrap (m - n))]))), (7, AV.int .i64 (IntKind.i64.wrap ((↑i : Int) + (1 : Int))))], heap := [(2, .var true (pthL p))], tags := [] }))))) (.ob (n = x) (.tt))) (.ob (n = x) (.tt))) (by kernel_rfl) hx⟩
theorem sizeP_h0 (p : Pth) (m n : Int) (i : Nat) (hl : p.sub.length ≤ 1048600) (hc : i < p.sub.length → ∀ m, ∃ x : Int, Triv ∧ Ctr Tryd.prog 48 [.agg (pthL (p.sub.getD i pth0)), .int .i64 m] (.int .i64 x)) (ih : i < p.sub.length → ∀ n', ∃ x : Int, (Triv) ∧ HT Tryd.prog Tryd.f48.ntmps (pt Tryd.f48 0) (stP0 p m n' (i + 1)) (EndsA Γ (.pure [] (.int .i64 x)) Tryd.f48)) (k1 : ∀ n', ∃ x : Int, (Triv) ∧ HT Tryd.prog Tryd.f48.ntmps (pt Tryd.f48 1) (stP1 p m n' 0) (EndsA Γ (.pure [] (.int .i64 x)) Tryd.f48)) : ∃ x : Int, (Triv) ∧ HT Tryd.prog Tryd.f48.ntmps (pt Tryd.f48 0) (stP0 p m n i) (EndsA Γ (.pure [] (.int .i64 x)) Tryd.f48) := by
    have H : ∃ x : Int, (Triv) ∧ PT.holds Tryd.prog Tryd.f48.ntmps (EndsA Γ (.pure [] (.int .i64 x)) Tryd.f48) (.split (decide ((↑i : Int) < (↑p.sub.length : Int))) (.split (decide (n ≤ m)) (.ob ((0 : Int) ≤ (↑i : Int) ∧ (↑i : Int) < (↑p.sub.length : Int) ∧ (↑i : Int).toNat * (3 : Nat) < (pthsC p.sub).length) (.ob (List.take (3 : Nat) (List.drop ((↑i : Int).toNat * (3 : Nat)) (pthsC p.sub)) = (pthL (p.sub.getD i pth0))) (.ob (Ctr Tryd.prog 48 [AV.agg (pthL (p.sub.getD i pth0)), AV.int .i64 (IntKind.i64.wrap (m - n))] (AV.int .i64 (exI Tryd.prog (48 : FuncId) [AV.agg [AV.int .i64 (p.sub.getD i pth0).op, AV.sl none (p.sub.getD i pth0).sub.length (pthsC (p.sub.getD i pth0).sub) Own.no.tree, AV.sl none (p.sub.getD i pth0).test.length (fltsC (p.sub.getD i pth0).test) Own.no.tree], AV.int .i64 (IntKind.i64.wrap (m - n))]))) (.head (pt Tryd.f48 0) ({ tmps := [(1, AV.int .i64 m), (2, AV.ptr 2 0), (5, AV.int .i64 (IntKind.i64.wrap (n + exI Tryd.prog (48 : FuncId) [AV.agg [AV.int .i64 (p.sub.getD i pth0).op, AV.sl none (p.sub.getD i pth0).sub.length (pthsC (p.sub.getD i pth0).sub) Own.no.tree, AV.sl none (p.sub.getD i pth0).test.length (fltsC (p.sub.getD i pth0).test) Own.no.tree], AV.int .i64 (IntKind.i64.wrap (m - n))]))), (6, AV.int .i64 (IntKind.i64.wrap ((↑i : Int) + (1 : Int))))], heap := [(2, .var true (pthL p))], tags := [] }))))) (.head (pt Tryd.f48 1) ({ tmps := [(1, AV.int .i64 m), (2, AV.ptr 2 0), (5, AV.int .i64 n), (7, AV.int .i64 (0 : Int))], heap := [(2, .var true (pthL p))], tags := [] }))) (.head (pt Tryd.f48 1) ({ tmps := [(1, AV.int .i64 m), (2, AV.ptr 2 0), (5, AV.int .i64 n), (7, AV.int .i64 (0 : Int))], heap := [(2, .var true (pthL p))], tags := [] }))) := by
      simp only [PT.holds, Int.toNat_natCast, pthsC_len]
      by_cases hi : i < p.sub.length
      · have w2 : IntKind.i64.wrap ((i : Int) + 1) = ((i + 1 : Nat) : Int) := by rw [i64_wrap (by omega) (by omega)]; rfl
        simp only [w2]
        (repeat' first | exact ⟨_, triv, rfl, trivial⟩ | exact ⟨_, triv, rfl⟩ | refine ex_split (fun _ => ?_) (fun _ => ?_) | refine ex_ob ?_ ?_)
        all_goals first | exact ih hi _ | exact exI_ctr (hc hi _) | omega | ((try simp only [Nat.add_assoc, Nat.reduceAdd, Nat.add_zero]) <;> first | (rw [ats_take _ _ _ _ hi (by decide)]; rfl) | (rw [ats_nth _ _ _ hi (by decide)]; rfl) | (rw [evs_take _ _ _ _ hi (by decide)]; rfl) | (rw [evs_nth _ _ _ hi (by decide)]; rfl) | (rw [trs_take _ _ _ _ hi (by decide)]; rfl) | (rw [trs_nth _ _ _ hi (by decide)]; rfl) | (rw [pths_take _ _ _ _ hi (by decide)]; rfl) | (rw [pths_nth _ _ _ hi (by decide)]; rfl) | (rw [flts_take _ _ _ _ hi (by decide)]; rfl) | (rw [flts_nth _ _ _ hi (by decide)]; rfl) | (rw [ats_take0 _ _ _ hi (by decide)]; rfl) | (rw [ats_nth0 _ _ hi]; rfl) | (rw [evs_take0 _ _ _ hi (by decide)]; rfl) | (rw [evs_nth0 _ _ hi]; rfl) | (rw [trs_take0 _ _ _ hi (by decide)]; rfl) | (rw [trs_nth0 _ _ hi]; rfl) | (rw [pths_take0 _ _ _ hi (by decide)]; rfl) | (rw [pths_nth0 _ _ hi]; rfl) | (rw [flts_take0 _ _ _ hi (by decide)]; rfl) | (rw [flts_nth0 _ _ hi]; rfl)) | exact k1 _
      · (repeat' first | exact ⟨_, triv, rfl, trivial⟩ | exact ⟨_, triv, rfl⟩ | refine ex_split (fun _ => ?_) (fun _ => ?_) | refine ex_ob ?_ ?_)
        all_goals first | omega | exact k1 _ | (exfalso; (first | omega | (simp only [decide_eq_true_eq, decide_eq_false_iff_not, Bool.not_eq_true', Bool.not_eq_false'] at *; omega)))
    obtain ⟨x, hR, hx⟩ := H
    exact ⟨x, hR, HT.walk Γ_ok mo_ok (⟨([(25, .val (.agg (pthL (p.sub.getD i pth0)))), (48, .val (.agg (fltL (p.test.getD i flt0))))] ++ annM), sp48, hd48 [] [] [] [], [], .pure [] (.int .i64 x)⟩ : Wk) 4000 (T := .split (decide ((↑i : Int) < (↑p.sub.length : Int))) (.split (decide (n ≤ m)) (.ob ((0 : Int) ≤ (↑i : Int) ∧ (↑i : Int) < (↑p.sub.length : Int) ∧ (↑i : Int).toNat * (3 : Nat) < (pthsC p.sub).length) (.ob (List.take (3 : Nat) (List.drop ((↑i : Int).toNat * (3 : Nat)) (pthsC p.sub)) = (pthL (p.sub.getD i pth0))) (.ob (Ctr Tryd.prog 48 [AV.agg (pthL (p.sub.getD i pth0)), AV.int .i64 (IntKind.i64.wrap (m - n))] (AV.int .i64 (exI Tryd.prog (48 : FuncId) [AV.agg [AV.int .i64 (p.sub.getD i pth0).op, AV.sl none (p.sub.getD i pth0).sub.length (pthsC (p.sub.getD i pth0).sub) Own.no.tree, AV.sl none (p.sub.getD i pth0).test.length (fltsC (p.sub.getD i pth0).test) Own.no.tree], AV.int .i64 (IntKind.i64.wrap (m - n))]))) (.head (pt Tryd.f48 0) ({ tmps := [(1, AV.int .i64 m), (2, AV.ptr 2 0), (5, AV.int .i64 (IntKind.i64.wrap (n + exI Tryd.prog (48 : FuncId) [AV.agg [AV.int .i64 (p.sub.getD i pth0).op, AV.sl none (p.sub.getD i pth0).sub.length (pthsC (p.sub.getD i pth0).sub) Own.no.tree, AV.sl none (p.sub.getD i pth0).test.length (fltsC (p.sub.getD i pth0).test) Own.no.tree], AV.int .i64 (IntKind.i64.wrap (m - n))]))), (6, AV.int .i64 (IntKind.i64.wrap ((↑i : Int) + (1 : Int))))], heap := [(2, .var true (pthL p))], tags := [] }))))) (.head (pt Tryd.f48 1) ({ tmps := [(1, AV.int .i64 m), (2, AV.ptr 2 0), (5, AV.int .i64 n), (7, AV.int .i64 (0 : Int))], heap := [(2, .var true (pthL p))], tags := [] }))) (.head (pt Tryd.f48 1) ({ tmps := [(1, AV.int .i64 m), (2, AV.ptr 2 0), (5, AV.int .i64 n), (7, AV.int .i64 (0 : Int))], heap := [(2, .var true (pthL p))], tags := [] }))) (by kernel_rfl) hx⟩
theorem sizeP_l1 (p : Pth) (m : Int) (hl : p.test.length ≤ 1048600) (hc : ∀ q ∈ p.test, ∀ m, ∃ x : Int, Triv ∧ Ctr Tryd.prog 65 [.agg (fltL q), .int .i64 m] (.int .i64 x)) : ∀ d i n, p.test.length ≤ i + d → ∃ x : Int, (Triv) ∧ HT Tryd.prog Tryd.f48.ntmps (pt Tryd.f48 1) (stP1 p m n i) (EndsA Γ (.pure [] (.int .i64 x)) Tryd.f48) := by
  intro d
  induction d with
  | zero => exact fun i n h => sizeP_h1 p m n i hl (fun hi => by omega) (fun hi => by omega)
  | succ d ih => exact fun i n h => sizeP_h1 p m n i hl (fun hi => hc _ (getD_mem _ _ _ hi)) (fun hi n' => ih (i + 1) n' (by omega))
theorem sizeP_l0 (p : Pth) (m : Int) (hl : p.sub.length ≤ 1048600) (hc : ∀ q ∈ p.sub, ∀ m, ∃ x : Int, Triv ∧ Ctr Tryd.prog 48 [.agg (pthL q), .int .i64 m] (.int .i64 x)) (k1 : ∀ n', ∃ x : Int, (Triv) ∧ HT Tryd.prog Tryd.f48.ntmps (pt Tryd.f48 1) (stP1 p m n' 0) (EndsA Γ (.pure [] (.int .i64 x)) Tryd.f48)) : ∀ d i n, p.sub.length ≤ i + d → ∃ x : Int, (Triv) ∧ HT Tryd.prog Tryd.f48.ntmps (pt Tryd.f48 0) (stP0 p m n i) (EndsA Γ (.pure [] (.int .i64 x)) Tryd.f48) := by
  intro d
  induction d with
  | zero => exact fun i n h => sizeP_h0 p m n i hl (fun hi => by omega) (fun hi => by omega) k1
  | succ d ih => exact fun i n h => sizeP_h0 p m n i hl (fun hi => hc _ (getD_mem _ _ _ hi)) (fun hi n' => ih (i + 1) n' (by omega)) k1

theorem sizeP_ex0 (p : Pth) (m : Int) (hok : p.ok) (hc1 : ∀ q ∈ p.sub, ∀ m, ∃ x : Int, Triv ∧ Ctr Tryd.prog 48 [.agg (pthL q), .int .i64 m] (.int .i64 x)) (hc2 : ∀ q ∈ p.test, ∀ m, ∃ x : Int, Triv ∧ Ctr Tryd.prog 65 [.agg (fltL q), .int .i64 m] (.int .i64 x)) : ∃ x : Int, (Triv) ∧ Ctr Tryd.prog 48 [.agg (pthL p), .int .i64 m] (.int .i64 x) := by
    have H : ∃ x : Int, (Triv) ∧ PT.holds Tryd.prog Tryd.f48.ntmps (EndsA Γ (.pure [] (.int .i64 x)) Tryd.f48) (.head (pt Tryd.f48 0) ({ tmps := [(1, AV.int .i64 m), (2, AV.ptr 2 0), (5, AV.int .i64 (1 : Int)), (6, AV.int .i64 (0 : Int))], heap := [(2, .var true (pthL p))], tags := [] })) := by
      simp only [PT.holds]
      have ho := Pth.ok_i hok
      exact sizeP_l0 p m ho.1 hc1 (fun n' => sizeP_l1 p m ho.2.1 hc2 _ 0 n' (Nat.le_of_eq (Nat.zero_add _).symm)) _ 0 1 (Nat.le_of_eq (Nat.zero_add _).symm)
    obtain ⟨x, hR, hx⟩ := H
    exact ⟨x, hR, Ctr.mk Γ_ok Tryd.func48 (by kernel_rfl) Tryd.call48 [] (by kernel_rfl) (HT.walk Γ_ok mo_ok (⟨annM, sp48, hd48 [] [] [] [], [], .pure [] (.int .i64 x)⟩ : Wk) 4000 (T := .head (pt Tryd.f48 0) ({ tmps := [(1, AV.int .i64 m), (2, AV.ptr 2 0), (5, AV.int .i64 (1 : Int)), (6, AV.int .i64 (0 : Int))], heap := [(2, .var true (pthL p))], tags := [] })) (by kernel_rfl) hx)⟩
def stQ0 (p : Flt) (m n : Int) (i : Nat) : AS := ⟨[(1, .int .i64 m), (2, .ptr 2 0), (5, .int .i64 n), (6, .int .i64 i)], [(2, .var true (fltL p))], []⟩
def stQ1 (p : Flt) (m n : Int) (i : Nat) : AS := ⟨[(1, .int .i64 m), (2, .ptr 2 0), (5, .int .i64 n), (7, .int .i64 i)], [(2, .var true (fltL p))], []⟩
theorem sizeQ_h1 (p : Flt) (m n : Int) (i : Nat) (hl : p.way.length ≤ 1048600) (hc : i < p.way.length → ∀ m, ∃ x : Int, Triv ∧ Ctr Tryd.prog 48 [.agg (pthL (p.way.getD i pth0)), .int .i64 m] (.int .i64 x)) (ih : i < p.way.length → ∀ n', ∃ x : Int, (Triv) ∧ HT Tryd.prog Tryd.f65.ntmps (pt Tryd.f65 1) (stQ1 p m n' (i + 1)) (EndsA Γ (.pure [] (.int .i64 x)) Tryd.f65)) : ∃ x : Int, (Triv) ∧ HT Tryd.prog Tryd.f65.ntmps (pt Tryd.f65 1) (stQ1 p m n i) (EndsA Γ (.pure [] (.int .i64 x)) Tryd.f65) := by
    have H : ∃ x : Int, (Triv) ∧ PT.holds Tryd.prog Tryd.f65.ntmps (EndsA Γ (.pure [] (.int .i64 x)) Tryd.f65) (.split (decide ((↑i : Int) < (↑p.way.length : Int))) (.split (decide (n ≤ m)) (.ob ((0 : Int) ≤ (↑i : Int) ∧ (↑i : Int) < (↑p.way.length : Int) ∧ (↑i : Int).toNat * (3 : Nat) < (pthsC p.way).length) (.ob (List.take (3 : Nat) (List.drop ((↑i : Int).toNat * (3 : Nat)) (pthsC p.way)) = (pthL (p.way.getD i pth0))) (.ob (Ctr Tryd.prog 48 [AV.agg (pthL (p.way.getD i pth0)), AV.int .i64 (IntKind.i64.wrap (m - n))] (AV.int .i64 (exI Tryd.prog (48 : FuncId) [AV.agg [AV.int .i64 (p.way.getD i pth0).op, AV.sl none (p.way.getD i pth0).sub.length (pthsC (p.way.getD i pth0).sub) Own.no.tree, AV.sl none (p.way.getD i pth0).test.length (fltsC (p.way.getD i pth0).test) Own.no.tree], AV.int .i64 (IntKind.i64.wrap (m - n))]))) (.head (pt Tryd.f65 1) ({ tmps := [(1, AV.int .i64 m), (2, AV.ptr 2 0), (5, AV.int .i64 (IntKind.i64.wrap (n + exI Tryd.prog (48 : FuncId) [AV.agg [AV.int .i64 (p.way.getD i pth0).op, AV.sl none (p.way.getD i pth0).sub.length (pthsC (p.way.getD i pth0).sub) Own.no.tree, AV.sl none (p.way.getD i pth0).test.length (fltsC (p.way.getD i pth0).test) Own.no.tree], AV.int .i64 (IntKind.i64.wrap (m - n))]))), (7, AV.int .i64 (IntKind.i64.wrap ((↑i : Int) + (1 : Int))))], heap := [(2, .var true (fltL p))], tags := [] }))))) (.ob (n = x) (.tt))) (.ob (n = x) (.tt))) := by
      simp only [PT.holds, Int.toNat_natCast, pthsC_len]
      by_cases hi : i < p.way.length
      · have w2 : IntKind.i64.wrap ((i : Int) + 1) = ((i + 1 : Nat) : Int) := by rw [i64_wrap (by omega) (by omega)]; rfl
        simp only [w2]
        (repeat' first | exact ⟨_, triv, rfl, trivial⟩ | exact ⟨_, triv, rfl⟩ | refine ex_split (fun _ => ?_) (fun _ => ?_) | refine ex_ob ?_ ?_)
        all_goals first | exact ih hi _ | exact exI_ctr (hc hi _) | omega | ((try simp only [Nat.add_assoc, Nat.reduceAdd, Nat.add_zero]) <;> first | (rw [ats_take _ _ _ _ hi (by decide)]; rfl) | (rw [ats_nth _ _ _ hi (by decide)]; rfl) | (rw [evs_take _ _ _ _ hi (by decide)]; rfl) | (rw [evs_nth _ _ _ hi (by decide)]; rfl) | (rw [trs_take _ _ _ _ hi (by decide)]; rfl) | (rw [trs_nth _ _ _ hi (by decide)]; rfl) | (rw [pths_take _ _ _ _ hi (by decide)]; rfl) | (rw [pths_nth _ _ _ hi (by decide)]; rfl) | (rw [flts_take _ _ _ _ hi (by decide)]; rfl) | (rw [flts_nth _ _ _ hi (by decide)]; rfl) | (rw [ats_take0 _ _ _ hi (by decide)]; rfl) | (rw [ats_nth0 _ _ hi]; rfl) | (rw [evs_take0 _ _ _ hi (by decide)]; rfl) | (rw [evs_nth0 _ _ hi]; rfl) | (rw [trs_take0 _ _ _ hi (by decide)]; rfl) | (rw [trs_nth0 _ _ hi]; rfl) | (rw [pths_take0 _ _ _ hi (by decide)]; rfl) | (rw [pths_nth0 _ _ hi]; rfl) | (rw [flts_take0 _ _ _ hi (by decide)]; rfl) | (rw [flts_nth0 _ _ hi]; rfl))
      · (repeat' first | exact ⟨_, triv, rfl, trivial⟩ | exact ⟨_, triv, rfl⟩ | refine ex_split (fun _ => ?_) (fun _ => ?_) | refine ex_ob ?_ ?_)
        all_goals first | omega | (exfalso; (first | omega | (simp only [decide_eq_true_eq, decide_eq_false_iff_not, Bool.not_eq_true', Bool.not_eq_false'] at *; omega)))
    obtain ⟨x, hR, hx⟩ := H
    exact ⟨x, hR, HT.walk Γ_ok mo_ok (⟨([(25, .val (.agg (fltL (p.sub.getD i flt0)))), (48, .val (.agg (pthL (p.way.getD i pth0))))] ++ annM), sp65, hd65 [] [] [] [], [], .pure [] (.int .i64 x)⟩ : Wk) 4000 (T := .split (decide ((↑i : Int) < (↑p.way.length : Int))) (.split (decide (n ≤ m)) (.ob ((0 : Int) ≤ (↑i : Int) ∧ (↑i : Int) < (↑p.way.length : Int) ∧ (↑i : Int).toNat * (3 : Nat) < (pthsC p.way).length) (.ob (List.take (3 : Nat) (List.drop ((↑i : Int).toNat * (3 : Nat)) (pthsC p.way)) = (pthL (p.way.getD i pth0))) (.ob (Ctr Tryd.prog 48 [AV.agg (pthL (p.way.getD i pth0)), AV.int .i64 (IntKind.i64.wrap (m - n))] (AV.int .i64 (exI Tryd.prog (48 : FuncId) [AV.agg [AV.int .i64 (p.way.getD i pth0).op, AV.sl none (p.way.getD i pth0).sub.length (pthsC (p.way.getD i pth0).sub) Own.no.tree, AV.sl none (p.way.getD i pth0).test.length (fltsC (p.way.getD i pth0).test) Own.no.tree], AV.int .i64 (IntKind.i64.wrap (m - n))]))) (.head (pt Tryd.f65 1) ({ tmps := [(1, AV.int .i64 m), (2, AV.ptr 2 0), (5, AV.int .i64 (IntKind.i64.wrap (n + exI Tryd.prog (48 : FuncId) [AV.agg [AV.int .i64 (p.way.getD i pth0).op, AV.sl none (p.way.getD i pth0).sub.length (pthsC (p.way.getD i pth0).sub) Own.no.tree, AV.sl none (p.way.getD i pth0).test.length (fltsC (p.way.getD i pth0).test) Own.no.tree], AV.int .i64 (IntKind.i64.wrap (m - n))]))), (7, AV.int .i64 (IntKind.i64.wrap ((↑i : Int) + (1 : Int))))], heap := [(2, .var true (fltL p))], tags := [] }))))) (.ob (n = x) (.tt))) (.ob (n = x) (.tt))) (by kernel_rfl) hx⟩
theorem sizeQ_h0 (p : Flt) (m n : Int) (i : Nat) (hl : p.sub.length ≤ 1048600) (hc : i < p.sub.length → ∀ m, ∃ x : Int, Triv ∧ Ctr Tryd.prog 65 [.agg (fltL (p.sub.getD i flt0)), .int .i64 m] (.int .i64 x)) (ih : i < p.sub.length → ∀ n', ∃ x : Int, (Triv) ∧ HT Tryd.prog Tryd.f65.ntmps (pt Tryd.f65 0) (stQ0 p m n' (i + 1)) (EndsA Γ (.pure [] (.int .i64 x)) Tryd.f65)) (k1 : ∀ n', ∃ x : Int, (Triv) ∧ HT Tryd.prog Tryd.f65.ntmps (pt Tryd.f65 1) (stQ1 p m n' 0) (EndsA Γ (.pure [] (.int .i64 x)) Tryd.f65)) : ∃ x : Int, (Triv) ∧ HT Tryd.prog Tryd.f65.ntmps (pt Tryd.f65 0) (stQ0 p m n i) (EndsA Γ (.pure [] (.int .i64 x)) Tryd.f65) := by
    have H : ∃ x : Int, (Triv) ∧ PT.holds Tryd.prog Tryd.f65.ntmps (EndsA Γ (.pure [] (.int .i64 x)) Tryd.f65) (.split (decide ((↑i : Int) < (↑p.sub.length : Int))) (.split (decide (n ≤ m)) (.ob ((0 : Int) ≤ (↑i : Int) ∧ (↑i : Int) < (↑p.sub.length : Int) ∧ (↑i : Int).toNat * (6 : Nat) < (fltsC p.sub).length) (.ob (List.take (6 : Nat) (List.drop ((↑i : Int).toNat * (6 : Nat)) (fltsC p.sub)) = (fltL (p.sub.getD i flt0))) (.ob (Ctr Tryd.prog 65 [AV.agg (fltL (p.sub.getD i flt0)), AV.int .i64 (IntKind.i64.wrap (m - n))] (AV.int .i64 (exI Tryd.prog (65 : FuncId) [AV.agg [AV.int .i64 (p.sub.getD i flt0).op, AV.str (p.sub.getD i flt0).nm.sp, AV.str (p.sub.getD i flt0).nm.lo, AV.str (p.sub.getD i flt0).val, AV.sl none (p.sub.getD i flt0).sub.length (fltsC (p.sub.getD i flt0).sub) Own.no.tree, AV.sl none (p.sub.getD i flt0).way.length (pthsC (p.sub.getD i flt0).way) Own.no.tree], AV.int .i64 (IntKind.i64.wrap (m - n))]))) (.head (pt Tryd.f65 0) ({ tmps := [(1, AV.int .i64 m), (2, AV.ptr 2 0), (5, AV.int .i64 (IntKind.i64.wrap (n + exI Tryd.prog (65 : FuncId) [AV.agg [AV.int .i64 (p.sub.getD i flt0).op, AV.str (p.sub.getD i flt0).nm.sp, AV.str (p.sub.getD i flt0).nm.lo, AV.str (p.sub.getD i flt0).val, AV.sl none (p.sub.getD i flt0).sub.length (fltsC (p.sub.getD i flt0).sub) Own.no.tree, AV.sl none (p.sub.getD i flt0).way.length (pthsC (p.sub.getD i flt0).way) Own.no.tree], AV.int .i64 (IntKind.i64.wrap (m - n))]))), (6, AV.int .i64 (IntKind.i64.wrap ((↑i : Int) + (1 : Int))))], heap := [(2, .var true (fltL p))], tags := [] }))))) (.head (pt Tryd.f65 1) ({ tmps := [(1, AV.int .i64 m), (2, AV.ptr 2 0), (5, AV.int .i64 n), (7, AV.int .i64 (0 : Int))], heap := [(2, .var true (fltL p))], tags := [] }))) (.head (pt Tryd.f65 1) ({ tmps := [(1, AV.int .i64 m), (2, AV.ptr 2 0), (5, AV.int .i64 n), (7, AV.int .i64 (0 : Int))], heap := [(2, .var true (fltL p))], tags := [] }))) := by
      simp only [PT.holds, Int.toNat_natCast, fltsC_len]
      by_cases hi : i < p.sub.length
      · have w2 : IntKind.i64.wrap ((i : Int) + 1) = ((i + 1 : Nat) : Int) := by rw [i64_wrap (by omega) (by omega)]; rfl
        simp only [w2]
        (repeat' first | exact ⟨_, triv, rfl, trivial⟩ | exact ⟨_, triv, rfl⟩ | refine ex_split (fun _ => ?_) (fun _ => ?_) | refine ex_ob ?_ ?_)
        all_goals first | exact ih hi _ | exact exI_ctr (hc hi _) | omega | ((try simp only [Nat.add_assoc, Nat.reduceAdd, Nat.add_zero]) <;> first | (rw [ats_take _ _ _ _ hi (by decide)]; rfl) | (rw [ats_nth _ _ _ hi (by decide)]; rfl) | (rw [evs_take _ _ _ _ hi (by decide)]; rfl) | (rw [evs_nth _ _ _ hi (by decide)]; rfl) | (rw [trs_take _ _ _ _ hi (by decide)]; rfl) | (rw [trs_nth _ _ _ hi (by decide)]; rfl) | (rw [pths_take _ _ _ _ hi (by decide)]; rfl) | (rw [pths_nth _ _ _ hi (by decide)]; rfl) | (rw [flts_take _ _ _ _ hi (by decide)]; rfl) | (rw [flts_nth _ _ _ hi (by decide)]; rfl) | (rw [ats_take0 _ _ _ hi (by decide)]; rfl) | (rw [ats_nth0 _ _ hi]; rfl) | (rw [evs_take0 _ _ _ hi (by decide)]; rfl) | (rw [evs_nth0 _ _ hi]; rfl) | (rw [trs_take0 _ _ _ hi (by decide)]; rfl) | (rw [trs_nth0 _ _ hi]; rfl) | (rw [pths_take0 _ _ _ hi (by decide)]; rfl) | (rw [pths_nth0 _ _ hi]; rfl) | (rw [flts_take0 _ _ _ hi (by decide)]; rfl) | (rw [flts_nth0 _ _ hi]; rfl)) | exact k1 _
      · (repeat' first | exact ⟨_, triv, rfl, trivial⟩ | exact ⟨_, triv, rfl⟩ | refine ex_split (fun _ => ?_) (fun _ => ?_) | refine ex_ob ?_ ?_)
        all_goals first | omega | exact k1 _ | (exfalso; (first | omega | (simp only [decide_eq_true_eq, decide_eq_false_iff_not, Bool.not_eq_true', Bool.not_eq_false'] at *; omega)))
    obtain ⟨x, hR, hx⟩ := H
    exact ⟨x, hR, HT.walk Γ_ok mo_ok (⟨([(25, .val (.agg (fltL (p.sub.getD i flt0)))), (48, .val (.agg (pthL (p.way.getD i pth0))))] ++ annM), sp65, hd65 [] [] [] [], [], .pure [] (.int .i64 x)⟩ : Wk) 4000 (T := .split (decide ((↑i : Int) < (↑p.sub.length : Int))) (.split (decide (n ≤ m)) (.ob ((0 : Int) ≤ (↑i : Int) ∧ (↑i : Int) < (↑p.sub.length : Int) ∧ (↑i : Int).toNat * (6 : Nat) < (fltsC p.sub).length) (.ob (List.take (6 : Nat) (List.drop ((↑i : Int).toNat * (6 : Nat)) (fltsC p.sub)) = (fltL (p.sub.getD i flt0))) (.ob (Ctr Tryd.prog 65 [AV.agg (fltL (p.sub.getD i flt0)), AV.int .i64 (IntKind.i64.wrap (m - n))] (AV.int .i64 (exI Tryd.prog (65 : FuncId) [AV.agg [AV.int .i64 (p.sub.getD i flt0).op, AV.str (p.sub.getD i flt0).nm.sp, AV.str (p.sub.getD i flt0).nm.lo, AV.str (p.sub.getD i flt0).val, AV.sl none (p.sub.getD i flt0).sub.length (fltsC (p.sub.getD i flt0).sub) Own.no.tree, AV.sl none (p.sub.getD i flt0).way.length (pthsC (p.sub.getD i flt0).way) Own.no.tree], AV.int .i64 (IntKind.i64.wrap (m - n))]))) (.head (pt Tryd.f65 0) ({ tmps := [(1, AV.int .i64 m), (2, AV.ptr 2 0), (5, AV.int .i64 (IntKind.i64.wrap (n + exI Tryd.prog (65 : FuncId) [AV.agg [AV.int .i64 (p.sub.getD i flt0).op, AV.str (p.sub.getD i flt0).nm.sp, AV.str (p.sub.getD i flt0).nm.lo, AV.str (p.sub.getD i flt0).val, AV.sl none (p.sub.getD i flt0).sub.length (fltsC (p.sub.getD i flt0).sub) Own.no.tree, AV.sl none (p.sub.getD i flt0).way.length (pthsC (p.sub.getD i flt0).way) Own.no.tree], AV.int .i64 (IntKind.i64.wrap (m - n))]))), (6, AV.int .i64 (IntKind.i64.wrap ((↑i : Int) + (1 : Int))))], heap := [(2, .var true (fltL p))], tags := [] }))))) (.head (pt Tryd.f65 1) ({ tmps := [(1, AV.int .i64 m), (2, AV.ptr 2 0), (5, AV.int .i64 n), (7, AV.int .i64 (0 : Int))], heap := [(2, .var true (fltL p))], tags := [] }))) (.head (pt Tryd.f65 1) ({ tmps := [(1, AV.int .i64 m), (2, AV.ptr 2 0), (5, AV.int .i64 n), (7, AV.int .i64 (0 : Int))], heap := [(2, .var true (fltL p))], tags := [] }))) (by kernel_rfl) hx⟩
theorem sizeQ_l1 (p : Flt) (m : Int) (hl : p.way.length ≤ 1048600) (hc : ∀ q ∈ p.way, ∀ m, ∃ x : Int, Triv ∧ Ctr Tryd.prog 48 [.agg (pthL q), .int .i64 m] (.int .i64 x)) : ∀ d i n, p.way.length ≤ i + d → ∃ x : Int, (Triv) ∧ HT Tryd.prog Tryd.f65.ntmps (pt Tryd.f65 1) (stQ1 p m n i) (EndsA Γ (.pure [] (.int .i64 x)) Tryd.f65) := by
  intro d
  induction d with
  | zero => exact fun i n h => sizeQ_h1 p m n i hl (fun hi => by omega) (fun hi => by omega)
  | succ d ih => exact fun i n h => sizeQ_h1 p m n i hl (fun hi => hc _ (getD_mem _ _ _ hi)) (fun hi n' => ih (i + 1) n' (by omega))
theorem sizeQ_l0 (p : Flt) (m : Int) (hl : p.sub.length ≤ 1048600) (hc : ∀ q ∈ p.sub, ∀ m, ∃ x : Int, Triv ∧ Ctr Tryd.prog 65 [.agg (fltL q), .int .i64 m] (.int .i64 x)) (k1 : ∀ n', ∃ x : Int, (Triv) ∧ HT Tryd.prog Tryd.f65.ntmps (pt Tryd.f65 1) (stQ1 p m n' 0) (EndsA Γ (.pure [] (.int .i64 x)) Tryd.f65)) : ∀ d i n, p.sub.length ≤ i + d → ∃ x : Int, (Triv) ∧ HT Tryd.prog Tryd.f65.ntmps (pt Tryd.f65 0) (stQ0 p m n i) (EndsA Γ (.pure [] (.int .i64 x)) Tryd.f65) := by
  intro d
  induction d with
  | zero => exact fun i n h => sizeQ_h0 p m n i hl (fun hi => by omega) (fun hi => by omega) k1
  | succ d ih => exact fun i n h => sizeQ_h0 p m n i hl (fun hi => hc _ (getD_mem _ _ _ hi)) (fun hi n' => ih (i + 1) n' (by omega)) k1

theorem sizeQ_ex0 (p : Flt) (m : Int) (hok : p.ok) (hc1 : ∀ q ∈ p.sub, ∀ m, ∃ x : Int, Triv ∧ Ctr Tryd.prog 65 [.agg (fltL q), .int .i64 m] (.int .i64 x)) (hc2 : ∀ q ∈ p.way, ∀ m, ∃ x : Int, Triv ∧ Ctr Tryd.prog 48 [.agg (pthL q), .int .i64 m] (.int .i64 x)) : ∃ x : Int, (Triv) ∧ Ctr Tryd.prog 65 [.agg (fltL p), .int .i64 m] (.int .i64 x) := by
    have H : ∃ x : Int, (Triv) ∧ PT.holds Tryd.prog Tryd.f65.ntmps (EndsA Γ (.pure [] (.int .i64 x)) Tryd.f65) (.head (pt Tryd.f65 0) ({ tmps := [(1, AV.int .i64 m), (2, AV.ptr 2 0), (5, AV.int .i64 (1 : Int)), (6, AV.int .i64 (0 : Int))], heap := [(2, .var true (fltL p))], tags := [] })) := by
      simp only [PT.holds]
      have ho := Flt.ok_i hok
      exact sizeQ_l0 p m ho.2.2.1 hc1 (fun n' => sizeQ_l1 p m ho.2.2.2.1 hc2 _ 0 n' (Nat.le_of_eq (Nat.zero_add _).symm)) _ 0 1 (Nat.le_of_eq (Nat.zero_add _).symm)
    obtain ⟨x, hR, hx⟩ := H
    exact ⟨x, hR, Ctr.mk Γ_ok Tryd.func65 (by kernel_rfl) Tryd.call65 [] (by kernel_rfl) (HT.walk Γ_ok mo_ok (⟨annM, sp65, hd65 [] [] [] [], [], .pure [] (.int .i64 x)⟩ : Wk) 4000 (T := .head (pt Tryd.f65 0) ({ tmps := [(1, AV.int .i64 m), (2, AV.ptr 2 0), (5, AV.int .i64 (1 : Int)), (6, AV.int .i64 (0 : Int))], heap := [(2, .var true (fltL p))], tags := [] })) (by kernel_rfl) hx)⟩
theorem sub_lt (p q : Pth) (h : q ∈ p.sub) : SizeOf.sizeOf q < SizeOf.sizeOf p := by
  cases p
  have := List.sizeOf_lt_of_mem h
  simp only [Pth.sub] at this
  simp
  omega
theorem test_lt (p : Pth) (q : Flt) (h : q ∈ p.test) : SizeOf.sizeOf q < SizeOf.sizeOf p := by
  cases p
  have := List.sizeOf_lt_of_mem h
  simp only [Pth.test] at this
  simp
  omega
theorem fsub_lt (p q : Flt) (h : q ∈ p.sub) : SizeOf.sizeOf q < SizeOf.sizeOf p := by
  cases p
  have := List.sizeOf_lt_of_mem h
  simp only [Flt.sub] at this
  simp
  omega
theorem way_lt (p : Flt) (q : Pth) (h : q ∈ p.way) : SizeOf.sizeOf q < SizeOf.sizeOf p := by
  cases p
  have := List.sizeOf_lt_of_mem h
  simp only [Flt.way] at this
  simp
  omega
mutual
theorem sizeP_ex (p : Pth) (hok : p.ok) (m : Int) : ∃ x : Int, Triv ∧ Ctr Tryd.prog 48 [.agg (pthL p), .int .i64 m] (.int .i64 x) :=
  sizeP_ex0 p m hok (fun q hq m => have := sub_lt p q hq; sizeP_ex q ((Pth.ok_i hok).2.2.1 q hq) m) (fun q hq m => have := test_lt p q hq; sizeQ_ex q ((Pth.ok_i hok).2.2.2 q hq) m)
termination_by SizeOf.sizeOf p
theorem sizeQ_ex (p : Flt) (hok : p.ok) (m : Int) : ∃ x : Int, Triv ∧ Ctr Tryd.prog 65 [.agg (fltL p), .int .i64 m] (.int .i64 x) :=
  sizeQ_ex0 p m hok (fun q hq m => have := fsub_lt p q hq; sizeQ_ex q ((Flt.ok_i hok).2.2.2.2.1 q hq) m) (fun q hq m => have := way_lt p q hq; sizeP_ex q ((Flt.ok_i hok).2.2.2.2.2 q hq) m)
termination_by SizeOf.sizeOf p
end

theorem size_ex (p : Pth) (hok : p.ok) : ∃ x : Int, (Triv) ∧ Ctr Tryd.prog 23 [.agg (pthL p)] (.int .i64 x) := by
    have H : ∃ x : Int, (Triv) ∧ PT.holds Tryd.prog Tryd.f23.ntmps (EndsA Γ (.pure [] (.int .i64 x)) Tryd.f23) (.ob ((3 : Nat) ≤ (3 : Nat)) (.ob (Ctr Tryd.prog 48 [AV.agg (pthL p), AV.int .i64 (64 : Int)] (AV.int .i64 (exI Tryd.prog (48 : FuncId) [AV.agg [AV.int .i64 p.op, AV.sl none p.sub.length (pthsC p.sub) Own.no.tree, AV.sl none p.test.length (fltsC p.test) Own.no.tree], AV.int .i64 (64 : Int)]))) (.ob (exI Tryd.prog (48 : FuncId) [AV.agg [AV.int .i64 p.op, AV.sl none p.sub.length (pthsC p.sub) Own.no.tree, AV.sl none p.test.length (fltsC p.test) Own.no.tree], AV.int .i64 (64 : Int)] = x) (.tt)))) := by
      simp only [PT.holds]
      (repeat' first | exact ⟨_, triv, rfl, trivial⟩ | exact ⟨_, triv, rfl⟩ | refine ex_split (fun _ => ?_) (fun _ => ?_) | refine ex_ob ?_ ?_)
      all_goals first | omega | exact exI_ctr (sizeP_ex p hok _)
    obtain ⟨x, hR, hx⟩ := H
    exact ⟨x, hR, Ctr.mk Γ_ok Tryd.func23 (by kernel_rfl) Tryd.call23 [] (by kernel_rfl) (HT.walk Γ_ok mo_ok (⟨annM, sp23, [], [], .pure [] (.int .i64 x)⟩ : Wk) 4000 (T := .ob ((3 : Nat) ≤ (3 : Nat)) (.ob (Ctr Tryd.prog 48 [AV.agg (pthL p), AV.int .i64 (64 : Int)] (AV.int .i64 (exI Tryd.prog (48 : FuncId) [AV.agg [AV.int .i64 p.op, AV.sl none p.sub.length (pthsC p.sub) Own.no.tree, AV.sl none p.test.length (fltsC p.test) Own.no.tree], AV.int .i64 (64 : Int)]))) (.ob (exI Tryd.prog (48 : FuncId) [AV.agg [AV.int .i64 p.op, AV.sl none p.sub.length (pthsC p.sub) Own.no.tree, AV.sl none p.test.length (fltsC p.test) Own.no.tree], AV.int .i64 (64 : Int)] = x) (.tt)))) (by kernel_rfl) hx)⟩
end Go.Proofs.YteimloiaipiadaaDoor
end

section
set_option linter.unusedVariables false
set_option linter.unusedSimpArgs false
set_option maxRecDepth 100000
namespace Go.Proofs.YteimloiaipiadaaDoor
open Go Go.AX

/-- What an event bears, by its kind. -/
structure Ev.nd (e : Ev) : Prop where
  text : e.kind = 2 → e.nm = nm0 ∧ e.attrs = []
  elem : e.kind ≠ 2 → e.text = ⟨#[]⟩
theorem ev_len0 {e : Ev} (h : decide ((e.attrs.length : Int) = 0) = true) : e.attrs = [] := List.eq_nil_of_length_eq_zero (by have := of_decide_eq_true h; omega)
theorem ev_nm0 {e : Ev} (h : (decide (e.nm.sp = ⟨#[]⟩) && (decide (e.nm.lo = ⟨#[]⟩) && true)) = true) : e.nm = nm0 := by
  cases e with
  | mk k n a t =>
    cases n
    simp only [Bool.and_true, Bool.and_eq_true, decide_eq_true_eq] at h
    simp only [nm0, Nm.mk.injEq]
    exact h
theorem evr_none {e : Ev} (h : e.attrs = []) (hk : e.kind = 1 ∨ e.kind = 2 ∨ e.kind = 3) : EvR e := ⟨hk, fun j k h1 h2 h3 => by rw [h] at h3; simp at h3⟩

theorem named12b_ex (n : Nm) (hn : n.ok) : ∃ x : Bool, (x = true → NmOk n) ∧ Ctr Tryd.prog 66 [.agg (nmC n)] (.bool x) := by
    have H : ∃ x : Bool, (x = true → NmOk n) ∧ PT.holds Tryd.prog Tryd.f66.ntmps (EndsA Γ (.pure [] (.bool x)) Tryd.f66) (.split (!decide (n.sp = (ByteArray.mk #[(104 : UInt8), (116 : UInt8), (116 : UInt8), (112 : UInt8), (58 : UInt8), (47 : UInt8), (47 : UInt8), (119 : UInt8), (119 : UInt8), (119 : UInt8), (46 : UInt8), (119 : UInt8), (51 : UInt8), (46 : UInt8), (111 : UInt8), (114 : UInt8), (103 : UInt8), (47 : UInt8), (50 : UInt8), (48 : UInt8), (48 : UInt8), (48 : UInt8), (47 : UInt8), (120 : UInt8), (109 : UInt8), (108 : UInt8), (110 : UInt8), (115 : UInt8), (47 : UInt8)]))) (.ob (Ctr Tryd.prog 64 [AV.str n.lo] (AV.bool (exB Tryd.prog (64 : FuncId) [AV.str n.lo]))) (.split (exB Tryd.prog (64 : FuncId) [AV.str n.lo]) (.ob (Ctr Tryd.prog 46 [AV.str n.lo] (AV.bool (exB Tryd.prog (46 : FuncId) [AV.str n.lo]))) (.split (exB Tryd.prog (46 : FuncId) [AV.str n.lo]) (.ob (Ctr Tryd.prog 46 [AV.str n.sp] (AV.bool (exB Tryd.prog (46 : FuncId) [AV.str n.sp]))) (.split (exB Tryd.prog (46 : FuncId) [AV.str n.sp]) (.ob (Ctr Tryd.prog 78 [AV.str n.sp, AV.int .i64 (0 : Int), AV.str (ByteArray.mk #[(123 : UInt8)])] (AV.int .i64 (exI Tryd.prog (78 : FuncId) [AV.str n.sp, AV.int .i64 (0 : Int), AV.str (ByteArray.mk #[(123 : UInt8)])]))) (.split (decide (exI Tryd.prog (78 : FuncId) [AV.str n.sp, AV.int .i64 (0 : Int), AV.str (ByteArray.mk #[(123 : UInt8)])] < (0 : Int))) (.ob (Ctr Tryd.prog 78 [AV.str n.sp, AV.int .i64 (0 : Int), AV.str (ByteArray.mk #[(125 : UInt8)])] (AV.int .i64 (exI Tryd.prog (78 : FuncId) [AV.str n.sp, AV.int .i64 (0 : Int), AV.str (ByteArray.mk #[(125 : UInt8)])]))) (.ob (decide (exI Tryd.prog (78 : FuncId) [AV.str n.sp, AV.int .i64 (0 : Int), AV.str (ByteArray.mk #[(125 : UInt8)])] < (0 : Int)) = x) (.tt))) (.ob (false = x) (.tt)))) (.ob (false = x) (.tt)))) (.ob (false = x) (.tt)))) (.ob (false = x) (.tt)))) (.ob (false = x) (.tt))) := by
      simp only [PT.holds]
      (repeat' first | exact ⟨_, triv, rfl, trivial⟩ | exact ⟨_, triv, rfl⟩ | refine ex_split (fun _ => ?_) (fun _ => ?_) | refine ex_ob ?_ ?_)
      all_goals first | exact exB_ctr (plain_ex _ hn.2) | exact exB_ctr (right_ex _ hn.1) | exact exB_ctr (right_ex _ hn.2) | exact exI_ctr (find_ex _ _ hn.1 (by decide)) | (first | exact ⟨_, (fun h => absurd h (by decide)), rfl, trivial⟩ | exact ⟨_, (fun h => absurd h (by decide)), rfl⟩) | (first | exact ⟨_, (fun _ => ⟨by have h1 := ‹(!decide (n.sp = _)) = true›; simpa [xmlnsB] using h1, by assumption, by assumption, by assumption⟩), rfl, trivial⟩ | exact ⟨_, (fun _ => ⟨by have h1 := ‹(!decide (n.sp = _)) = true›; simpa [xmlnsB] using h1, by assumption, by assumption, by assumption⟩), rfl⟩)
    obtain ⟨x, hR, hx⟩ := H
    exact ⟨x, hR, Ctr.mk Γ_ok Tryd.func66 (by kernel_rfl) Tryd.call66 [] (by kernel_rfl) (HT.walk Γ_ok mo_ok (⟨annL, sp66, [], [], .pure [] (.bool x)⟩ : Wk) 4000 (T := .split (!decide (n.sp = (ByteArray.mk #[(104 : UInt8), (116 : UInt8), (116 : UInt8), (112 : UInt8), (58 : UInt8), (47 : UInt8), (47 : UInt8), (119 : UInt8), (119 : UInt8), (119 : UInt8), (46 : UInt8), (119 : UInt8), (51 : UInt8), (46 : UInt8), (111 : UInt8), (114 : UInt8), (103 : UInt8), (47 : UInt8), (50 : UInt8), (48 : UInt8), (48 : UInt8), (48 : UInt8), (47 : UInt8), (120 : UInt8), (109 : UInt8), (108 : UInt8), (110 : UInt8), (115 : UInt8), (47 : UInt8)]))) (.ob (Ctr Tryd.prog 64 [AV.str n.lo] (AV.bool (exB Tryd.prog (64 : FuncId) [AV.str n.lo]))) (.split (exB Tryd.prog (64 : FuncId) [AV.str n.lo]) (.ob (Ctr Tryd.prog 46 [AV.str n.lo] (AV.bool (exB Tryd.prog (46 : FuncId) [AV.str n.lo]))) (.split (exB Tryd.prog (46 : FuncId) [AV.str n.lo]) (.ob (Ctr Tryd.prog 46 [AV.str n.sp] (AV.bool (exB Tryd.prog (46 : FuncId) [AV.str n.sp]))) (.split (exB Tryd.prog (46 : FuncId) [AV.str n.sp]) (.ob (Ctr Tryd.prog 78 [AV.str n.sp, AV.int .i64 (0 : Int), AV.str (ByteArray.mk #[(123 : UInt8)])] (AV.int .i64 (exI Tryd.prog (78 : FuncId) [AV.str n.sp, AV.int .i64 (0 : Int), AV.str (ByteArray.mk #[(123 : UInt8)])]))) (.split (decide (exI Tryd.prog (78 : FuncId) [AV.str n.sp, AV.int .i64 (0 : Int), AV.str (ByteArray.mk #[(123 : UInt8)])] < (0 : Int))) (.ob (Ctr Tryd.prog 78 [AV.str n.sp, AV.int .i64 (0 : Int), AV.str (ByteArray.mk #[(125 : UInt8)])] (AV.int .i64 (exI Tryd.prog (78 : FuncId) [AV.str n.sp, AV.int .i64 (0 : Int), AV.str (ByteArray.mk #[(125 : UInt8)])]))) (.ob (decide (exI Tryd.prog (78 : FuncId) [AV.str n.sp, AV.int .i64 (0 : Int), AV.str (ByteArray.mk #[(125 : UInt8)])] < (0 : Int)) = x) (.tt))) (.ob (false = x) (.tt)))) (.ob (false = x) (.tt)))) (.ob (false = x) (.tt)))) (.ob (false = x) (.tt)))) (.ob (false = x) (.tt))) (by kernel_rfl) hx)⟩
theorem evr2_ex (e : Ev) (he : e.ok) : ∃ x : Bool, (x = true → EvR e ∧ e.nd) ∧ Ctr Tryd.prog 22 [.agg (evC e)] (.bool x) := by
    have H : ∃ x : Bool, (x = true → EvR e ∧ e.nd) ∧ PT.holds Tryd.prog Tryd.f22.ntmps (EndsA Γ (.pure [] (.bool x)) Tryd.f22) (.ob ((3 : Nat) ≤ (5 : Nat)) (.split (decide (e.nm.sp = (ByteArray.mk #[])) && (decide (e.nm.lo = (ByteArray.mk #[])) && true)) (.split (decide (e.kind = (2 : Int))) (.split (decide ((↑e.attrs.length : Int) = (0 : Int))) (.split (!decide (e.text = (ByteArray.mk #[]))) (.ob (Ctr Tryd.prog 46 [AV.str e.text] (AV.bool (exB Tryd.prog (46 : FuncId) [AV.str e.text]))) (.ob (exB Tryd.prog (46 : FuncId) [AV.str e.text] = x) (.tt))) (.ob (false = x) (.tt))) (.ob (false = x) (.tt))) (.split (decide (e.kind = (3 : Int))) (.split (decide ((↑e.attrs.length : Int) = (0 : Int))) (.ob (decide (e.text = (ByteArray.mk #[])) = x) (.tt)) (.ob (false = x) (.tt))) (.split (!decide (e.kind = (1 : Int))) (.ob (false = x) (.tt)) (.split (!decide (e.text = (ByteArray.mk #[]))) (.ob (false = x) (.tt)) (.ob ((3 : Nat) ≤ (5 : Nat)) (.ob (Ctr Tryd.prog 47 [AV.agg [AV.str e.nm.sp, AV.str e.nm.lo]] (AV.bool (exB Tryd.prog (47 : FuncId) [AV.agg [AV.str e.nm.sp, AV.str e.nm.lo]]))) (.split (exB Tryd.prog (47 : FuncId) [AV.agg [AV.str e.nm.sp, AV.str e.nm.lo]]) (.split (decide ((32 : Int) < (↑e.attrs.length : Int))) (.ob (false = x) (.tt)) (.head (pt Tryd.f22 0) ({ tmps := [(1, AV.ptr 1 0), (4, AV.int .i64 (0 : Int))], heap := [(1, .var true (evC e))], tags := [] }))) (.ob (false = x) (.tt))))))))) (.split (decide (e.kind = (2 : Int))) (.split (false) (.split (!decide (e.text = (ByteArray.mk #[]))) (.ob (Ctr Tryd.prog 46 [AV.str e.text] (AV.bool (exB Tryd.prog (46 : FuncId) [AV.str e.text]))) (.ob (exB Tryd.prog (46 : FuncId) [AV.str e.text] = x) (.tt))) (.ob (false = x) (.tt))) (.ob (false = x) (.tt))) (.split (decide (e.kind = (3 : Int))) (.split (false) (.ob (decide (e.text = (ByteArray.mk #[])) = x) (.tt)) (.ob (false = x) (.tt))) (.split (!decide (e.kind = (1 : Int))) (.ob (false = x) (.tt)) (.split (!decide (e.text = (ByteArray.mk #[]))) (.ob (false = x) (.tt)) (.ob ((3 : Nat) ≤ (5 : Nat)) (.ob (Ctr Tryd.prog 47 [AV.agg [AV.str e.nm.sp, AV.str e.nm.lo]] (AV.bool (exB Tryd.prog (47 : FuncId) [AV.agg [AV.str e.nm.sp, AV.str e.nm.lo]]))) (.split (exB Tryd.prog (47 : FuncId) [AV.agg [AV.str e.nm.sp, AV.str e.nm.lo]]) (.split (decide ((32 : Int) < (↑e.attrs.length : Int))) (.ob (false = x) (.tt)) (.head (pt Tryd.f22 0) ({ tmps := [(1, AV.ptr 1 0), (4, AV.int .i64 (0 : Int))], heap := [(1, .var true (evC e))], tags := [] }))) (.ob (false = x) (.tt))))))))))) := by
      simp only [PT.holds, true_implies, Bool.false_eq_true, Bool.true_eq_false, false_implies, true_and, and_true]
      (repeat' first | exact ⟨_, triv, rfl, trivial⟩ | exact ⟨_, triv, rfl⟩ | refine ex_split (fun _ => ?_) (fun _ => ?_) | refine ex_ob ?_ ?_)
      all_goals first | exact exB_ctr (right_ex _ he.2.1) | exact exB_ctr (named9_ex _ he.1) | omega | (first | exact ⟨_, (fun h => absurd h (by decide)), rfl, trivial⟩ | exact ⟨_, (fun h => absurd h (by decide)), rfl⟩) | (first | exact ⟨_, (fun _ => ⟨evr_none (ev_len0 (by assumption)) (.inr (.inl (of_decide_eq_true ‹decide (e.kind = 2) = true›))), ⟨fun _ => ⟨ev_nm0 (by assumption), ev_len0 (by assumption)⟩, fun h => absurd (of_decide_eq_true ‹decide (e.kind = 2) = true›) h⟩⟩), rfl, trivial⟩ | exact ⟨_, (fun _ => ⟨evr_none (ev_len0 (by assumption)) (.inr (.inl (of_decide_eq_true ‹decide (e.kind = 2) = true›))), ⟨fun _ => ⟨ev_nm0 (by assumption), ev_len0 (by assumption)⟩, fun h => absurd (of_decide_eq_true ‹decide (e.kind = 2) = true›) h⟩⟩), rfl⟩) | (first | exact ⟨_, (fun h => ⟨evr_none (ev_len0 (by assumption)) (.inr (.inr (of_decide_eq_true ‹decide (e.kind = 3) = true›))), ⟨fun h2 => absurd h2 (of_decide_eq_false ‹decide (e.kind = 2) = false›), fun _ => of_decide_eq_true h⟩⟩), rfl, trivial⟩ | exact ⟨_, (fun h => ⟨evr_none (ev_len0 (by assumption)) (.inr (.inr (of_decide_eq_true ‹decide (e.kind = 3) = true›))), ⟨fun h2 => absurd h2 (of_decide_eq_false ‹decide (e.kind = 2) = false›), fun _ => of_decide_eq_true h⟩⟩), rfl⟩) | exact ex_imp (evr_l0 e he (by simpa using ‹(!decide (e.kind = 1)) = false›) e.attrs.length 0 (by omega)) (fun x hx h => ⟨hx h, ⟨fun h2 => absurd h2 (of_decide_eq_false ‹decide (e.kind = 2) = false›), fun _ => by simpa using ‹(!decide (e.text = _)) = false›⟩⟩)
    obtain ⟨x, hR, hx⟩ := H
    exact ⟨x, hR, Ctr.mk Γ_ok Tryd.func22 (by kernel_rfl) Tryd.call22 [] (by kernel_rfl) (HT.walk Γ_ok mo_ok (⟨annL, sp22, hd22 [] [] [] [], dsp22, .pure [] (.bool x)⟩ : Wk) 4000 (T := .ob ((3 : Nat) ≤ (5 : Nat)) (.split (decide (e.nm.sp = (ByteArray.mk #[])) && (decide (e.nm.lo = (ByteArray.mk #[])) && true)) (.split (decide (e.kind = (2 : Int))) (.split (decide ((↑e.attrs.length : Int) = (0 : Int))) (.split (!decide (e.text = (ByteArray.mk #[]))) (.ob (Ctr Tryd.prog 46 [AV.str e.text] (AV.bool (exB Tryd.prog (46 : FuncId) [AV.str e.text]))) (.ob (exB Tryd.prog (46 : FuncId) [AV.str e.text] = x) (.tt))) (.ob (false = x) (.tt))) (.ob (false = x) (.tt))) (.split (decide (e.kind = (3 : Int))) (.split (decide ((↑e.attrs.length : Int) = (0 : Int))) (.ob (decide (e.text = (ByteArray.mk #[])) = x) (.tt)) (.ob (false = x) (.tt))) (.split (!decide (e.kind = (1 : Int))) (.ob (false = x) (.tt)) (.split (!decide (e.text = (ByteArray.mk #[]))) (.ob (false = x) (.tt)) (.ob ((3 : Nat) ≤ (5 : Nat)) (.ob (Ctr Tryd.prog 47 [AV.agg [AV.str e.nm.sp, AV.str e.nm.lo]] (AV.bool (exB Tryd.prog (47 : FuncId) [AV.agg [AV.str e.nm.sp, AV.str e.nm.lo]]))) (.split (exB Tryd.prog (47 : FuncId) [AV.agg [AV.str e.nm.sp, AV.str e.nm.lo]]) (.split (decide ((32 : Int) < (↑e.attrs.length : Int))) (.ob (false = x) (.tt)) (.head (pt Tryd.f22 0) ({ tmps := [(1, AV.ptr 1 0), (4, AV.int .i64 (0 : Int))], heap := [(1, .var true (evC e))], tags := [] }))) (.ob (false = x) (.tt))))))))) (.split (decide (e.kind = (2 : Int))) (.split (false) (.split (!decide (e.text = (ByteArray.mk #[]))) (.ob (Ctr Tryd.prog 46 [AV.str e.text] (AV.bool (exB Tryd.prog (46 : FuncId) [AV.str e.text]))) (.ob (exB Tryd.prog (46 : FuncId) [AV.str e.text] = x) (.tt))) (.ob (false = x) (.tt))) (.ob (false = x) (.tt))) (.split (decide (e.kind = (3 : Int))) (.split (false) (.ob (decide (e.text = (ByteArray.mk #[])) = x) (.tt)) (.ob (false = x) (.tt))) (.split (!decide (e.kind = (1 : Int))) (.ob (false = x) (.tt)) (.split (!decide (e.text = (ByteArray.mk #[]))) (.ob (false = x) (.tt)) (.ob ((3 : Nat) ≤ (5 : Nat)) (.ob (Ctr Tryd.prog 47 [AV.agg [AV.str e.nm.sp, AV.str e.nm.lo]] (AV.bool (exB Tryd.prog (47 : FuncId) [AV.agg [AV.str e.nm.sp, AV.str e.nm.lo]]))) (.split (exB Tryd.prog (47 : FuncId) [AV.agg [AV.str e.nm.sp, AV.str e.nm.lo]]) (.split (decide ((32 : Int) < (↑e.attrs.length : Int))) (.ob (false = x) (.tt)) (.head (pt Tryd.f22 0) ({ tmps := [(1, AV.ptr 1 0), (4, AV.int .i64 (0 : Int))], heap := [(1, .var true (evC e))], tags := [] }))) (.ob (false = x) (.tt))))))))))) (by kernel_rfl) hx)⟩
end Go.Proofs.YteimloiaipiadaaDoor
end
