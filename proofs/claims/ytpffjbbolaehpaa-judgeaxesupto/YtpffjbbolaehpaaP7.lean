import Derived.Test.YtpffjbbolaehpaaP6
import Derived.Test.YtpffjbbolaehpaaP5
import Derived.OpenShut
import Derived.Test.YtpffjbbolaehpaaP4
import Derived.Test.YtpffjbbolaehpaaRows
section
set_option linter.unusedVariables false
set_option linter.unusedSimpArgs false
namespace Go.Proofs.Ytpffjbbolaehpaa
open Go Go.AX

/-! ### What is handed in, as plain data, and its cells -/
structure Nm where
  sp : ByteArray
  lo : ByteArray
deriving DecidableEq
structure Atr where
  nm : Nm
  v : ByteArray
deriving DecidableEq
structure Ev where
  kind : Int
  nm : Nm
  attrs : List Atr
  text : ByteArray
inductive Tr
  | mk (isText : Bool) (text : ByteArray) (nm : Nm) (attrs : List Atr) (kids : List Tr)
mutual
inductive Pth
  | mk (op : Int) (sub : List Pth) (test : List Flt)
inductive Flt
  | mk (op : Int) (nm : Nm) (value : ByteArray) (sub : List Flt) (way : List Pth)
end
def nmC (n : Nm) : List AV := [.str n.sp, .str n.lo]
def atC (a : Atr) : List AV := [.str a.nm.sp, .str a.nm.lo, .str a.v]
def atsC (l : List Atr) : List AV := l.flatMap atC
def evC (e : Ev) : List AV := [.int .i64 e.kind, .str e.nm.sp, .str e.nm.lo, .sl none e.attrs.length (atsC e.attrs) .no, .str e.text]
def evsC (l : List Ev) : List AV := l.flatMap evC
mutual
def trC : Tr → List AV
  | .mk b t n a k => [.bool b, .str t, .str n.sp, .str n.lo, .sl none a.length (atsC a) .no, .sl none k.length (trsC k) .no]
def trsC : List Tr → List AV
  | [] => []
  | t :: r => trC t ++ trsC r
end
mutual
def pthC : Pth → List AV
  | .mk op sub test => [.int .i64 op, .sl none sub.length (pthsC sub) .no, .sl none test.length (fltsC test) .no]
def pthsC : List Pth → List AV
  | [] => []
  | t :: r => pthC t ++ pthsC r
def fltC : Flt → List AV
  | .mk op n v sub way => [.int .i64 op, .str n.sp, .str n.lo, .str v, .sl none sub.length (fltsC sub) .no, .sl none way.length (pthsC way) .no]
def fltsC : List Flt → List AV
  | [] => []
  | t :: r => fltC t ++ fltsC r
end
theorem trsC_eq : ∀ l, trsC l = l.flatMap trC
  | [] => by simp [trsC]
  | t :: r => by simp [trsC, trsC_eq r]
theorem pthsC_eq : ∀ l, pthsC l = l.flatMap pthC
  | [] => by simp [pthsC]
  | t :: r => by simp [pthsC, pthsC_eq r]
theorem fltsC_eq : ∀ l, fltsC l = l.flatMap fltC
  | [] => by simp [fltsC]
  | t :: r => by simp [fltsC, fltsC_eq r]
theorem flat_get {α : Type} {f : α → List AV} {k : Nat} (hk : ∀ a, (f a).length = k) : ∀ (l : List α) (i j : Nat), j < k → (l.flatMap f)[i * k + j]? = l[i]?.bind fun a => (f a)[j]?
  | [], i, j, hj => by simp
  | a :: l, 0, j, hj => by
    rw [List.flatMap_cons, List.getElem?_append_left (by rw [hk]; omega)]
    simp
  | a :: l, i + 1, j, hj => by
    have e : (i + 1) * k + j = k + (i * k + j) := by rw [Nat.add_mul, Nat.one_mul]; omega
    rw [List.flatMap_cons, List.getElem?_append_right (by rw [hk, e]; omega), hk, e, Nat.add_sub_cancel_left, flat_get hk l i j hj]
    simp
theorem flat_len {α : Type} {f : α → List AV} {k : Nat} (hk : ∀ a, (f a).length = k) : ∀ (l : List α), (l.flatMap f).length = l.length * k
  | [] => by simp
  | a :: l => by rw [List.flatMap_cons, List.length_append, flat_len hk l, hk, List.length_cons, Nat.add_mul, Nat.one_mul, Nat.add_comm]
theorem atC_len (a : Atr) : (atC a).length = 3 := rfl
theorem evC_len (a : Ev) : (evC a).length = 5 := rfl
theorem trC_len (a : Tr) : (trC a).length = 6 := by cases a; rfl
theorem pthC_len (a : Pth) : (pthC a).length = 3 := by cases a; rfl
theorem fltC_len (a : Flt) : (fltC a).length = 6 := by cases a; rfl
theorem atsC_len (l : List Atr) : (atsC l).length = l.length * 3 := flat_len atC_len l
theorem evsC_len (l : List Ev) : (evsC l).length = l.length * 5 := flat_len evC_len l
theorem trsC_len (l : List Tr) : (trsC l).length = l.length * 6 := by rw [trsC_eq]; exact flat_len trC_len l
theorem pthsC_len (l : List Pth) : (pthsC l).length = l.length * 3 := by rw [pthsC_eq]; exact flat_len pthC_len l
theorem fltsC_len (l : List Flt) : (fltsC l).length = l.length * 6 := by rw [fltsC_eq]; exact flat_len fltC_len l
theorem atsC_get (l : List Atr) (i j : Nat) (hj : j < 3) : (atsC l)[i * 3 + j]? = l[i]?.bind fun a => (atC a)[j]? := flat_get atC_len l i j hj
theorem evsC_get (l : List Ev) (i j : Nat) (hj : j < 5) : (evsC l)[i * 5 + j]? = l[i]?.bind fun a => (evC a)[j]? := flat_get evC_len l i j hj
theorem trsC_get (l : List Tr) (i j : Nat) (hj : j < 6) : (trsC l)[i * 6 + j]? = l[i]?.bind fun a => (trC a)[j]? := by rw [trsC_eq]; exact flat_get trC_len l i j hj
theorem pthsC_get (l : List Pth) (i j : Nat) (hj : j < 3) : (pthsC l)[i * 3 + j]? = l[i]?.bind fun a => (pthC a)[j]? := by rw [pthsC_eq]; exact flat_get pthC_len l i j hj
theorem fltsC_get (l : List Flt) (i j : Nat) (hj : j < 6) : (fltsC l)[i * 6 + j]? = l[i]?.bind fun a => (fltC a)[j]? := by rw [fltsC_eq]; exact flat_get fltC_len l i j hj

theorem flat_take {α : Type} {f : α → List AV} {k : Nat} (hk : ∀ a, (f a).length = k) (d : α) (l : List α) (i j m : Nat) (hi : i < l.length) (hm : j + m ≤ k) : ((l.flatMap f).drop (i * k + j)).take m = ((f (l.getD i d)).drop j).take m := by
  apply List.ext_getElem?
  intro n
  rw [List.getElem?_take, List.getElem?_take]
  split
  · rw [List.getElem?_drop, List.getElem?_drop, Nat.add_assoc, flat_get hk l i (j + n) (by omega), List.getElem?_eq_getElem hi, List.getD_eq_getElem?_getD, List.getElem?_eq_getElem hi]
    rfl
  · rfl
theorem flat_nth {α : Type} {f : α → List AV} {k : Nat} (hk : ∀ a, (f a).length = k) (d : α) (l : List α) (i j : Nat) (hi : i < l.length) (hj : j < k) : (l.flatMap f)[i * k + j]? = (f (l.getD i d))[j]? := by
  rw [flat_get hk l i j hj, List.getElem?_eq_getElem hi, List.getD_eq_getElem?_getD, List.getElem?_eq_getElem hi]
  rfl
theorem flat_nth0 {α : Type} {f : α → List AV} {k : Nat} (hk : ∀ a, (f a).length = k) (d : α) (l : List α) (i : Nat) (hi : i < l.length) (hj : 0 < k) : (l.flatMap f)[i * k]? = (f (l.getD i d))[0]? := flat_nth hk d l i 0 hi hj
/-! Texts that are not too long. -/
def Nm.ok (n : Nm) : Prop := n.sp.size ≤ 1048600 ∧ n.lo.size ≤ 1048600
def Atr.ok (a : Atr) : Prop := a.nm.ok ∧ a.v.size ≤ 1048600
def Ev.ok (e : Ev) : Prop := e.nm.ok ∧ e.text.size ≤ 1048600 ∧ e.attrs.length ≤ 1048600 ∧ ∀ a ∈ e.attrs, a.ok
def nm0 : Nm := ⟨⟨#[]⟩, ⟨#[]⟩⟩
def atr0 : Atr := ⟨nm0, ⟨#[]⟩⟩
def ev0 : Ev := ⟨0, nm0, [], ⟨#[]⟩⟩
def pth0 : Pth := .mk 0 [] []
def flt0 : Flt := .mk 0 nm0 ⟨#[]⟩ [] []
def tr0 : Tr := .mk false ⟨#[]⟩ nm0 [] []
def Pth.op : Pth → Int | .mk op _ _ => op
def Pth.sub : Pth → List Pth | .mk _ s _ => s
def Pth.test : Pth → List Flt | .mk _ _ t => t
def Flt.op : Flt → Int | .mk op _ _ _ _ => op
def Flt.nm : Flt → Nm | .mk _ n _ _ _ => n
def Flt.val : Flt → ByteArray | .mk _ _ v _ _ => v
def Flt.sub : Flt → List Flt | .mk _ _ _ s _ => s
def Flt.way : Flt → List Pth | .mk _ _ _ _ w => w
def Tr.isText : Tr → Bool | .mk b _ _ _ _ => b
def Tr.text : Tr → ByteArray | .mk _ t _ _ _ => t
def Tr.nm : Tr → Nm | .mk _ _ n _ _ => n
def Tr.attrs : Tr → List Atr | .mk _ _ _ a _ => a
def Tr.kids : Tr → List Tr | .mk _ _ _ _ k => k
def pthL (p : Pth) : List AV := [.int .i64 p.op, .sl none p.sub.length (pthsC p.sub) .no, .sl none p.test.length (fltsC p.test) .no]
def fltL (f : Flt) : List AV := [.int .i64 f.op, .str f.nm.sp, .str f.nm.lo, .str f.val, .sl none f.sub.length (fltsC f.sub) .no, .sl none f.way.length (pthsC f.way) .no]
def trL (t : Tr) : List AV := [.bool t.isText, .str t.text, .str t.nm.sp, .str t.nm.lo, .sl none t.attrs.length (atsC t.attrs) .no, .sl none t.kids.length (trsC t.kids) .no]
theorem pthC_L (p : Pth) : pthC p = pthL p := by cases p; rfl
theorem fltC_L (p : Flt) : fltC p = fltL p := by cases p; rfl
theorem trC_L (p : Tr) : trC p = trL p := by cases p; rfl
theorem ats_take (l : List Atr) (i j m : Nat) (hi : i < l.length) (hm : j + m ≤ 3) : ((atsC l).drop (i * 3 + j)).take m = ((atC (l.getD i atr0)).drop j).take m := flat_take atC_len atr0 l i j m hi hm
theorem ats_nth (l : List Atr) (i j : Nat) (hi : i < l.length) (hj : j < 3) : (atsC l)[i * 3 + j]? = (atC (l.getD i atr0))[j]? := flat_nth atC_len atr0 l i j hi hj
theorem evs_take (l : List Ev) (i j m : Nat) (hi : i < l.length) (hm : j + m ≤ 5) : ((evsC l).drop (i * 5 + j)).take m = ((evC (l.getD i ev0)).drop j).take m := flat_take evC_len ev0 l i j m hi hm
theorem evs_nth (l : List Ev) (i j : Nat) (hi : i < l.length) (hj : j < 5) : (evsC l)[i * 5 + j]? = (evC (l.getD i ev0))[j]? := flat_nth evC_len ev0 l i j hi hj
theorem trs_take (l : List Tr) (i j m : Nat) (hi : i < l.length) (hm : j + m ≤ 6) : ((trsC l).drop (i * 6 + j)).take m = ((trL (l.getD i tr0)).drop j).take m := by rw [trsC_eq, ← trC_L]; exact flat_take trC_len tr0 l i j m hi hm
theorem trs_nth (l : List Tr) (i j : Nat) (hi : i < l.length) (hj : j < 6) : (trsC l)[i * 6 + j]? = (trL (l.getD i tr0))[j]? := by rw [trsC_eq, ← trC_L]; exact flat_nth trC_len tr0 l i j hi hj
theorem pths_take (l : List Pth) (i j m : Nat) (hi : i < l.length) (hm : j + m ≤ 3) : ((pthsC l).drop (i * 3 + j)).take m = ((pthL (l.getD i pth0)).drop j).take m := by rw [pthsC_eq, ← pthC_L]; exact flat_take pthC_len pth0 l i j m hi hm
theorem pths_nth (l : List Pth) (i j : Nat) (hi : i < l.length) (hj : j < 3) : (pthsC l)[i * 3 + j]? = (pthL (l.getD i pth0))[j]? := by rw [pthsC_eq, ← pthC_L]; exact flat_nth pthC_len pth0 l i j hi hj
theorem flts_take (l : List Flt) (i j m : Nat) (hi : i < l.length) (hm : j + m ≤ 6) : ((fltsC l).drop (i * 6 + j)).take m = ((fltL (l.getD i flt0)).drop j).take m := by rw [fltsC_eq, ← fltC_L]; exact flat_take fltC_len flt0 l i j m hi hm
theorem flts_nth (l : List Flt) (i j : Nat) (hi : i < l.length) (hj : j < 6) : (fltsC l)[i * 6 + j]? = (fltL (l.getD i flt0))[j]? := by rw [fltsC_eq, ← fltC_L]; exact flat_nth fltC_len flt0 l i j hi hj
theorem ats_take0 (l : List Atr) (i m : Nat) (hi : i < l.length) (hm : m ≤ 3) : ((atsC l).drop (i * 3)).take m = (atC (l.getD i atr0)).take m := by have := ats_take l i 0 m hi (by omega); simpa using this
theorem ats_nth0 (l : List Atr) (i : Nat) (hi : i < l.length) : (atsC l)[i * 3]? = (atC (l.getD i atr0))[0]? := ats_nth l i 0 hi (by decide)
theorem evs_take0 (l : List Ev) (i m : Nat) (hi : i < l.length) (hm : m ≤ 5) : ((evsC l).drop (i * 5)).take m = (evC (l.getD i ev0)).take m := by have := evs_take l i 0 m hi (by omega); simpa using this
theorem evs_nth0 (l : List Ev) (i : Nat) (hi : i < l.length) : (evsC l)[i * 5]? = (evC (l.getD i ev0))[0]? := evs_nth l i 0 hi (by decide)
theorem trs_take0 (l : List Tr) (i m : Nat) (hi : i < l.length) (hm : m ≤ 6) : ((trsC l).drop (i * 6)).take m = (trL (l.getD i tr0)).take m := by have := trs_take l i 0 m hi (by omega); simpa using this
theorem trs_nth0 (l : List Tr) (i : Nat) (hi : i < l.length) : (trsC l)[i * 6]? = (trL (l.getD i tr0))[0]? := trs_nth l i 0 hi (by decide)
theorem pths_take0 (l : List Pth) (i m : Nat) (hi : i < l.length) (hm : m ≤ 3) : ((pthsC l).drop (i * 3)).take m = (pthL (l.getD i pth0)).take m := by have := pths_take l i 0 m hi (by omega); simpa using this
theorem pths_nth0 (l : List Pth) (i : Nat) (hi : i < l.length) : (pthsC l)[i * 3]? = (pthL (l.getD i pth0))[0]? := pths_nth l i 0 hi (by decide)
theorem flts_take0 (l : List Flt) (i m : Nat) (hi : i < l.length) (hm : m ≤ 6) : ((fltsC l).drop (i * 6)).take m = (fltL (l.getD i flt0)).take m := by have := flts_take l i 0 m hi (by omega); simpa using this
theorem flts_nth0 (l : List Flt) (i : Nat) (hi : i < l.length) : (fltsC l)[i * 6]? = (fltL (l.getD i flt0))[0]? := flts_nth l i 0 hi (by decide)
theorem getD_mem {α : Type} (l : List α) (i : Nat) (d : α) (h : i < l.length) : l.getD i d ∈ l := by
  rw [List.getD_eq_getElem?_getD, List.getElem?_eq_getElem h]
  exact List.getElem_mem h
/-! Paths and filters: what is not too great; what is right. -/
mutual
def Pth.ok : Pth → Prop
  | .mk op sub test => sub.length ≤ 1048600 ∧ test.length ≤ 1048600 ∧ oksP sub ∧ oksF test
def oksP : List Pth → Prop
  | [] => True
  | p :: r => p.ok ∧ oksP r
def Flt.ok : Flt → Prop
  | .mk op n v sub way => n.ok ∧ v.size ≤ 1048600 ∧ sub.length ≤ 1048600 ∧ way.length ≤ 1048600 ∧ oksF sub ∧ oksP way
def oksF : List Flt → Prop
  | [] => True
  | p :: r => p.ok ∧ oksF r
end
theorem oksP_mem : ∀ {l : List Pth}, oksP l → ∀ p ∈ l, p.ok
  | p :: r, h, q, hq => by
    simp only [oksP] at h
    rcases List.mem_cons.1 hq with rfl | hq
    · exact h.1
    · exact oksP_mem h.2 q hq
theorem oksF_mem : ∀ {l : List Flt}, oksF l → ∀ p ∈ l, p.ok
  | p :: r, h, q, hq => by
    simp only [oksF] at h
    rcases List.mem_cons.1 hq with rfl | hq
    · exact h.1
    · exact oksF_mem h.2 q hq
theorem Pth.ok_i {p : Pth} (h : p.ok) : p.sub.length ≤ 1048600 ∧ p.test.length ≤ 1048600 ∧ (∀ q ∈ p.sub, q.ok) ∧ ∀ q ∈ p.test, q.ok := by
  cases p
  simp only [Pth.ok] at h
  exact ⟨h.1, h.2.1, oksP_mem h.2.2.1, oksF_mem h.2.2.2⟩
theorem Flt.ok_i {f : Flt} (h : f.ok) : f.nm.ok ∧ f.val.size ≤ 1048600 ∧ f.sub.length ≤ 1048600 ∧ f.way.length ≤ 1048600 ∧ (∀ q ∈ f.sub, q.ok) ∧ ∀ q ∈ f.way, q.ok := by
  cases f
  simp only [Flt.ok] at h
  exact ⟨h.1, h.2.1, h.2.2.1, h.2.2.2.1, oksF_mem h.2.2.2.2.1, oksP_mem h.2.2.2.2.2⟩
structure Pth.r1 (p : Pth) : Prop where
  op : 1 ≤ p.op ∧ p.op ≤ 7
  two : p.op = 4 ∨ p.op = 5 → 2 ≤ p.sub.length
  one : p.op = 6 → p.sub.length = 1
  non : p.op ≠ 4 ∧ p.op ≠ 5 ∧ p.op ≠ 6 → p.sub.length = 0
  test : p.op = 7 ↔ p.test.length = 1
  le : p.test.length ≤ 1
structure Flt.r1 (p : Flt) : Prop where
  op : 1 ≤ p.op ∧ p.op ≤ 11
  two : p.op = 9 ∨ p.op = 10 → 2 ≤ p.sub.length
  one : p.op = 8 → p.sub.length = 1
  non : p.op ≠ 8 ∧ p.op ≠ 9 ∧ p.op ≠ 10 → p.sub.length = 0
  way : p.op = 11 ↔ p.way.length = 1
  le : p.way.length ≤ 1
mutual
inductive Pth.r : Pth → Prop
  | mk (p : Pth) (h : p.r1) (hs : ∀ q ∈ p.sub, Pth.r q) (ht : ∀ f ∈ p.test, Flt.r f) : Pth.r p
inductive Flt.r : Flt → Prop
  | mk (p : Flt) (h : p.r1) (hs : ∀ q ∈ p.sub, Flt.r q) (ht : ∀ f ∈ p.way, Pth.r f) : Flt.r p
end
theorem all_getD {α : Type} {l : List α} {d : α} {Q : α → Prop} (h : ∀ k, k < l.length → Q (l.getD k d)) : ∀ q ∈ l, Q q := by
  intro q hq
  obtain ⟨k, hk, rfl⟩ := List.getElem_of_mem hq
  have := h k hk
  rwa [List.getD_eq_getElem?_getD, List.getElem?_eq_getElem hk] at this
theorem Pth.r_of {p : Pth} (h : p.r1) (hs : ∀ k, k < p.sub.length → (p.sub.getD k pth0).r) (ht : 0 < p.test.length → (p.test.getD 0 flt0).r) : p.r :=
  .mk p h (all_getD hs) (all_getD (d := flt0) fun k hk => by
    have : k = 0 := by have := h.le; omega
    subst this
    exact ht hk)
theorem Flt.r_of {p : Flt} (h : p.r1) (hs : ∀ k, k < p.sub.length → (p.sub.getD k flt0).r) (ht : 0 < p.way.length → (p.way.getD 0 pth0).r) : p.r :=
  .mk p h (all_getD hs) (all_getD (d := pth0) fun k hk => by
    have : k = 0 := by have := h.le; omega
    subst this
    exact ht hk)
/-- How many are open ahead of a place. -/
def stepE (e : Ev) : Int := if e.kind = 1 then 1 else if e.kind = 3 then -1 else 0
theorem stepE_1 {e : Ev} (h : e.kind = 1) : stepE e = 1 := by simp [stepE, h]
theorem stepE_2 {e : Ev} (h : e.kind = 2) : stepE e = 0 := by simp [stepE, h]
theorem stepE_3 {e : Ev} (h : e.kind = 3) : stepE e = -1 := by simp [stepE, h]
def dep (l : List Ev) : Nat → Int
  | 0 => 0
  | i + 1 => dep l i + stepE (l.getD i ev0)
/-- No two attributes have one name. -/
def DisF (e : Ev) (i : Nat) : Prop := ∀ j k, i ≤ k → j < k → k < e.attrs.length → (e.attrs.getD j atr0).nm ≠ (e.attrs.getD k atr0).nm
def EvR (e : Ev) : Prop := (e.kind = 1 ∨ e.kind = 2 ∨ e.kind = 3) ∧ DisF e 0
theorem ex_imp {α : Type} {R R' Q : α → Prop} (h : ∃ x, R x ∧ Q x) (k : ∀ x, R x → R' x) : ∃ x, R' x ∧ Q x := by
  obtain ⟨x, h1, h2⟩ := h
  exact ⟨x, k x h1, h2⟩
structure DocP (l : List Ev) (k : Nat) : Prop where
  kind : ∀ i, i < k → (l.getD i ev0).kind = 1 ∨ (l.getD i ev0).kind = 2 ∨ (l.getD i ev0).kind = 3
  dis : ∀ i, i < k → DisF (l.getD i ev0) 0
  pos : ∀ i, 0 < i → i < k → 1 ≤ dep l i
  first : 0 < k → (l.getD 0 ev0).kind = 1
theorem DocP.succ {l : List Ev} {i : Nat} (h : DocP l i) (hk : EvR (l.getD i ev0)) (hp : 0 < i → 1 ≤ dep l i) (hf : i = 0 → (l.getD i ev0).kind = 1) : DocP l (i + 1) := by
  refine ⟨fun j hj => ?_, fun j hj => ?_, fun j h0 hj => ?_, fun _ => ?_⟩
  · rcases Nat.lt_or_eq_of_le (Nat.lt_succ_iff.1 hj) with h1 | h1
    · exact h.kind j h1
    · rw [h1]; exact hk.1
  · rcases Nat.lt_or_eq_of_le (Nat.lt_succ_iff.1 hj) with h1 | h1
    · exact h.dis j h1
    · rw [h1]; exact hk.2
  · rcases Nat.lt_or_eq_of_le (Nat.lt_succ_iff.1 hj) with h1 | h1
    · exact h.pos j h0 h1
    · rw [h1]; exact hp (by omega)
  · rcases Nat.eq_zero_or_pos i with h1 | h1
    · subst h1; exact hf rfl
    · exact h.first h1
structure Doc (l : List Ev) : Prop where
  p : DocP l l.length
  ends : dep l l.length = 0
  len : 0 < l.length ∧ l.length ≤ 60
end Go.Proofs.Ytpffjbbolaehpaa
end

section
set_option linter.unusedVariables false
set_option linter.unusedSimpArgs false
set_option maxRecDepth 100000
namespace Go.Proofs.Ytpffjbbolaehpaa
open Go Go.AX
noncomputable def annL : List (Nat × Ann) := (1000051, .callF [] (fun args => .bool (exB Try.prog 51 args))) :: (1000058, .callF [] (fun args => .bool (exB Try.prog 58 args))) :: (1000062, .callF [] (fun args => .bool (exB Try.prog 62 args))) :: (1000050, .callF [] (fun args => .bool (exB Try.prog 50 args))) :: (1000052, .callF [] (fun args => .bool (exB Try.prog 52 args))) :: (1000009, .callF [] (fun args => .bool (exB Try.prog 9 args))) :: (1000010, .callF [] (fun args => .bool (exB Try.prog 10 args))) :: (1000059, .callF [] (fun args => .int .i64 (exI Try.prog 59 args))) :: annK

theorem nm_ne (a b : Nm) (h : (decide (a.sp = b.sp) && (decide (a.lo = b.lo) && true)) = false) : a ≠ b := by
  intro e
  rw [e] at h
  simp at h

theorem named9_ex (n : Nm) (hn : n.ok) : ∃ x : Bool, (Triv) ∧ Ctr Try.prog 62 [.agg (nmC n)] (.bool x) := by
    have H : ∃ x : Bool, (Triv) ∧ PT.holds Try.prog Try.f62.ntmps (EndsA Γ (.pure [] (.bool x)) Try.f62) (.ob (Ctr Try.prog 58 [AV.str n.lo] (AV.bool (exB Try.prog (58 : FuncId) [AV.str n.lo]))) (.split (exB Try.prog (58 : FuncId) [AV.str n.lo]) (.ob (Ctr Try.prog 51 [AV.str n.lo] (AV.bool (exB Try.prog (51 : FuncId) [AV.str n.lo]))) (.split (exB Try.prog (51 : FuncId) [AV.str n.lo]) (.ob (Ctr Try.prog 51 [AV.str n.sp] (AV.bool (exB Try.prog (51 : FuncId) [AV.str n.sp]))) (.split (exB Try.prog (51 : FuncId) [AV.str n.sp]) (.ob ((!decide (n.sp = (ByteArray.mk #[(104 : UInt8), (116 : UInt8), (116 : UInt8), (112 : UInt8), (58 : UInt8), (47 : UInt8), (47 : UInt8), (119 : UInt8), (119 : UInt8), (119 : UInt8), (46 : UInt8), (119 : UInt8), (51 : UInt8), (46 : UInt8), (111 : UInt8), (114 : UInt8), (103 : UInt8), (47 : UInt8), (50 : UInt8), (48 : UInt8), (48 : UInt8), (48 : UInt8), (47 : UInt8), (120 : UInt8), (109 : UInt8), (108 : UInt8), (110 : UInt8), (115 : UInt8), (47 : UInt8)]))) = x) (.tt)) (.ob (false = x) (.tt)))) (.ob (false = x) (.tt)))) (.ob (false = x) (.tt)))) := by
      simp only [PT.holds]
      (repeat' first | exact ⟨_, triv, rfl, trivial⟩ | exact ⟨_, triv, rfl⟩ | refine ex_split (fun _ => ?_) (fun _ => ?_) | refine ex_ob ?_ ?_)
      all_goals first | exact exB_ctr (plain_ex _ hn.2) | exact exB_ctr (right_ex _ hn.1) | exact exB_ctr (right_ex _ hn.2)
    obtain ⟨x, hR, hx⟩ := H
    exact ⟨x, hR, Ctr.mk Γ_ok Try.func62 (by kernel_rfl) Try.call62 [] (by kernel_rfl) (HT.walk Γ_ok mo_ok (⟨annL, sp62, [], [], .pure [] (.bool x)⟩ : Wk) 4000 (T := .ob (Ctr Try.prog 58 [AV.str n.lo] (AV.bool (exB Try.prog (58 : FuncId) [AV.str n.lo]))) (.split (exB Try.prog (58 : FuncId) [AV.str n.lo]) (.ob (Ctr Try.prog 51 [AV.str n.lo] (AV.bool (exB Try.prog (51 : FuncId) [AV.str n.lo]))) (.split (exB Try.prog (51 : FuncId) [AV.str n.lo]) (.ob (Ctr Try.prog 51 [AV.str n.sp] (AV.bool (exB Try.prog (51 : FuncId) [AV.str n.sp]))) (.split (exB Try.prog (51 : FuncId) [AV.str n.sp]) (.ob ((!decide (n.sp = (ByteArray.mk #[(104 : UInt8), (116 : UInt8), (116 : UInt8), (112 : UInt8), (58 : UInt8), (47 : UInt8), (47 : UInt8), (119 : UInt8), (119 : UInt8), (119 : UInt8), (46 : UInt8), (119 : UInt8), (51 : UInt8), (46 : UInt8), (111 : UInt8), (114 : UInt8), (103 : UInt8), (47 : UInt8), (50 : UInt8), (48 : UInt8), (48 : UInt8), (48 : UInt8), (47 : UInt8), (120 : UInt8), (109 : UInt8), (108 : UInt8), (110 : UInt8), (115 : UInt8), (47 : UInt8)]))) = x) (.tt)) (.ob (false = x) (.tt)))) (.ob (false = x) (.tt)))) (.ob (false = x) (.tt)))) (by kernel_rfl) hx)⟩
theorem named12_ex (n : Nm) (hn : n.ok) : ∃ x : Bool, (Triv) ∧ Ctr Try.prog 50 [.agg (nmC n)] (.bool x) := by
    have H : ∃ x : Bool, (Triv) ∧ PT.holds Try.prog Try.f50.ntmps (EndsA Γ (.pure [] (.bool x)) Try.f50) (.split (!decide (n.sp = (ByteArray.mk #[(104 : UInt8), (116 : UInt8), (116 : UInt8), (112 : UInt8), (58 : UInt8), (47 : UInt8), (47 : UInt8), (119 : UInt8), (119 : UInt8), (119 : UInt8), (46 : UInt8), (119 : UInt8), (51 : UInt8), (46 : UInt8), (111 : UInt8), (114 : UInt8), (103 : UInt8), (47 : UInt8), (50 : UInt8), (48 : UInt8), (48 : UInt8), (48 : UInt8), (47 : UInt8), (120 : UInt8), (109 : UInt8), (108 : UInt8), (110 : UInt8), (115 : UInt8), (47 : UInt8)]))) (.ob (Ctr Try.prog 58 [AV.str n.lo] (AV.bool (exB Try.prog (58 : FuncId) [AV.str n.lo]))) (.split (exB Try.prog (58 : FuncId) [AV.str n.lo]) (.ob (Ctr Try.prog 51 [AV.str n.lo] (AV.bool (exB Try.prog (51 : FuncId) [AV.str n.lo]))) (.split (exB Try.prog (51 : FuncId) [AV.str n.lo]) (.ob (Ctr Try.prog 51 [AV.str n.sp] (AV.bool (exB Try.prog (51 : FuncId) [AV.str n.sp]))) (.split (exB Try.prog (51 : FuncId) [AV.str n.sp]) (.ob (Ctr Try.prog 59 [AV.str n.sp, AV.int .i64 (0 : Int), AV.str (ByteArray.mk #[(123 : UInt8)])] (AV.int .i64 (exI Try.prog (59 : FuncId) [AV.str n.sp, AV.int .i64 (0 : Int), AV.str (ByteArray.mk #[(123 : UInt8)])]))) (.split (decide (exI Try.prog (59 : FuncId) [AV.str n.sp, AV.int .i64 (0 : Int), AV.str (ByteArray.mk #[(123 : UInt8)])] < (0 : Int))) (.ob (Ctr Try.prog 59 [AV.str n.sp, AV.int .i64 (0 : Int), AV.str (ByteArray.mk #[(125 : UInt8)])] (AV.int .i64 (exI Try.prog (59 : FuncId) [AV.str n.sp, AV.int .i64 (0 : Int), AV.str (ByteArray.mk #[(125 : UInt8)])]))) (.ob (decide (exI Try.prog (59 : FuncId) [AV.str n.sp, AV.int .i64 (0 : Int), AV.str (ByteArray.mk #[(125 : UInt8)])] < (0 : Int)) = x) (.tt))) (.ob (false = x) (.tt)))) (.ob (false = x) (.tt)))) (.ob (false = x) (.tt)))) (.ob (false = x) (.tt)))) (.ob (false = x) (.tt))) := by
      simp only [PT.holds]
      (repeat' first | exact ⟨_, triv, rfl, trivial⟩ | exact ⟨_, triv, rfl⟩ | refine ex_split (fun _ => ?_) (fun _ => ?_) | refine ex_ob ?_ ?_)
      all_goals first | exact exB_ctr (plain_ex _ hn.2) | exact exB_ctr (right_ex _ hn.1) | exact exB_ctr (right_ex _ hn.2) | exact exI_ctr (find_ex _ _ hn.1 (by decide))
    obtain ⟨x, hR, hx⟩ := H
    exact ⟨x, hR, Ctr.mk Γ_ok Try.func50 (by kernel_rfl) Try.call50 [] (by kernel_rfl) (HT.walk Γ_ok mo_ok (⟨annL, sp50, [], [], .pure [] (.bool x)⟩ : Wk) 4000 (T := .split (!decide (n.sp = (ByteArray.mk #[(104 : UInt8), (116 : UInt8), (116 : UInt8), (112 : UInt8), (58 : UInt8), (47 : UInt8), (47 : UInt8), (119 : UInt8), (119 : UInt8), (119 : UInt8), (46 : UInt8), (119 : UInt8), (51 : UInt8), (46 : UInt8), (111 : UInt8), (114 : UInt8), (103 : UInt8), (47 : UInt8), (50 : UInt8), (48 : UInt8), (48 : UInt8), (48 : UInt8), (47 : UInt8), (120 : UInt8), (109 : UInt8), (108 : UInt8), (110 : UInt8), (115 : UInt8), (47 : UInt8)]))) (.ob (Ctr Try.prog 58 [AV.str n.lo] (AV.bool (exB Try.prog (58 : FuncId) [AV.str n.lo]))) (.split (exB Try.prog (58 : FuncId) [AV.str n.lo]) (.ob (Ctr Try.prog 51 [AV.str n.lo] (AV.bool (exB Try.prog (51 : FuncId) [AV.str n.lo]))) (.split (exB Try.prog (51 : FuncId) [AV.str n.lo]) (.ob (Ctr Try.prog 51 [AV.str n.sp] (AV.bool (exB Try.prog (51 : FuncId) [AV.str n.sp]))) (.split (exB Try.prog (51 : FuncId) [AV.str n.sp]) (.ob (Ctr Try.prog 59 [AV.str n.sp, AV.int .i64 (0 : Int), AV.str (ByteArray.mk #[(123 : UInt8)])] (AV.int .i64 (exI Try.prog (59 : FuncId) [AV.str n.sp, AV.int .i64 (0 : Int), AV.str (ByteArray.mk #[(123 : UInt8)])]))) (.split (decide (exI Try.prog (59 : FuncId) [AV.str n.sp, AV.int .i64 (0 : Int), AV.str (ByteArray.mk #[(123 : UInt8)])] < (0 : Int))) (.ob (Ctr Try.prog 59 [AV.str n.sp, AV.int .i64 (0 : Int), AV.str (ByteArray.mk #[(125 : UInt8)])] (AV.int .i64 (exI Try.prog (59 : FuncId) [AV.str n.sp, AV.int .i64 (0 : Int), AV.str (ByteArray.mk #[(125 : UInt8)])]))) (.ob (decide (exI Try.prog (59 : FuncId) [AV.str n.sp, AV.int .i64 (0 : Int), AV.str (ByteArray.mk #[(125 : UInt8)])] < (0 : Int)) = x) (.tt))) (.ob (false = x) (.tt)))) (.ob (false = x) (.tt)))) (.ob (false = x) (.tt)))) (.ob (false = x) (.tt)))) (.ob (false = x) (.tt))) (by kernel_rfl) hx)⟩
def stE0 (e : Ev) (i : Nat) : AS := ⟨[(1, .ptr 1 0), (4, .int .i64 i)], [(1, .var true (evC e))], []⟩
def stE1 (e : Ev) (i j : Nat) : AS := ⟨[(1, .ptr 1 0), (4, .int .i64 i), (5, .int .i64 j)], [(1, .var true (evC e))], []⟩
theorem evr_h1 (e : Ev) (i j : Nat) (hj : j ≤ i) (hi : i < e.attrs.length) (he : e.attrs.length ≤ 1048600) (ih : j < i → ∃ x : Bool, (x = true → (e.kind = 1 ∨ e.kind = 2 ∨ e.kind = 3) ∧ DisF e (i + 1) ∧ ∀ k, (j + 1) ≤ k → k < i → (e.attrs.getD k atr0).nm ≠ (e.attrs.getD i atr0).nm) ∧ HT Try.prog Try.f52.ntmps (pt Try.f52 1) (stE1 e i (j + 1)) (EndsA Γ (.pure [] (.bool x)) Try.f52)) (k0 : ∃ x : Bool, (x = true → (e.kind = 1 ∨ e.kind = 2 ∨ e.kind = 3) ∧ DisF e (i + 1)) ∧ HT Try.prog Try.f52.ntmps (pt Try.f52 0) (stE0 e (i + 1)) (EndsA Γ (.pure [] (.bool x)) Try.f52)) : ∃ x : Bool, (x = true → (e.kind = 1 ∨ e.kind = 2 ∨ e.kind = 3) ∧ DisF e (i + 1) ∧ ∀ k, j ≤ k → k < i → (e.attrs.getD k atr0).nm ≠ (e.attrs.getD i atr0).nm) ∧ HT Try.prog Try.f52.ntmps (pt Try.f52 1) (stE1 e i j) (EndsA Γ (.pure [] (.bool x)) Try.f52) := by
    have H : ∃ x : Bool, (x = true → (e.kind = 1 ∨ e.kind = 2 ∨ e.kind = 3) ∧ DisF e (i + 1) ∧ ∀ k, j ≤ k → k < i → (e.attrs.getD k atr0).nm ≠ (e.attrs.getD i atr0).nm) ∧ PT.holds Try.prog Try.f52.ntmps (EndsA Γ (.pure [] (.bool x)) Try.f52) (.split (decide ((↑j : Int) < (↑i : Int))) (.or (.ob ((0 : Int) ≤ (↑j : Int) ∧ (↑j : Int) < (↑e.attrs.length : Int) ∧ (↑j : Int).toNat * (3 : Nat) < (atsC e.attrs).length) (.ob (List.take (2 : Nat) (List.drop ((↑j : Int).toNat * (3 : Nat) + (0 : Nat)) (atsC e.attrs)) = [AV.str (e.attrs.getD j atr0).nm.sp, AV.str (e.attrs.getD j atr0).nm.lo]) (.ob ((0 : Int) ≤ (↑i : Int) ∧ (↑i : Int) < (↑e.attrs.length : Int) ∧ (↑i : Int).toNat * (3 : Nat) < (atsC e.attrs).length) (.ob (List.take (2 : Nat) (List.drop ((↑i : Int).toNat * (3 : Nat) + (0 : Nat)) (atsC e.attrs)) = [AV.str (e.attrs.getD i atr0).nm.sp, AV.str (e.attrs.getD i atr0).nm.lo]) (.ob ((decide ((e.attrs.getD j atr0).nm.sp = (e.attrs.getD i atr0).nm.sp) && (decide ((e.attrs.getD j atr0).nm.lo = (e.attrs.getD i atr0).nm.lo) && true)) = true) (.ob (false = x) (.tt))))))) (.ob ((0 : Int) ≤ (↑j : Int) ∧ (↑j : Int) < (↑e.attrs.length : Int) ∧ (↑j : Int).toNat * (3 : Nat) < (atsC e.attrs).length) (.ob (List.take (2 : Nat) (List.drop ((↑j : Int).toNat * (3 : Nat) + (0 : Nat)) (atsC e.attrs)) = [AV.str (e.attrs.getD j atr0).nm.sp, AV.str (e.attrs.getD j atr0).nm.lo]) (.ob ((0 : Int) ≤ (↑i : Int) ∧ (↑i : Int) < (↑e.attrs.length : Int) ∧ (↑i : Int).toNat * (3 : Nat) < (atsC e.attrs).length) (.ob (List.take (2 : Nat) (List.drop ((↑i : Int).toNat * (3 : Nat) + (0 : Nat)) (atsC e.attrs)) = [AV.str (e.attrs.getD i atr0).nm.sp, AV.str (e.attrs.getD i atr0).nm.lo]) (.ob ((decide ((e.attrs.getD j atr0).nm.sp = (e.attrs.getD i atr0).nm.sp) && (decide ((e.attrs.getD j atr0).nm.lo = (e.attrs.getD i atr0).nm.lo) && true)) = false) (.head (pt Try.f52 1) ({ tmps := [(1, AV.ptr 1 0), (4, AV.int .i64 (↑i : Int)), (5, AV.int .i64 (IntKind.i64.wrap ((↑j : Int) + (1 : Int))))], heap := [(1, .var true (evC e))], tags := [] })))))))) (.head (pt Try.f52 0) ({ tmps := [(1, AV.ptr 1 0), (4, AV.int .i64 (IntKind.i64.wrap ((↑i : Int) + (1 : Int))))], heap := [(1, .var true (evC e))], tags := [] }))) := by
      have w2 : IntKind.i64.wrap ((i : Int) + 1) = ((i + 1 : Nat) : Int) := by rw [i64_wrap (by omega) (by omega)]; rfl
      have w3 : IntKind.i64.wrap ((j : Int) + 1) = ((j + 1 : Nat) : Int) := by rw [i64_wrap (by omega) (by omega)]; rfl
      simp only [PT.holds, w2, w3, Int.toNat_natCast, atsC_len]
      by_cases hji : j < i
      · have hj' : j < e.attrs.length := by omega
        have ih' := fun (hji : j < i) (hne : (e.attrs.getD j atr0).nm ≠ (e.attrs.getD i atr0).nm) => ex_imp (R' := fun x : Bool => x = true → (e.kind = 1 ∨ e.kind = 2 ∨ e.kind = 3) ∧ DisF e (i + 1) ∧ ∀ k, j ≤ k → k < i → (e.attrs.getD k atr0).nm ≠ (e.attrs.getD i atr0).nm) (ih hji) (fun x hx h => ⟨(hx h).1, (hx h).2.1, fun k h1 h2 => (by
          rcases Nat.lt_or_eq_of_le h1 with h3 | h3
          · exact (hx h).2.2 k h3 h2
          · rw [← h3]; exact hne)⟩)
        have hne0 := nm_ne (e.attrs.getD j atr0).nm (e.attrs.getD i atr0).nm
        cases hc : (decide ((e.attrs.getD j atr0).nm.sp = (e.attrs.getD i atr0).nm.sp) && (decide ((e.attrs.getD j atr0).nm.lo = (e.attrs.getD i atr0).nm.lo) && true))
        · have hne := hne0 hc
          refine ex_split (fun _ => ex_or2 ?_) (fun _ => ?_)
          all_goals (repeat' first | exact ⟨_, triv, rfl, trivial⟩ | exact ⟨_, triv, rfl⟩ | refine ex_split (fun _ => ?_) (fun _ => ?_) | refine ex_ob ?_ ?_)
          all_goals first | exact ih' hji hne | rfl | omega | ((try simp only [Nat.add_assoc, Nat.reduceAdd, Nat.add_zero]) <;> first | (rw [ats_take _ _ _ _ hi (by decide)]; rfl) | (rw [ats_nth _ _ _ hi (by decide)]; rfl) | (rw [evs_take _ _ _ _ hi (by decide)]; rfl) | (rw [evs_nth _ _ _ hi (by decide)]; rfl) | (rw [trs_take _ _ _ _ hi (by decide)]; rfl) | (rw [trs_nth _ _ _ hi (by decide)]; rfl) | (rw [pths_take _ _ _ _ hi (by decide)]; rfl) | (rw [pths_nth _ _ _ hi (by decide)]; rfl) | (rw [flts_take _ _ _ _ hi (by decide)]; rfl) | (rw [flts_nth _ _ _ hi (by decide)]; rfl) | (rw [ats_take0 _ _ _ hi (by decide)]; rfl) | (rw [ats_nth0 _ _ hi]; rfl) | (rw [evs_take0 _ _ _ hi (by decide)]; rfl) | (rw [evs_nth0 _ _ hi]; rfl) | (rw [trs_take0 _ _ _ hi (by decide)]; rfl) | (rw [trs_nth0 _ _ hi]; rfl) | (rw [pths_take0 _ _ _ hi (by decide)]; rfl) | (rw [pths_nth0 _ _ hi]; rfl) | (rw [flts_take0 _ _ _ hi (by decide)]; rfl) | (rw [flts_nth0 _ _ hi]; rfl)) | ((try simp only [Nat.add_assoc, Nat.reduceAdd, Nat.add_zero]) <;> first | (rw [ats_take _ _ _ _ hj' (by decide)]; rfl) | (rw [ats_nth _ _ _ hj' (by decide)]; rfl) | (rw [evs_take _ _ _ _ hj' (by decide)]; rfl) | (rw [evs_nth _ _ _ hj' (by decide)]; rfl) | (rw [trs_take _ _ _ _ hj' (by decide)]; rfl) | (rw [trs_nth _ _ _ hj' (by decide)]; rfl) | (rw [pths_take _ _ _ _ hj' (by decide)]; rfl) | (rw [pths_nth _ _ _ hj' (by decide)]; rfl) | (rw [flts_take _ _ _ _ hj' (by decide)]; rfl) | (rw [flts_nth _ _ _ hj' (by decide)]; rfl) | (rw [ats_take0 _ _ _ hj' (by decide)]; rfl) | (rw [ats_nth0 _ _ hj']; rfl) | (rw [evs_take0 _ _ _ hj' (by decide)]; rfl) | (rw [evs_nth0 _ _ hj']; rfl) | (rw [trs_take0 _ _ _ hj' (by decide)]; rfl) | (rw [trs_nth0 _ _ hj']; rfl) | (rw [pths_take0 _ _ _ hj' (by decide)]; rfl) | (rw [pths_nth0 _ _ hj']; rfl) | (rw [flts_take0 _ _ _ hj' (by decide)]; rfl) | (rw [flts_nth0 _ _ hj']; rfl)) | (exfalso; (first | omega | (simp only [decide_eq_true_eq, decide_eq_false_iff_not, Bool.not_eq_true', Bool.not_eq_false'] at *; omega)))
        · refine ex_split (fun _ => ex_or1 ?_) (fun _ => ?_)
          all_goals (repeat' first | exact ⟨_, triv, rfl, trivial⟩ | exact ⟨_, triv, rfl⟩ | refine ex_split (fun _ => ?_) (fun _ => ?_) | refine ex_ob ?_ ?_)
          all_goals first | exact ⟨_, fun h => (by cases h), rfl, trivial⟩ | rfl | omega | ((try simp only [Nat.add_assoc, Nat.reduceAdd, Nat.add_zero]) <;> first | (rw [ats_take _ _ _ _ hi (by decide)]; rfl) | (rw [ats_nth _ _ _ hi (by decide)]; rfl) | (rw [evs_take _ _ _ _ hi (by decide)]; rfl) | (rw [evs_nth _ _ _ hi (by decide)]; rfl) | (rw [trs_take _ _ _ _ hi (by decide)]; rfl) | (rw [trs_nth _ _ _ hi (by decide)]; rfl) | (rw [pths_take _ _ _ _ hi (by decide)]; rfl) | (rw [pths_nth _ _ _ hi (by decide)]; rfl) | (rw [flts_take _ _ _ _ hi (by decide)]; rfl) | (rw [flts_nth _ _ _ hi (by decide)]; rfl) | (rw [ats_take0 _ _ _ hi (by decide)]; rfl) | (rw [ats_nth0 _ _ hi]; rfl) | (rw [evs_take0 _ _ _ hi (by decide)]; rfl) | (rw [evs_nth0 _ _ hi]; rfl) | (rw [trs_take0 _ _ _ hi (by decide)]; rfl) | (rw [trs_nth0 _ _ hi]; rfl) | (rw [pths_take0 _ _ _ hi (by decide)]; rfl) | (rw [pths_nth0 _ _ hi]; rfl) | (rw [flts_take0 _ _ _ hi (by decide)]; rfl) | (rw [flts_nth0 _ _ hi]; rfl)) | ((try simp only [Nat.add_assoc, Nat.reduceAdd, Nat.add_zero]) <;> first | (rw [ats_take _ _ _ _ hj' (by decide)]; rfl) | (rw [ats_nth _ _ _ hj' (by decide)]; rfl) | (rw [evs_take _ _ _ _ hj' (by decide)]; rfl) | (rw [evs_nth _ _ _ hj' (by decide)]; rfl) | (rw [trs_take _ _ _ _ hj' (by decide)]; rfl) | (rw [trs_nth _ _ _ hj' (by decide)]; rfl) | (rw [pths_take _ _ _ _ hj' (by decide)]; rfl) | (rw [pths_nth _ _ _ hj' (by decide)]; rfl) | (rw [flts_take _ _ _ _ hj' (by decide)]; rfl) | (rw [flts_nth _ _ _ hj' (by decide)]; rfl) | (rw [ats_take0 _ _ _ hj' (by decide)]; rfl) | (rw [ats_nth0 _ _ hj']; rfl) | (rw [evs_take0 _ _ _ hj' (by decide)]; rfl) | (rw [evs_nth0 _ _ hj']; rfl) | (rw [trs_take0 _ _ _ hj' (by decide)]; rfl) | (rw [trs_nth0 _ _ hj']; rfl) | (rw [pths_take0 _ _ _ hj' (by decide)]; rfl) | (rw [pths_nth0 _ _ hj']; rfl) | (rw [flts_take0 _ _ _ hj' (by decide)]; rfl) | (rw [flts_nth0 _ _ hj']; rfl)) | (exfalso; (first | omega | (simp only [decide_eq_true_eq, decide_eq_false_iff_not, Bool.not_eq_true', Bool.not_eq_false'] at *; omega)))
      · refine ex_split (fun h => ?_) (fun _ => ex_imp k0 fun x hx h => ⟨(hx h).1, (hx h).2, fun k h1 h2 => absurd h2 (by omega)⟩)
        exfalso; (first | omega | (simp only [decide_eq_true_eq, decide_eq_false_iff_not, Bool.not_eq_true', Bool.not_eq_false'] at *; omega))
    obtain ⟨x, hR, hx⟩ := H
    exact ⟨x, hR, HT.walk Γ_ok mo_ok (⟨([(94, .val (.agg (nmC (e.attrs.getD j atr0).nm))), (100, .val (.agg (nmC (e.attrs.getD i atr0).nm)))] ++ annL), sp52, hd52 [] [] [] [], dsp52, .pure [] (.bool x)⟩ : Wk) 4000 (T := .split (decide ((↑j : Int) < (↑i : Int))) (.or (.ob ((0 : Int) ≤ (↑j : Int) ∧ (↑j : Int) < (↑e.attrs.length : Int) ∧ (↑j : Int).toNat * (3 : Nat) < (atsC e.attrs).length) (.ob (List.take (2 : Nat) (List.drop ((↑j : Int).toNat * (3 : Nat) + (0 : Nat)) (atsC e.attrs)) = [AV.str (e.attrs.getD j atr0).nm.sp, AV.str (e.attrs.getD j atr0).nm.lo]) (.ob ((0 : Int) ≤ (↑i : Int) ∧ (↑i : Int) < (↑e.attrs.length : Int) ∧ (↑i : Int).toNat * (3 : Nat) < (atsC e.attrs).length) (.ob (List.take (2 : Nat) (List.drop ((↑i : Int).toNat * (3 : Nat) + (0 : Nat)) (atsC e.attrs)) = [AV.str (e.attrs.getD i atr0).nm.sp, AV.str (e.attrs.getD i atr0).nm.lo]) (.ob ((decide ((e.attrs.getD j atr0).nm.sp = (e.attrs.getD i atr0).nm.sp) && (decide ((e.attrs.getD j atr0).nm.lo = (e.attrs.getD i atr0).nm.lo) && true)) = true) (.ob (false = x) (.tt))))))) (.ob ((0 : Int) ≤ (↑j : Int) ∧ (↑j : Int) < (↑e.attrs.length : Int) ∧ (↑j : Int).toNat * (3 : Nat) < (atsC e.attrs).length) (.ob (List.take (2 : Nat) (List.drop ((↑j : Int).toNat * (3 : Nat) + (0 : Nat)) (atsC e.attrs)) = [AV.str (e.attrs.getD j atr0).nm.sp, AV.str (e.attrs.getD j atr0).nm.lo]) (.ob ((0 : Int) ≤ (↑i : Int) ∧ (↑i : Int) < (↑e.attrs.length : Int) ∧ (↑i : Int).toNat * (3 : Nat) < (atsC e.attrs).length) (.ob (List.take (2 : Nat) (List.drop ((↑i : Int).toNat * (3 : Nat) + (0 : Nat)) (atsC e.attrs)) = [AV.str (e.attrs.getD i atr0).nm.sp, AV.str (e.attrs.getD i atr0).nm.lo]) (.ob ((decide ((e.attrs.getD j atr0).nm.sp = (e.attrs.getD i atr0).nm.sp) && (decide ((e.attrs.getD j atr0).nm.lo = (e.attrs.getD i atr0).nm.lo) && true)) = false) (.head (pt Try.f52 1) ({ tmps := [(1, AV.ptr 1 0), (4, AV.int .i64 (↑i : Int)), (5, AV.int .i64 (IntKind.i64.wrap ((↑j : Int) + (1 : Int))))], heap := [(1, .var true (evC e))], tags := [] })))))))) (.head (pt Try.f52 0) ({ tmps := [(1, AV.ptr 1 0), (4, AV.int .i64 (IntKind.i64.wrap ((↑i : Int) + (1 : Int))))], heap := [(1, .var true (evC e))], tags := [] }))) (by kernel_rfl) hx⟩
theorem evr_h0 (e : Ev) (i : Nat) (he : e.ok) (hi : i ≤ e.attrs.length) (k1 : i < e.attrs.length → ∃ x : Bool, (x = true → (e.kind = 1 ∨ e.kind = 2 ∨ e.kind = 3) ∧ DisF e (i + 1) ∧ ∀ k, 0 ≤ k → k < i → (e.attrs.getD k atr0).nm ≠ (e.attrs.getD i atr0).nm) ∧ HT Try.prog Try.f52.ntmps (pt Try.f52 1) (stE1 e i 0) (EndsA Γ (.pure [] (.bool x)) Try.f52)) (hk : e.kind = 1) : ∃ x : Bool, (x = true → (e.kind = 1 ∨ e.kind = 2 ∨ e.kind = 3) ∧ DisF e (i)) ∧ HT Try.prog Try.f52.ntmps (pt Try.f52 0) (stE0 e i) (EndsA Γ (.pure [] (.bool x)) Try.f52) := by
    have H : ∃ x : Bool, (x = true → (e.kind = 1 ∨ e.kind = 2 ∨ e.kind = 3) ∧ DisF e (i)) ∧ PT.holds Try.prog Try.f52.ntmps (EndsA Γ (.pure [] (.bool x)) Try.f52) (.split (decide ((↑i : Int) < (↑e.attrs.length : Int))) (.ob ((0 : Int) ≤ (↑i : Int) ∧ (↑i : Int) < (↑e.attrs.length : Int) ∧ (↑i : Int).toNat * (3 : Nat) < (atsC e.attrs).length) (.ob (List.take (2 : Nat) (List.drop ((↑i : Int).toNat * (3 : Nat) + (0 : Nat)) (atsC e.attrs)) = [AV.str (e.attrs.getD i atr0).nm.sp, AV.str (e.attrs.getD i atr0).nm.lo]) (.ob (Ctr Try.prog 62 [AV.agg [AV.str (e.attrs.getD i atr0).nm.sp, AV.str (e.attrs.getD i atr0).nm.lo]] (AV.bool (exB Try.prog (62 : FuncId) [AV.agg [AV.str (e.attrs.getD i atr0).nm.sp, AV.str (e.attrs.getD i atr0).nm.lo]]))) (.split (exB Try.prog (62 : FuncId) [AV.agg [AV.str (e.attrs.getD i atr0).nm.sp, AV.str (e.attrs.getD i atr0).nm.lo]]) (.ob ((0 : Int) ≤ (↑i : Int) ∧ (↑i : Int) < (↑e.attrs.length : Int) ∧ (↑i : Int).toNat * (3 : Nat) < (atsC e.attrs).length) (.ob ((atsC e.attrs)[(↑i : Int).toNat * (3 : Nat) + (2 : Nat)]? = some (AV.str (e.attrs.getD i atr0).v)) (.ob (Ctr Try.prog 51 [AV.str (e.attrs.getD i atr0).v] (AV.bool (exB Try.prog (51 : FuncId) [AV.str (e.attrs.getD i atr0).v]))) (.split (exB Try.prog (51 : FuncId) [AV.str (e.attrs.getD i atr0).v]) (.head (pt Try.f52 1) ({ tmps := [(1, AV.ptr 1 0), (4, AV.int .i64 (↑i : Int)), (5, AV.int .i64 (0 : Int))], heap := [(1, .var true (evC e))], tags := [] })) (.ob (false = x) (.tt)))))) (.ob (false = x) (.tt)))))) (.ob (true = x) (.tt))) := by
      simp only [PT.holds, Int.toNat_natCast, atsC_len]
      by_cases h : i < e.attrs.length
      · have ha := he.2.2.2 _ (getD_mem e.attrs i atr0 h)
        have k1' := ex_imp (R' := fun x : Bool => x = true → (e.kind = 1 ∨ e.kind = 2 ∨ e.kind = 3) ∧ DisF e (i)) (k1 h) (fun x hx hh => ⟨(hx hh).1, fun j k h1 h2 h3 => (by
          rcases Nat.lt_or_eq_of_le h1 with h4 | h4
          · exact (hx hh).2.1 j k h4 h2 h3
          · subst h4; exact (hx hh).2.2 j (Nat.zero_le _) h2)⟩)
        (repeat' first | exact ⟨_, triv, rfl, trivial⟩ | exact ⟨_, triv, rfl⟩ | refine ex_split (fun _ => ?_) (fun _ => ?_) | refine ex_ob ?_ ?_)
        all_goals first | exact k1' | ((try simp only [Nat.add_assoc, Nat.reduceAdd, Nat.add_zero]) <;> first | (rw [ats_take _ _ _ _ h (by decide)]; rfl) | (rw [ats_nth _ _ _ h (by decide)]; rfl) | (rw [evs_take _ _ _ _ h (by decide)]; rfl) | (rw [evs_nth _ _ _ h (by decide)]; rfl) | (rw [trs_take _ _ _ _ h (by decide)]; rfl) | (rw [trs_nth _ _ _ h (by decide)]; rfl) | (rw [pths_take _ _ _ _ h (by decide)]; rfl) | (rw [pths_nth _ _ _ h (by decide)]; rfl) | (rw [flts_take _ _ _ _ h (by decide)]; rfl) | (rw [flts_nth _ _ _ h (by decide)]; rfl) | (rw [ats_take0 _ _ _ h (by decide)]; rfl) | (rw [ats_nth0 _ _ h]; rfl) | (rw [evs_take0 _ _ _ h (by decide)]; rfl) | (rw [evs_nth0 _ _ h]; rfl) | (rw [trs_take0 _ _ _ h (by decide)]; rfl) | (rw [trs_nth0 _ _ h]; rfl) | (rw [pths_take0 _ _ _ h (by decide)]; rfl) | (rw [pths_nth0 _ _ h]; rfl) | (rw [flts_take0 _ _ _ h (by decide)]; rfl) | (rw [flts_nth0 _ _ h]; rfl)) | exact exB_ctr (named9_ex _ ha.1) | exact exB_ctr (right_ex _ ha.2) | omega | (first | exact ⟨_, (fun h => absurd h (by decide)), rfl, trivial⟩ | exact ⟨_, (fun h => absurd h (by decide)), rfl⟩) | (exfalso; (first | omega | (simp only [decide_eq_true_eq, decide_eq_false_iff_not, Bool.not_eq_true', Bool.not_eq_false'] at *; omega)))
      · (repeat' first | exact ⟨_, triv, rfl, trivial⟩ | exact ⟨_, triv, rfl⟩ | refine ex_split (fun _ => ?_) (fun _ => ?_) | refine ex_ob ?_ ?_)
        all_goals first | exact ⟨_, fun _ => ⟨.inl hk, fun j k h1 h2 h3 => absurd h3 (by omega)⟩, rfl, trivial⟩ | (exfalso; (first | omega | (simp only [decide_eq_true_eq, decide_eq_false_iff_not, Bool.not_eq_true', Bool.not_eq_false'] at *; omega)))
    obtain ⟨x, hR, hx⟩ := H
    exact ⟨x, hR, HT.walk Γ_ok mo_ok (⟨([(71, .val (.agg (nmC (e.attrs.getD i atr0).nm))), (80, .val (.str (e.attrs.getD i atr0).v))] ++ annL), sp52, hd52 [] [] [] [], dsp52, .pure [] (.bool x)⟩ : Wk) 4000 (T := .split (decide ((↑i : Int) < (↑e.attrs.length : Int))) (.ob ((0 : Int) ≤ (↑i : Int) ∧ (↑i : Int) < (↑e.attrs.length : Int) ∧ (↑i : Int).toNat * (3 : Nat) < (atsC e.attrs).length) (.ob (List.take (2 : Nat) (List.drop ((↑i : Int).toNat * (3 : Nat) + (0 : Nat)) (atsC e.attrs)) = [AV.str (e.attrs.getD i atr0).nm.sp, AV.str (e.attrs.getD i atr0).nm.lo]) (.ob (Ctr Try.prog 62 [AV.agg [AV.str (e.attrs.getD i atr0).nm.sp, AV.str (e.attrs.getD i atr0).nm.lo]] (AV.bool (exB Try.prog (62 : FuncId) [AV.agg [AV.str (e.attrs.getD i atr0).nm.sp, AV.str (e.attrs.getD i atr0).nm.lo]]))) (.split (exB Try.prog (62 : FuncId) [AV.agg [AV.str (e.attrs.getD i atr0).nm.sp, AV.str (e.attrs.getD i atr0).nm.lo]]) (.ob ((0 : Int) ≤ (↑i : Int) ∧ (↑i : Int) < (↑e.attrs.length : Int) ∧ (↑i : Int).toNat * (3 : Nat) < (atsC e.attrs).length) (.ob ((atsC e.attrs)[(↑i : Int).toNat * (3 : Nat) + (2 : Nat)]? = some (AV.str (e.attrs.getD i atr0).v)) (.ob (Ctr Try.prog 51 [AV.str (e.attrs.getD i atr0).v] (AV.bool (exB Try.prog (51 : FuncId) [AV.str (e.attrs.getD i atr0).v]))) (.split (exB Try.prog (51 : FuncId) [AV.str (e.attrs.getD i atr0).v]) (.head (pt Try.f52 1) ({ tmps := [(1, AV.ptr 1 0), (4, AV.int .i64 (↑i : Int)), (5, AV.int .i64 (0 : Int))], heap := [(1, .var true (evC e))], tags := [] })) (.ob (false = x) (.tt)))))) (.ob (false = x) (.tt)))))) (.ob (true = x) (.tt))) (by kernel_rfl) hx⟩
theorem evr_l1 (e : Ev) (i : Nat) (hi : i < e.attrs.length) (he : e.attrs.length ≤ 1048600) (k0 : ∃ x : Bool, (x = true → (e.kind = 1 ∨ e.kind = 2 ∨ e.kind = 3) ∧ DisF e (i + 1)) ∧ HT Try.prog Try.f52.ntmps (pt Try.f52 0) (stE0 e (i + 1)) (EndsA Γ (.pure [] (.bool x)) Try.f52)) : ∀ d j, j + d = i → ∃ x : Bool, (x = true → (e.kind = 1 ∨ e.kind = 2 ∨ e.kind = 3) ∧ DisF e (i + 1) ∧ ∀ k, j ≤ k → k < i → (e.attrs.getD k atr0).nm ≠ (e.attrs.getD i atr0).nm) ∧ HT Try.prog Try.f52.ntmps (pt Try.f52 1) (stE1 e i j) (EndsA Γ (.pure [] (.bool x)) Try.f52) := by
  intro d
  induction d with
  | zero => exact fun j h => evr_h1 e i j (by omega) hi he (fun h => by omega) k0
  | succ d ih => exact fun j h => evr_h1 e i j (by omega) hi he (fun h => ih (j + 1) (by omega)) k0
theorem evr_l0 (e : Ev) (he : e.ok) (hk : e.kind = 1) : ∀ d i, i + d = e.attrs.length → ∃ x : Bool, (x = true → (e.kind = 1 ∨ e.kind = 2 ∨ e.kind = 3) ∧ DisF e (i)) ∧ HT Try.prog Try.f52.ntmps (pt Try.f52 0) (stE0 e i) (EndsA Γ (.pure [] (.bool x)) Try.f52) := by
  intro d
  induction d with
  | zero => exact fun i h => evr_h0 e i he (by omega) (fun h => by omega) hk
  | succ d ih => exact fun i h => evr_h0 e i he (by omega) (fun h => evr_l1 e i h he.2.2.1 (ih (i + 1) (by omega)) i 0 (by omega)) hk

theorem evr_ex (e : Ev) (he : e.ok) : ∃ x : Bool, (x = true → EvR e) ∧ Ctr Try.prog 52 [.agg (evC e)] (.bool x) := by
    have H : ∃ x : Bool, (x = true → EvR e) ∧ PT.holds Try.prog Try.f52.ntmps (EndsA Γ (.pure [] (.bool x)) Try.f52) (.ob ((3 : Nat) ≤ (5 : Nat)) (.split (decide (e.nm.sp = (ByteArray.mk #[])) && (decide (e.nm.lo = (ByteArray.mk #[])) && true)) (.split (decide (e.kind = (2 : Int))) (.split (decide ((↑e.attrs.length : Int) = (0 : Int))) (.split (!decide (e.text = (ByteArray.mk #[]))) (.ob (Ctr Try.prog 51 [AV.str e.text] (AV.bool (exB Try.prog (51 : FuncId) [AV.str e.text]))) (.ob (exB Try.prog (51 : FuncId) [AV.str e.text] = x) (.tt))) (.ob (false = x) (.tt))) (.ob (false = x) (.tt))) (.split (decide (e.kind = (3 : Int))) (.split (decide ((↑e.attrs.length : Int) = (0 : Int))) (.ob (decide (e.text = (ByteArray.mk #[])) = x) (.tt)) (.ob (false = x) (.tt))) (.split (!decide (e.kind = (1 : Int))) (.ob (false = x) (.tt)) (.split (!decide (e.text = (ByteArray.mk #[]))) (.ob (false = x) (.tt)) (.ob ((3 : Nat) ≤ (5 : Nat)) (.ob (Ctr Try.prog 62 [AV.agg [AV.str e.nm.sp, AV.str e.nm.lo]] (AV.bool (exB Try.prog (62 : FuncId) [AV.agg [AV.str e.nm.sp, AV.str e.nm.lo]]))) (.split (exB Try.prog (62 : FuncId) [AV.agg [AV.str e.nm.sp, AV.str e.nm.lo]]) (.split (decide ((32 : Int) < (↑e.attrs.length : Int))) (.ob (false = x) (.tt)) (.head (pt Try.f52 0) ({ tmps := [(1, AV.ptr 1 0), (4, AV.int .i64 (0 : Int))], heap := [(1, .var true (evC e))], tags := [] }))) (.ob (false = x) (.tt))))))))) (.split (decide (e.kind = (2 : Int))) (.split (false) (.split (!decide (e.text = (ByteArray.mk #[]))) (.ob (Ctr Try.prog 51 [AV.str e.text] (AV.bool (exB Try.prog (51 : FuncId) [AV.str e.text]))) (.ob (exB Try.prog (51 : FuncId) [AV.str e.text] = x) (.tt))) (.ob (false = x) (.tt))) (.ob (false = x) (.tt))) (.split (decide (e.kind = (3 : Int))) (.split (false) (.ob (decide (e.text = (ByteArray.mk #[])) = x) (.tt)) (.ob (false = x) (.tt))) (.split (!decide (e.kind = (1 : Int))) (.ob (false = x) (.tt)) (.split (!decide (e.text = (ByteArray.mk #[]))) (.ob (false = x) (.tt)) (.ob ((3 : Nat) ≤ (5 : Nat)) (.ob (Ctr Try.prog 62 [AV.agg [AV.str e.nm.sp, AV.str e.nm.lo]] (AV.bool (exB Try.prog (62 : FuncId) [AV.agg [AV.str e.nm.sp, AV.str e.nm.lo]]))) (.split (exB Try.prog (62 : FuncId) [AV.agg [AV.str e.nm.sp, AV.str e.nm.lo]]) (.split (decide ((32 : Int) < (↑e.attrs.length : Int))) (.ob (false = x) (.tt)) (.head (pt Try.f52 0) ({ tmps := [(1, AV.ptr 1 0), (4, AV.int .i64 (0 : Int))], heap := [(1, .var true (evC e))], tags := [] }))) (.ob (false = x) (.tt))))))))))) := by
      simp only [PT.holds, true_implies, Bool.false_eq_true, Bool.true_eq_false, false_implies, true_and, and_true]
      (repeat' first | exact ⟨_, triv, rfl, trivial⟩ | exact ⟨_, triv, rfl⟩ | refine ex_split (fun _ => ?_) (fun _ => ?_) | refine ex_ob ?_ ?_)
      all_goals first | exact exB_ctr (right_ex _ he.2.1) | exact exB_ctr (named9_ex _ he.1) | omega | exact evr_l0 e he (by simpa using ‹(!decide (e.kind = 1)) = false›) e.attrs.length 0 (by omega) | (first | exact ⟨_, (fun h => absurd h (by decide)), rfl, trivial⟩ | exact ⟨_, (fun h => absurd h (by decide)), rfl⟩) | (first | exact ⟨_, (fun _ => ⟨(by simp only [decide_eq_true_eq] at *; omega), fun j k h1 h2 h3 => (by simp only [decide_eq_true_eq] at *; omega)⟩), rfl, trivial⟩ | exact ⟨_, (fun _ => ⟨(by simp only [decide_eq_true_eq] at *; omega), fun j k h1 h2 h3 => (by simp only [decide_eq_true_eq] at *; omega)⟩), rfl⟩)
    obtain ⟨x, hR, hx⟩ := H
    exact ⟨x, hR, Ctr.mk Γ_ok Try.func52 (by kernel_rfl) Try.call52 [] (by kernel_rfl) (HT.walk Γ_ok mo_ok (⟨annL, sp52, hd52 [] [] [] [], dsp52, .pure [] (.bool x)⟩ : Wk) 4000 (T := .ob ((3 : Nat) ≤ (5 : Nat)) (.split (decide (e.nm.sp = (ByteArray.mk #[])) && (decide (e.nm.lo = (ByteArray.mk #[])) && true)) (.split (decide (e.kind = (2 : Int))) (.split (decide ((↑e.attrs.length : Int) = (0 : Int))) (.split (!decide (e.text = (ByteArray.mk #[]))) (.ob (Ctr Try.prog 51 [AV.str e.text] (AV.bool (exB Try.prog (51 : FuncId) [AV.str e.text]))) (.ob (exB Try.prog (51 : FuncId) [AV.str e.text] = x) (.tt))) (.ob (false = x) (.tt))) (.ob (false = x) (.tt))) (.split (decide (e.kind = (3 : Int))) (.split (decide ((↑e.attrs.length : Int) = (0 : Int))) (.ob (decide (e.text = (ByteArray.mk #[])) = x) (.tt)) (.ob (false = x) (.tt))) (.split (!decide (e.kind = (1 : Int))) (.ob (false = x) (.tt)) (.split (!decide (e.text = (ByteArray.mk #[]))) (.ob (false = x) (.tt)) (.ob ((3 : Nat) ≤ (5 : Nat)) (.ob (Ctr Try.prog 62 [AV.agg [AV.str e.nm.sp, AV.str e.nm.lo]] (AV.bool (exB Try.prog (62 : FuncId) [AV.agg [AV.str e.nm.sp, AV.str e.nm.lo]]))) (.split (exB Try.prog (62 : FuncId) [AV.agg [AV.str e.nm.sp, AV.str e.nm.lo]]) (.split (decide ((32 : Int) < (↑e.attrs.length : Int))) (.ob (false = x) (.tt)) (.head (pt Try.f52 0) ({ tmps := [(1, AV.ptr 1 0), (4, AV.int .i64 (0 : Int))], heap := [(1, .var true (evC e))], tags := [] }))) (.ob (false = x) (.tt))))))))) (.split (decide (e.kind = (2 : Int))) (.split (false) (.split (!decide (e.text = (ByteArray.mk #[]))) (.ob (Ctr Try.prog 51 [AV.str e.text] (AV.bool (exB Try.prog (51 : FuncId) [AV.str e.text]))) (.ob (exB Try.prog (51 : FuncId) [AV.str e.text] = x) (.tt))) (.ob (false = x) (.tt))) (.ob (false = x) (.tt))) (.split (decide (e.kind = (3 : Int))) (.split (false) (.ob (decide (e.text = (ByteArray.mk #[])) = x) (.tt)) (.ob (false = x) (.tt))) (.split (!decide (e.kind = (1 : Int))) (.ob (false = x) (.tt)) (.split (!decide (e.text = (ByteArray.mk #[]))) (.ob (false = x) (.tt)) (.ob ((3 : Nat) ≤ (5 : Nat)) (.ob (Ctr Try.prog 62 [AV.agg [AV.str e.nm.sp, AV.str e.nm.lo]] (AV.bool (exB Try.prog (62 : FuncId) [AV.agg [AV.str e.nm.sp, AV.str e.nm.lo]]))) (.split (exB Try.prog (62 : FuncId) [AV.agg [AV.str e.nm.sp, AV.str e.nm.lo]]) (.split (decide ((32 : Int) < (↑e.attrs.length : Int))) (.ob (false = x) (.tt)) (.head (pt Try.f52 0) ({ tmps := [(1, AV.ptr 1 0), (4, AV.int .i64 (0 : Int))], heap := [(1, .var true (evC e))], tags := [] }))) (.ob (false = x) (.tt))))))))))) (by kernel_rfl) hx)⟩
end Go.Proofs.Ytpffjbbolaehpaa
end

section
set_option linter.unusedVariables false
set_option linter.unusedSimpArgs false
set_option maxRecDepth 100000
namespace Go.Proofs.Ytpffjbbolaehpaa
open Go Go.AX

def stD (l : List Ev) (n : Int) (i : Nat) : AS := ⟨[(0, .sl none l.length (evsC l) .no), (3, .int .i64 n), (4, .int .i64 i)], [], []⟩
def okEvs (l : List Ev) : Prop := ∀ e ∈ l, e.ok
theorem depth_h (l : List Ev) (n : Int) (i : Nat) (b : Bool) (hi : i < l.length) (hl : l.length ≤ 1048600) (hd : DocP l i) (hn : n = dep l i ∧ 0 ≤ n ∧ n ≤ 64) (hb : b = true → EvR (l.getD i ev0)) (hc : Ctr Try.prog 52 [.agg (evC (l.getD i ev0))] (.bool b)) (ih : DocP l (i + 1) → ∀ n', n' = dep l (i + 1) → 0 ≤ n' → n' ≤ 64 → ∃ x : Int, (x = 0 → DocP l l.length ∧ dep l l.length = 0) ∧ HT Try.prog Try.f37.ntmps (pt Try.f37 0) (stD l n' (i + 1)) (EndsA Γ (.pure [] (.int .i64 x)) Try.f37)) : ∃ x : Int, (x = 0 → DocP l l.length ∧ dep l l.length = 0) ∧ HT Try.prog Try.f37.ntmps (pt Try.f37 0) (stD l n i) (EndsA Γ (.pure [] (.int .i64 x)) Try.f37) := by
    have H : ∃ x : Int, (x = 0 → DocP l l.length ∧ dep l l.length = 0) ∧ PT.holds Try.prog Try.f37.ntmps (EndsA Γ (.pure [] (.int .i64 x)) Try.f37) (.split (decide ((↑i : Int) < (↑l.length : Int))) (.ob ((0 : Int) ≤ (↑i : Int) ∧ (↑i : Int) < (↑l.length : Int) ∧ (↑i : Int).toNat * (5 : Nat) < (evsC l).length) (.ob (List.take (5 : Nat) (List.drop ((↑i : Int).toNat * (5 : Nat)) (evsC l)) = (evC (l.getD i ev0))) (.ob (Ctr Try.prog 52 [AV.agg (evC (l.getD i ev0))] (AV.bool b)) (.split (b) (.split (!decide (n = (0 : Int)) == decide ((↑i : Int) = (0 : Int))) (.ob ((-1 : Int) = x) (.tt)) (.split (decide ((↑i : Int) = (0 : Int))) (.ob ((0 : Int) ≤ (↑i : Int) ∧ (↑i : Int) < (↑l.length : Int) ∧ (↑i : Int).toNat * (5 : Nat) < (evsC l).length) (.ob ((evsC l)[(↑i : Int).toNat * (5 : Nat) + (0 : Nat)]? = some (AV.int .i64 (l.getD i ev0).kind)) (.split (!decide ((l.getD i ev0).kind = (1 : Int))) (.ob ((-1 : Int) = x) (.tt)) (.ob ((0 : Int) ≤ (↑i : Int) ∧ (↑i : Int) < (↑l.length : Int) ∧ (↑i : Int).toNat * (5 : Nat) < (evsC l).length) (.ob ((evsC l)[(↑i : Int).toNat * (5 : Nat) + (0 : Nat)]? = some (AV.int .i64 (l.getD i ev0).kind)) (.split (decide ((l.getD i ev0).kind = (2 : Int))) (.ob ((0 : Int) ≤ IntKind.i64.wrap ((↑i : Int) - (1 : Int)) ∧ IntKind.i64.wrap ((↑i : Int) - (1 : Int)) < (↑l.length : Int) ∧ (IntKind.i64.wrap ((↑i : Int) - (1 : Int))).toNat * (5 : Nat) < (evsC l).length) (.ob ((evsC l)[(IntKind.i64.wrap ((↑i : Int) - (1 : Int))).toNat * (5 : Nat) + (0 : Nat)]? = some (AV.int .i64 (l.getD (i - (1 : Nat)) ev0).kind)) (.split (decide ((l.getD (i - (1 : Nat)) ev0).kind = (2 : Int))) (.ob ((-1 : Int) = x) (.tt)) (.ob ((0 : Int) ≤ (↑i : Int) ∧ (↑i : Int) < (↑l.length : Int) ∧ (↑i : Int).toNat * (5 : Nat) < (evsC l).length) (.ob ((evsC l)[(↑i : Int).toNat * (5 : Nat) + (0 : Nat)]? = some (AV.int .i64 (l.getD i ev0).kind)) (.split (decide ((l.getD i ev0).kind = (1 : Int))) (.ob ((0 : Int) ≤ (↑i : Int) ∧ (↑i : Int) < (↑l.length : Int) ∧ (↑i : Int).toNat * (5 : Nat) < (evsC l).length) (.ob ((evsC l)[(↑i : Int).toNat * (5 : Nat) + (0 : Nat)]? = some (AV.int .i64 (l.getD i ev0).kind)) (.split (decide ((l.getD i ev0).kind = (3 : Int))) (.split (decide ((64 : Int) < IntKind.i64.wrap (IntKind.i64.wrap (n + (1 : Int)) - (1 : Int)))) (.ob ((-1 : Int) = x) (.tt)) (.head (pt Try.f37 0) ({ tmps := [(0, AV.sl none l.length (evsC l) .no), (3, AV.int .i64 (IntKind.i64.wrap (IntKind.i64.wrap (n + (1 : Int)) - (1 : Int)))), (4, AV.int .i64 (IntKind.i64.wrap ((↑i : Int) + (1 : Int))))], heap := [], tags := [] }))) (.split (decide ((64 : Int) < IntKind.i64.wrap (n + (1 : Int)))) (.ob ((-1 : Int) = x) (.tt)) (.head (pt Try.f37 0) ({ tmps := [(0, AV.sl none l.length (evsC l) .no), (3, AV.int .i64 (IntKind.i64.wrap (n + (1 : Int)))), (4, AV.int .i64 (IntKind.i64.wrap ((↑i : Int) + (1 : Int))))], heap := [], tags := [] })))))) (.ob ((0 : Int) ≤ (↑i : Int) ∧ (↑i : Int) < (↑l.length : Int) ∧ (↑i : Int).toNat * (5 : Nat) < (evsC l).length) (.ob ((evsC l)[(↑i : Int).toNat * (5 : Nat) + (0 : Nat)]? = some (AV.int .i64 (l.getD i ev0).kind)) (.split (decide ((l.getD i ev0).kind = (3 : Int))) (.split (decide ((64 : Int) < IntKind.i64.wrap (n - (1 : Int)))) (.ob ((-1 : Int) = x) (.tt)) (.head (pt Try.f37 0) ({ tmps := [(0, AV.sl none l.length (evsC l) .no), (3, AV.int .i64 (IntKind.i64.wrap (n - (1 : Int)))), (4, AV.int .i64 (IntKind.i64.wrap ((↑i : Int) + (1 : Int))))], heap := [], tags := [] }))) (.split (decide ((64 : Int) < n)) (.ob ((-1 : Int) = x) (.tt)) (.head (pt Try.f37 0) ({ tmps := [(0, AV.sl none l.length (evsC l) .no), (3, AV.int .i64 n), (4, AV.int .i64 (IntKind.i64.wrap ((↑i : Int) + (1 : Int))))], heap := [], tags := [] })))))))))))) (.ob ((0 : Int) ≤ (↑i : Int) ∧ (↑i : Int) < (↑l.length : Int) ∧ (↑i : Int).toNat * (5 : Nat) < (evsC l).length) (.ob ((evsC l)[(↑i : Int).toNat * (5 : Nat) + (0 : Nat)]? = some (AV.int .i64 (l.getD i ev0).kind)) (.split (decide ((l.getD i ev0).kind = (1 : Int))) (.ob ((0 : Int) ≤ (↑i : Int) ∧ (↑i : Int) < (↑l.length : Int) ∧ (↑i : Int).toNat * (5 : Nat) < (evsC l).length) (.ob ((evsC l)[(↑i : Int).toNat * (5 : Nat) + (0 : Nat)]? = some (AV.int .i64 (l.getD i ev0).kind)) (.split (decide ((l.getD i ev0).kind = (3 : Int))) (.split (decide ((64 : Int) < IntKind.i64.wrap (IntKind.i64.wrap (n + (1 : Int)) - (1 : Int)))) (.ob ((-1 : Int) = x) (.tt)) (.head (pt Try.f37 0) ({ tmps := [(0, AV.sl none l.length (evsC l) .no), (3, AV.int .i64 (IntKind.i64.wrap (IntKind.i64.wrap (n + (1 : Int)) - (1 : Int)))), (4, AV.int .i64 (IntKind.i64.wrap ((↑i : Int) + (1 : Int))))], heap := [], tags := [] }))) (.split (decide ((64 : Int) < IntKind.i64.wrap (n + (1 : Int)))) (.ob ((-1 : Int) = x) (.tt)) (.head (pt Try.f37 0) ({ tmps := [(0, AV.sl none l.length (evsC l) .no), (3, AV.int .i64 (IntKind.i64.wrap (n + (1 : Int)))), (4, AV.int .i64 (IntKind.i64.wrap ((↑i : Int) + (1 : Int))))], heap := [], tags := [] })))))) (.ob ((0 : Int) ≤ (↑i : Int) ∧ (↑i : Int) < (↑l.length : Int) ∧ (↑i : Int).toNat * (5 : Nat) < (evsC l).length) (.ob ((evsC l)[(↑i : Int).toNat * (5 : Nat) + (0 : Nat)]? = some (AV.int .i64 (l.getD i ev0).kind)) (.split (decide ((l.getD i ev0).kind = (3 : Int))) (.split (decide ((64 : Int) < IntKind.i64.wrap (n - (1 : Int)))) (.ob ((-1 : Int) = x) (.tt)) (.head (pt Try.f37 0) ({ tmps := [(0, AV.sl none l.length (evsC l) .no), (3, AV.int .i64 (IntKind.i64.wrap (n - (1 : Int)))), (4, AV.int .i64 (IntKind.i64.wrap ((↑i : Int) + (1 : Int))))], heap := [], tags := [] }))) (.split (decide ((64 : Int) < n)) (.ob ((-1 : Int) = x) (.tt)) (.head (pt Try.f37 0) ({ tmps := [(0, AV.sl none l.length (evsC l) .no), (3, AV.int .i64 n), (4, AV.int .i64 (IntKind.i64.wrap ((↑i : Int) + (1 : Int))))], heap := [], tags := [] }))))))))))))))) (.ob ((0 : Int) ≤ (↑i : Int) ∧ (↑i : Int) < (↑l.length : Int) ∧ (↑i : Int).toNat * (5 : Nat) < (evsC l).length) (.ob ((evsC l)[(↑i : Int).toNat * (5 : Nat) + (0 : Nat)]? = some (AV.int .i64 (l.getD i ev0).kind)) (.split (decide ((l.getD i ev0).kind = (2 : Int))) (.ob ((0 : Int) ≤ IntKind.i64.wrap ((↑i : Int) - (1 : Int)) ∧ IntKind.i64.wrap ((↑i : Int) - (1 : Int)) < (↑l.length : Int) ∧ (IntKind.i64.wrap ((↑i : Int) - (1 : Int))).toNat * (5 : Nat) < (evsC l).length) (.ob ((evsC l)[(IntKind.i64.wrap ((↑i : Int) - (1 : Int))).toNat * (5 : Nat) + (0 : Nat)]? = some (AV.int .i64 (l.getD (i - (1 : Nat)) ev0).kind)) (.split (decide ((l.getD (i - (1 : Nat)) ev0).kind = (2 : Int))) (.ob ((-1 : Int) = x) (.tt)) (.ob ((0 : Int) ≤ (↑i : Int) ∧ (↑i : Int) < (↑l.length : Int) ∧ (↑i : Int).toNat * (5 : Nat) < (evsC l).length) (.ob ((evsC l)[(↑i : Int).toNat * (5 : Nat) + (0 : Nat)]? = some (AV.int .i64 (l.getD i ev0).kind)) (.split (decide ((l.getD i ev0).kind = (1 : Int))) (.ob ((0 : Int) ≤ (↑i : Int) ∧ (↑i : Int) < (↑l.length : Int) ∧ (↑i : Int).toNat * (5 : Nat) < (evsC l).length) (.ob ((evsC l)[(↑i : Int).toNat * (5 : Nat) + (0 : Nat)]? = some (AV.int .i64 (l.getD i ev0).kind)) (.split (decide ((l.getD i ev0).kind = (3 : Int))) (.split (decide ((64 : Int) < IntKind.i64.wrap (IntKind.i64.wrap (n + (1 : Int)) - (1 : Int)))) (.ob ((-1 : Int) = x) (.tt)) (.head (pt Try.f37 0) ({ tmps := [(0, AV.sl none l.length (evsC l) .no), (3, AV.int .i64 (IntKind.i64.wrap (IntKind.i64.wrap (n + (1 : Int)) - (1 : Int)))), (4, AV.int .i64 (IntKind.i64.wrap ((↑i : Int) + (1 : Int))))], heap := [], tags := [] }))) (.split (decide ((64 : Int) < IntKind.i64.wrap (n + (1 : Int)))) (.ob ((-1 : Int) = x) (.tt)) (.head (pt Try.f37 0) ({ tmps := [(0, AV.sl none l.length (evsC l) .no), (3, AV.int .i64 (IntKind.i64.wrap (n + (1 : Int)))), (4, AV.int .i64 (IntKind.i64.wrap ((↑i : Int) + (1 : Int))))], heap := [], tags := [] })))))) (.ob ((0 : Int) ≤ (↑i : Int) ∧ (↑i : Int) < (↑l.length : Int) ∧ (↑i : Int).toNat * (5 : Nat) < (evsC l).length) (.ob ((evsC l)[(↑i : Int).toNat * (5 : Nat) + (0 : Nat)]? = some (AV.int .i64 (l.getD i ev0).kind)) (.split (decide ((l.getD i ev0).kind = (3 : Int))) (.split (decide ((64 : Int) < IntKind.i64.wrap (n - (1 : Int)))) (.ob ((-1 : Int) = x) (.tt)) (.head (pt Try.f37 0) ({ tmps := [(0, AV.sl none l.length (evsC l) .no), (3, AV.int .i64 (IntKind.i64.wrap (n - (1 : Int)))), (4, AV.int .i64 (IntKind.i64.wrap ((↑i : Int) + (1 : Int))))], heap := [], tags := [] }))) (.split (decide ((64 : Int) < n)) (.ob ((-1 : Int) = x) (.tt)) (.head (pt Try.f37 0) ({ tmps := [(0, AV.sl none l.length (evsC l) .no), (3, AV.int .i64 n), (4, AV.int .i64 (IntKind.i64.wrap ((↑i : Int) + (1 : Int))))], heap := [], tags := [] })))))))))))) (.ob ((0 : Int) ≤ (↑i : Int) ∧ (↑i : Int) < (↑l.length : Int) ∧ (↑i : Int).toNat * (5 : Nat) < (evsC l).length) (.ob ((evsC l)[(↑i : Int).toNat * (5 : Nat) + (0 : Nat)]? = some (AV.int .i64 (l.getD i ev0).kind)) (.split (decide ((l.getD i ev0).kind = (1 : Int))) (.ob ((0 : Int) ≤ (↑i : Int) ∧ (↑i : Int) < (↑l.length : Int) ∧ (↑i : Int).toNat * (5 : Nat) < (evsC l).length) (.ob ((evsC l)[(↑i : Int).toNat * (5 : Nat) + (0 : Nat)]? = some (AV.int .i64 (l.getD i ev0).kind)) (.split (decide ((l.getD i ev0).kind = (3 : Int))) (.split (decide ((64 : Int) < IntKind.i64.wrap (IntKind.i64.wrap (n + (1 : Int)) - (1 : Int)))) (.ob ((-1 : Int) = x) (.tt)) (.head (pt Try.f37 0) ({ tmps := [(0, AV.sl none l.length (evsC l) .no), (3, AV.int .i64 (IntKind.i64.wrap (IntKind.i64.wrap (n + (1 : Int)) - (1 : Int)))), (4, AV.int .i64 (IntKind.i64.wrap ((↑i : Int) + (1 : Int))))], heap := [], tags := [] }))) (.split (decide ((64 : Int) < IntKind.i64.wrap (n + (1 : Int)))) (.ob ((-1 : Int) = x) (.tt)) (.head (pt Try.f37 0) ({ tmps := [(0, AV.sl none l.length (evsC l) .no), (3, AV.int .i64 (IntKind.i64.wrap (n + (1 : Int)))), (4, AV.int .i64 (IntKind.i64.wrap ((↑i : Int) + (1 : Int))))], heap := [], tags := [] })))))) (.ob ((0 : Int) ≤ (↑i : Int) ∧ (↑i : Int) < (↑l.length : Int) ∧ (↑i : Int).toNat * (5 : Nat) < (evsC l).length) (.ob ((evsC l)[(↑i : Int).toNat * (5 : Nat) + (0 : Nat)]? = some (AV.int .i64 (l.getD i ev0).kind)) (.split (decide ((l.getD i ev0).kind = (3 : Int))) (.split (decide ((64 : Int) < IntKind.i64.wrap (n - (1 : Int)))) (.ob ((-1 : Int) = x) (.tt)) (.head (pt Try.f37 0) ({ tmps := [(0, AV.sl none l.length (evsC l) .no), (3, AV.int .i64 (IntKind.i64.wrap (n - (1 : Int)))), (4, AV.int .i64 (IntKind.i64.wrap ((↑i : Int) + (1 : Int))))], heap := [], tags := [] }))) (.split (decide ((64 : Int) < n)) (.ob ((-1 : Int) = x) (.tt)) (.head (pt Try.f37 0) ({ tmps := [(0, AV.sl none l.length (evsC l) .no), (3, AV.int .i64 n), (4, AV.int .i64 (IntKind.i64.wrap ((↑i : Int) + (1 : Int))))], heap := [], tags := [] })))))))))))))) (.ob ((-1 : Int) = x) (.tt)))))) (.ob (n = x) (.tt))) := by
      have w2 : IntKind.i64.wrap ((i : Int) + 1) = ((i + 1 : Nat) : Int) := by rw [i64_wrap (by omega) (by omega)]; rfl
      have w3 : IntKind.i64.wrap ((i : Int) - 1) = (i : Int) - 1 := i64_wrap (by omega) (by omega)
      have w4 : IntKind.i64.wrap (n + 1) = n + 1 := i64_wrap (by omega) (by omega)
      have w5 : IntKind.i64.wrap (n - 1) = n - 1 := i64_wrap (by omega) (by omega)
      have w6 : IntKind.i64.wrap (n + 1 - 1) = n + 1 - 1 := i64_wrap (by omega) (by omega)
      have w7 : ((i : Int) - 1).toNat = i - 1 := by omega
      have hst : dep l (i + 1) = dep l i + stepE (l.getD i ev0) := rfl
      have s1 : (l.getD i ev0).kind = 1 → stepE (l.getD i ev0) = 1 := stepE_1
      have s2 : (l.getD i ev0).kind = 2 → stepE (l.getD i ev0) = 0 := stepE_2
      have s3 : (l.getD i ev0).kind = 3 → stepE (l.getD i ev0) = -1 := stepE_3
      have hi1 : i - 1 < l.length := by omega
      simp only [PT.holds, w2, w3, w4, w5, w6, w7, Int.toNat_natCast, evsC_len]
      (repeat' first | exact ⟨_, triv, rfl, trivial⟩ | exact ⟨_, triv, rfl⟩ | refine ex_split (fun _ => ?_) (fun _ => ?_) | refine ex_ob ?_ ?_)
      all_goals first | exact hc | (first | exact ⟨_, (fun h => absurd h (by decide)), rfl, trivial⟩ | exact ⟨_, (fun h => absurd h (by decide)), rfl⟩) | omega | ((try simp only [Nat.add_assoc, Nat.reduceAdd, Nat.add_zero]) <;> first | (rw [ats_take _ _ _ _ hi (by decide)]; rfl) | (rw [ats_nth _ _ _ hi (by decide)]; rfl) | (rw [evs_take _ _ _ _ hi (by decide)]; rfl) | (rw [evs_nth _ _ _ hi (by decide)]; rfl) | (rw [trs_take _ _ _ _ hi (by decide)]; rfl) | (rw [trs_nth _ _ _ hi (by decide)]; rfl) | (rw [pths_take _ _ _ _ hi (by decide)]; rfl) | (rw [pths_nth _ _ _ hi (by decide)]; rfl) | (rw [flts_take _ _ _ _ hi (by decide)]; rfl) | (rw [flts_nth _ _ _ hi (by decide)]; rfl) | (rw [ats_take0 _ _ _ hi (by decide)]; rfl) | (rw [ats_nth0 _ _ hi]; rfl) | (rw [evs_take0 _ _ _ hi (by decide)]; rfl) | (rw [evs_nth0 _ _ hi]; rfl) | (rw [trs_take0 _ _ _ hi (by decide)]; rfl) | (rw [trs_nth0 _ _ hi]; rfl) | (rw [pths_take0 _ _ _ hi (by decide)]; rfl) | (rw [pths_nth0 _ _ hi]; rfl) | (rw [flts_take0 _ _ _ hi (by decide)]; rfl) | (rw [flts_nth0 _ _ hi]; rfl)) | ((try simp only [Nat.add_assoc, Nat.reduceAdd, Nat.add_zero]) <;> first | (rw [ats_take _ _ _ _ hi1 (by decide)]; rfl) | (rw [ats_nth _ _ _ hi1 (by decide)]; rfl) | (rw [evs_take _ _ _ _ hi1 (by decide)]; rfl) | (rw [evs_nth _ _ _ hi1 (by decide)]; rfl) | (rw [trs_take _ _ _ _ hi1 (by decide)]; rfl) | (rw [trs_nth _ _ _ hi1 (by decide)]; rfl) | (rw [pths_take _ _ _ _ hi1 (by decide)]; rfl) | (rw [pths_nth _ _ _ hi1 (by decide)]; rfl) | (rw [flts_take _ _ _ _ hi1 (by decide)]; rfl) | (rw [flts_nth _ _ _ hi1 (by decide)]; rfl) | (rw [ats_take0 _ _ _ hi1 (by decide)]; rfl) | (rw [ats_nth0 _ _ hi1]; rfl) | (rw [evs_take0 _ _ _ hi1 (by decide)]; rfl) | (rw [evs_nth0 _ _ hi1]; rfl) | (rw [trs_take0 _ _ _ hi1 (by decide)]; rfl) | (rw [trs_nth0 _ _ hi1]; rfl) | (rw [pths_take0 _ _ _ hi1 (by decide)]; rfl) | (rw [pths_nth0 _ _ hi1]; rfl) | (rw [flts_take0 _ _ _ hi1 (by decide)]; rfl) | (rw [flts_nth0 _ _ hi1]; rfl)) | (first | omega | (simp only [decide_eq_true_eq, decide_eq_false_iff_not, Bool.not_eq_true', Bool.not_eq_false', beq_iff_eq, beq_eq_false_iff_ne, decide_eq_decide, ne_eq, Bool.not_eq_eq_eq_not, Bool.not_true, Bool.not_false] at *; omega)) | (refine ih (hd.succ (hb (by assumption)) ?_ ?_) _ ?_ ?_ ?_ <;> first | (intro _; (first | omega | (simp only [decide_eq_true_eq, decide_eq_false_iff_not, Bool.not_eq_true', Bool.not_eq_false', beq_iff_eq, beq_eq_false_iff_ne, decide_eq_decide, ne_eq, Bool.not_eq_eq_eq_not, Bool.not_true, Bool.not_false] at *; omega))) | (first | omega | (simp only [decide_eq_true_eq, decide_eq_false_iff_not, Bool.not_eq_true', Bool.not_eq_false', beq_iff_eq, beq_eq_false_iff_ne, decide_eq_decide, ne_eq, Bool.not_eq_eq_eq_not, Bool.not_true, Bool.not_false] at *; omega))) | (exfalso; have hk := (hb (by assumption)).1; (first | omega | (simp only [decide_eq_true_eq, decide_eq_false_iff_not, Bool.not_eq_true', Bool.not_eq_false', beq_iff_eq, beq_eq_false_iff_ne, decide_eq_decide, ne_eq, Bool.not_eq_eq_eq_not, Bool.not_true, Bool.not_false] at *; omega)))
    obtain ⟨x, hR, hx⟩ := H
    exact ⟨x, hR, HT.walk Γ_ok mo_ok (⟨([(14, .val (.agg (evC (l.getD i ev0)))), (15, .call [] (.bool b)), (32, .val (.int .i64 (l.getD i ev0).kind)), (40, .val (.int .i64 (l.getD i ev0).kind)), (55, .val (.int .i64 (l.getD i ev0).kind)), (63, .val (.int .i64 (l.getD i ev0).kind)), (48, .val (.int .i64 (l.getD (i - 1) ev0).kind))] ++ annL), sp37, hd37 [] [] [] [], [], .pure [] (.int .i64 x)⟩ : Wk) 4000 (T := .split (decide ((↑i : Int) < (↑l.length : Int))) (.ob ((0 : Int) ≤ (↑i : Int) ∧ (↑i : Int) < (↑l.length : Int) ∧ (↑i : Int).toNat * (5 : Nat) < (evsC l).length) (.ob (List.take (5 : Nat) (List.drop ((↑i : Int).toNat * (5 : Nat)) (evsC l)) = (evC (l.getD i ev0))) (.ob (Ctr Try.prog 52 [AV.agg (evC (l.getD i ev0))] (AV.bool b)) (.split (b) (.split (!decide (n = (0 : Int)) == decide ((↑i : Int) = (0 : Int))) (.ob ((-1 : Int) = x) (.tt)) (.split (decide ((↑i : Int) = (0 : Int))) (.ob ((0 : Int) ≤ (↑i : Int) ∧ (↑i : Int) < (↑l.length : Int) ∧ (↑i : Int).toNat * (5 : Nat) < (evsC l).length) (.ob ((evsC l)[(↑i : Int).toNat * (5 : Nat) + (0 : Nat)]? = some (AV.int .i64 (l.getD i ev0).kind)) (.split (!decide ((l.getD i ev0).kind = (1 : Int))) (.ob ((-1 : Int) = x) (.tt)) (.ob ((0 : Int) ≤ (↑i : Int) ∧ (↑i : Int) < (↑l.length : Int) ∧ (↑i : Int).toNat * (5 : Nat) < (evsC l).length) (.ob ((evsC l)[(↑i : Int).toNat * (5 : Nat) + (0 : Nat)]? = some (AV.int .i64 (l.getD i ev0).kind)) (.split (decide ((l.getD i ev0).kind = (2 : Int))) (.ob ((0 : Int) ≤ IntKind.i64.wrap ((↑i : Int) - (1 : Int)) ∧ IntKind.i64.wrap ((↑i : Int) - (1 : Int)) < (↑l.length : Int) ∧ (IntKind.i64.wrap ((↑i : Int) - (1 : Int))).toNat * (5 : Nat) < (evsC l).length) (.ob ((evsC l)[(IntKind.i64.wrap ((↑i : Int) - (1 : Int))).toNat * (5 : Nat) + (0 : Nat)]? = some (AV.int .i64 (l.getD (i - (1 : Nat)) ev0).kind)) (.split (decide ((l.getD (i - (1 : Nat)) ev0).kind = (2 : Int))) (.ob ((-1 : Int) = x) (.tt)) (.ob ((0 : Int) ≤ (↑i : Int) ∧ (↑i : Int) < (↑l.length : Int) ∧ (↑i : Int).toNat * (5 : Nat) < (evsC l).length) (.ob ((evsC l)[(↑i : Int).toNat * (5 : Nat) + (0 : Nat)]? = some (AV.int .i64 (l.getD i ev0).kind)) (.split (decide ((l.getD i ev0).kind = (1 : Int))) (.ob ((0 : Int) ≤ (↑i : Int) ∧ (↑i : Int) < (↑l.length : Int) ∧ (↑i : Int).toNat * (5 : Nat) < (evsC l).length) (.ob ((evsC l)[(↑i : Int).toNat * (5 : Nat) + (0 : Nat)]? = some (AV.int .i64 (l.getD i ev0).kind)) (.split (decide ((l.getD i ev0).kind = (3 : Int))) (.split (decide ((64 : Int) < IntKind.i64.wrap (IntKind.i64.wrap (n + (1 : Int)) - (1 : Int)))) (.ob ((-1 : Int) = x) (.tt)) (.head (pt Try.f37 0) ({ tmps := [(0, AV.sl none l.length (evsC l) .no), (3, AV.int .i64 (IntKind.i64.wrap (IntKind.i64.wrap (n + (1 : Int)) - (1 : Int)))), (4, AV.int .i64 (IntKind.i64.wrap ((↑i : Int) + (1 : Int))))], heap := [], tags := [] }))) (.split (decide ((64 : Int) < IntKind.i64.wrap (n + (1 : Int)))) (.ob ((-1 : Int) = x) (.tt)) (.head (pt Try.f37 0) ({ tmps := [(0, AV.sl none l.length (evsC l) .no), (3, AV.int .i64 (IntKind.i64.wrap (n + (1 : Int)))), (4, AV.int .i64 (IntKind.i64.wrap ((↑i : Int) + (1 : Int))))], heap := [], tags := [] })))))) (.ob ((0 : Int) ≤ (↑i : Int) ∧ (↑i : Int) < (↑l.length : Int) ∧ (↑i : Int).toNat * (5 : Nat) < (evsC l).length) (.ob ((evsC l)[(↑i : Int).toNat * (5 : Nat) + (0 : Nat)]? = some (AV.int .i64 (l.getD i ev0).kind)) (.split (decide ((l.getD i ev0).kind = (3 : Int))) (.split (decide ((64 : Int) < IntKind.i64.wrap (n - (1 : Int)))) (.ob ((-1 : Int) = x) (.tt)) (.head (pt Try.f37 0) ({ tmps := [(0, AV.sl none l.length (evsC l) .no), (3, AV.int .i64 (IntKind.i64.wrap (n - (1 : Int)))), (4, AV.int .i64 (IntKind.i64.wrap ((↑i : Int) + (1 : Int))))], heap := [], tags := [] }))) (.split (decide ((64 : Int) < n)) (.ob ((-1 : Int) = x) (.tt)) (.head (pt Try.f37 0) ({ tmps := [(0, AV.sl none l.length (evsC l) .no), (3, AV.int .i64 n), (4, AV.int .i64 (IntKind.i64.wrap ((↑i : Int) + (1 : Int))))], heap := [], tags := [] })))))))))))) (.ob ((0 : Int) ≤ (↑i : Int) ∧ (↑i : Int) < (↑l.length : Int) ∧ (↑i : Int).toNat * (5 : Nat) < (evsC l).length) (.ob ((evsC l)[(↑i : Int).toNat * (5 : Nat) + (0 : Nat)]? = some (AV.int .i64 (l.getD i ev0).kind)) (.split (decide ((l.getD i ev0).kind = (1 : Int))) (.ob ((0 : Int) ≤ (↑i : Int) ∧ (↑i : Int) < (↑l.length : Int) ∧ (↑i : Int).toNat * (5 : Nat) < (evsC l).length) (.ob ((evsC l)[(↑i : Int).toNat * (5 : Nat) + (0 : Nat)]? = some (AV.int .i64 (l.getD i ev0).kind)) (.split (decide ((l.getD i ev0).kind = (3 : Int))) (.split (decide ((64 : Int) < IntKind.i64.wrap (IntKind.i64.wrap (n + (1 : Int)) - (1 : Int)))) (.ob ((-1 : Int) = x) (.tt)) (.head (pt Try.f37 0) ({ tmps := [(0, AV.sl none l.length (evsC l) .no), (3, AV.int .i64 (IntKind.i64.wrap (IntKind.i64.wrap (n + (1 : Int)) - (1 : Int)))), (4, AV.int .i64 (IntKind.i64.wrap ((↑i : Int) + (1 : Int))))], heap := [], tags := [] }))) (.split (decide ((64 : Int) < IntKind.i64.wrap (n + (1 : Int)))) (.ob ((-1 : Int) = x) (.tt)) (.head (pt Try.f37 0) ({ tmps := [(0, AV.sl none l.length (evsC l) .no), (3, AV.int .i64 (IntKind.i64.wrap (n + (1 : Int)))), (4, AV.int .i64 (IntKind.i64.wrap ((↑i : Int) + (1 : Int))))], heap := [], tags := [] })))))) (.ob ((0 : Int) ≤ (↑i : Int) ∧ (↑i : Int) < (↑l.length : Int) ∧ (↑i : Int).toNat * (5 : Nat) < (evsC l).length) (.ob ((evsC l)[(↑i : Int).toNat * (5 : Nat) + (0 : Nat)]? = some (AV.int .i64 (l.getD i ev0).kind)) (.split (decide ((l.getD i ev0).kind = (3 : Int))) (.split (decide ((64 : Int) < IntKind.i64.wrap (n - (1 : Int)))) (.ob ((-1 : Int) = x) (.tt)) (.head (pt Try.f37 0) ({ tmps := [(0, AV.sl none l.length (evsC l) .no), (3, AV.int .i64 (IntKind.i64.wrap (n - (1 : Int)))), (4, AV.int .i64 (IntKind.i64.wrap ((↑i : Int) + (1 : Int))))], heap := [], tags := [] }))) (.split (decide ((64 : Int) < n)) (.ob ((-1 : Int) = x) (.tt)) (.head (pt Try.f37 0) ({ tmps := [(0, AV.sl none l.length (evsC l) .no), (3, AV.int .i64 n), (4, AV.int .i64 (IntKind.i64.wrap ((↑i : Int) + (1 : Int))))], heap := [], tags := [] }))))))))))))))) (.ob ((0 : Int) ≤ (↑i : Int) ∧ (↑i : Int) < (↑l.length : Int) ∧ (↑i : Int).toNat * (5 : Nat) < (evsC l).length) (.ob ((evsC l)[(↑i : Int).toNat * (5 : Nat) + (0 : Nat)]? = some (AV.int .i64 (l.getD i ev0).kind)) (.split (decide ((l.getD i ev0).kind = (2 : Int))) (.ob ((0 : Int) ≤ IntKind.i64.wrap ((↑i : Int) - (1 : Int)) ∧ IntKind.i64.wrap ((↑i : Int) - (1 : Int)) < (↑l.length : Int) ∧ (IntKind.i64.wrap ((↑i : Int) - (1 : Int))).toNat * (5 : Nat) < (evsC l).length) (.ob ((evsC l)[(IntKind.i64.wrap ((↑i : Int) - (1 : Int))).toNat * (5 : Nat) + (0 : Nat)]? = some (AV.int .i64 (l.getD (i - (1 : Nat)) ev0).kind)) (.split (decide ((l.getD (i - (1 : Nat)) ev0).kind = (2 : Int))) (.ob ((-1 : Int) = x) (.tt)) (.ob ((0 : Int) ≤ (↑i : Int) ∧ (↑i : Int) < (↑l.length : Int) ∧ (↑i : Int).toNat * (5 : Nat) < (evsC l).length) (.ob ((evsC l)[(↑i : Int).toNat * (5 : Nat) + (0 : Nat)]? = some (AV.int .i64 (l.getD i ev0).kind)) (.split (decide ((l.getD i ev0).kind = (1 : Int))) (.ob ((0 : Int) ≤ (↑i : Int) ∧ (↑i : Int) < (↑l.length : Int) ∧ (↑i : Int).toNat * (5 : Nat) < (evsC l).length) (.ob ((evsC l)[(↑i : Int).toNat * (5 : Nat) + (0 : Nat)]? = some (AV.int .i64 (l.getD i ev0).kind)) (.split (decide ((l.getD i ev0).kind = (3 : Int))) (.split (decide ((64 : Int) < IntKind.i64.wrap (IntKind.i64.wrap (n + (1 : Int)) - (1 : Int)))) (.ob ((-1 : Int) = x) (.tt)) (.head (pt Try.f37 0) ({ tmps := [(0, AV.sl none l.length (evsC l) .no), (3, AV.int .i64 (IntKind.i64.wrap (IntKind.i64.wrap (n + (1 : Int)) - (1 : Int)))), (4, AV.int .i64 (IntKind.i64.wrap ((↑i : Int) + (1 : Int))))], heap := [], tags := [] }))) (.split (decide ((64 : Int) < IntKind.i64.wrap (n + (1 : Int)))) (.ob ((-1 : Int) = x) (.tt)) (.head (pt Try.f37 0) ({ tmps := [(0, AV.sl none l.length (evsC l) .no), (3, AV.int .i64 (IntKind.i64.wrap (n + (1 : Int)))), (4, AV.int .i64 (IntKind.i64.wrap ((↑i : Int) + (1 : Int))))], heap := [], tags := [] })))))) (.ob ((0 : Int) ≤ (↑i : Int) ∧ (↑i : Int) < (↑l.length : Int) ∧ (↑i : Int).toNat * (5 : Nat) < (evsC l).length) (.ob ((evsC l)[(↑i : Int).toNat * (5 : Nat) + (0 : Nat)]? = some (AV.int .i64 (l.getD i ev0).kind)) (.split (decide ((l.getD i ev0).kind = (3 : Int))) (.split (decide ((64 : Int) < IntKind.i64.wrap (n - (1 : Int)))) (.ob ((-1 : Int) = x) (.tt)) (.head (pt Try.f37 0) ({ tmps := [(0, AV.sl none l.length (evsC l) .no), (3, AV.int .i64 (IntKind.i64.wrap (n - (1 : Int)))), (4, AV.int .i64 (IntKind.i64.wrap ((↑i : Int) + (1 : Int))))], heap := [], tags := [] }))) (.split (decide ((64 : Int) < n)) (.ob ((-1 : Int) = x) (.tt)) (.head (pt Try.f37 0) ({ tmps := [(0, AV.sl none l.length (evsC l) .no), (3, AV.int .i64 n), (4, AV.int .i64 (IntKind.i64.wrap ((↑i : Int) + (1 : Int))))], heap := [], tags := [] })))))))))))) (.ob ((0 : Int) ≤ (↑i : Int) ∧ (↑i : Int) < (↑l.length : Int) ∧ (↑i : Int).toNat * (5 : Nat) < (evsC l).length) (.ob ((evsC l)[(↑i : Int).toNat * (5 : Nat) + (0 : Nat)]? = some (AV.int .i64 (l.getD i ev0).kind)) (.split (decide ((l.getD i ev0).kind = (1 : Int))) (.ob ((0 : Int) ≤ (↑i : Int) ∧ (↑i : Int) < (↑l.length : Int) ∧ (↑i : Int).toNat * (5 : Nat) < (evsC l).length) (.ob ((evsC l)[(↑i : Int).toNat * (5 : Nat) + (0 : Nat)]? = some (AV.int .i64 (l.getD i ev0).kind)) (.split (decide ((l.getD i ev0).kind = (3 : Int))) (.split (decide ((64 : Int) < IntKind.i64.wrap (IntKind.i64.wrap (n + (1 : Int)) - (1 : Int)))) (.ob ((-1 : Int) = x) (.tt)) (.head (pt Try.f37 0) ({ tmps := [(0, AV.sl none l.length (evsC l) .no), (3, AV.int .i64 (IntKind.i64.wrap (IntKind.i64.wrap (n + (1 : Int)) - (1 : Int)))), (4, AV.int .i64 (IntKind.i64.wrap ((↑i : Int) + (1 : Int))))], heap := [], tags := [] }))) (.split (decide ((64 : Int) < IntKind.i64.wrap (n + (1 : Int)))) (.ob ((-1 : Int) = x) (.tt)) (.head (pt Try.f37 0) ({ tmps := [(0, AV.sl none l.length (evsC l) .no), (3, AV.int .i64 (IntKind.i64.wrap (n + (1 : Int)))), (4, AV.int .i64 (IntKind.i64.wrap ((↑i : Int) + (1 : Int))))], heap := [], tags := [] })))))) (.ob ((0 : Int) ≤ (↑i : Int) ∧ (↑i : Int) < (↑l.length : Int) ∧ (↑i : Int).toNat * (5 : Nat) < (evsC l).length) (.ob ((evsC l)[(↑i : Int).toNat * (5 : Nat) + (0 : Nat)]? = some (AV.int .i64 (l.getD i ev0).kind)) (.split (decide ((l.getD i ev0).kind = (3 : Int))) (.split (decide ((64 : Int) < IntKind.i64.wrap (n - (1 : Int)))) (.ob ((-1 : Int) = x) (.tt)) (.head (pt Try.f37 0) ({ tmps := [(0, AV.sl none l.length (evsC l) .no), (3, AV.int .i64 (IntKind.i64.wrap (n - (1 : Int)))), (4, AV.int .i64 (IntKind.i64.wrap ((↑i : Int) + (1 : Int))))], heap := [], tags := [] }))) (.split (decide ((64 : Int) < n)) (.ob ((-1 : Int) = x) (.tt)) (.head (pt Try.f37 0) ({ tmps := [(0, AV.sl none l.length (evsC l) .no), (3, AV.int .i64 n), (4, AV.int .i64 (IntKind.i64.wrap ((↑i : Int) + (1 : Int))))], heap := [], tags := [] })))))))))))))) (.ob ((-1 : Int) = x) (.tt)))))) (.ob (n = x) (.tt))) (by kernel_rfl) hx⟩
theorem depth_e (l : List Ev) (n : Int) (i : Nat) (b : Bool) (hi : i = l.length) (hl : l.length ≤ 1048600) (hd : DocP l i) (hn : n = dep l i ∧ 0 ≤ n ∧ n ≤ 64) : ∃ x : Int, (x = 0 → DocP l l.length ∧ dep l l.length = 0) ∧ HT Try.prog Try.f37.ntmps (pt Try.f37 0) (stD l n i) (EndsA Γ (.pure [] (.int .i64 x)) Try.f37) := by
    have H : ∃ x : Int, (x = 0 → DocP l l.length ∧ dep l l.length = 0) ∧ PT.holds Try.prog Try.f37.ntmps (EndsA Γ (.pure [] (.int .i64 x)) Try.f37) (.split (decide ((↑i : Int) < (↑l.length : Int))) (.ob ((0 : Int) ≤ (↑i : Int) ∧ (↑i : Int) < (↑l.length : Int) ∧ (↑i : Int).toNat * (5 : Nat) < (evsC l).length) (.ob (List.take (5 : Nat) (List.drop ((↑i : Int).toNat * (5 : Nat)) (evsC l)) = (evC (l.getD i ev0))) (.ob (Ctr Try.prog 52 [AV.agg (evC (l.getD i ev0))] (AV.bool b)) (.split (b) (.split (!decide (n = (0 : Int)) == decide ((↑i : Int) = (0 : Int))) (.ob ((-1 : Int) = x) (.tt)) (.split (decide ((↑i : Int) = (0 : Int))) (.ob ((0 : Int) ≤ (↑i : Int) ∧ (↑i : Int) < (↑l.length : Int) ∧ (↑i : Int).toNat * (5 : Nat) < (evsC l).length) (.ob ((evsC l)[(↑i : Int).toNat * (5 : Nat) + (0 : Nat)]? = some (AV.int .i64 (l.getD i ev0).kind)) (.split (!decide ((l.getD i ev0).kind = (1 : Int))) (.ob ((-1 : Int) = x) (.tt)) (.ob ((0 : Int) ≤ (↑i : Int) ∧ (↑i : Int) < (↑l.length : Int) ∧ (↑i : Int).toNat * (5 : Nat) < (evsC l).length) (.ob ((evsC l)[(↑i : Int).toNat * (5 : Nat) + (0 : Nat)]? = some (AV.int .i64 (l.getD i ev0).kind)) (.split (decide ((l.getD i ev0).kind = (2 : Int))) (.ob ((0 : Int) ≤ IntKind.i64.wrap ((↑i : Int) - (1 : Int)) ∧ IntKind.i64.wrap ((↑i : Int) - (1 : Int)) < (↑l.length : Int) ∧ (IntKind.i64.wrap ((↑i : Int) - (1 : Int))).toNat * (5 : Nat) < (evsC l).length) (.ob ((evsC l)[(IntKind.i64.wrap ((↑i : Int) - (1 : Int))).toNat * (5 : Nat) + (0 : Nat)]? = some (AV.int .i64 (l.getD (i - (1 : Nat)) ev0).kind)) (.split (decide ((l.getD (i - (1 : Nat)) ev0).kind = (2 : Int))) (.ob ((-1 : Int) = x) (.tt)) (.ob ((0 : Int) ≤ (↑i : Int) ∧ (↑i : Int) < (↑l.length : Int) ∧ (↑i : Int).toNat * (5 : Nat) < (evsC l).length) (.ob ((evsC l)[(↑i : Int).toNat * (5 : Nat) + (0 : Nat)]? = some (AV.int .i64 (l.getD i ev0).kind)) (.split (decide ((l.getD i ev0).kind = (1 : Int))) (.ob ((0 : Int) ≤ (↑i : Int) ∧ (↑i : Int) < (↑l.length : Int) ∧ (↑i : Int).toNat * (5 : Nat) < (evsC l).length) (.ob ((evsC l)[(↑i : Int).toNat * (5 : Nat) + (0 : Nat)]? = some (AV.int .i64 (l.getD i ev0).kind)) (.split (decide ((l.getD i ev0).kind = (3 : Int))) (.split (decide ((64 : Int) < IntKind.i64.wrap (IntKind.i64.wrap (n + (1 : Int)) - (1 : Int)))) (.ob ((-1 : Int) = x) (.tt)) (.head (pt Try.f37 0) ({ tmps := [(0, AV.sl none l.length (evsC l) .no), (3, AV.int .i64 (IntKind.i64.wrap (IntKind.i64.wrap (n + (1 : Int)) - (1 : Int)))), (4, AV.int .i64 (IntKind.i64.wrap ((↑i : Int) + (1 : Int))))], heap := [], tags := [] }))) (.split (decide ((64 : Int) < IntKind.i64.wrap (n + (1 : Int)))) (.ob ((-1 : Int) = x) (.tt)) (.head (pt Try.f37 0) ({ tmps := [(0, AV.sl none l.length (evsC l) .no), (3, AV.int .i64 (IntKind.i64.wrap (n + (1 : Int)))), (4, AV.int .i64 (IntKind.i64.wrap ((↑i : Int) + (1 : Int))))], heap := [], tags := [] })))))) (.ob ((0 : Int) ≤ (↑i : Int) ∧ (↑i : Int) < (↑l.length : Int) ∧ (↑i : Int).toNat * (5 : Nat) < (evsC l).length) (.ob ((evsC l)[(↑i : Int).toNat * (5 : Nat) + (0 : Nat)]? = some (AV.int .i64 (l.getD i ev0).kind)) (.split (decide ((l.getD i ev0).kind = (3 : Int))) (.split (decide ((64 : Int) < IntKind.i64.wrap (n - (1 : Int)))) (.ob ((-1 : Int) = x) (.tt)) (.head (pt Try.f37 0) ({ tmps := [(0, AV.sl none l.length (evsC l) .no), (3, AV.int .i64 (IntKind.i64.wrap (n - (1 : Int)))), (4, AV.int .i64 (IntKind.i64.wrap ((↑i : Int) + (1 : Int))))], heap := [], tags := [] }))) (.split (decide ((64 : Int) < n)) (.ob ((-1 : Int) = x) (.tt)) (.head (pt Try.f37 0) ({ tmps := [(0, AV.sl none l.length (evsC l) .no), (3, AV.int .i64 n), (4, AV.int .i64 (IntKind.i64.wrap ((↑i : Int) + (1 : Int))))], heap := [], tags := [] })))))))))))) (.ob ((0 : Int) ≤ (↑i : Int) ∧ (↑i : Int) < (↑l.length : Int) ∧ (↑i : Int).toNat * (5 : Nat) < (evsC l).length) (.ob ((evsC l)[(↑i : Int).toNat * (5 : Nat) + (0 : Nat)]? = some (AV.int .i64 (l.getD i ev0).kind)) (.split (decide ((l.getD i ev0).kind = (1 : Int))) (.ob ((0 : Int) ≤ (↑i : Int) ∧ (↑i : Int) < (↑l.length : Int) ∧ (↑i : Int).toNat * (5 : Nat) < (evsC l).length) (.ob ((evsC l)[(↑i : Int).toNat * (5 : Nat) + (0 : Nat)]? = some (AV.int .i64 (l.getD i ev0).kind)) (.split (decide ((l.getD i ev0).kind = (3 : Int))) (.split (decide ((64 : Int) < IntKind.i64.wrap (IntKind.i64.wrap (n + (1 : Int)) - (1 : Int)))) (.ob ((-1 : Int) = x) (.tt)) (.head (pt Try.f37 0) ({ tmps := [(0, AV.sl none l.length (evsC l) .no), (3, AV.int .i64 (IntKind.i64.wrap (IntKind.i64.wrap (n + (1 : Int)) - (1 : Int)))), (4, AV.int .i64 (IntKind.i64.wrap ((↑i : Int) + (1 : Int))))], heap := [], tags := [] }))) (.split (decide ((64 : Int) < IntKind.i64.wrap (n + (1 : Int)))) (.ob ((-1 : Int) = x) (.tt)) (.head (pt Try.f37 0) ({ tmps := [(0, AV.sl none l.length (evsC l) .no), (3, AV.int .i64 (IntKind.i64.wrap (n + (1 : Int)))), (4, AV.int .i64 (IntKind.i64.wrap ((↑i : Int) + (1 : Int))))], heap := [], tags := [] })))))) (.ob ((0 : Int) ≤ (↑i : Int) ∧ (↑i : Int) < (↑l.length : Int) ∧ (↑i : Int).toNat * (5 : Nat) < (evsC l).length) (.ob ((evsC l)[(↑i : Int).toNat * (5 : Nat) + (0 : Nat)]? = some (AV.int .i64 (l.getD i ev0).kind)) (.split (decide ((l.getD i ev0).kind = (3 : Int))) (.split (decide ((64 : Int) < IntKind.i64.wrap (n - (1 : Int)))) (.ob ((-1 : Int) = x) (.tt)) (.head (pt Try.f37 0) ({ tmps := [(0, AV.sl none l.length (evsC l) .no), (3, AV.int .i64 (IntKind.i64.wrap (n - (1 : Int)))), (4, AV.int .i64 (IntKind.i64.wrap ((↑i : Int) + (1 : Int))))], heap := [], tags := [] }))) (.split (decide ((64 : Int) < n)) (.ob ((-1 : Int) = x) (.tt)) (.head (pt Try.f37 0) ({ tmps := [(0, AV.sl none l.length (evsC l) .no), (3, AV.int .i64 n), (4, AV.int .i64 (IntKind.i64.wrap ((↑i : Int) + (1 : Int))))], heap := [], tags := [] }))))))))))))))) (.ob ((0 : Int) ≤ (↑i : Int) ∧ (↑i : Int) < (↑l.length : Int) ∧ (↑i : Int).toNat * (5 : Nat) < (evsC l).length) (.ob ((evsC l)[(↑i : Int).toNat * (5 : Nat) + (0 : Nat)]? = some (AV.int .i64 (l.getD i ev0).kind)) (.split (decide ((l.getD i ev0).kind = (2 : Int))) (.ob ((0 : Int) ≤ IntKind.i64.wrap ((↑i : Int) - (1 : Int)) ∧ IntKind.i64.wrap ((↑i : Int) - (1 : Int)) < (↑l.length : Int) ∧ (IntKind.i64.wrap ((↑i : Int) - (1 : Int))).toNat * (5 : Nat) < (evsC l).length) (.ob ((evsC l)[(IntKind.i64.wrap ((↑i : Int) - (1 : Int))).toNat * (5 : Nat) + (0 : Nat)]? = some (AV.int .i64 (l.getD (i - (1 : Nat)) ev0).kind)) (.split (decide ((l.getD (i - (1 : Nat)) ev0).kind = (2 : Int))) (.ob ((-1 : Int) = x) (.tt)) (.ob ((0 : Int) ≤ (↑i : Int) ∧ (↑i : Int) < (↑l.length : Int) ∧ (↑i : Int).toNat * (5 : Nat) < (evsC l).length) (.ob ((evsC l)[(↑i : Int).toNat * (5 : Nat) + (0 : Nat)]? = some (AV.int .i64 (l.getD i ev0).kind)) (.split (decide ((l.getD i ev0).kind = (1 : Int))) (.ob ((0 : Int) ≤ (↑i : Int) ∧ (↑i : Int) < (↑l.length : Int) ∧ (↑i : Int).toNat * (5 : Nat) < (evsC l).length) (.ob ((evsC l)[(↑i : Int).toNat * (5 : Nat) + (0 : Nat)]? = some (AV.int .i64 (l.getD i ev0).kind)) (.split (decide ((l.getD i ev0).kind = (3 : Int))) (.split (decide ((64 : Int) < IntKind.i64.wrap (IntKind.i64.wrap (n + (1 : Int)) - (1 : Int)))) (.ob ((-1 : Int) = x) (.tt)) (.head (pt Try.f37 0) ({ tmps := [(0, AV.sl none l.length (evsC l) .no), (3, AV.int .i64 (IntKind.i64.wrap (IntKind.i64.wrap (n + (1 : Int)) - (1 : Int)))), (4, AV.int .i64 (IntKind.i64.wrap ((↑i : Int) + (1 : Int))))], heap := [], tags := [] }))) (.split (decide ((64 : Int) < IntKind.i64.wrap (n + (1 : Int)))) (.ob ((-1 : Int) = x) (.tt)) (.head (pt Try.f37 0) ({ tmps := [(0, AV.sl none l.length (evsC l) .no), (3, AV.int .i64 (IntKind.i64.wrap (n + (1 : Int)))), (4, AV.int .i64 (IntKind.i64.wrap ((↑i : Int) + (1 : Int))))], heap := [], tags := [] })))))) (.ob ((0 : Int) ≤ (↑i : Int) ∧ (↑i : Int) < (↑l.length : Int) ∧ (↑i : Int).toNat * (5 : Nat) < (evsC l).length) (.ob ((evsC l)[(↑i : Int).toNat * (5 : Nat) + (0 : Nat)]? = some (AV.int .i64 (l.getD i ev0).kind)) (.split (decide ((l.getD i ev0).kind = (3 : Int))) (.split (decide ((64 : Int) < IntKind.i64.wrap (n - (1 : Int)))) (.ob ((-1 : Int) = x) (.tt)) (.head (pt Try.f37 0) ({ tmps := [(0, AV.sl none l.length (evsC l) .no), (3, AV.int .i64 (IntKind.i64.wrap (n - (1 : Int)))), (4, AV.int .i64 (IntKind.i64.wrap ((↑i : Int) + (1 : Int))))], heap := [], tags := [] }))) (.split (decide ((64 : Int) < n)) (.ob ((-1 : Int) = x) (.tt)) (.head (pt Try.f37 0) ({ tmps := [(0, AV.sl none l.length (evsC l) .no), (3, AV.int .i64 n), (4, AV.int .i64 (IntKind.i64.wrap ((↑i : Int) + (1 : Int))))], heap := [], tags := [] })))))))))))) (.ob ((0 : Int) ≤ (↑i : Int) ∧ (↑i : Int) < (↑l.length : Int) ∧ (↑i : Int).toNat * (5 : Nat) < (evsC l).length) (.ob ((evsC l)[(↑i : Int).toNat * (5 : Nat) + (0 : Nat)]? = some (AV.int .i64 (l.getD i ev0).kind)) (.split (decide ((l.getD i ev0).kind = (1 : Int))) (.ob ((0 : Int) ≤ (↑i : Int) ∧ (↑i : Int) < (↑l.length : Int) ∧ (↑i : Int).toNat * (5 : Nat) < (evsC l).length) (.ob ((evsC l)[(↑i : Int).toNat * (5 : Nat) + (0 : Nat)]? = some (AV.int .i64 (l.getD i ev0).kind)) (.split (decide ((l.getD i ev0).kind = (3 : Int))) (.split (decide ((64 : Int) < IntKind.i64.wrap (IntKind.i64.wrap (n + (1 : Int)) - (1 : Int)))) (.ob ((-1 : Int) = x) (.tt)) (.head (pt Try.f37 0) ({ tmps := [(0, AV.sl none l.length (evsC l) .no), (3, AV.int .i64 (IntKind.i64.wrap (IntKind.i64.wrap (n + (1 : Int)) - (1 : Int)))), (4, AV.int .i64 (IntKind.i64.wrap ((↑i : Int) + (1 : Int))))], heap := [], tags := [] }))) (.split (decide ((64 : Int) < IntKind.i64.wrap (n + (1 : Int)))) (.ob ((-1 : Int) = x) (.tt)) (.head (pt Try.f37 0) ({ tmps := [(0, AV.sl none l.length (evsC l) .no), (3, AV.int .i64 (IntKind.i64.wrap (n + (1 : Int)))), (4, AV.int .i64 (IntKind.i64.wrap ((↑i : Int) + (1 : Int))))], heap := [], tags := [] })))))) (.ob ((0 : Int) ≤ (↑i : Int) ∧ (↑i : Int) < (↑l.length : Int) ∧ (↑i : Int).toNat * (5 : Nat) < (evsC l).length) (.ob ((evsC l)[(↑i : Int).toNat * (5 : Nat) + (0 : Nat)]? = some (AV.int .i64 (l.getD i ev0).kind)) (.split (decide ((l.getD i ev0).kind = (3 : Int))) (.split (decide ((64 : Int) < IntKind.i64.wrap (n - (1 : Int)))) (.ob ((-1 : Int) = x) (.tt)) (.head (pt Try.f37 0) ({ tmps := [(0, AV.sl none l.length (evsC l) .no), (3, AV.int .i64 (IntKind.i64.wrap (n - (1 : Int)))), (4, AV.int .i64 (IntKind.i64.wrap ((↑i : Int) + (1 : Int))))], heap := [], tags := [] }))) (.split (decide ((64 : Int) < n)) (.ob ((-1 : Int) = x) (.tt)) (.head (pt Try.f37 0) ({ tmps := [(0, AV.sl none l.length (evsC l) .no), (3, AV.int .i64 n), (4, AV.int .i64 (IntKind.i64.wrap ((↑i : Int) + (1 : Int))))], heap := [], tags := [] })))))))))))))) (.ob ((-1 : Int) = x) (.tt)))))) (.ob (n = x) (.tt))) := by
      subst hi
      have h0 : decide ((l.length : Int) < l.length) = false := by simp
      simp only [PT.holds, h0, Bool.false_eq_true, false_implies, true_and, true_implies]
      exact ⟨n, fun h => ⟨hd, by omega⟩, rfl, trivial⟩
    obtain ⟨x, hR, hx⟩ := H
    exact ⟨x, hR, HT.walk Γ_ok mo_ok (⟨([(14, .val (.agg (evC (l.getD i ev0)))), (15, .call [] (.bool b)), (32, .val (.int .i64 (l.getD i ev0).kind)), (40, .val (.int .i64 (l.getD i ev0).kind)), (55, .val (.int .i64 (l.getD i ev0).kind)), (63, .val (.int .i64 (l.getD i ev0).kind)), (48, .val (.int .i64 (l.getD (i - 1) ev0).kind))] ++ annL), sp37, hd37 [] [] [] [], [], .pure [] (.int .i64 x)⟩ : Wk) 4000 (T := .split (decide ((↑i : Int) < (↑l.length : Int))) (.ob ((0 : Int) ≤ (↑i : Int) ∧ (↑i : Int) < (↑l.length : Int) ∧ (↑i : Int).toNat * (5 : Nat) < (evsC l).length) (.ob (List.take (5 : Nat) (List.drop ((↑i : Int).toNat * (5 : Nat)) (evsC l)) = (evC (l.getD i ev0))) (.ob (Ctr Try.prog 52 [AV.agg (evC (l.getD i ev0))] (AV.bool b)) (.split (b) (.split (!decide (n = (0 : Int)) == decide ((↑i : Int) = (0 : Int))) (.ob ((-1 : Int) = x) (.tt)) (.split (decide ((↑i : Int) = (0 : Int))) (.ob ((0 : Int) ≤ (↑i : Int) ∧ (↑i : Int) < (↑l.length : Int) ∧ (↑i : Int).toNat * (5 : Nat) < (evsC l).length) (.ob ((evsC l)[(↑i : Int).toNat * (5 : Nat) + (0 : Nat)]? = some (AV.int .i64 (l.getD i ev0).kind)) (.split (!decide ((l.getD i ev0).kind = (1 : Int))) (.ob ((-1 : Int) = x) (.tt)) (.ob ((0 : Int) ≤ (↑i : Int) ∧ (↑i : Int) < (↑l.length : Int) ∧ (↑i : Int).toNat * (5 : Nat) < (evsC l).length) (.ob ((evsC l)[(↑i : Int).toNat * (5 : Nat) + (0 : Nat)]? = some (AV.int .i64 (l.getD i ev0).kind)) (.split (decide ((l.getD i ev0).kind = (2 : Int))) (.ob ((0 : Int) ≤ IntKind.i64.wrap ((↑i : Int) - (1 : Int)) ∧ IntKind.i64.wrap ((↑i : Int) - (1 : Int)) < (↑l.length : Int) ∧ (IntKind.i64.wrap ((↑i : Int) - (1 : Int))).toNat * (5 : Nat) < (evsC l).length) (.ob ((evsC l)[(IntKind.i64.wrap ((↑i : Int) - (1 : Int))).toNat * (5 : Nat) + (0 : Nat)]? = some (AV.int .i64 (l.getD (i - (1 : Nat)) ev0).kind)) (.split (decide ((l.getD (i - (1 : Nat)) ev0).kind = (2 : Int))) (.ob ((-1 : Int) = x) (.tt)) (.ob ((0 : Int) ≤ (↑i : Int) ∧ (↑i : Int) < (↑l.length : Int) ∧ (↑i : Int).toNat * (5 : Nat) < (evsC l).length) (.ob ((evsC l)[(↑i : Int).toNat * (5 : Nat) + (0 : Nat)]? = some (AV.int .i64 (l.getD i ev0).kind)) (.split (decide ((l.getD i ev0).kind = (1 : Int))) (.ob ((0 : Int) ≤ (↑i : Int) ∧ (↑i : Int) < (↑l.length : Int) ∧ (↑i : Int).toNat * (5 : Nat) < (evsC l).length) (.ob ((evsC l)[(↑i : Int).toNat * (5 : Nat) + (0 : Nat)]? = some (AV.int .i64 (l.getD i ev0).kind)) (.split (decide ((l.getD i ev0).kind = (3 : Int))) (.split (decide ((64 : Int) < IntKind.i64.wrap (IntKind.i64.wrap (n + (1 : Int)) - (1 : Int)))) (.ob ((-1 : Int) = x) (.tt)) (.head (pt Try.f37 0) ({ tmps := [(0, AV.sl none l.length (evsC l) .no), (3, AV.int .i64 (IntKind.i64.wrap (IntKind.i64.wrap (n + (1 : Int)) - (1 : Int)))), (4, AV.int .i64 (IntKind.i64.wrap ((↑i : Int) + (1 : Int))))], heap := [], tags := [] }))) (.split (decide ((64 : Int) < IntKind.i64.wrap (n + (1 : Int)))) (.ob ((-1 : Int) = x) (.tt)) (.head (pt Try.f37 0) ({ tmps := [(0, AV.sl none l.length (evsC l) .no), (3, AV.int .i64 (IntKind.i64.wrap (n + (1 : Int)))), (4, AV.int .i64 (IntKind.i64.wrap ((↑i : Int) + (1 : Int))))], heap := [], tags := [] })))))) (.ob ((0 : Int) ≤ (↑i : Int) ∧ (↑i : Int) < (↑l.length : Int) ∧ (↑i : Int).toNat * (5 : Nat) < (evsC l).length) (.ob ((evsC l)[(↑i : Int).toNat * (5 : Nat) + (0 : Nat)]? = some (AV.int .i64 (l.getD i ev0).kind)) (.split (decide ((l.getD i ev0).kind = (3 : Int))) (.split (decide ((64 : Int) < IntKind.i64.wrap (n - (1 : Int)))) (.ob ((-1 : Int) = x) (.tt)) (.head (pt Try.f37 0) ({ tmps := [(0, AV.sl none l.length (evsC l) .no), (3, AV.int .i64 (IntKind.i64.wrap (n - (1 : Int)))), (4, AV.int .i64 (IntKind.i64.wrap ((↑i : Int) + (1 : Int))))], heap := [], tags := [] }))) (.split (decide ((64 : Int) < n)) (.ob ((-1 : Int) = x) (.tt)) (.head (pt Try.f37 0) ({ tmps := [(0, AV.sl none l.length (evsC l) .no), (3, AV.int .i64 n), (4, AV.int .i64 (IntKind.i64.wrap ((↑i : Int) + (1 : Int))))], heap := [], tags := [] })))))))))))) (.ob ((0 : Int) ≤ (↑i : Int) ∧ (↑i : Int) < (↑l.length : Int) ∧ (↑i : Int).toNat * (5 : Nat) < (evsC l).length) (.ob ((evsC l)[(↑i : Int).toNat * (5 : Nat) + (0 : Nat)]? = some (AV.int .i64 (l.getD i ev0).kind)) (.split (decide ((l.getD i ev0).kind = (1 : Int))) (.ob ((0 : Int) ≤ (↑i : Int) ∧ (↑i : Int) < (↑l.length : Int) ∧ (↑i : Int).toNat * (5 : Nat) < (evsC l).length) (.ob ((evsC l)[(↑i : Int).toNat * (5 : Nat) + (0 : Nat)]? = some (AV.int .i64 (l.getD i ev0).kind)) (.split (decide ((l.getD i ev0).kind = (3 : Int))) (.split (decide ((64 : Int) < IntKind.i64.wrap (IntKind.i64.wrap (n + (1 : Int)) - (1 : Int)))) (.ob ((-1 : Int) = x) (.tt)) (.head (pt Try.f37 0) ({ tmps := [(0, AV.sl none l.length (evsC l) .no), (3, AV.int .i64 (IntKind.i64.wrap (IntKind.i64.wrap (n + (1 : Int)) - (1 : Int)))), (4, AV.int .i64 (IntKind.i64.wrap ((↑i : Int) + (1 : Int))))], heap := [], tags := [] }))) (.split (decide ((64 : Int) < IntKind.i64.wrap (n + (1 : Int)))) (.ob ((-1 : Int) = x) (.tt)) (.head (pt Try.f37 0) ({ tmps := [(0, AV.sl none l.length (evsC l) .no), (3, AV.int .i64 (IntKind.i64.wrap (n + (1 : Int)))), (4, AV.int .i64 (IntKind.i64.wrap ((↑i : Int) + (1 : Int))))], heap := [], tags := [] })))))) (.ob ((0 : Int) ≤ (↑i : Int) ∧ (↑i : Int) < (↑l.length : Int) ∧ (↑i : Int).toNat * (5 : Nat) < (evsC l).length) (.ob ((evsC l)[(↑i : Int).toNat * (5 : Nat) + (0 : Nat)]? = some (AV.int .i64 (l.getD i ev0).kind)) (.split (decide ((l.getD i ev0).kind = (3 : Int))) (.split (decide ((64 : Int) < IntKind.i64.wrap (n - (1 : Int)))) (.ob ((-1 : Int) = x) (.tt)) (.head (pt Try.f37 0) ({ tmps := [(0, AV.sl none l.length (evsC l) .no), (3, AV.int .i64 (IntKind.i64.wrap (n - (1 : Int)))), (4, AV.int .i64 (IntKind.i64.wrap ((↑i : Int) + (1 : Int))))], heap := [], tags := [] }))) (.split (decide ((64 : Int) < n)) (.ob ((-1 : Int) = x) (.tt)) (.head (pt Try.f37 0) ({ tmps := [(0, AV.sl none l.length (evsC l) .no), (3, AV.int .i64 n), (4, AV.int .i64 (IntKind.i64.wrap ((↑i : Int) + (1 : Int))))], heap := [], tags := [] }))))))))))))))) (.ob ((0 : Int) ≤ (↑i : Int) ∧ (↑i : Int) < (↑l.length : Int) ∧ (↑i : Int).toNat * (5 : Nat) < (evsC l).length) (.ob ((evsC l)[(↑i : Int).toNat * (5 : Nat) + (0 : Nat)]? = some (AV.int .i64 (l.getD i ev0).kind)) (.split (decide ((l.getD i ev0).kind = (2 : Int))) (.ob ((0 : Int) ≤ IntKind.i64.wrap ((↑i : Int) - (1 : Int)) ∧ IntKind.i64.wrap ((↑i : Int) - (1 : Int)) < (↑l.length : Int) ∧ (IntKind.i64.wrap ((↑i : Int) - (1 : Int))).toNat * (5 : Nat) < (evsC l).length) (.ob ((evsC l)[(IntKind.i64.wrap ((↑i : Int) - (1 : Int))).toNat * (5 : Nat) + (0 : Nat)]? = some (AV.int .i64 (l.getD (i - (1 : Nat)) ev0).kind)) (.split (decide ((l.getD (i - (1 : Nat)) ev0).kind = (2 : Int))) (.ob ((-1 : Int) = x) (.tt)) (.ob ((0 : Int) ≤ (↑i : Int) ∧ (↑i : Int) < (↑l.length : Int) ∧ (↑i : Int).toNat * (5 : Nat) < (evsC l).length) (.ob ((evsC l)[(↑i : Int).toNat * (5 : Nat) + (0 : Nat)]? = some (AV.int .i64 (l.getD i ev0).kind)) (.split (decide ((l.getD i ev0).kind = (1 : Int))) (.ob ((0 : Int) ≤ (↑i : Int) ∧ (↑i : Int) < (↑l.length : Int) ∧ (↑i : Int).toNat * (5 : Nat) < (evsC l).length) (.ob ((evsC l)[(↑i : Int).toNat * (5 : Nat) + (0 : Nat)]? = some (AV.int .i64 (l.getD i ev0).kind)) (.split (decide ((l.getD i ev0).kind = (3 : Int))) (.split (decide ((64 : Int) < IntKind.i64.wrap (IntKind.i64.wrap (n + (1 : Int)) - (1 : Int)))) (.ob ((-1 : Int) = x) (.tt)) (.head (pt Try.f37 0) ({ tmps := [(0, AV.sl none l.length (evsC l) .no), (3, AV.int .i64 (IntKind.i64.wrap (IntKind.i64.wrap (n + (1 : Int)) - (1 : Int)))), (4, AV.int .i64 (IntKind.i64.wrap ((↑i : Int) + (1 : Int))))], heap := [], tags := [] }))) (.split (decide ((64 : Int) < IntKind.i64.wrap (n + (1 : Int)))) (.ob ((-1 : Int) = x) (.tt)) (.head (pt Try.f37 0) ({ tmps := [(0, AV.sl none l.length (evsC l) .no), (3, AV.int .i64 (IntKind.i64.wrap (n + (1 : Int)))), (4, AV.int .i64 (IntKind.i64.wrap ((↑i : Int) + (1 : Int))))], heap := [], tags := [] })))))) (.ob ((0 : Int) ≤ (↑i : Int) ∧ (↑i : Int) < (↑l.length : Int) ∧ (↑i : Int).toNat * (5 : Nat) < (evsC l).length) (.ob ((evsC l)[(↑i : Int).toNat * (5 : Nat) + (0 : Nat)]? = some (AV.int .i64 (l.getD i ev0).kind)) (.split (decide ((l.getD i ev0).kind = (3 : Int))) (.split (decide ((64 : Int) < IntKind.i64.wrap (n - (1 : Int)))) (.ob ((-1 : Int) = x) (.tt)) (.head (pt Try.f37 0) ({ tmps := [(0, AV.sl none l.length (evsC l) .no), (3, AV.int .i64 (IntKind.i64.wrap (n - (1 : Int)))), (4, AV.int .i64 (IntKind.i64.wrap ((↑i : Int) + (1 : Int))))], heap := [], tags := [] }))) (.split (decide ((64 : Int) < n)) (.ob ((-1 : Int) = x) (.tt)) (.head (pt Try.f37 0) ({ tmps := [(0, AV.sl none l.length (evsC l) .no), (3, AV.int .i64 n), (4, AV.int .i64 (IntKind.i64.wrap ((↑i : Int) + (1 : Int))))], heap := [], tags := [] })))))))))))) (.ob ((0 : Int) ≤ (↑i : Int) ∧ (↑i : Int) < (↑l.length : Int) ∧ (↑i : Int).toNat * (5 : Nat) < (evsC l).length) (.ob ((evsC l)[(↑i : Int).toNat * (5 : Nat) + (0 : Nat)]? = some (AV.int .i64 (l.getD i ev0).kind)) (.split (decide ((l.getD i ev0).kind = (1 : Int))) (.ob ((0 : Int) ≤ (↑i : Int) ∧ (↑i : Int) < (↑l.length : Int) ∧ (↑i : Int).toNat * (5 : Nat) < (evsC l).length) (.ob ((evsC l)[(↑i : Int).toNat * (5 : Nat) + (0 : Nat)]? = some (AV.int .i64 (l.getD i ev0).kind)) (.split (decide ((l.getD i ev0).kind = (3 : Int))) (.split (decide ((64 : Int) < IntKind.i64.wrap (IntKind.i64.wrap (n + (1 : Int)) - (1 : Int)))) (.ob ((-1 : Int) = x) (.tt)) (.head (pt Try.f37 0) ({ tmps := [(0, AV.sl none l.length (evsC l) .no), (3, AV.int .i64 (IntKind.i64.wrap (IntKind.i64.wrap (n + (1 : Int)) - (1 : Int)))), (4, AV.int .i64 (IntKind.i64.wrap ((↑i : Int) + (1 : Int))))], heap := [], tags := [] }))) (.split (decide ((64 : Int) < IntKind.i64.wrap (n + (1 : Int)))) (.ob ((-1 : Int) = x) (.tt)) (.head (pt Try.f37 0) ({ tmps := [(0, AV.sl none l.length (evsC l) .no), (3, AV.int .i64 (IntKind.i64.wrap (n + (1 : Int)))), (4, AV.int .i64 (IntKind.i64.wrap ((↑i : Int) + (1 : Int))))], heap := [], tags := [] })))))) (.ob ((0 : Int) ≤ (↑i : Int) ∧ (↑i : Int) < (↑l.length : Int) ∧ (↑i : Int).toNat * (5 : Nat) < (evsC l).length) (.ob ((evsC l)[(↑i : Int).toNat * (5 : Nat) + (0 : Nat)]? = some (AV.int .i64 (l.getD i ev0).kind)) (.split (decide ((l.getD i ev0).kind = (3 : Int))) (.split (decide ((64 : Int) < IntKind.i64.wrap (n - (1 : Int)))) (.ob ((-1 : Int) = x) (.tt)) (.head (pt Try.f37 0) ({ tmps := [(0, AV.sl none l.length (evsC l) .no), (3, AV.int .i64 (IntKind.i64.wrap (n - (1 : Int)))), (4, AV.int .i64 (IntKind.i64.wrap ((↑i : Int) + (1 : Int))))], heap := [], tags := [] }))) (.split (decide ((64 : Int) < n)) (.ob ((-1 : Int) = x) (.tt)) (.head (pt Try.f37 0) ({ tmps := [(0, AV.sl none l.length (evsC l) .no), (3, AV.int .i64 n), (4, AV.int .i64 (IntKind.i64.wrap ((↑i : Int) + (1 : Int))))], heap := [], tags := [] })))))))))))))) (.ob ((-1 : Int) = x) (.tt)))))) (.ob (n = x) (.tt))) (by kernel_rfl) hx⟩
theorem depth_l (l : List Ev) (hl : l.length ≤ 1048600) (ho : okEvs l) : ∀ d i, i + d = l.length → DocP l i → ∀ n, n = dep l i → 0 ≤ n → n ≤ 64 → ∃ x : Int, (x = 0 → DocP l l.length ∧ dep l l.length = 0) ∧ HT Try.prog Try.f37.ntmps (pt Try.f37 0) (stD l n i) (EndsA Γ (.pure [] (.int .i64 x)) Try.f37) := by
  intro d
  induction d with
  | zero => exact fun i h hd n h1 h2 h3 => depth_e l n i false (by omega) hl hd ⟨h1, h2, h3⟩
  | succ d ih =>
    intro i h hd n h1 h2 h3
    have hi : i < l.length := by omega
    obtain ⟨b, hb, hc⟩ := evr_ex (l.getD i ev0) (ho _ (getD_mem _ _ _ hi))
    exact depth_h l n i b hi hl hd ⟨h1, h2, h3⟩ hb hc (ih (i + 1) (by omega))

theorem depth_ex (l : List Ev) (hl : l.length ≤ 1048600) (ho : okEvs l) : ∃ x : Int, (x = 0 → DocP l l.length ∧ dep l l.length = 0) ∧ Ctr Try.prog 37 [.sl none l.length (evsC l) .no] (.int .i64 x) := by
    have H : ∃ x : Int, (x = 0 → DocP l l.length ∧ dep l l.length = 0) ∧ PT.holds Try.prog Try.f37.ntmps (EndsA Γ (.pure [] (.int .i64 x)) Try.f37) (.head (pt Try.f37 0) ({ tmps := [(0, AV.sl none l.length (evsC l) .no), (3, AV.int .i64 (0 : Int)), (4, AV.int .i64 (0 : Int))], heap := [], tags := [] })) := by
      simp only [PT.holds]
      exact depth_l l hl ho _ 0 (Nat.zero_add _) ⟨fun i h => by omega, fun i h => by omega, fun i h h => by omega, fun h => by omega⟩ 0 rfl (by omega) (by omega)
    obtain ⟨x, hR, hx⟩ := H
    exact ⟨x, hR, Ctr.mk Γ_ok Try.func37 (by kernel_rfl) Try.call37 [] (by kernel_rfl) (HT.walk Γ_ok mo_ok (⟨annL, sp37, hd37 [] [] [] [], [], .pure [] (.int .i64 x)⟩ : Wk) 4000 (T := .head (pt Try.f37 0) ({ tmps := [(0, AV.sl none l.length (evsC l) .no), (3, AV.int .i64 (0 : Int)), (4, AV.int .i64 (0 : Int))], heap := [], tags := [] })) (by kernel_rfl) hx)⟩
theorem whole_ex0 (l : List Ev) (hl : l.length ≤ 1048600) (d : Int) (hd : d = 0 → DocP l l.length ∧ dep l l.length = 0) (hc : Ctr Try.prog 37 [.sl none l.length (evsC l) .no] (.int .i64 d)) : ∃ x : Bool, (x = true → DocP l l.length ∧ dep l l.length = 0 ∧ 0 < l.length) ∧ Ctr Try.prog 27 [.sl none l.length (evsC l) .no] (.bool x) := by
    have H : ∃ x : Bool, (x = true → DocP l l.length ∧ dep l l.length = 0 ∧ 0 < l.length) ∧ PT.holds Try.prog Try.f27.ntmps (EndsA Γ (.pure [] (.bool x)) Try.f27) (.split (decide ((0 : Int) < (↑l.length : Int))) (.ob (Ctr Try.prog 37 [AV.sl none l.length (evsC l) .no] (AV.int .i64 d)) (.ob (decide (d = (0 : Int)) = x) (.tt))) (.ob (false = x) (.tt))) := by
      simp only [PT.holds]
      (repeat' first | exact ⟨_, triv, rfl, trivial⟩ | exact ⟨_, triv, rfl⟩ | refine ex_split (fun _ => ?_) (fun _ => ?_) | refine ex_ob ?_ ?_)
      all_goals first | exact hc | (first | exact ⟨_, (fun h => absurd h (by decide)), rfl, trivial⟩ | exact ⟨_, (fun h => absurd h (by decide)), rfl⟩) | (first | exact ⟨_, (fun h => ⟨(hd (by simpa using h)).1, (hd (by simpa using h)).2, by (first | omega | (simp only [decide_eq_true_eq, decide_eq_false_iff_not, Bool.not_eq_true', Bool.not_eq_false', beq_iff_eq, beq_eq_false_iff_ne, decide_eq_decide, ne_eq, Bool.not_eq_eq_eq_not, Bool.not_true, Bool.not_false] at *; omega))⟩), rfl, trivial⟩ | exact ⟨_, (fun h => ⟨(hd (by simpa using h)).1, (hd (by simpa using h)).2, by (first | omega | (simp only [decide_eq_true_eq, decide_eq_false_iff_not, Bool.not_eq_true', Bool.not_eq_false', beq_iff_eq, beq_eq_false_iff_ne, decide_eq_decide, ne_eq, Bool.not_eq_eq_eq_not, Bool.not_true, Bool.not_false] at *; omega))⟩), rfl⟩)
    obtain ⟨x, hR, hx⟩ := H
    exact ⟨x, hR, Ctr.mk Γ_ok Try.func27 (by kernel_rfl) Try.call27 [] (by kernel_rfl) (HT.walk Γ_ok mo_ok (⟨([(8, .call [] (.int .i64 d))] ++ annL), sp27, [], [], .pure [] (.bool x)⟩ : Wk) 4000 (T := .split (decide ((0 : Int) < (↑l.length : Int))) (.ob (Ctr Try.prog 37 [AV.sl none l.length (evsC l) .no] (AV.int .i64 d)) (.ob (decide (d = (0 : Int)) = x) (.tt))) (.ob (false = x) (.tt))) (by kernel_rfl) hx)⟩
end Go.Proofs.Ytpffjbbolaehpaa
end

section
set_option linter.unusedVariables false
set_option linter.unusedSimpArgs false
set_option maxRecDepth 100000
namespace Go.Proofs.Ytpffjbbolaehpaa
open Go Go.AX Go.RowKit Go.WideShapes Go.ChangeShapes

/-! ### The bulk -/
theorem bulk_part {H : Type} {d : DataW H} {l : List (DataW H)} (h : d ∈ l) : Rows.uptoBulk d ≤ Rows.uptoBulkAll l := by
  induction l with
  | nil => cases h
  | cons x r ih =>
    simp only [Rows.uptoBulkAll]
    cases List.mem_cons.1 h with
    | inl e => subst e; omega
    | inr e => have := ih e; omega
theorem bulk_one {H : Type} (d : DataW H) : 1 ≤ Rows.uptoBulk d := by
  cases d with
  | lit l => cases l <;> simp [Rows.uptoBulk]
  | nil => simp [Rows.uptoBulk]
  | ptr d => simp [Rows.uptoBulk]
  | slice elems spare => simp [Rows.uptoBulk]
  | agg parts => simp [Rows.uptoBulk]
  | iface t d => simp [Rows.uptoBulk]
  | map entries => simp [Rows.uptoBulk]
  | held h => simp [Rows.uptoBulk]
theorem bulk_length {H : Type} (l : List (DataW H)) : l.length ≤ Rows.uptoBulkAll l := by
  induction l with
  | nil => simp [Rows.uptoBulkAll]
  | cons x r ih => have := bulk_one x; simp only [Rows.uptoBulkAll, List.length_cons]; omega
theorem bulk_meas (H : Type) : Meas (Rows.uptoBulk (H := H)) := by
  refine ⟨fun es sp x h => ?_, fun es sp => ?_, fun es x h => ?_, fun b => ?_⟩
  · have := bulk_part h
    simp only [Rows.uptoBulk]; omega
  · have := bulk_length es
    simp only [Rows.uptoBulk]; omega
  · have := bulk_part h
    simp only [Rows.uptoBulk]; omega
  · simp only [Rows.uptoBulk]; omega

/-! ### Names, attributes, events, paths -/
section
variable {H : Type} {enc : TypeId × Value → H} {w : World} {base : Nat} {spare : Nat → Bool} {held : Bool}
theorem open_str {n : Nat} {cs : List Value} {x : DataW H × List MemPlace} (h : DataW.trod enc Try.prog w base spare held n 9 cs = some x) (hx : Rows.uptoBulk x.1 ≤ 1048576) :
    ∃ s : ByteArray, cs = [.string s] ∧ s.size ≤ 1048600 := by
  obtain ⟨s, rfl, rfl, _⟩ := DataW.trod_string Try.underlying9 h
  have := (bulk_meas H).str s.data.toList
  have e : s.data.toList.length = s.size := by simp
  simp only at hx
  exact ⟨s, rfl, by omega⟩
theorem open_nm {n : Nat} {cs : List Value} {x : DataW H × List MemPlace} (h : DataW.trod enc Try.prog w base spare held n 35 cs = some x) (hx : Rows.uptoBulk x.1 ≤ 1048576) :
    ∃ a : Nm, Reps w (heldAt w) (nmC a) cs ∧ a.ok := by
  obtain ⟨xs, m, rfl, rfl, hl, hn, hf⟩ := DataW.trod_struct Try.underlying35 h
  have c35 : Try.prog.cellsOf 35 = 2 := by kernel_rfl
  have c9 : Try.prog.cellsOf 9 = 1 := by kernel_rfl
  rw [c35] at hl
  match cs, hl with
  | [c0, c1], _ =>
  have h0 : DataW.trod enc Try.prog w base spare held m 9 (([c0, c1].drop 0).take (Try.prog.cellsOf 9)) = _ := hf 0 _ rfl
  have h1 : DataW.trod enc Try.prog w base spare held m 9 (([c0, c1].drop 1).take (Try.prog.cellsOf 9)) = _ := hf 1 _ rfl
  simp only [c9] at h0 h1
  match xs, hn with
  | [x0, x1], _ =>
  have b0 := Nat.le_trans ((bulk_meas H).ag [x0.1, x1.1] x0.1 (by simp)) hx
  have b1 := Nat.le_trans ((bulk_meas H).ag [x0.1, x1.1] x1.1 (by simp)) hx
  obtain ⟨s0, e0, k0⟩ := open_str (x := x0) (by simpa using h0) b0
  obtain ⟨s1, e1, k1⟩ := open_str (x := x1) (by simpa using h1) b1
  simp only [List.drop_zero, List.take_succ_cons, List.take_zero, List.drop_succ_cons, List.cons.injEq, and_true] at e0 e1
  subst e0; subst e1
  exact ⟨⟨s0, s1⟩, .append (.one (.str _ _) rfl) (.one (.str _ _) rfl), k0, k1⟩
theorem open_atr {n : Nat} {cs : List Value} {x : DataW H × List MemPlace} (h : DataW.trod enc Try.prog w base spare held n 77 cs = some x) (hx : Rows.uptoBulk x.1 ≤ 1048576) :
    ∃ a : Atr, Reps w (heldAt w) (atC a) cs ∧ a.ok := by
  obtain ⟨xs, m, rfl, rfl, hl, hn, hf⟩ := DataW.trod_struct Try.underlying77 h
  have c77 : Try.prog.cellsOf 77 = 3 := by kernel_rfl
  have c9 : Try.prog.cellsOf 9 = 1 := by kernel_rfl
  have c35 : Try.prog.cellsOf 35 = 2 := by kernel_rfl
  rw [c77] at hl
  match cs, hl with
  | [v0, v1, v2], _ =>
  have h0 : DataW.trod enc Try.prog w base spare held m 35 (([v0, v1, v2].drop 0).take (Try.prog.cellsOf 35)) = _ := hf 0 _ rfl
  have h1 : DataW.trod enc Try.prog w base spare held m 9 (([v0, v1, v2].drop 2).take (Try.prog.cellsOf 9)) = _ := hf 1 _ rfl
  simp only [c9, c35] at h0 h1
  match xs, hn with
  | [x0, x1], _ =>
  have b0 := Nat.le_trans ((bulk_meas H).ag [x0.1, x1.1] x0.1 (by simp)) hx
  have b1 := Nat.le_trans ((bulk_meas H).ag [x0.1, x1.1] x1.1 (by simp)) hx
  obtain ⟨a, r0, k0⟩ := open_nm (x := x0) (by simpa using h0) b0
  obtain ⟨s1, e1, k1⟩ := open_str (x := x1) (by simpa using h1) b1
  simp only [List.drop_zero, List.take_succ_cons, List.take_zero, List.drop_succ_cons, List.cons.injEq, and_true] at e1 r0
  subst e1
  exact ⟨⟨a, s1⟩, Reps.append r0 (.one (.str _ _) rfl), k0, k1⟩
theorem open_atrs {n : Nat} {cs : List Value} {x : DataW H × List MemPlace} (h : DataW.trod enc Try.prog w base spare held n 36 cs = some x) (hx : Rows.uptoBulk x.1 ≤ 1048576) :
    ∃ l : List Atr, Reps w (heldAt w) [.sl none l.length (atsC l) .no] cs ∧ l.length ≤ 1048576 ∧ ∀ a ∈ l, a.ok :=
  open_list atC Atr.ok atC_len (by omega) (by kernel_rfl) Try.underlying36 (bulk_meas H) (fun n' _ cs x hh hb => open_atr hh hb) h hx
theorem open_int64 {n : Nat} {cs : List Value} {x : DataW H × List MemPlace} (h : DataW.trod enc Try.prog w base spare held n 3 cs = some x) : ∃ k : Int, cs = [.int .i64 k] ∧ (Lit.int .i64 k).wf = true := by
  obtain ⟨k, rfl, _, h⟩ := DataW.trod_int Try.underlying3 h
  exact ⟨k, rfl, h⟩
theorem open_ev {n : Nat} {cs : List Value} {x : DataW H × List MemPlace} (h : DataW.trod enc Try.prog w base spare held n 65 cs = some x) (hx : Rows.uptoBulk x.1 ≤ 1048576) :
    ∃ a : Ev, Reps w (heldAt w) (evC a) cs ∧ a.ok := by
  obtain ⟨xs, m, rfl, rfl, hl, hn, hf⟩ := DataW.trod_struct Try.underlying65 h
  have c65 : Try.prog.cellsOf 65 = 5 := by kernel_rfl
  have c9 : Try.prog.cellsOf 9 = 1 := by kernel_rfl
  have c3 : Try.prog.cellsOf 3 = 1 := by kernel_rfl
  have c35 : Try.prog.cellsOf 35 = 2 := by kernel_rfl
  have c36 : Try.prog.cellsOf 36 = 1 := by kernel_rfl
  rw [c65] at hl
  match cs, hl with
  | [v0, v1, v2, v3, v4], _ =>
  have h0 : DataW.trod enc Try.prog w base spare held m 3 (([v0, v1, v2, v3, v4].drop 0).take (Try.prog.cellsOf 3)) = _ := hf 0 _ rfl
  have h1 : DataW.trod enc Try.prog w base spare held m 35 (([v0, v1, v2, v3, v4].drop 1).take (Try.prog.cellsOf 35)) = _ := hf 1 _ rfl
  have h2 : DataW.trod enc Try.prog w base spare held m 36 (([v0, v1, v2, v3, v4].drop 3).take (Try.prog.cellsOf 36)) = _ := hf 2 _ rfl
  have h3 : DataW.trod enc Try.prog w base spare held m 9 (([v0, v1, v2, v3, v4].drop 4).take (Try.prog.cellsOf 9)) = _ := hf 3 _ rfl
  simp only [c9, c35, c3, c36] at h0 h1 h2 h3
  match xs, hn with
  | [x0, x1, x2, x3], _ =>
  have b1 := Nat.le_trans ((bulk_meas H).ag [x0.1, x1.1, x2.1, x3.1] x1.1 (by simp)) hx
  have b2 := Nat.le_trans ((bulk_meas H).ag [x0.1, x1.1, x2.1, x3.1] x2.1 (by simp)) hx
  have b3 := Nat.le_trans ((bulk_meas H).ag [x0.1, x1.1, x2.1, x3.1] x3.1 (by simp)) hx
  obtain ⟨k, e0, _⟩ := open_int64 (x := x0) (by simpa using h0)
  obtain ⟨a, r1, k1⟩ := open_nm (x := x1) (by simpa using h1) b1
  obtain ⟨l, r2, k2, k2'⟩ := open_atrs (x := x2) (by simpa using h2) b2
  obtain ⟨s, e3, k3⟩ := open_str (x := x3) (by simpa using h3) b3
  simp only [List.drop_zero, List.take_succ_cons, List.take_zero, List.drop_succ_cons, List.cons.injEq, and_true] at e0 r1 r2 e3
  subst e0; subst e3
  exact ⟨⟨k, a, l, s⟩, Reps.append (.one (.int _ _ _) rfl) (Reps.append r1 (Reps.append r2 (.one (.str _ _) rfl))), k1, k3, Nat.le_trans k2 (by omega), k2'⟩
theorem open_evs {n : Nat} {cs : List Value} {x : DataW H × List MemPlace} (h : DataW.trod enc Try.prog w base spare held n 26 cs = some x) (hx : Rows.uptoBulk x.1 ≤ 1048576) :
    ∃ l : List Ev, Reps w (heldAt w) [.sl none l.length (evsC l) .no] cs ∧ l.length ≤ 1048576 ∧ okEvs l :=
  open_list evC Ev.ok evC_len (by omega) (by kernel_rfl) Try.underlying26 (bulk_meas H) (fun n' _ cs x hh hb => open_ev hh hb) h hx
theorem oksP_of : ∀ {l : List Pth}, (∀ p ∈ l, p.ok) → oksP l
  | [], _ => trivial
  | p :: r, h => ⟨h p List.mem_cons_self, oksP_of fun q hq => h q (List.mem_cons_of_mem _ hq)⟩
theorem oksF_of : ∀ {l : List Flt}, (∀ p ∈ l, p.ok) → oksF l
  | [], _ => trivial
  | p :: r, h => ⟨h p List.mem_cons_self, oksF_of fun q hq => h q (List.mem_cons_of_mem _ hq)⟩
theorem open_pf : ∀ (n : Nat), (∀ (cs : List Value) (x : DataW H × List MemPlace), DataW.trod enc Try.prog w base spare held n 25 cs = some x → Rows.uptoBulk x.1 ≤ 1048576 → ∃ a : Pth, Reps w (heldAt w) (pthC a) cs ∧ a.ok) ∧
    (∀ (cs : List Value) (x : DataW H × List MemPlace), DataW.trod enc Try.prog w base spare held n 47 cs = some x → Rows.uptoBulk x.1 ≤ 1048576 → ∃ a : Flt, Reps w (heldAt w) (fltC a) cs ∧ a.ok) := by
  intro n
  induction n using Nat.strongRecOn with
  | ind n ih =>
  have hP : ∀ n', n' < n → ∀ {cs : List Value} {x : DataW H × List MemPlace}, DataW.trod enc Try.prog w base spare held n' 22 cs = some x → Rows.uptoBulk x.1 ≤ 1048576 → ∃ l : List Pth, Reps w (heldAt w) [.sl none l.length (pthsC l) .no] cs ∧ l.length ≤ 1048576 ∧ ∀ a ∈ l, a.ok := by
    intro n' hn' cs x h hx
    obtain ⟨l, a, b⟩ := open_list pthC Pth.ok pthC_len (by omega) (by kernel_rfl) Try.underlying22 (bulk_meas H) (fun n'' hn'' cs x hh hb => (ih n'' (by omega)).1 cs x hh hb) h hx
    exact ⟨l, by rw [pthsC_eq]; exact a, b⟩
  have hF : ∀ n', n' < n → ∀ {cs : List Value} {x : DataW H × List MemPlace}, DataW.trod enc Try.prog w base spare held n' 23 cs = some x → Rows.uptoBulk x.1 ≤ 1048576 → ∃ l : List Flt, Reps w (heldAt w) [.sl none l.length (fltsC l) .no] cs ∧ l.length ≤ 1048576 ∧ ∀ a ∈ l, a.ok := by
    intro n' hn' cs x h hx
    obtain ⟨l, a, b⟩ := open_list fltC Flt.ok fltC_len (by omega) (by kernel_rfl) Try.underlying23 (bulk_meas H) (fun n'' hn'' cs x hh hb => (ih n'' (by omega)).2 cs x hh hb) h hx
    exact ⟨l, by rw [fltsC_eq]; exact a, b⟩
  have c9 : Try.prog.cellsOf 9 = 1 := by kernel_rfl
  have c3 : Try.prog.cellsOf 3 = 1 := by kernel_rfl
  have c35 : Try.prog.cellsOf 35 = 2 := by kernel_rfl
  have c22 : Try.prog.cellsOf 22 = 1 := by kernel_rfl
  have c23 : Try.prog.cellsOf 23 = 1 := by kernel_rfl
  refine ⟨fun cs x h hx => ?_, fun cs x h hx => ?_⟩
  · obtain ⟨xs, m, rfl, rfl, hl, hn, hf⟩ := DataW.trod_struct Try.underlying25 h
    have c25 : Try.prog.cellsOf 25 = 3 := by kernel_rfl
    rw [c25] at hl
    match cs, hl with
    | [v0, v1, v2], _ =>
    have h0 : DataW.trod enc Try.prog w base spare held m 3 (([v0, v1, v2].drop 0).take (Try.prog.cellsOf 3)) = _ := hf 0 _ rfl
    have h1 : DataW.trod enc Try.prog w base spare held m 22 (([v0, v1, v2].drop 1).take (Try.prog.cellsOf 22)) = _ := hf 1 _ rfl
    have h2 : DataW.trod enc Try.prog w base spare held m 23 (([v0, v1, v2].drop 2).take (Try.prog.cellsOf 23)) = _ := hf 2 _ rfl
    simp only [c3, c22, c23] at h0 h1 h2
    match xs, hn with
    | [x0, x1, x2], _ =>
    have b1 := Nat.le_trans ((bulk_meas H).ag [x0.1, x1.1, x2.1] x1.1 (by simp)) hx
    have b2 := Nat.le_trans ((bulk_meas H).ag [x0.1, x1.1, x2.1] x2.1 (by simp)) hx
    obtain ⟨k, e0, _⟩ := open_int64 (x := x0) (by simpa using h0)
    obtain ⟨l, r1, k1, k1'⟩ := hP m (by omega) (x := x1) (by simpa using h1) b1
    obtain ⟨l2, r2, k2, k2'⟩ := hF m (by omega) (x := x2) (by simpa using h2) b2
    simp only [List.drop_zero, List.take_succ_cons, List.take_zero, List.drop_succ_cons, List.cons.injEq, and_true] at e0 r1 r2
    subst e0
    exact ⟨.mk k l l2, by rw [pthC]; exact Reps.append (.one (.int _ _ _) rfl) (Reps.append r1 r2), by rw [Pth.ok]; exact ⟨by omega, by omega, oksP_of k1', oksF_of k2'⟩⟩
  · obtain ⟨xs, m, rfl, rfl, hl, hn, hf⟩ := DataW.trod_struct Try.underlying47 h
    have c47 : Try.prog.cellsOf 47 = 6 := by kernel_rfl
    rw [c47] at hl
    match cs, hl with
    | [v0, v1, v2, v3, v4, v5], _ =>
    have h0 : DataW.trod enc Try.prog w base spare held m 3 (([v0, v1, v2, v3, v4, v5].drop 0).take (Try.prog.cellsOf 3)) = _ := hf 0 _ rfl
    have h1 : DataW.trod enc Try.prog w base spare held m 35 (([v0, v1, v2, v3, v4, v5].drop 1).take (Try.prog.cellsOf 35)) = _ := hf 1 _ rfl
    have h2 : DataW.trod enc Try.prog w base spare held m 9 (([v0, v1, v2, v3, v4, v5].drop 3).take (Try.prog.cellsOf 9)) = _ := hf 2 _ rfl
    have h3 : DataW.trod enc Try.prog w base spare held m 23 (([v0, v1, v2, v3, v4, v5].drop 4).take (Try.prog.cellsOf 23)) = _ := hf 3 _ rfl
    have h4 : DataW.trod enc Try.prog w base spare held m 22 (([v0, v1, v2, v3, v4, v5].drop 5).take (Try.prog.cellsOf 22)) = _ := hf 4 _ rfl
    simp only [c3, c22, c23, c9, c35] at h0 h1 h2 h3 h4
    match xs, hn with
    | [x0, x1, x2, x3, x4], _ =>
    have b1 := Nat.le_trans ((bulk_meas H).ag [x0.1, x1.1, x2.1, x3.1, x4.1] x1.1 (by simp)) hx
    have b2 := Nat.le_trans ((bulk_meas H).ag [x0.1, x1.1, x2.1, x3.1, x4.1] x2.1 (by simp)) hx
    have b3 := Nat.le_trans ((bulk_meas H).ag [x0.1, x1.1, x2.1, x3.1, x4.1] x3.1 (by simp)) hx
    have b4 := Nat.le_trans ((bulk_meas H).ag [x0.1, x1.1, x2.1, x3.1, x4.1] x4.1 (by simp)) hx
    obtain ⟨k, e0, _⟩ := open_int64 (x := x0) (by simpa using h0)
    obtain ⟨a, r1, k1⟩ := open_nm (x := x1) (by simpa using h1) b1
    obtain ⟨s, e2, k2⟩ := open_str (x := x2) (by simpa using h2) b2
    obtain ⟨l3, r3, k3, k3'⟩ := hF m (by omega) (x := x3) (by simpa using h3) b3
    obtain ⟨l4, r4, k4, k4'⟩ := hP m (by omega) (x := x4) (by simpa using h4) b4
    simp only [List.drop_zero, List.take_succ_cons, List.take_zero, List.drop_succ_cons, List.cons.injEq, and_true] at e0 r1 e2 r3 r4
    subst e0; subst e2
    exact ⟨.mk k a s l3 l4, by rw [fltC]; exact Reps.append (.one (.int _ _ _) rfl) (Reps.append r1 (Reps.append (.one (.str _ _) rfl) (Reps.append r3 r4))), by rw [Flt.ok]; exact ⟨k1, k2, by omega, by omega, oksF_of k3', oksP_of k4'⟩⟩

/-! ### As arguments -/
theorem open_path {r : Reach} {b0 : Nat} {v : Value} {d : DataW H} {ps : List MemPlace} (hok : Value.okWide Try.prog w r b0 25 v) (h : DataW.Trod enc Try.prog w base spare held 25 v d ps) (hd : Rows.uptoBulk d ≤ 1048576) : ∃ p : Pth, Rep w (envF (heldAt w)) false (.agg (pthL p)) v ∧ p.ok := by
  obtain ⟨cs, rfl, hsz⟩ := okWide_struct Try.underlying25 hok
  obtain ⟨fuel, hf⟩ := h
  obtain ⟨p, hr, hk⟩ := (open_pf fuel).1 _ _ hf hd
  rw [pthC_L] at hr
  exact ⟨p, hr.agg, hk⟩
theorem open_filter {r : Reach} {b0 : Nat} {v : Value} {d : DataW H} {ps : List MemPlace} (hok : Value.okWide Try.prog w r b0 47 v) (h : DataW.Trod enc Try.prog w base spare held 47 v d ps) (hd : Rows.uptoBulk d ≤ 1048576) : ∃ p : Flt, Rep w (envF (heldAt w)) false (.agg (fltL p)) v ∧ p.ok := by
  obtain ⟨cs, rfl, hsz⟩ := okWide_struct Try.underlying47 hok
  obtain ⟨fuel, hf⟩ := h
  obtain ⟨p, hr, hk⟩ := (open_pf fuel).2 _ _ hf hd
  rw [fltC_L] at hr
  exact ⟨p, hr.agg, hk⟩
theorem open_events {r : Reach} {b0 : Nat} {v : Value} {d : DataW H} {ps : List MemPlace} (hok : Value.okWide Try.prog w r b0 26 v) (h : DataW.Trod enc Try.prog w base spare held 26 v d ps) (hd : Rows.uptoBulk d ≤ 1048576) : ∃ l : List Ev, Rep w (envF (heldAt w)) false (.sl none l.length (evsC l) .no) v ∧ l.length ≤ 1048576 ∧ okEvs l := by
  obtain ⟨a, len, cap, rfl⟩ := okWide_slice Try.underlying26 hok
  obtain ⟨fuel, hf⟩ := h
  obtain ⟨l, hr, hk⟩ := open_evs hf hd
  exact ⟨l, (hr.2 0 _ _ rfl rfl).1, hk⟩
/-- An argument read again. -/
theorem back {t : TypeId} {W W' : World} {v : Value} {d : DataW H} {ps : List MemPlace} (sp : Nat → Bool) (hl : laidOutB Try.prog = true) (hr : Try.prog.readableRec t = true) (hrow : t < Try.prog.types.size) (hb : Below W.heap.size W W') (h : DataW.Trod enc Try.prog W 0 (fun _ => true) true t v d ps) (hall : ∀ p ∈ ps, sp p.block = true) (hlt : ∀ x ∈ ps, x.block < W.heap.size) :
    DataW.Trod enc Try.prog W' 0 sp true t v d ps :=
  WideElems.Trod_stays hl hr hrow h (fun x hx => hb.same (hlt x hx)) (fun x hx => hall x hx)
end
end Go.Proofs.Ytpffjbbolaehpaa
end

section
set_option linter.unusedVariables false
set_option linter.unusedSimpArgs false
namespace Go.Proofs.Ytpffjbbolaehpaa
open Go Go.AX

/-! ### tree.Make, as plain data -/
structure Pln where
  par : List Int
  fst : List Int
  nxt : List Int
  siz : List Int
  tr : List Tr
def Pln.push (S : Pln) (t : Tr) (p : Int) : Pln := ⟨S.par ++ [p], S.fst ++ [-1], S.nxt ++ [-1], S.siz ++ [1], S.tr ++ [t]⟩
/-- What is written when a child is done. -/
def Pln.link (S : Pln) (n at_ : Nat) (last : Int) (i : Nat) : Pln :=
  ⟨S.par, if i = 0 then S.fst.set n at_ else S.fst, if i = 0 then S.nxt else S.nxt.set last.toNat at_, S.siz.set n (IntKind.i64.wrap (S.siz.getD n 0 + S.siz.getD at_ 0)), S.tr⟩
mutual
def visitS : Tr → Int → Pln → Pln
  | .mk b tx nm a kids, p, S => match b with
    | true => S.push (.mk b tx nm a kids) p
    | false => kidsS kids S.tr.length 0 (-1) (S.push (.mk b tx nm a kids) p)
def kidsS : List Tr → Nat → Nat → Int → Pln → Pln
  | [], n, i, last, S => S
  | k :: r, n, i, last, S => kidsS r n (i + 1) S.tr.length ((visitS k n S).link n S.tr.length last i)
end
mutual
def cntT : Tr → Nat
  | .mk _ _ _ _ kids => 1 + cntL kids
def cntL : List Tr → Nat
  | [] => 0
  | k :: r => cntT k + cntL r
end
def intsC (l : List Int) : List AV := l.map (.int .i64)
def planC (S : Pln) : List AV := [.sl none S.par.length (intsC S.par) (.own 1000010), .vec 1000011 S.fst.length, .vec 1000012 S.nxt.length, .vec 1000013 S.siz.length, .sl none S.tr.length (trsC S.tr) (.own 1000014)]
def planT (S : Pln) : List (Nat × Tag) := [(1000010, ⟨S.par.length, 3, 1, none⟩), (1000011, ⟨S.fst.length, 3, 1, some (true, intsC S.fst)⟩), (1000012, ⟨S.nxt.length, 3, 1, some (true, intsC S.nxt)⟩), (1000013, ⟨S.siz.length, 3, 1, some (true, intsC S.siz)⟩), (1000014, ⟨S.tr.length, 39, 6, none⟩)]
def visH : List AV := [.fn 40 [.ptr 1000003 0, .ptr 1000004 0]]
def planM (S : Pln) : MemS := ⟨[(1000003, .var true (planC S)), (1000004, .var true visH)], planT S⟩
def pln0 : Pln := ⟨[], [], [], [], []⟩
def planL (S : Pln) : List AV := [.sl none S.par.length (intsC S.par) .no, .sl none S.fst.length (intsC S.fst) .no, .sl none S.nxt.length (intsC S.nxt) .no, .sl none S.siz.length (intsC S.siz) .no, .sl none S.tr.length (trsC S.tr) .no]
end Go.Proofs.Ytpffjbbolaehpaa
end

section
set_option linter.unusedVariables false
set_option linter.unusedSimpArgs false
set_option maxRecDepth 100000
namespace Go.Proofs.Ytpffjbbolaehpaa
open Go Go.AX

def boolsC (l : List Bool) : List AV := l.map .bool
theorem boolsC_len (l : List Bool) : (boolsC l).length = l.length := by simp [boolsC]
theorem boolsC_nth (l : List Bool) (i : Nat) (hi : i < l.length) : (boolsC l)[i]? = some (.bool (l.getD i false)) := by simp [boolsC, hi, List.getD_eq_getElem?_getD]
theorem boolsC_set (l : List Bool) (n : Nat) (a : Bool) : setAt (boolsC l) n (cellsOf (.bool a)) = boolsC (l.set n a) := by simp [setAt, cellsOf, boolsC, List.map_set]
def stEi (n : Nat) (b out : List Bool) (i : Nat) : AS := ⟨[(5, .vec 1000020 out.length), (10, .sl none n (boolsC b) .no), (11, .int .i64 n), (12, .int .i64 i)], [], [(1000020, ⟨out.length, 4, 1, some (true, boolsC out)⟩)]⟩
def orZ (a b : List Bool) : List Bool := List.zipWith (fun x y => x || y) a b
theorem orZ_len (a b : List Bool) (h : a.length = b.length) : (orZ a b).length = b.length := by simp [orZ, h]
theorem orZ_get (a b : List Bool) (i : Nat) (ha : i < a.length) (hb : i < b.length) : (orZ a b).getD i false = (a.getD i false || b.getD i false) := by simp [orZ, List.getD_eq_getElem?_getD, List.getElem?_zipWith, ha, hb]
theorem ext_getD {α : Type} {a b : List α} (d : α) (h : a.length = b.length) (hj : ∀ j, j < b.length → a.getD j d = b.getD j d) : a = b := by
  apply List.ext_getElem h
  intro i h1 h2
  have := hj i h2
  simpa [List.getD_eq_getElem?_getD, h1, h2] using this
theorem getD_set {α : Type} (l : List α) (i j : Nat) (v d : α) (hi : i < l.length) : (l.set i v).getD j d = if j = i then v else l.getD j d := by
  rw [List.getD_eq_getElem?_getD, List.getElem?_set]
  split
  · rename_i e
    subst e
    simp [hi]
  · rename_i e
    rw [if_neg (fun h => e h.symm), List.getD_eq_getElem?_getD]
structure OrI (a b out : List Bool) (i : Nat) : Prop where
  len : out.length = b.length
  get : ∀ j, j < b.length → out.getD j false = if j < i then (a.getD j false || b.getD j false) else a.getD j false

theorem clone0 (b : List Bool) (hb : 0 < b.length ∧ b.length ≤ 1000000) : CtrM Try.prog 54 ⟨[], []⟩ [.sl (some false) b.length (boolsC b) .no] ⟨[], [(1000020, ⟨b.length, 4, 1, some (true, boolsC b)⟩)]⟩ (.vec 1000020 b.length) :=
  CtrM.mk Γ_ok Try.func54 (by kernel_rfl) Try.call54 [] (by kernel_rfl) (by kernel_rfl) (by kernel_rfl) (HT.walk Γ_ok mo_ok (⟨([(7, .id 1000020)] ++ []), [], [], [], .mem [] ⟨[], [(1000020, ⟨b.length, 4, 1, some (true, boolsC b)⟩)]⟩ (.vec 1000020 b.length)⟩ : Wk) 4000 (T := .ob ((0 : Nat) < b.length ∧ (boolsC b).length = b.length * ((0 : Nat) + (1 : Nat)) ∧ b.length * ((0 : Nat) + (1 : Nat)) ≤ (140737488355328 : Nat)) (.ob (b.length = b.length) (.ob (b.length = b.length) (.ob (boolsC b = boolsC b) (.tt))))) (by kernel_rfl) (by
    simp only [PT.holds, boolsC_len, and_true]
    omega))
theorem clone_ctr (b : List Bool) (hb : 0 < b.length ∧ b.length ≤ 1000000) : CtrM Try.prog 54 ⟨[], []⟩ [.sl none b.length (boolsC b) .no] ⟨[], [(1000020, ⟨b.length, 4, 1, some (true, boolsC b)⟩)]⟩ (.vec 1000020 b.length) := CtrM.nn hb.1 (clone0 b hb)

theorem either_h (a b out : List Bool) (i : Nat) (R : List Bool) (hN : b.length ≤ 1000000) (hi : i < b.length) (ho : OrI a b out i) (k : ∀ out', OrI a b out' (i + 1) → HT Try.prog Try.f42.ntmps (pt Try.f42 0) (stEi b.length b out' (i + 1)) (EndsA Γ (.pure [6000020] (.sl none R.length (boolsC R) .no)) Try.f42)) : HT Try.prog Try.f42.ntmps (pt Try.f42 0) (stEi b.length b out i) (EndsA Γ (.pure [6000020] (.sl none R.length (boolsC R) .no)) Try.f42) :=
  HT.walk Γ_ok mo_ok (⟨([(16, .val (.bool (b.getD i false))), (22, .val (.bool (out.getD i false)))] ++ []), sp42, hd42 [] [] [] [1000020], [], .pure [6000020] (.sl none R.length (boolsC R) .no)⟩ : Wk) 4000 (T := .split (decide ((↑i : Int) < (↑b.length : Int))) (.ob ((0 : Int) ≤ (↑i : Int) ∧ (↑i : Int) < (↑b.length : Int) ∧ (↑i : Int).toNat * (1 : Nat) < (boolsC b).length) (.ob ((boolsC b)[(↑i : Int).toNat * (1 : Nat)]? = some (AV.bool (b.getD i false))) (.ob ((0 : Int) ≤ (↑i : Int) ∧ (↑i : Int) < (↑out.length : Int) ∧ out.length = out.length) (.ob (out.length = out.length) (.ob ((boolsC out)[(↑i : Int).toNat * (1 : Nat)]? = some (AV.bool (out.getD i false))) (.split (out.getD i false) (.ob ((0 : Int) ≤ (↑i : Int) ∧ (↑i : Int) < (↑out.length : Int) ∧ out.length = out.length) (.ob (out.length = out.length ∧ (↑i : Int).toNat * (1 : Nat) + (1 : Nat) ≤ (boolsC out).length) (.head (pt Try.f42 0) ({ tmps := [(5, AV.vec (1000020 : Nat) out.length), (10, AV.sl none b.length (boolsC b) .no), (11, AV.int .i64 (↑b.length : Int)), (12, AV.int .i64 (IntKind.i64.wrap ((↑i : Int) + (1 : Int))))], heap := [], tags := [(1000020, { n := out.length, e := (4 : Nat), sz := (1 : Nat), cs := some (true, setAt (boolsC out) ((↑i : Int).toNat * (1 : Nat)) (cellsOf (AV.bool true))) })] })))) (.ob ((0 : Int) ≤ (↑i : Int) ∧ (↑i : Int) < (↑out.length : Int) ∧ out.length = out.length) (.ob (out.length = out.length ∧ (↑i : Int).toNat * (1 : Nat) + (1 : Nat) ≤ (boolsC out).length) (.head (pt Try.f42 0) ({ tmps := [(5, AV.vec (1000020 : Nat) out.length), (10, AV.sl none b.length (boolsC b) .no), (11, AV.int .i64 (↑b.length : Int)), (12, AV.int .i64 (IntKind.i64.wrap ((↑i : Int) + (1 : Int))))], heap := [], tags := [(1000020, { n := out.length, e := (4 : Nat), sz := (1 : Nat), cs := some (true, setAt (boolsC out) ((↑i : Int).toNat * (1 : Nat)) (cellsOf (AV.bool (b.getD i false)))) })] })))))))))) (.ob (out.length = out.length) (.ob (out.length = R.length) (.ob (boolsC out = boolsC R) (.tt))))) (by kernel_rfl) (by
    have w2 : IntKind.i64.wrap ((i : Int) + 1) = ((i + 1 : Nat) : Int) := by rw [i64_wrap (by omega) (by omega)]; rfl
    have hl := ho.len
    have hio : i < out.length := by omega
    have hoi := ho.get i hi
    rw [if_neg (Nat.lt_irrefl i)] at hoi
    have h0 : decide ((i : Int) < b.length) = true := by simp; omega
    simp only [PT.holds, w2, h0, Int.toNat_natCast, Nat.mul_one, boolsC_len, boolsC_nth b i hi, boolsC_nth out i hio, true_implies, Bool.true_eq_false, false_implies, true_and, and_true]
    have step : ∀ v, v = (a.getD i false || b.getD i false) → OrI a b (out.set i v) (i + 1) := fun v hv => ⟨by simp [hl], fun j hj => by
      rw [getD_set _ _ _ _ _ hio]
      split
      · rename_i e; subst e; rw [if_pos (Nat.lt_succ_self _), hv]
      · rename_i e; rw [ho.get j hj]; congr 1; simp; omega⟩
    refine ⟨by omega, by omega, fun h1 => ⟨by omega, by omega, ?_⟩, fun h1 => ⟨by omega, by omega, ?_⟩⟩
    · refine head_eq (k _ (step true (by rw [← hoi, h1]; rfl))) ?_
      simp only [stEi, boolsC_set, List.length_set]
    · refine head_eq (k _ (step (b.getD i false) (by rw [← hoi, h1]; rfl))) ?_
      simp only [stEi, boolsC_set, List.length_set])
theorem either_e (b out : List Bool) : HT Try.prog Try.f42.ntmps (pt Try.f42 0) (stEi b.length b out b.length) (EndsA Γ (.pure [6000020] (.sl none out.length (boolsC out) .no)) Try.f42) :=
  HT.walk Γ_ok mo_ok (⟨([(16, .val (.bool (b.getD 0 false))), (22, .val (.bool (out.getD 0 false)))] ++ []), sp42, hd42 [] [] [] [1000020], [], .pure [6000020] (.sl none out.length (boolsC out) .no)⟩ : Wk) 4000 (T := .split (decide ((↑b.length : Int) < (↑b.length : Int))) (.ob ((0 : Int) ≤ (↑b.length : Int) ∧ (↑b.length : Int) < (↑b.length : Int) ∧ (↑b.length : Int).toNat * (1 : Nat) < (boolsC b).length) (.ob ((boolsC b)[(↑b.length : Int).toNat * (1 : Nat)]? = some (AV.bool (b.getD (0 : Nat) false))) (.ob ((0 : Int) ≤ (↑b.length : Int) ∧ (↑b.length : Int) < (↑out.length : Int) ∧ out.length = out.length) (.ob (out.length = out.length) (.ob ((boolsC out)[(↑b.length : Int).toNat * (1 : Nat)]? = some (AV.bool (out.getD (0 : Nat) false))) (.split (out.getD (0 : Nat) false) (.ob ((0 : Int) ≤ (↑b.length : Int) ∧ (↑b.length : Int) < (↑out.length : Int) ∧ out.length = out.length) (.ob (out.length = out.length ∧ (↑b.length : Int).toNat * (1 : Nat) + (1 : Nat) ≤ (boolsC out).length) (.head (pt Try.f42 0) ({ tmps := [(5, AV.vec (1000020 : Nat) out.length), (10, AV.sl none b.length (boolsC b) .no), (11, AV.int .i64 (↑b.length : Int)), (12, AV.int .i64 (IntKind.i64.wrap ((↑b.length : Int) + (1 : Int))))], heap := [], tags := [(1000020, { n := out.length, e := (4 : Nat), sz := (1 : Nat), cs := some (true, setAt (boolsC out) ((↑b.length : Int).toNat * (1 : Nat)) (cellsOf (AV.bool true))) })] })))) (.ob ((0 : Int) ≤ (↑b.length : Int) ∧ (↑b.length : Int) < (↑out.length : Int) ∧ out.length = out.length) (.ob (out.length = out.length ∧ (↑b.length : Int).toNat * (1 : Nat) + (1 : Nat) ≤ (boolsC out).length) (.head (pt Try.f42 0) ({ tmps := [(5, AV.vec (1000020 : Nat) out.length), (10, AV.sl none b.length (boolsC b) .no), (11, AV.int .i64 (↑b.length : Int)), (12, AV.int .i64 (IntKind.i64.wrap ((↑b.length : Int) + (1 : Int))))], heap := [], tags := [(1000020, { n := out.length, e := (4 : Nat), sz := (1 : Nat), cs := some (true, setAt (boolsC out) ((↑b.length : Int).toNat * (1 : Nat)) (cellsOf (AV.bool (b.getD (0 : Nat) false)))) })] })))))))))) (.ob (out.length = out.length) (.ob (out.length = out.length) (.ob (boolsC out = boolsC out) (.tt))))) (by kernel_rfl) (by
    have h0 : decide ((b.length : Int) < b.length) = false := by simp
    simp only [PT.holds, h0, true_implies, Bool.false_eq_true, false_implies, true_and, and_true])
theorem either_l (a b : List Bool) (hab : a.length = b.length) (hN : b.length ≤ 1000000) : ∀ d i out, i + d = b.length → OrI a b out i → HT Try.prog Try.f42.ntmps (pt Try.f42 0) (stEi b.length b out i) (EndsA Γ (.pure [6000020] (.sl none (orZ a b).length (boolsC (orZ a b)) .no)) Try.f42) := by
  intro d
  induction d with
  | zero =>
    intro i out h ho
    have hi : i = b.length := by omega
    subst hi
    have e : out = orZ a b := ext_getD false (by rw [ho.len, orZ_len a b hab]) fun j hj => by
      rw [orZ_len a b hab] at hj
      rw [ho.get j hj, if_pos hj, orZ_get a b j (by omega) hj]
    rw [← e]
    exact either_e b out
  | succ d ih => exact fun i out h ho => either_h a b out i _ hN (by omega) ho (fun out' ho' => ih (i + 1) out' (by omega) ho')

theorem either_ctr (a b : List Bool) (hab : a.length = b.length) (hN : 0 < b.length ∧ b.length ≤ 1000000) : Ctr Try.prog 42 [.sl none a.length (boolsC a) .no, .sl none b.length (boolsC b) .no] (.sl none (orZ a b).length (boolsC (orZ a b)) .no) :=
  Ctr.mk Γ_ok Try.func42 (by kernel_rfl) Try.call42 [6000020] (by kernel_rfl) (HT.walk Γ_ok mo_ok (⟨([(9, .callM [] [] [] [] [] [(1000020, ⟨a.length, 4, 1, some (true, boolsC a)⟩)] (.vec 1000020 a.length))] ++ []), sp42, hd42 [] [] [] [1000020], [], .pure [6000020] (.sl none (orZ a b).length (boolsC (orZ a b)) .no)⟩ : Wk) 4000 (T := .ob (CtrM Try.prog (54 : Nat) { heap := [], tags := [] } [AV.sl none a.length (boolsC a) .no] { heap := [], tags := [(1000020, { n := a.length, e := (4 : Nat), sz := (1 : Nat), cs := some (true, boolsC a) })] } (AV.vec (1000020 : Nat) a.length)) (.head (pt Try.f42 0) ({ tmps := [(5, AV.vec (1000020 : Nat) a.length), (10, AV.sl none b.length (boolsC b) .no), (11, AV.int .i64 (↑b.length : Int)), (12, AV.int .i64 (0 : Int))], heap := [], tags := [(1000020, { n := a.length, e := (4 : Nat), sz := (1 : Nat), cs := some (true, boolsC a) })] }))) (by kernel_rfl) (by
    simp only [PT.holds]
    exact ⟨clone_ctr a (by omega), either_l a b hab hN.2 b.length 0 a (Nat.zero_add _) ⟨hab, fun j hj => by rw [if_neg (Nat.not_lt_zero j)]⟩⟩))
end Go.Proofs.Ytpffjbbolaehpaa
end
