/- What a list of attributes is told, in plain Lean (the document's layer 8), and what a store is told, one behind the other. No program. -/
import Derived.Test.YtlclgpiabjlpbaaEv
import Derived.Test.YtlclgpiabjlpbaaAm24
namespace Go.Proofs.Ytlclgpiabjlpbaa.Am
open Go.RowKit
set_option linter.unusedVariables false
set_option linter.unusedSimpArgs false

structure Att where
  c : Cel
  v : Val
  version : Int
def Att.av (a : Att) : List AV := [.i .i64 a.c.scope, .s a.c.owner, .s a.c.name, .i .i64 a.v.kind, .i .i64 a.v.int, .s a.v.text, .b a.v.bool, .f a.v.rate, .i .i64 a.version]
def Att.fit (a : Att) : Prop := a.c.fit ∧ a.v.fit ∧ inI a.v.int ∧ inI a.version
theorem atts_clean (l : List Att) : cleanLL (l.map Att.av) = true := cleanLL_map fun x _ => rfl
theorem atts_bb (n : Nat) (l : List Att) : bbLL n (l.map Att.av) = true := bbLL_map fun x _ => rfl
def idxA (l : List Att) (c : Cel) : Option Nat := l.findIdx? fun a => decide (a.c = c)
def idxI (l : List Att) (c : Cel) : Int := match idxA l c with
  | some i => (i : Int)
  | none => -1
theorem idxI_some {l : List Att} {c : Cel} {i : Nat} {a : Att} (h : l[i]? = some a) (hc : a.c = c) (hb : ∀ j b, j < i → l[j]? = some b → b.c ≠ c) : idxI l c = (i : Int) := by
  have : idxA l c = some i := by
    unfold idxA
    rw [List.findIdx?_eq_some_iff_getElem]
    obtain ⟨h1, h2⟩ := List.getElem?_eq_some_iff.1 h
    refine ⟨h1, by rw [h2]; simpa using hc, fun j hj => ?_⟩
    have := hb j _ hj (List.getElem?_eq_getElem (by omega))
    simpa using this
  unfold idxI; rw [this]
theorem idxI_none {l : List Att} {c : Cel} {k : Nat} (hk : l.length ≤ k) (hb : ∀ j b, j < k → l[j]? = some b → b.c ≠ c) : idxI l c = -1 := by
  have : idxA l c = none := by
    unfold idxA
    rw [List.findIdx?_eq_none_iff]
    intro x hx
    obtain ⟨j, hj⟩ := List.getElem?_of_mem hx
    have := hb j x (by have := (List.getElem?_eq_some_iff.1 hj).1; omega) hj
    simpa using this
  unfold idxI; rw [this]
theorem idx_step {l : List Att} {c : Cel} {k : Nat} {a : Att} (h : l[k]? = some a) (hne : a.c ≠ c) (hb : ∀ j b, j < k → l[j]? = some b → b.c ≠ c) : ∀ j b, j < k + 1 → l[j]? = some b → b.c ≠ c := by
  intro j b hj hjb
  rcases Nat.lt_succ_iff_lt_or_eq.1 hj with h' | rfl
  · exact hb j b h' hjb
  · rw [h] at hjb; cases hjb; exact hne
theorem idxI_lt {l : List Att} {c : Cel} (h : ¬ idxI l c < 0) : ∃ i a, l[i]? = some a ∧ idxA l c = some i ∧ idxI l c = (i : Int) ∧ a.c = c := by
  unfold idxI at h ⊢
  cases hi : idxA l c with
  | none => rw [hi] at h; exact absurd (show (-1 : Int) < 0 by decide) h
  | some i =>
    unfold idxA at hi
    rw [List.findIdx?_eq_some_iff_getElem] at hi
    obtain ⟨h1, h2, _⟩ := hi
    exact ⟨i, l[i], List.getElem?_eq_getElem h1, rfl, rfl, by simpa using h2⟩
theorem idxA_none {l : List Att} {c : Cel} (h : idxI l c < 0) : idxA l c = none := by
  unfold idxI at h
  cases hi : idxA l c with
  | none => rfl
  | some i => rw [hi] at h; simp at h; omega
/-- One more, in its place. -/
def putL : List Att → Att → List Att
  | [], a => [a]
  | x :: r, a => if celLt a.c x.c = true then a :: x :: r else x :: putL r a
def doneK (l : List Att) (a : Att) (k : Nat) : Bool := (l.take k).any fun x => celLt a.c x.c
def outK (l : List Att) (a : Att) (k : Nat) : List Att := if doneK l a k = true then putL (l.take k) a else l.take k
theorem putL_len : ∀ (l : List Att) (a : Att), (putL l a).length = l.length + 1
  | [], _ => rfl
  | x :: r, a => by unfold putL; split <;> simp [putL_len r a]
theorem putL_no : ∀ {l : List Att} {a : Att}, (l.any fun x => celLt a.c x.c) = false → putL l a = l ++ [a]
  | [], _, _ => rfl
  | x :: r, a, h => by
    simp only [List.any_cons, Bool.or_eq_false_iff] at h
    unfold putL
    rw [if_neg (by rw [h.1]; simp), putL_no h.2]; rfl
theorem putL_at : ∀ {l : List Att} {a x : Att}, (l.any fun x => celLt a.c x.c) = false → celLt a.c x.c = true → putL (l ++ [x]) a = l ++ [a] ++ [x]
  | [], a, x, _, h => by simp [putL, h]
  | y :: r, a, x, h, hx => by
    simp only [List.any_cons, Bool.or_eq_false_iff] at h
    simp only [List.cons_append, putL]
    rw [if_neg (by rw [h.1]; simp), putL_at h.2 hx]
theorem putL_yes : ∀ {l : List Att} {a x : Att}, (l.any fun x => celLt a.c x.c) = true → putL (l ++ [x]) a = putL l a ++ [x]
  | [], a, x, h => by simp at h
  | y :: r, a, x, h => by
    simp only [List.any_cons, Bool.or_eq_true] at h
    simp only [List.cons_append, putL]
    by_cases hy : celLt a.c y.c = true
    · rw [if_pos hy, if_pos hy]; rfl
    · rw [if_neg hy, if_neg hy, putL_yes (h.resolve_left hy)]; rfl
theorem take_more {α : Type} {l : List α} {k : Nat} {x : α} (h : l[k]? = some x) : l.take (k + 1) = l.take k ++ [x] := by
  rw [List.take_add_one, h]; rfl
theorem doneK_more {l : List Att} {a x : Att} {k : Nat} (h : l[k]? = some x) : doneK l a (k + 1) = (doneK l a k || celLt a.c x.c) := by
  unfold doneK; rw [take_more h, List.any_append]; simp
theorem outK_ins {l : List Att} {a x : Att} {k : Nat} (h : l[k]? = some x) (hd : doneK l a k = false) (hx : celLt a.c x.c = true) : outK l a (k + 1) = outK l a k ++ [a] ++ [x] := by
  have e : doneK l a (k + 1) = true := by rw [doneK_more h, hd, hx]; rfl
  unfold outK
  rw [if_pos e, if_neg (by rw [hd]; simp), take_more h]
  exact putL_at hd hx
theorem outK_more {l : List Att} {a x : Att} {k : Nat} (h : l[k]? = some x) (hq : doneK l a k = true ∨ celLt a.c x.c = false) : outK l a (k + 1) = outK l a k ++ [x] := by
  cases hd : doneK l a k with
  | true =>
    have e : doneK l a (k + 1) = true := by rw [doneK_more h, hd]; rfl
    unfold outK
    rw [if_pos e, if_pos hd, take_more h]
    exact putL_yes hd
  | false =>
    have hx := hq.resolve_left (by rw [hd]; simp)
    have e : doneK l a (k + 1) = false := by rw [doneK_more h, hd, hx]; rfl
    unfold outK
    rw [if_neg (by rw [e]; simp), if_neg (by rw [hd]; simp), take_more h]
theorem outK_len {l : List Att} {a : Att} {k : Nat} : (outK l a k).length ≤ k + 1 := by
  unfold outK
  split
  · rw [putL_len, List.length_take]; omega
  · rw [List.length_take]; omega
theorem outK_end {l : List Att} {a : Att} {k : Nat} (hk : l.length ≤ k) : (doneK l a k = true → outK l a k = putL l a) ∧ (doneK l a k = false → outK l a k ++ [a] = putL l a) := by
  have ht : l.take k = l := List.take_of_length_le hk
  unfold outK
  refine ⟨fun h => by rw [if_pos h, ht], fun h => ?_⟩
  rw [if_neg (by rw [h]; simp), ht]
  unfold doneK at h
  rw [ht] at h
  exact (putL_no h).symm
def bump (n : Int) : Int := if n < 9223372036854775807 then n + 1 else n
/-- The list behind it; has it changed; the error. -/
def refSetP (l : List Att) (c : Cel) (v : Val) : List Att × Bool × Int :=
  if celOk c = false then (l, false, 80) else if valRight v = false then (l, false, 81) else match idxA l c with
  | none => if 64 ≤ l.length then (l, false, 82) else (putL l ⟨c, v, 0⟩, true, 0)
  | some i => match l[i]? with
    | some a => if valSame a.v v = true then (l, false, 0) else (l.set i ⟨a.c, v, bump a.version⟩, true, 0)
    | none => (l, false, 0)
theorem refSet_cell {l : List Att} {c : Cel} {v : Val} (h1 : celOk c = false) : refSetP l c v = (l, false, 80) := by unfold refSetP; exact if_pos h1
theorem refSet_val {l : List Att} {c : Cel} {v : Val} (h1 : celOk c = true) (h2 : valRight v = false) : refSetP l c v = (l, false, 81) := by unfold refSetP; rw [if_neg (by rw [h1]; simp)]; exact if_pos h2
theorem refSet_mid {l : List Att} {c : Cel} {v : Val} (h1 : celOk c = true) (h2 : valRight v = true) : refSetP l c v = match idxA l c with
  | none => if 64 ≤ l.length then (l, false, 82) else (putL l ⟨c, v, 0⟩, true, 0)
  | some i => match l[i]? with
    | some a => if valSame a.v v = true then (l, false, 0) else (l.set i ⟨a.c, v, bump a.version⟩, true, 0)
    | none => (l, false, 0) := by unfold refSetP; rw [if_neg (by rw [h1]; simp), if_neg (by rw [h2]; simp)]
theorem refSet_full {l : List Att} {c : Cel} {v : Val} (h1 : celOk c = true) (h2 : valRight v = true) (hx : idxA l c = none) (h3 : 64 ≤ l.length) : refSetP l c v = (l, false, 82) := by rw [refSet_mid h1 h2, hx]; exact if_pos h3
theorem refSet_new {l : List Att} {c : Cel} {v : Val} (h1 : celOk c = true) (h2 : valRight v = true) (hx : idxA l c = none) (h3 : ¬ 64 ≤ l.length) : refSetP l c v = (putL l ⟨c, v, 0⟩, true, 0) := by rw [refSet_mid h1 h2, hx]; exact if_neg h3
theorem refSet_same {l : List Att} {c : Cel} {v : Val} {i : Nat} {a : Att} (h1 : celOk c = true) (h2 : valRight v = true) (hx : idxA l c = some i) (ha : l[i]? = some a) (h3 : valSame a.v v = true) : refSetP l c v = (l, false, 0) := by
  rw [refSet_mid h1 h2, hx]; simp only [ha]; exact if_pos h3
theorem refSet_chg {l : List Att} {c : Cel} {v : Val} {i : Nat} {a : Att} {w : Int} (h1 : celOk c = true) (h2 : valRight v = true) (hx : idxA l c = some i) (ha : l[i]? = some a) (h3 : valSame a.v v = false) (hw : bump a.version = w) : refSetP l c v = (l.set i ⟨a.c, v, w⟩, true, 0) := by
  rw [refSet_mid h1 h2, hx]; simp only [ha]; rw [if_neg (by rw [h3]; simp), hw]
def AttsOk (l : List Att) : Prop := l.length ≤ 64 ∧ ∀ a ∈ l, a.fit
theorem putL_mem : ∀ {l : List Att} {a x : Att}, x ∈ putL l a → x = a ∨ x ∈ l
  | [], a, x, h => by simp [putL] at h; exact .inl h
  | y :: r, a, x, h => by
    unfold putL at h
    split at h
    · rcases List.mem_cons.1 h with h | h
      · exact .inl h
      · exact .inr h
    · rcases List.mem_cons.1 h with h | h
      · exact .inr (by simp [h])
      · rcases putL_mem h with h | h
        · exact .inl h
        · exact .inr (by simp [h])
theorem refSet_ok {l : List Att} (hl : AttsOk l) {c : Cel} {v : Val} (hc : c.fit) (hv : v.fit) (hi : inI v.int) : AttsOk (refSetP l c v).1 := by
  unfold refSetP
  by_cases h1 : celOk c = false
  · rw [if_pos h1]; exact hl
  rw [if_neg h1]
  by_cases h2 : valRight v = false
  · rw [if_pos h2]; exact hl
  rw [if_neg h2]
  cases hx : idxA l c with
  | none =>
    simp only
    by_cases h3 : 64 ≤ l.length
    · rw [if_pos h3]; exact hl
    · rw [if_neg h3]
      refine ⟨by simp only [putL_len]; omega, fun a ha => ?_⟩
      rcases putL_mem ha with rfl | ha
      · exact ⟨hc, hv, hi, show inI 0 by decide⟩
      · exact hl.2 a ha
  | some i =>
    simp only
    cases hx : l[i]? with
    | none => exact hl
    | some a =>
      simp only
      by_cases h3 : valSame a.v v = true
      · rw [if_pos h3]; exact hl
      · rw [if_neg h3]
        refine ⟨by simpa using hl.1, fun b hb => ?_⟩
        rcases List.mem_or_eq_of_mem_set hb with hb | rfl
        · exact hl.2 b hb
        · have := hl.2 a (List.mem_of_getElem? hx)
          refine ⟨this.1, hv, hi, ?_⟩
          have h4 := this.2.2.2
          simp only [bump]
          unfold inI at *
          split <;> omega
/-- Told all these, one behind the other. -/
def stoK (l : List Att) : Nat → Sto
  | 0 => []
  | k + 1 => match l[k]? with
    | some a => (setP (stoK l k) a.c a.v).1
    | none => stoK l k
def attK (l : List Att) : Nat → List Att
  | 0 => []
  | k + 1 => match l[k]? with
    | some a => (refSetP (attK l k) a.c a.v).1
    | none => attK l k
theorem stoK_at {l : List Att} {k : Nat} {a : Att} (h : l[k]? = some a) : stoK l (k + 1) = (setP (stoK l k) a.c a.v).1 := by simp only [stoK, h]
theorem attK_at {l : List Att} {k : Nat} {a : Att} (h : l[k]? = some a) : attK l (k + 1) = (refSetP (attK l k) a.c a.v).1 := by simp only [attK, h]
theorem stoK_ok {l : List Att} (hl : ∀ a ∈ l, a.fit) : ∀ k, StoOk (stoK l k)
  | 0 => sto_empty
  | k + 1 => by
    cases h : l[k]? with
    | none => simp only [stoK, h]; exact stoK_ok hl k
    | some a =>
      have := hl a (List.mem_of_getElem? h)
      rw [stoK_at h]; exact set_ok (stoK_ok hl k) this.2.1 this.2.2.1
theorem attK_ok {l : List Att} (hl : ∀ a ∈ l, a.fit) : ∀ k, AttsOk (attK l k)
  | 0 => ⟨by simp [attK], by simp [attK]⟩
  | k + 1 => by
    cases h : l[k]? with
    | none => simp only [attK, h]; exact attK_ok hl k
    | some a =>
      have := hl a (List.mem_of_getElem? h)
      rw [attK_at h]; exact refSet_ok (attK_ok hl k) this.1 this.2.1 this.2.2.1
/-- A row of attributes: what stands at a place. -/
theorem att_row {l : List Att} {i : Nat} {a : Att} (h : l[i]? = some a) (zs : List AV) : ∃ r, ((l.map Att.av).flatten ++ zs).drop (i * 9) = a.av ++ r :=
  drop_row (fun x hx => by obtain ⟨b, _, rfl⟩ := List.mem_map.1 hx; rfl) (by simp [h])
theorem att_put {l : List Att} {i off : Nat} {a b : Att} {cs : List AV} (h : l[i]? = some a) (zs : List AV) (hle : off + cs.length ≤ 9) (hb : aput a.av off cs = b.av) : aput ((l.map Att.av).flatten ++ zs) (i * 9 + off) cs = ((l.set i b).map Att.av).flatten ++ zs := by
  rw [aput_row (α := AV) (sz := 9) (fun x hx => by obtain ⟨b, _, rfl⟩ := List.mem_map.1 hx; rfl) (show (l.map Att.av)[i]? = some a.av by simp [h]) hle, hb, List.map_set]
theorem att_len {l : List Att} {i : Nat} (h : i < l.length) (zs : List AV) : i * 9 + 9 ≤ ((l.map Att.av).flatten ++ zs).length := by
  rw [List.length_append, flatten_len (sz := 9) (fun x hx => by obtain ⟨b, _, rfl⟩ := List.mem_map.1 hx; rfl), List.length_map]
  have : (i + 1) * 9 ≤ l.length * 9 := Nat.mul_le_mul_right _ h
  omega
end Go.Proofs.Ytlclgpiabjlpbaa.Am
