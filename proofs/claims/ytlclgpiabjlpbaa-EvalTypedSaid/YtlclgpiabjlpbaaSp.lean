/- What the program's values are, in plain Lean: names, cells, values, nodes; and what the small functions compute. No program. -/
import Derived.Test.YtlclgpiabjlpbaaAm14
import Derived.Test.YtlclgpiabjlpbaaFm
import Derived.IntWalk
namespace Go.Proofs.Ytlclgpiabjlpbaa.Am
open Go.RowKit
set_option linter.unusedVariables false

structure Ref where
  scope : Int
  name : ByteArray
  deriving DecidableEq
structure Cel where
  scope : Int
  owner : ByteArray
  name : ByteArray
  deriving DecidableEq
structure Val where
  kind : Int
  int : Int
  text : ByteArray
  bool : Bool
  rate : Nat
structure Nod where
  op : Int
  value : Val
  ref : Ref
  a : Int
  b : Int
def Ref.av (r : Ref) : List AV := [.i .i64 r.scope, .s r.name]
def Cel.av (c : Cel) : List AV := [.i .i64 c.scope, .s c.owner, .s c.name]
def Val.av (v : Val) : List AV := [.i .i64 v.kind, .i .i64 v.int, .s v.text, .b v.bool, .f v.rate]
def Nod.av (n : Nod) : List AV := [.i .i64 n.op, .i .i64 n.value.kind, .i .i64 n.value.int, .s n.value.text, .b n.value.bool, .f n.value.rate, .i .i64 n.ref.scope, .s n.ref.name, .i .i64 n.a, .i .i64 n.b]

/-! ### Bytes -/
abbrev noB : ByteArray := ⟨#[]⟩
theorem ba_get (s : ByteArray) (i : Nat) : s[i]? = s.data.toList[i]? := by
  obtain ⟨⟨l⟩⟩ := s
  by_cases h : i < l.length
  · rw [List.getElem?_eq_getElem h]
    exact getElem?_pos (⟨⟨l⟩⟩ : ByteArray) i h
  · rw [List.getElem?_eq_none (Nat.le_of_not_lt h)]
    exact getElem?_neg (⟨⟨l⟩⟩ : ByteArray) i h
theorem ba_some {s : ByteArray} {i : Nat} (h : i < s.size) : ∃ c, s[i]? = some c := ⟨_, getElem?_pos s i h⟩
theorem ba_lt {s : ByteArray} {i : Nat} {c : UInt8} (h : s[i]? = some c) : i < s.size := by
  rcases Nat.lt_or_ge i s.size with h' | h'
  · exact h'
  · rw [getElem?_neg s i (by omega)] at h; cases h
theorem ba_empty {s : ByteArray} : s = noB ↔ s.size = 0 := by
  obtain ⟨⟨l⟩⟩ := s
  constructor
  · intro h; cases h; rfl
  · intro h
    have : l.length = 0 := h
    rw [List.length_eq_zero_iff] at this
    subst this; rfl
def ballL (p : UInt8 → Bool) (s : ByteArray) : Bool := s.data.toList.all p
theorem ball_of {p : UInt8 → Bool} {s : ByteArray} {k : Nat} (hk : s.size ≤ k) (h : ∀ i c, i < k → s[i]? = some c → p c = true) : ballL p s = true := by
  unfold ballL
  rw [List.all_eq_true]
  intro c hc
  obtain ⟨i, hi⟩ := List.getElem?_of_mem hc
  rw [← ba_get] at hi
  exact h i c (by have := ba_lt hi; omega) hi
theorem ball_not {p : UInt8 → Bool} {s : ByteArray} {k : Nat} {c : UInt8} (h : s[k]? = some c) (hp : p c = false) : ballL p s = false := by
  unfold ballL
  rw [ba_get] at h
  rw [← Bool.not_eq_true, List.all_eq_true]
  intro q
  have := q c (List.mem_of_getElem? h)
  rw [hp] at this; cases this
theorem ball_step {p : UInt8 → Bool} {s : ByteArray} {k : Nat} {c : UInt8} (h : s[k]? = some c) (hp : p c = true) (ha : ∀ i c, i < k → s[i]? = some c → p c = true) : ∀ i c, i < k + 1 → s[i]? = some c → p c = true := by
  intro i c' hi hc
  rcases Nat.lt_succ_iff_lt_or_eq.1 hi with h' | rfl
  · exact ha i c' h' hc
  · rw [h] at hc; cases hc; exact hp
abbrev maxI : Nat := 9223372036854775807
theorem nat_i {k : Nat} : (AV.i .i64 (k : Int)) = .i .i64 ((k : Nat) : Int) := rfl
theorem wrap_succ {k : Nat} (h : k < 9223372036854775807) : (AV.i .i64 (IntKind.i64.wrap ((k : Int) + 1))) = .i .i64 ((k + 1 : Nat) : Int) := by
  rw [IntWalk.i64_in _ (by omega)]; rfl

/-! ### Names and values -/
def lowC (c : UInt8) : Bool := decide (97 ≤ c.toNat) && decide (c.toNat ≤ 122)
def nameC (c : UInt8) : Bool := lowC c || (decide (48 ≤ c.toNat) && decide (c.toNat ≤ 57)) || c.toNat == 95
def words : List ByteArray := [⟨#[116, 114, 117, 101]⟩, ⟨#[102, 97, 108, 115, 101]⟩, ⟨#[110, 111, 119]⟩, ⟨#[98, 101, 103, 97, 110]⟩, ⟨#[104, 97, 115]⟩, ⟨#[108, 101, 110]⟩, ⟨#[114, 97, 116, 101]⟩, ⟨#[102, 108, 111, 111, 114]⟩, ⟨#[109, 105, 110]⟩, ⟨#[109, 97, 120]⟩]
def reserved (s : ByteArray) : Bool := words.any fun w => decide (s = w)
def firstOk (s : ByteArray) : Bool := match s[0]? with
  | some c => lowC c
  | none => false
def nameOk (s : ByteArray) : Bool := decide (1 ≤ s.size) && decide (s.size ≤ 16) && firstOk s && !reserved s && ballL nameC s
def scopeB (n : Int) : Bool := decide (1 ≤ n) && decide (n ≤ 3)
def refOk (r : Ref) : Bool := scopeB r.scope && nameOk r.name
def textC (c : UInt8) : Bool := decide (32 ≤ c.toNat) && decide (c.toNat ≤ 126)
def textOk (s : ByteArray) : Bool := ballL textC s && decide (s.size ≤ 40)
def fzero (x : Nat) : Bool := Ieee.double.order x 0 == some .eq
/-- What a value has beside what belongs to its kind. -/
def onlyOk (v : Val) : Bool := (decide (v.kind = 1) || decide (v.int = 0)) && (decide (v.kind = 2) || decide (v.text = noB)) && (decide (v.kind = 3) || !v.bool) && (decide (v.kind = 4) || fzero v.rate)
def valRight (v : Val) : Bool := decide (1 ≤ v.kind) && decide (v.kind ≤ 4) && onlyOk v && textOk v.text && (!decide (v.kind = 4) || Fm.isRate v.rate)
def fge0 (x : Nat) : Bool := Ieee.double.order x 0 == some .gt || Ieee.double.order x 0 == some .eq


/-! ### Order -/
def strLt (a b : ByteArray) : Bool := Op.bytesLess a.toList b.toList
theorem less_at : ∀ {x y : List UInt8} {k : Nat} {c d : UInt8}, (∀ i, i < k → x[i]? = y[i]?) → x[k]? = some c → y[k]? = some d → c ≠ d → Op.bytesLess x y = decide (c < d)
  | [], _, k, c, d, _, hc, _, _ => by simp at hc
  | _ :: _, [], k, c, d, _, _, hd, _ => by simp at hd
  | a :: x, b :: y, 0, c, d, _, hc, hd, hne => by
    simp at hc hd
    subst hc; subst hd
    simp [Op.bytesLess, hne]
  | a :: x, b :: y, k + 1, c, d, he, hc, hd, hne => by
    have h0 := he 0 (by omega)
    simp at h0
    subst h0
    have := less_at (x := x) (y := y) (k := k) (fun i hi => by have := he (i + 1) (by omega); simpa using this) (by simpa using hc) (by simpa using hd) hne
    simp only [Op.bytesLess, this, beq_self_eq_true, Bool.true_and]
    have : ¬ a < a := by simp
    simp [this]
theorem less_end : ∀ {x y : List UInt8} {k : Nat}, (∀ i, i < k → x[i]? = y[i]?) → (x.length ≤ k ∨ y.length ≤ k) → Op.bytesLess x y = decide (x.length < y.length)
  | [], [], _, _, _ => by simp [Op.bytesLess]
  | [], _ :: _, _, _, _ => by simp [Op.bytesLess]
  | _ :: _, [], _, _, _ => by simp [Op.bytesLess]
  | a :: x, b :: y, 0, _, h => by simp at h
  | a :: x, b :: y, k + 1, he, h => by
    have h0 := he 0 (by omega)
    simp at h0
    subst h0
    have := less_end (x := x) (y := y) (k := k) (fun i hi => by have := he (i + 1) (by omega); simpa using this) (by simpa using h)
    simp only [Op.bytesLess, this, beq_self_eq_true, Bool.true_and]
    have : ¬ a < a := by simp
    simp [this]
theorem strLt_at {a b : ByteArray} {k : Nat} {c d : UInt8} (h : ∀ i, i < k → a[i]? = b[i]?) (hc : a[k]? = some c) (hd : b[k]? = some d) (hne : c.toNat ≠ d.toNat) : strLt a b = decide (c.toNat < d.toNat) := by
  unfold strLt
  rw [ByteArray.toList_eq, ByteArray.toList_eq]
  rw [ba_get] at hc hd
  rw [less_at (fun i hi => by have := h i hi; rwa [ba_get, ba_get] at this) hc hd (fun q => hne (q ▸ rfl))]
  rfl
theorem strLt_end {a b : ByteArray} {k : Nat} (h : ∀ i, i < k → a[i]? = b[i]?) (hk : a.size ≤ k ∨ b.size ≤ k) : strLt a b = decide (a.size < b.size) := by
  unfold strLt
  rw [ByteArray.toList_eq, ByteArray.toList_eq]
  rw [less_end (fun i hi => by have := h i hi; rwa [ba_get, ba_get] at this) (by simpa using hk)]
  rfl
theorem same_step {a b : ByteArray} {k : Nat} {c d : UInt8} (h : ∀ i, i < k → a[i]? = b[i]?) (hc : a[k]? = some c) (hd : b[k]? = some d) (he : c.toNat = d.toNat) : ∀ i, i < k + 1 → a[i]? = b[i]? := by
  intro i hi
  rcases Nat.lt_succ_iff_lt_or_eq.1 hi with h' | rfl
  · exact h i h'
  · rw [hc, hd, UInt8.toNat_inj.1 he]
def celLt (a b : Cel) : Bool := if a.scope ≠ b.scope then decide (a.scope < b.scope) else if a.owner ≠ b.owner then strLt a.owner b.owner else strLt a.name b.name
def refLt (a b : Ref) : Bool := if a.scope ≠ b.scope then decide (a.scope < b.scope) else strLt a.name b.name
theorem rate_self (x : Nat) : Fm.isRate x = true → Ieee.double.order x x = some .eq := by
  intro h
  have h1 := Fm.isRate_fin h
  have h2 := Fm.order_self x
  have h3 : decide (9218868437227405312 < x % 9223372036854775808) = false := by rw [decide_eq_false_iff_not]; omega
  rw [h3] at h2
  simpa using h2
def wordsAV : List (List AV) := words.map fun w => [.s w]
theorem wstep {s w : ByteArray} {k : Nat} (hw : words[k]? = some w) (hne : ¬ s = w) (h : ∀ i w, i < k → words[i]? = some w → s ≠ w) : ∀ i w, i < k + 1 → words[i]? = some w → s ≠ w := by
  intro i w' hi hw'
  rcases Nat.lt_succ_iff_lt_or_eq.1 hi with h' | rfl
  · exact h i w' h' hw'
  · rw [hw] at hw'; cases hw'; exact hne
theorem wend {s : ByteArray} {k : Nat} (hk : 10 ≤ k) (h : ∀ i w, i < k → words[i]? = some w → s ≠ w) : reserved s = false := by
  unfold reserved
  rw [← Bool.not_eq_true, List.any_eq_true]
  rintro ⟨w, hw, he⟩
  obtain ⟨i, hi⟩ := List.getElem?_of_mem hw
  have hl : i < words.length := (List.getElem?_eq_some_iff.1 hi).1
  exact h i w (by have : words.length = 10 := rfl; omega) hi (of_decide_eq_true he)
theorem wyes {s w : ByteArray} {k : Nat} (hw : words[k]? = some w) (he : s = w) : reserved s = true := by
  unfold reserved
  exact List.any_eq_true.2 ⟨w, List.mem_of_getElem? hw, decide_eq_true he⟩
/-- What may stand at a place of a name. -/
def nameAt (i : Nat) (c : UInt8) : Bool := lowC c || (decide (0 < i) && (c.toNat == 95 || (decide (48 ≤ c.toNat) && decide (c.toNat ≤ 57))))
theorem nstep {s : ByteArray} {k : Nat} {c : UInt8} (h : s[k]? = some c) (hp : nameAt k c = true) (ha : ∀ i c, i < k → s[i]? = some c → nameAt i c = true) : ∀ i c, i < k + 1 → s[i]? = some c → nameAt i c = true := by
  intro i c' hi hc
  rcases Nat.lt_succ_iff_lt_or_eq.1 hi with h' | rfl
  · exact ha i c' h' hc
  · rw [h] at hc; cases hc; exact hp
theorem nameYes {s : ByteArray} {k : Nat} (hk : s.size ≤ k) (ha : ∀ i c, i < k → s[i]? = some c → nameAt i c = true) : (decide (1 ≤ s.size) && firstOk s && ballL nameC s) = decide (1 ≤ s.size) := by
  have hb : ballL nameC s = true := ball_of hk fun i c hi hc => by
    have := ha i c hi hc
    simp only [nameAt, nameC, lowC, Bool.or_eq_true, Bool.and_eq_true, decide_eq_true_eq, beq_iff_eq] at *
    omega
  rw [hb, Bool.and_true]
  by_cases h0 : 1 ≤ s.size
  · obtain ⟨c, hc⟩ := ba_some (s := s) (i := 0) (by omega)
    have := ha 0 c (by omega) hc
    have hf : firstOk s = true := by
      simp only [firstOk, hc]
      simpa [nameAt] using this
    simp [hf]
  · simp [h0]
theorem nameNo {s : ByteArray} {k : Nat} {c : UInt8} (hc : s[k]? = some c) (hn : nameAt k c = false) : (firstOk s && ballL nameC s) = false := by
  by_cases hq : nameC c = true
  · have hk : k = 0 := by
      simp only [nameAt, nameC, lowC, Bool.or_eq_true, Bool.and_eq_true, decide_eq_true_eq, beq_iff_eq, Bool.or_eq_false_iff, Bool.and_eq_false_iff, decide_eq_false_iff_not, beq_eq_false_iff_ne, ne_eq] at *
      omega
    subst hk
    have hf : firstOk s = false := by
      simp only [firstOk, hc]
      simp only [nameAt, Bool.or_eq_false_iff] at hn
      exact hn.1
    simp [hf]
  · rw [ball_not hc (by simpa using hq), Bool.and_false]
theorem nameOk_eq (s : ByteArray) : nameOk s = ((decide (1 ≤ s.size) && firstOk s && ballL nameC s) && decide (s.size ≤ 16) && !reserved s) := by
  unfold nameOk
  cases decide (1 ≤ s.size) <;> cases decide (s.size ≤ 16) <;> cases firstOk s <;> cases reserved s <;> cases ballL nameC s <;> rfl
theorem nameOk_no {s : ByteArray} (h : (firstOk s && ballL nameC s) = false) : nameOk s = false := by
  rw [nameOk_eq, Bool.and_assoc (decide (1 ≤ s.size)), h]; simp
theorem tend {s : ByteArray} {k : Nat} (h : ∀ i c, i < k → s[i]? = some c → textC c = true) (hk : s.size ≤ k ∨ 40 < k) (hks : k ≤ s.size) : ballL textC s = true ∨ 40 < s.size := by
  rcases hk with hk | hk
  · exact .inl (ball_of hk h)
  · exact .inr (by omega)
theorem right_text {v : Val} (hon : onlyOk v = true) (h4 : ¬ v.kind = 4) (ht : ballL textC v.text = true ∨ 40 < v.text.size) : valRight v = (decide (1 ≤ v.kind) && decide (v.kind ≤ 3) && decide (v.text.size ≤ 40)) := by
  have h3 : decide (v.kind ≤ 4) = decide (v.kind ≤ 3) := by rw [decide_eq_decide]; omega
  unfold valRight textOk
  rw [hon, h3]
  rcases ht with ht | ht
  · simp [ht, h4]
  · have : decide (v.text.size ≤ 40) = false := by rw [decide_eq_false_iff_not]; omega
    simp [this]
theorem right_rate {v : Val} (hon : onlyOk v = true) (h4 : v.kind = 4) : valRight v = Fm.isRate v.rate := by
  have hw := hon
  unfold onlyOk at hw
  simp only [h4, Bool.and_eq_true, Bool.or_eq_true, decide_eq_true_eq] at hw
  have ht : v.text = noB := by
    rcases hw.1.1.2 with q | q
    · cases q
    · exact q
  have htx : textOk noB = true := by decide
  unfold valRight
  rw [hon, ht, htx, h4]
  simp
def Ref.fit (r : Ref) : Prop := r.name.size ≤ 9223372036854775807
def Cel.fit (c : Cel) : Prop := c.owner.size ≤ 9223372036854775807 ∧ c.name.size ≤ 9223372036854775807
def Val.fit (v : Val) : Prop := v.text.size ≤ 9223372036854775807 ∧ v.rate < 18446744073709551616
def Nod.fit (n : Nod) : Prop := n.value.fit ∧ n.ref.fit
end Go.Proofs.Ytlclgpiabjlpbaa.Am
