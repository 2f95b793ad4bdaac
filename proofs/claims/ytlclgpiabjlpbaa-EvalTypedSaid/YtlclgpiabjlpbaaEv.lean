/- What expressions come to, in plain Lean: values, stores, operators, evaluation. No program. -/
import Derived.Test.YtlclgpiabjlpbaaRd
import Derived.Test.YtlclgpiabjlpbaaFo
import Derived.Test.YtlclgpiabjlpbaaAm22
namespace Go.Proofs.Ytlclgpiabjlpbaa.Am
open Go.RowKit
set_option linter.unusedVariables false
set_option linter.unusedSimpArgs false

/-- What may be a cell. -/
def celOk (c : Cel) : Bool := scopeB c.scope && (if c.scope = 3 then decide (c.owner = noB) else nameOk c.owner) && nameOk c.name
structure Hld where
  v : Val
  version : Int
def Hld.av (h : Hld) : List AV := [.i .i64 h.v.kind, .i .i64 h.v.int, .s h.v.text, .b h.v.bool, .f h.v.rate, .i .i64 h.version]
def Hld.agg (h : Hld) : AV := .agg h.av
abbrev Sto := List (Cel × Hld)
def zeroVal : Val := ⟨0, 0, noB, false, 0⟩
def wholeV (n : Int) : Val := ⟨1, n, noB, false, 0⟩
def realV (r : Nat) : Val := ⟨4, 0, noB, false, r⟩
def truthV (b : Bool) : Val := ⟨3, 0, noB, b, 0⟩
def textV (s : ByteArray) : Val := ⟨2, 0, s, false, 0⟩
abbrev VW := Val × Int
def vwAV (p : VW) : AV := .tup [.agg p.1.av, .i .i64 p.2]
def toldP (v : Val) (why : Int) : VW := if why = 0 then (v, 0) else (zeroVal, why)
def fitsP (v : Val) (ok : Bool) (why : Int) : VW := if ok = true then (v, 0) else (zeroVal, why)
theorem wk_eq {x y : AV} (h : x = y) : Wk x y := h ▸ .refl _

/-! ### Whole numbers -/
def inI (n : Int) : Prop := -9223372036854775808 ≤ n ∧ n ≤ 9223372036854775807
instance (n : Int) : Decidable (inI n) := inferInstanceAs (Decidable (_ ∧ _))
theorem wrap_in {n : Int} (h : inI n) : AV.i .i64 (IntKind.i64.wrap n) = .i .i64 n := by rw [IntWalk.i64_in _ h]
theorem wrap_eq {n m : Int} (h : inI n) (e : n = m) : AV.i .i64 (IntKind.i64.wrap n) = .i .i64 m := by rw [wrap_in h, e]
def numAdd (a b : Int) : Int × Bool := if inI (a + b) then (a + b, true) else (0, false)
def numSub (a b : Int) : Int × Bool := if inI (a - b) then (a - b, true) else (0, false)
def numMul (a b : Int) : Int × Bool := if inI (a * b) then (a * b, true) else (0, false)
def numNeg (a : Int) : Int × Bool := if inI (-a) then (-a, true) else (0, false)
def numDiv (a b : Int) : Int × Int := if b = 0 then (0, 4) else if inI (a.tdiv b) then (a.tdiv b, 0) else (0, 3)
def numMod (a b : Int) : Int × Int := if b = 0 then (0, 4) else (a.tmod b, 0)
theorem tdiv_bound {a b : Int} (ha : inI a) (hb : b ≠ 0) (h1 : b ≠ -1) : inI (a.tdiv b) := by
  unfold inI at *
  have h2 : (a.tdiv b).natAbs = a.natAbs / b.natAbs := Int.natAbs_tdiv a b
  have h3 : a.natAbs / b.natAbs ≤ a.natAbs := Nat.div_le_self _ _
  by_cases hb1 : b = 1
  · subst hb1; simpa using ha
  · have hb2 : 2 ≤ b.natAbs := by omega
    have h4 : a.natAbs / b.natAbs ≤ a.natAbs / 2 := Nat.div_le_div_left hb2 (by omega)
    omega
theorem tdiv_in {a b : Int} (ha : inI a) (hb : b ≠ 0) (h : ¬ (a = -9223372036854775808 ∧ b = -1)) : inI (a.tdiv b) := by
  by_cases h1 : b = -1
  · subst h1
    unfold inI at *
    have : a.tdiv (-1) = -a := by simp
    rw [this]; omega
  · exact tdiv_bound ha hb h1
theorem tdiv_out : ¬ inI ((-9223372036854775808 : Int).tdiv (-1)) := by decide
theorem tmod_in {a b : Int} (ha : inI a) (hb : b ≠ 0) : inI (a.tmod b) := by
  unfold inI at *
  have h2 : (a.tmod b).natAbs = a.natAbs % b.natAbs := Int.natAbs_tmod a b
  have h3 : a.natAbs % b.natAbs ≤ a.natAbs := Nat.mod_le _ _
  have h4 : 0 ≤ a → 0 ≤ a.tmod b := fun h => Int.tmod_nonneg b h
  have h5 : a ≤ 0 → a.tmod b ≤ 0 := fun h => by
    have h6 := Int.tmod_nonneg b (a := -a) (by omega)
    rw [Int.neg_tmod] at h6; omega
  omega
theorem wrap_form (n : Int) : ∃ k : Int, IntKind.i64.wrap n = n + k * 18446744073709551616 ∧ inI (IntKind.i64.wrap n) := by
  rw [IntKind.wrap_i64]
  unfold inI
  refine ⟨-((n + 9223372036854775808) / 18446744073709551616), ?_, ?_⟩ <;> omega
/-- The test of a product by dividing back. -/
theorem mul_back {a b : Int} (ha : inI a) (hb : inI b) (h0 : a ≠ 0) (h1 : a ≠ -1) : (IntKind.i64.wrap ((IntKind.i64.wrap (a * b)).tdiv a) = b) ↔ inI (a * b) := by
  obtain ⟨k, hk, hr⟩ := wrap_form (a * b)
  have hq := tdiv_bound hr h0 h1
  rw [IntWalk.i64_in _ hq]
  constructor
  · intro h
    have h2 := Int.mul_tdiv_add_tmod (IntKind.i64.wrap (a * b)) a
    have h3 : ((IntKind.i64.wrap (a * b)).tmod a).natAbs = (IntKind.i64.wrap (a * b)).natAbs % a.natAbs := Int.natAbs_tmod _ _
    have h4 : (IntKind.i64.wrap (a * b)).natAbs % a.natAbs < a.natAbs := Nat.mod_lt _ (by omega)
    rw [h] at h2
    have hk0 : k = 0 := by
      unfold inI at ha
      generalize (IntKind.i64.wrap (a * b)).tmod a = t at *
      generalize IntKind.i64.wrap (a * b) = w at *
      generalize a * b = p at *
      omega
    subst hk0
    rw [Int.zero_mul, Int.add_zero] at hk
    rw [← hk]; exact hr
  · intro h
    rw [IntWalk.i64_in _ h]
    exact Int.mul_tdiv_cancel_left b h0

/-! ### What is right, and what a node comes to -/
structure Good (v : Val) : Prop where
  fit : v.fit
  int : inI v.int
  right : valRight v = true
def VWok (p : VW) : Prop := (p.2 = 0 ∧ Good p.1) ∨ (p.1 = zeroVal ∧ (p.2 = 2 ∨ p.2 = 3 ∨ p.2 = 4 ∨ p.2 = 5 ∨ p.2 = 6 ∨ p.2 = 9))
theorem VWok.good {p : VW} (h : VWok p) (h0 : p.2 = 0) : Good p.1 := by
  rcases h with h | ⟨_, h⟩
  · exact h.2
  · omega
theorem VWok.zero {p : VW} (h : VWok p) (h0 : p.2 ≠ 0) : p.1 = zeroVal := by
  rcases h with h | h
  · exact absurd h.1 h0
  · exact h.1
theorem VWok.fit {p : VW} (h : VWok p) : p.1.fit := by
  rcases h with h | ⟨h, _⟩
  · exact h.2.fit
  · rw [h]; exact ⟨by decide, by decide⟩
theorem VWok.int {p : VW} (h : VWok p) : inI p.1.int := by
  rcases h with h | ⟨h, _⟩
  · exact h.2.int
  · rw [h]; decide
theorem good_rate {v : Val} (h : Good v) (hk : v.kind = 4) : Fm.isRate v.rate = true := by
  have := h.right
  unfold valRight at this
  simp only [Bool.and_eq_true, Bool.or_eq_true, Bool.not_eq_true', decide_eq_false_iff_not] at this
  rcases this.2 with q | q
  · exact absurd hk q
  · exact q
theorem good_kind {v : Val} (h : Good v) : 1 ≤ v.kind ∧ v.kind ≤ 4 := by
  have := h.right
  unfold valRight at this
  simp only [Bool.and_eq_true, decide_eq_true_eq] at this
  exact ⟨this.1.1.1.1, this.1.1.1.2⟩
theorem good_text {v : Val} (h : Good v) : textOk v.text = true := by
  have := h.right
  unfold valRight at this
  simp only [Bool.and_eq_true, decide_eq_true_eq] at this
  exact this.1.2
theorem fzero_0 : fzero 0 = true := by
  unfold fzero
  rw [Fm.order_zero]; decide
theorem textOk_0 : textOk noB = true := by decide
theorem fit_0 (v : Val) (h1 : v.text = noB) (h2 : v.rate = 0) : v.fit := ⟨by rw [h1]; decide, by rw [h2]; decide⟩
theorem good_whole {n : Int} (h : inI n) : Good (wholeV n) := by
  refine ⟨fit_0 _ rfl rfl, h, ?_⟩
  unfold valRight onlyOk wholeV
  simp only [fzero_0]
  simp [textOk_0]
theorem good_truth (b : Bool) : Good (truthV b) := by
  refine ⟨fit_0 _ rfl rfl, by show inI 0; decide, ?_⟩
  unfold valRight onlyOk truthV
  simp only [fzero_0]
  simp [textOk_0]
theorem good_real {r : Nat} (h1 : r < 18446744073709551616) (h : Fm.isRate r = true) : Good (realV r) := by
  refine ⟨⟨by show (0 : Nat) ≤ _; omega, h1⟩, by show inI 0; decide, ?_⟩
  unfold valRight onlyOk realV
  simp only [h]
  simp [textOk_0]
theorem good_text_of {s : ByteArray} (h : textOk s = true) : Good (textV s) := by
  have h40 : s.size ≤ 40 := by unfold textOk at h; simp only [Bool.and_eq_true, decide_eq_true_eq] at h; exact h.2
  refine ⟨⟨by simp only [textV]; omega, by show (0 : Nat) < _; omega⟩, by show inI 0; decide, ?_⟩
  unfold valRight onlyOk textV
  simp only [fzero_0, h]
  simp
theorem ok_zero {w : Int} (h : w = 2 ∨ w = 3 ∨ w = 4 ∨ w = 5 ∨ w = 6 ∨ w = 9) : VWok (zeroVal, w) := .inr ⟨rfl, h⟩
theorem ok_told {v : Val} {w : Int} (h0 : w = 0 → Good v) (h : w ≠ 0 → (w = 2 ∨ w = 3 ∨ w = 4 ∨ w = 5 ∨ w = 6 ∨ w = 9)) : VWok (toldP v w) := by
  unfold toldP
  split
  · rename_i e; exact .inl ⟨rfl, h0 e⟩
  · rename_i e; exact ok_zero (h e)
theorem ok_fits {v : Val} {b : Bool} {w : Int} (h0 : b = true → Good v) (h : w = 2 ∨ w = 3 ∨ w = 4 ∨ w = 5 ∨ w = 6 ∨ w = 9) : VWok (fitsP v b w) := by
  unfold fitsP
  split
  · rename_i e; exact .inl ⟨rfl, h0 e⟩
  · exact ok_zero h
theorem VWok.whys {p : VW} (h : VWok p) (h0 : p.2 ≠ 0) : p.2 = 2 ∨ p.2 = 3 ∨ p.2 = 4 ∨ p.2 = 5 ∨ p.2 = 6 ∨ p.2 = 9 := by
  rcases h with h | h
  · exact absurd h.1 h0
  · exact h.2

def feq (x y : Nat) : Bool := Ieee.double.order x y == some .eq
def flt (x y : Nat) : Bool := Ieee.double.order x y == some .lt
def valEq (a b : Val) : Bool := decide (a.kind = b.kind) && decide (a.int = b.int) && decide (a.text = b.text) && (a.bool == b.bool) && feq a.rate b.rate
def valSame (a b : Val) : Bool := valRight a && valRight b && valEq a b
def valLess (a b : Val) : Bool × Bool :=
  if valRight a = true ∧ valRight b = true ∧ a.kind = b.kind then
    if a.kind = 1 then (decide (a.int < b.int), true) else if a.kind = 2 then (strLt a.text b.text, true) else if a.kind = 4 then (flt a.rate b.rate, true) else (false, false)
  else (false, false)
def lessAV (p : Bool × Bool) : AV := .tup [.b p.1, .b p.2]

def whyK (p : VW) (k : Int) : Int := if p.2 = 0 ∧ p.1.kind ≠ k then 9 else p.2
def opNot (p : VW) : VW := toldP (truthV (!p.1.bool)) (whyK p 3)
def negW (r : Nat) : Nat := if Fm.isRate r = true then Fm.negW r else 0
def opNeg (p : VW) : VW := if p.2 = 0 then if p.1.kind = 1 then fitsP (wholeV (numNeg p.1.int).1) (numNeg p.1.int).2 3 else if p.1.kind = 4 then (realV (negW p.1.rate), 0) else (zeroVal, 9) else (zeroVal, p.2)
def opLen (p : VW) : VW := toldP (wholeV p.1.text.size) (whyK p 2)
def opRate (p : VW) : VW := toldP (realV (Fm.ofW p.1.int)) (whyK p 1)
def opFloor (p : VW) : VW := if whyK p 4 = 0 then fitsP (wholeV (Fm.floorP p.1.rate).1) (Fm.floorP p.1.rate).2 3 else (zeroVal, whyK p 4)
def opShort (op : Int) (p q : VW) : VW := if p.2 = 0 then if p.1.kind = 3 then if p.1.bool = decide (op = 9) then (p.1, 0) else toldP q.1 (whyK q 3) else (zeroVal, 9) else (zeroVal, p.2)
theorem opShort_why {op : Int} {p q : VW} (h : ¬ p.2 = 0) : opShort op p q = (zeroVal, p.2) := if_neg h
theorem opShort_kind {op : Int} {p q : VW} (h : p.2 = 0) (hk : ¬ p.1.kind = 3) : opShort op p q = (zeroVal, 9) := by unfold opShort; rw [if_pos h]; exact if_neg hk
theorem opShort_left {op : Int} {p q : VW} (h : p.2 = 0) (hk : p.1.kind = 3) (hb : p.1.bool = decide (op = 9)) : opShort op p q = (p.1, 0) := by unfold opShort; rw [if_pos h, if_pos hk]; exact if_pos hb
theorem opShort_right {op : Int} {p q : VW} (h : p.2 = 0) (hk : p.1.kind = 3) (hb : ¬ p.1.bool = decide (op = 9)) : opShort op p q = toldP q.1 (whyK q 3) := by unfold opShort; rw [if_pos h, if_pos hk]; exact if_neg hb
theorem whyK_9 {p : VW} {k : Int} (h : p.2 = 0) (hk : ¬ p.1.kind = k) : whyK p k = 9 := if_pos ⟨h, hk⟩
theorem whyK_of {p : VW} {k : Int} (h : ¬ (p.2 = 0 ∧ ¬ p.1.kind = k)) : whyK p k = p.2 := if_neg h
def bothP (p q : VW) : Val × Val × Int := if p.2 = 0 then if q.2 = 0 then if p.1.kind = q.1.kind then (p.1, q.1, 0) else (zeroVal, zeroVal, 9) else (zeroVal, zeroVal, q.2) else (zeroVal, zeroVal, p.2)
def bothAV (t : Val × Val × Int) : AV := .tup [.agg t.1.av, .agg t.2.1.av, .i .i64 t.2.2]
def opEqual (op : Int) (t : Val × Val × Int) : VW := toldP (truthV (valSame t.1 t.2.1 == decide (op = 10))) t.2.2
def orderB (op : Int) (a b : Val) : Bool := if op = 13 then !(valLess b a).1 else if op = 14 then (valLess b a).1 else if op = 15 then !(valLess a b).1 else (valLess a b).1
def opOrder (op : Int) (t : Val × Val × Int) : VW := if t.2.2 = 0 then fitsP (truthV (orderB op t.1 t.2.1)) (valLess t.1 t.2.1).2 9 else (zeroVal, t.2.2)
def intsP (op a b : Int) : VW :=
  if op = 16 then fitsP (wholeV (numAdd a b).1) (numAdd a b).2 3 else if op = 17 then fitsP (wholeV (numSub a b).1) (numSub a b).2 3 else if op = 18 then fitsP (wholeV (numMul a b).1) (numMul a b).2 3
  else if op = 19 then toldP (wholeV (numDiv a b).1) (numDiv a b).2 else toldP (wholeV (numMod a b).1) (numMod a b).2
def ratesP (op : Int) (a b : Nat) : VW :=
  if op = 16 then fitsP (realV (Fm.addW a b).1) (Fm.addW a b).2 5 else if op = 17 then fitsP (realV (Fm.subW a b).1) (Fm.subW a b).2 5 else if op = 18 then fitsP (realV (Fm.mulW a b).1) (Fm.mulW a b).2 5
  else if op = 19 then toldP (realV (Fm.divW a b).1) (Fm.divW a b).2 else (zeroVal, 9)
def opSum (op : Int) (t : Val × Val × Int) : VW :=
  if t.2.2 = 0 then if t.1.kind = 1 then intsP op t.1.int t.2.1.int else if t.1.kind = 4 then ratesP op t.1.rate t.2.1.rate else if t.1.kind = 2 ∧ op = 16 then fitsP (textV (t.1.text ++ t.2.1.text)) (decide (t.1.text.size + t.2.1.text.size ≤ 40)) 6 else (zeroVal, 9)
  else (zeroVal, t.2.2)
def opEdge (op : Int) (t : Val × Val × Int) : VW :=
  if t.2.2 = 0 then if t.1.kind = 1 ∨ t.1.kind = 4 then if (valLess t.2.1 t.1).1 = decide (op = 21) then (t.2.1, 0) else (t.1, 0) else (zeroVal, 9) else (zeroVal, t.2.2)
structure Scn where
  sub : ByteArray
  obj : ByteArray
  now : Int
  began : Int
/-- What a node comes to, by what its operands come to. -/
def evOp (get : Cel → Option Val) (x : Scn) (n : Nod) (p q : VW) : VW :=
  if n.op = 1 then (n.value, 0) else if n.op = 2 then (match get (atC n.ref x.sub x.obj) with | some v => (v, 0) | none => (zeroVal, 2))
  else if n.op = 3 then (truthV (get (atC n.ref x.sub x.obj)).isSome, 0) else if n.op = 4 then (wholeV x.now, 0) else if n.op = 5 then (wholeV x.began, 0)
  else if n.op = 6 then opNot p else if n.op = 7 then opNeg p else if n.op = 8 ∨ n.op = 9 then opShort n.op p q else if n.op = 10 ∨ n.op = 11 then opEqual n.op (bothP p q)
  else if n.op ≤ 15 then opOrder n.op (bothP p q) else if n.op ≤ 20 then opSum n.op (bothP p q) else if n.op ≤ 22 then opEdge n.op (bothP p q)
  else if n.op = 23 then opLen p else if n.op = 24 then opRate p else opFloor p
/-- What the node of a number comes to. -/
def evN (ns : List Nod) (get : Cel → Option Val) (x : Scn) : Nat → Nat → VW
  | 0, _ => (zeroVal, 9)
  | f + 1, i => match ns[i]? with
    | some n => evOp get x n (evN ns get x f n.a.toNat) (evN ns get x f n.b.toNat)
    | none => (zeroVal, 9)
def evE (ns : List Nod) (get : Cel → Option Val) (x : Scn) : VW := if rightE ns = true then evN ns get x ns.length (ns.length - 1) else (zeroVal, 2)
def holdsP (p : VW) : Int := if p.2 = 0 then if p.1.kind = 3 then if p.1.bool = true then 0 else 1 else 9 else p.2
def getS (s : Sto) (c : Cel) : Option Val := (mget s c).map (·.v)

/-! ### All of it is right -/
theorem whyK_why {p : VW} (h : VWok p) {k : Int} (h0 : whyK p k ≠ 0) : whyK p k = 2 ∨ whyK p k = 3 ∨ whyK p k = 4 ∨ whyK p k = 5 ∨ whyK p k = 6 ∨ whyK p k = 9 := by
  unfold whyK at *
  split
  · simp
  · rename_i hc; rw [if_neg hc] at h0; exact h.whys h0
theorem whyK_zero {p : VW} {k : Int} (h0 : whyK p k = 0) : p.2 = 0 ∧ p.1.kind = k := by
  unfold whyK at h0
  split at h0
  · omega
  · rename_i hc; exact ⟨h0, by rcases Int.lt_trichotomy p.1.kind k with q | q | q <;> first | exact q | (exact absurd ⟨h0, by omega⟩ hc)⟩
theorem ok_not {p : VW} (h : VWok p) : VWok (opNot p) := ok_told (fun _ => good_truth _) (whyK_why h)
theorem ok_len {p : VW} (h : VWok p) : VWok (opLen p) := ok_told (fun _ => good_whole (by have := h.fit.1; unfold inI; omega)) (whyK_why h)
theorem ok_rate {p : VW} (h : VWok p) : VWok (opRate p) := ok_told (fun _ => good_real (Fm.ofW_ok _ h.int).1 (Fm.ofW_ok _ h.int).2) (whyK_why h)
theorem negW_ok {r : Nat} (h1 : r < 18446744073709551616) (h : Fm.isRate r = true) : negW r < 18446744073709551616 ∧ Fm.isRate (negW r) = true := by
  unfold negW
  rw [if_pos h]
  have h2 := Fm.isRate_lt h
  unfold Fm.negW
  split
  · decide
  · rename_i h0
    rw [Fm.xor_sign r h1]
    split
    · refine ⟨by omega, ?_⟩
      simp [Fm.isRate]; omega
    · refine ⟨by omega, ?_⟩
      simp [Fm.isRate]; omega
theorem ok_neg {p : VW} (h : VWok p) : VWok (opNeg p) := by
  unfold opNeg
  split
  · rename_i h0
    have hg := h.good h0
    split
    · refine ok_fits (fun q => ?_) (by simp)
      unfold numNeg at q ⊢
      split
      · rename_i hi; exact good_whole hi
      · rename_i hi; rw [if_neg hi] at q; cases q
    · split
      · rename_i hk
        have := negW_ok hg.fit.2 (good_rate hg hk)
        exact .inl ⟨rfl, good_real this.1 this.2⟩
      · exact ok_zero (by simp)
  · rename_i h0; exact ok_zero (h.whys h0)
theorem ok_floor {p : VW} (h : VWok p) : VWok (opFloor p) := by
  unfold opFloor
  split
  · rename_i h0
    refine ok_fits (fun q => ?_) (by simp)
    obtain ⟨e1, e2⟩ := whyK_zero h0
    have hr := Fm.isRate_fin (good_rate (h.good e1) e2)
    cases ho : Fm.outB (Fm.floorW p.1.rate) with
    | true => rw [Fm.floorP_out ho] at q; cases q
    | false => obtain ⟨n, _, e, hn⟩ := Fm.floorP_in hr ho; rw [e]; exact good_whole hn
  · rename_i h0; exact ok_zero (whyK_why h h0)
theorem ok_short {op : Int} {p q : VW} (h : VWok p) (k : VWok q) : VWok (opShort op p q) := by
  unfold opShort
  split
  · rename_i h0
    split
    · split
      · exact .inl ⟨rfl, h.good h0⟩
      · exact ok_told (fun e => k.good (whyK_zero e).1) (whyK_why k)
    · exact ok_zero (by simp)
  · rename_i h0; exact ok_zero (h.whys h0)
def BothOk (t : Val × Val × Int) : Prop := (t.2.2 = 0 ∧ Good t.1 ∧ Good t.2.1 ∧ t.1.kind = t.2.1.kind) ∨ (t.1 = zeroVal ∧ t.2.1 = zeroVal ∧ (t.2.2 = 2 ∨ t.2.2 = 3 ∨ t.2.2 = 4 ∨ t.2.2 = 5 ∨ t.2.2 = 6 ∨ t.2.2 = 9))
theorem ok_both {p q : VW} (h : VWok p) (k : VWok q) : BothOk (bothP p q) := by
  unfold bothP
  split
  · rename_i h0
    split
    · rename_i k0
      split
      · rename_i e; exact .inl ⟨rfl, h.good h0, k.good k0, e⟩
      · exact .inr ⟨rfl, rfl, by simp⟩
    · rename_i k0; exact .inr ⟨rfl, rfl, k.whys k0⟩
  · rename_i h0; exact .inr ⟨rfl, rfl, h.whys h0⟩
theorem BothOk.whys {t : Val × Val × Int} (h : BothOk t) (h0 : t.2.2 ≠ 0) : t.2.2 = 2 ∨ t.2.2 = 3 ∨ t.2.2 = 4 ∨ t.2.2 = 5 ∨ t.2.2 = 6 ∨ t.2.2 = 9 := by
  rcases h with h | h
  · exact absurd h.1 h0
  · exact h.2.2
theorem BothOk.good {t : Val × Val × Int} (h : BothOk t) (h0 : t.2.2 = 0) : Good t.1 ∧ Good t.2.1 ∧ t.1.kind = t.2.1.kind := by
  rcases h with h | h
  · exact h.2
  · omega
theorem BothOk.fit {t : Val × Val × Int} (h : BothOk t) : t.1.fit ∧ t.2.1.fit := by
  have hz : zeroVal.fit := ⟨by decide, by decide⟩
  rcases h with h | ⟨h1, h2, _⟩
  · exact ⟨h.2.1.fit, h.2.2.1.fit⟩
  · rw [h1, h2]; exact ⟨hz, hz⟩
theorem ok_equal {op : Int} {t : Val × Val × Int} (h : BothOk t) : VWok (opEqual op t) := ok_told (fun _ => good_truth _) h.whys
theorem ok_order {op : Int} {t : Val × Val × Int} (h : BothOk t) : VWok (opOrder op t) := by
  unfold opOrder
  split
  · exact ok_fits (fun _ => good_truth _) (by simp)
  · rename_i h0; exact ok_zero (h.whys h0)
theorem num_ok {a b : Int} (ha : inI a) (hb : inI b) : ((numAdd a b).2 = true → inI (numAdd a b).1) ∧ ((numSub a b).2 = true → inI (numSub a b).1) ∧ ((numMul a b).2 = true → inI (numMul a b).1) ∧
    ((numDiv a b).2 = 0 → inI (numDiv a b).1) ∧ ((numMod a b).2 = 0 → inI (numMod a b).1) := by
  refine ⟨fun h => ?_, fun h => ?_, fun h => ?_, fun h => ?_, fun h => ?_⟩
  · unfold numAdd at *; split at h <;> rename_i q
    · rw [if_pos q]; exact q
    · cases h
  · unfold numSub at *; split at h <;> rename_i q
    · rw [if_pos q]; exact q
    · cases h
  · unfold numMul at *; split at h <;> rename_i q
    · rw [if_pos q]; exact q
    · cases h
  · unfold numDiv at *
    split
    · decide
    · split
      · assumption
      · decide
  · unfold numMod at *
    split
    · decide
    · rename_i h0; exact tmod_in ha h0
theorem numDiv_why (a b : Int) : (numDiv a b).2 = 0 ∨ (numDiv a b).2 = 3 ∨ (numDiv a b).2 = 4 := by
  unfold numDiv; (repeat' split) <;> simp
theorem numMod_why (a b : Int) : (numMod a b).2 = 0 ∨ (numMod a b).2 = 4 := by
  unfold numMod; split <;> simp
theorem ok_ints {op a b : Int} (ha : inI a) (hb : inI b) : VWok (intsP op a b) := by
  obtain ⟨h1, h2, h3, h4, h5⟩ := num_ok ha hb
  have d := numDiv_why a b
  have m := numMod_why a b
  unfold intsP
  split
  · exact ok_fits (fun q => good_whole (h1 q)) (by simp)
  · split
    · exact ok_fits (fun q => good_whole (h2 q)) (by simp)
    · split
      · exact ok_fits (fun q => good_whole (h3 q)) (by simp)
      · split
        · exact ok_told (fun q => good_whole (h4 q)) (fun q => by omega)
        · exact ok_told (fun q => good_whole (h5 q)) (fun q => by omega)
theorem ok_rates {op : Int} {a b : Nat} (ha : Fm.isRate a = true) (hb : Fm.isRate b = true) : VWok (ratesP op a b) := by
  have h1 := Fm.addW_ok ha hb
  have h2 := Fm.subW_ok ha hb
  have h3 := Fm.mulW_ok ha hb
  have h4 := Fm.divW_ok ha hb
  unfold ratesP
  split
  · exact ok_fits (fun q => good_real h1.1 (h1.2 q)) (by simp)
  · split
    · exact ok_fits (fun q => good_real h2.1 (h2.2 q)) (by simp)
    · split
      · exact ok_fits (fun q => good_real h3.1 (h3.2 q)) (by simp)
      · split
        · exact ok_told (fun q => good_real h4.1 (h4.2.1 q)) (fun q => by have := h4.2.2; omega)
        · exact ok_zero (by simp)
theorem ba_app_get (a b : ByteArray) : (a ++ b).data.toList = a.data.toList ++ b.data.toList := by
  rw [ByteArray.data_append, Array.toList_append]
theorem ba_app_size (a b : ByteArray) : (a ++ b).size = a.size + b.size := ByteArray.size_append
theorem text_app {a b : ByteArray} (ha : textOk a = true) (hb : textOk b = true) (h : a.size + b.size ≤ 40) : textOk (a ++ b) = true := by
  unfold textOk ballL at ha hb ⊢
  rw [Bool.and_eq_true] at ha hb ⊢
  refine ⟨?_, decide_eq_true (by rw [ba_app_size]; exact h)⟩
  rw [ba_app_get, List.all_append, ha.1, hb.1]; rfl
theorem ok_sum {op : Int} {t : Val × Val × Int} (h : BothOk t) : VWok (opSum op t) := by
  unfold opSum
  split
  · rename_i h0
    obtain ⟨g1, g2, hk⟩ := h.good h0
    split
    · exact ok_ints g1.int g2.int
    · split
      · rename_i h4; exact ok_rates (good_rate g1 h4) (good_rate g2 (hk ▸ h4))
      · split
        · exact ok_fits (fun q => good_text_of (text_app (good_text g1) (good_text g2) (of_decide_eq_true q))) (by simp)
        · exact ok_zero (by simp)
  · rename_i h0; exact ok_zero (h.whys h0)
theorem ok_edge {op : Int} {t : Val × Val × Int} (h : BothOk t) : VWok (opEdge op t) := by
  unfold opEdge
  split
  · rename_i h0
    obtain ⟨g1, g2, hk⟩ := h.good h0
    split
    · split
      · exact .inl ⟨rfl, g2⟩
      · exact .inl ⟨rfl, g1⟩
    · exact ok_zero (by simp)
  · rename_i h0; exact ok_zero (h.whys h0)
def GetOk (get : Cel → Option Val) : Prop := ∀ c v, get c = some v → Good v
theorem ok_op {get : Cel → Option Val} {x : Scn} {n : Nod} {p q : VW} (hg : GetOk get) (hx : inI x.now ∧ inI x.began) (hn : n.op = 1 → Good n.value) (h : VWok p) (k : VWok q) : VWok (evOp get x n p q) := by
  have hb := ok_both h k
  unfold evOp
  by_cases e : n.op = 1
  · rw [if_pos e]
    exact .inl ⟨rfl, hn e⟩
  rw [if_neg e]
  clear e
  by_cases e : n.op = 2
  · rw [if_pos e]
    cases hv : get (atC n.ref x.sub x.obj) with
    | some v => exact .inl ⟨rfl, hg _ _ hv⟩
    | none => exact ok_zero (by simp)
  rw [if_neg e]
  clear e
  by_cases e : n.op = 3
  · rw [if_pos e]
    exact .inl ⟨rfl, good_truth _⟩
  rw [if_neg e]
  clear e
  by_cases e : n.op = 4
  · rw [if_pos e]
    exact .inl ⟨rfl, good_whole hx.1⟩
  rw [if_neg e]
  clear e
  by_cases e : n.op = 5
  · rw [if_pos e]
    exact .inl ⟨rfl, good_whole hx.2⟩
  rw [if_neg e]
  clear e
  by_cases e : n.op = 6
  · rw [if_pos e]
    exact ok_not h
  rw [if_neg e]
  clear e
  by_cases e : n.op = 7
  · rw [if_pos e]
    exact ok_neg h
  rw [if_neg e]
  clear e
  by_cases e : n.op = 8 ∨ n.op = 9
  · rw [if_pos e]
    exact ok_short h k
  rw [if_neg e]
  clear e
  by_cases e : n.op = 10 ∨ n.op = 11
  · rw [if_pos e]
    exact ok_equal hb
  rw [if_neg e]
  clear e
  by_cases e : n.op ≤ 15
  · rw [if_pos e]
    exact ok_order hb
  rw [if_neg e]
  clear e
  by_cases e : n.op ≤ 20
  · rw [if_pos e]
    exact ok_sum hb
  rw [if_neg e]
  clear e
  by_cases e : n.op ≤ 22
  · rw [if_pos e]
    exact ok_edge hb
  rw [if_neg e]
  clear e
  by_cases e : n.op = 23
  · rw [if_pos e]
    exact ok_len h
  rw [if_neg e]
  clear e
  by_cases e : n.op = 24
  · rw [if_pos e]
    exact ok_rate h
  rw [if_neg e]
  clear e
  exact ok_floor h
/-- The nodes of an expression: what is plain of each, and where its operands stand. -/
structure NodOk (ns : List Nod) : Prop where
  fit : ∀ n ∈ ns, n.fit ∧ inI n.value.int
theorem plain_good {n : Nod} (hp : plainOk n = true) (hf : n.fit) (hi : inI n.value.int) (h1 : n.op = 1) : Good n.value := by
  unfold plainOk at hp
  rw [if_pos h1] at hp
  simp only [Bool.and_eq_true] at hp
  have := hp.2
  unfold literalOk at this
  simp only [Bool.and_eq_true] at this
  exact ⟨hf.1, hi, this.1.1⟩
theorem ok_evN {ns : List Nod} {get : Cel → Option Val} {x : Scn} (hg : GetOk get) (hx : inI x.now ∧ inI x.began) (hns : ∀ n ∈ ns, n.op = 1 → Good n.value) : ∀ f i, VWok (evN ns get x f i)
  | 0, _ => ok_zero (by simp)
  | f + 1, i => by
    unfold evN
    split
    · rename_i n hn
      exact ok_op hg hx (hns n (List.mem_of_getElem? hn)) (ok_evN hg hx hns f _) (ok_evN hg hx hns f _)
    · exact ok_zero (by simp)

/-! ### The store -/
def getAV : Option Hld → AV
  | some h => .tup [.agg h.v.av, .i .i64 h.version, .b true]
  | none => .tup [.agg zeroVal.av, .i .i64 0, .b false]
def setP (s : Sto) (c : Cel) (v : Val) : Sto × Bool × Int :=
  if celOk c = false then (s, false, 80) else if valRight v = false then (s, false, 81) else match mget s c with
  | none => if 64 ≤ s.length then (s, false, 82) else (mput s c ⟨v, 0⟩, true, 0)
  | some h => if valSame h.v v = true then (s, false, 0) else (mput s c ⟨v, if h.version < 9223372036854775807 then h.version + 1 else h.version⟩, true, 0)
def setAV (p : Sto × Bool × Int) : AV := .tup [.b p.2.1, .i .i64 p.2.2]
def StoOk (s : Sto) : Prop := ∀ c h, mget s c = some h → Good h.v ∧ inI h.version
theorem okL_all {n : Nat} : ∀ (xs : List AV), okL n xs = xs.all (ok n)
  | [] => rfl
  | x :: xs => by simp [okL, okL_all xs]
theorem sto_okB (n : Nat) (s : Sto) : okB n (mapB Cel.av Hld.agg s) = true := by
  simp only [okB, mapB, okL_all, List.map_map, Bool.and_eq_true, List.all_eq_true, List.mem_map]
  refine ⟨?_, ?_⟩
  · rintro x ⟨e, _, rfl⟩; rfl
  · rintro x ⟨e, _, rfl⟩; rfl
theorem sto_ren (σ : Nat → Nat) (s : Sto) : renB σ (mapB Cel.av Hld.agg s) = mapB Cel.av Hld.agg s := by
  simp only [renB, mapB, List.map_map, ABox.map.injEq]
  apply List.map_congr_left
  intro e _
  rfl
theorem list_set_same {α : Type} {l : List α} {i : Nat} {x : α} (h : l[i]? = some x) : l.set i x = l := by
  apply List.ext_getElem?
  intro j
  rw [List.getElem?_set]
  split
  · rename_i e; subst e
    obtain ⟨h1, h2⟩ := List.getElem?_eq_some_iff.1 h
    simp [h1, h2]
  · rfl
theorem sto_empty : StoOk [] := fun c h hg => by cases hg
theorem set_ok {s : Sto} (hs : StoOk s) {c : Cel} {v : Val} (hv : v.fit) (hi : inI v.int) : StoOk (setP s c v).1 := by
  intro c' h' hg
  unfold setP at hg
  by_cases h1 : celOk c = false
  · rw [if_pos h1] at hg; exact hs _ _ hg
  rw [if_neg h1] at hg
  by_cases h2 : valRight v = false
  · rw [if_pos h2] at hg; exact hs _ _ hg
  rw [if_neg h2] at hg
  have hgood : Good v := ⟨hv, hi, by simpa using h2⟩
  cases hm : mget s c with
  | none =>
    rw [hm] at hg
    simp only at hg
    by_cases h3 : 64 ≤ s.length
    · rw [if_pos h3] at hg; exact hs _ _ hg
    · rw [if_neg h3, mput_get] at hg
      split at hg
      · cases hg; exact ⟨hgood, show inI 0 by decide⟩
      · exact hs _ _ hg
  | some h =>
    rw [hm] at hg
    simp only at hg
    by_cases h3 : valSame h.v v = true
    · rw [if_pos h3] at hg; exact hs _ _ hg
    · rw [if_neg h3, mput_get] at hg
      split at hg
      · cases hg
        have := (hs _ _ hm).2
        refine ⟨hgood, ?_⟩
        simp only
        unfold inI at *
        split <;> omega
      · exact hs _ _ hg
theorem getS_ok {s : Sto} (hs : StoOk s) : GetOk (getS s) := by
  intro c v h
  unfold getS at h
  rw [Option.map_eq_some_iff] at h
  obtain ⟨x, h1, rfl⟩ := h
  exact (hs _ _ h1).1

/-! ### The nodes of a right expression -/
theorem sh_full {ns : List Nod} (h : shOk ns = true) : ∃ fs ds, ShInv ns (fs, ds) ∧ fs.length = ns.length := by
  have key : ∀ k fs ds, ns.length - fs.length = k → ShInv ns (fs, ds) → ∃ fs ds, ShInv ns (fs, ds) ∧ fs.length = ns.length := by
    intro k
    induction k with
    | zero =>
      intro fs ds hk hi
      have : fs.length ≤ ns.length := hi.hk
      exact ⟨fs, ds, hi, by omega⟩
    | succ k ih =>
      intro fs ds hk hi
      have hn : ns[fs.length]? = some ns[fs.length] := List.getElem?_eq_getElem (by omega)
      cases hs : shapeStep fs ds ns[fs.length] with
      | none =>
        have := hi.fail hn hs
        unfold shOk at h
        rw [this] at h; cases h
      | some p =>
        obtain ⟨f, d⟩ := p
        exact ih _ _ (by simp; omega) (hi.step hn hs (step_le hi hs) (step_le2 hi hs))
  exact key _ [] [] rfl (ShInv.init ns)
theorem right_ops {ns : List Nod} (h : rightE ns = true) {i : Nat} {nd : Nod} (hn : ns[i]? = some nd) : plainOk nd = true ∧ 1 ≤ nd.op ∧ nd.op ≤ 25 ∧
    (operands nd.op = 1 ∨ operands nd.op = 2 → ∃ a : Nat, nd.a = (a : Int) ∧ a < i) ∧ (operands nd.op = 2 → ∃ b : Nat, nd.b = (b : Int) ∧ b < i) := by
  have hsh : shOk ns = true := by
    unfold rightE at h
    simp only [Bool.and_eq_true] at h
    exact h.1.1.2
  obtain ⟨fs, ds, hi, hl⟩ := sh_full hsh
  have hil := (List.getElem?_eq_some_iff.1 hn).1
  have hl2 : fs.length = ds.length := hi.hl
  have hf : fs[i]? = some fs[i] := List.getElem?_eq_getElem (by omega)
  have hd : ds[i]? = some ds[i] := List.getElem?_eq_getElem (by omega)
  obtain ⟨nd', h1, h2, h3⟩ := hi.cases hf hd
  rw [hn] at h1; obtain rfl := Option.some.inj h1
  have hop : 1 ≤ nd.op ∧ nd.op ≤ 25 := by
    have h4 : operands nd.op ≠ -1 := by rcases h3 with h3 | h3 | h3 <;> rw [h3.1] <;> decide
    unfold operands at h4
    split at h4
    · exact absurd rfl h4
    · omega
  refine ⟨h2, hop.1, hop.2, fun ho => ?_, fun ho => ?_⟩
  · rcases h3 with ⟨e, _⟩ | ⟨e, q1, d1, _, _, _, q⟩ | ⟨e, q1, f1, d1, d2, _, q2, q3, _, _, _, _, q, _⟩
    · rw [e] at ho; rcases ho with ho | ho <;> cases ho
    · exact ⟨i - 1, q, by omega⟩
    · exact ⟨f1 - 1, q, by omega⟩
  · rcases h3 with ⟨e, _⟩ | ⟨e, _⟩ | ⟨e, q1, f1, d1, d2, _, q2, q3, _, _, _, _, _, q⟩
    · rw [e] at ho; cases ho
    · rw [e] at ho; cases ho
    · exact ⟨i - 1, q, by omega⟩
theorem right_pos {ns : List Nod} (h : rightE ns = true) : 1 ≤ ns.length := by
  unfold rightE at h
  simp only [Bool.and_eq_true, decide_eq_true_eq] at h
  exact h.1.1.1.1
/-- Somebody who reckons: nodes, a scene, a store. -/
structure Mc where
  ns : List Nod
  x : Scn
  s : Sto
def Mc.b0 (m : Mc) : ABox := .cells [.l none 63 (m.ns.map Nod.av), .ptr 1 0, .s m.x.sub, .s m.x.obj, .i .i64 m.x.now, .i .i64 m.x.began]
def mb1 : ABox := .cells [.m 2]
def Mc.b2 (m : Mc) : ABox := mapB Cel.av Hld.agg m.s
theorem mc_ok (m : Mc) : [m.b0, mb1, m.b2].all (okB 3) = true := by
  show (okB 3 m.b0 && (okB 3 mb1 && (okB 3 m.b2 && true))) = true
  rw [show okB 3 m.b2 = true from sto_okB 3 m.s]
  show (okL 3 [.l none 63 (m.ns.map Nod.av), .ptr 1 0, .s m.x.sub, .s m.x.obj, .i .i64 m.x.now, .i .i64 m.x.began] && (okB 3 mb1 && (true && true))) = true
  rw [show okL 3 [.l none 63 (m.ns.map Nod.av), .ptr 1 0, .s m.x.sub, .s m.x.obj, .i .i64 m.x.now, .i .i64 m.x.began] = okLL 3 (m.ns.map Nod.av) from by simp [okL, ok]]
  rw [clean_okLL _ (nods_clean m.ns)]; rfl
end Go.Proofs.Ytlclgpiabjlpbaa.Am
