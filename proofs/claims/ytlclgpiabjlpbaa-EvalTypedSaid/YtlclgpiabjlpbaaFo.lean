/- Facts on 64-bit floats: what is reckoned of finite ones is finite or infinite, never a NaN; 0 added; whole parts. No program. -/
import Derived.Test.YtlclgpiabjlpbaaFm
namespace Go.Proofs.Ytlclgpiabjlpbaa.Fm
open Ieee

theorem nearest_rung (neg : Bool) (m : Nat) (p : Int) : D.nearest neg m p < 18446744073709551616 ∧ D.nearest neg m p % 9223372036854775808 ≤ 9218868437227405312 := by
  have hw : ∀ r, r ≤ 9218868437227405312 → D.word neg r < 18446744073709551616 ∧ D.word neg r % 9223372036854775808 ≤ 9218868437227405312 := by
    intro r hr
    unfold Format.word
    rw [sw]
    split <;> omega
  unfold Format.nearest
  split
  · exact hw 0 (by omega)
  · refine hw _ ?_
    rw [inf]
    exact Nat.min_le_right _ _
/-- A finite float is a number. -/
theorem read_num {a : Nat} (h : a % 9223372036854775808 < 9218868437227405312) : ∃ s m p, D.read a = .number s m p ∧ (m = 0 ↔ a % 9223372036854775808 = 0) := by
  by_cases c : a % 9223372036854775808 < 4503599627370496
  · exact ⟨_, _, _, read_low a c, Iff.rfl⟩
  · exact ⟨_, _, _, read_high a (by omega) h, by omega⟩
theorem add_fin {a b : Nat} (ha : a % 9223372036854775808 < 9218868437227405312) (hb : b % 9223372036854775808 < 9218868437227405312) : ∃ r, D.add a b = some r ∧ r < 18446744073709551616 ∧ r % 9223372036854775808 ≤ 9218868437227405312 := by
  obtain ⟨s, m, p, h1, _⟩ := read_num ha
  obtain ⟨t, n, q, h2, _⟩ := read_num hb
  unfold Format.add
  rw [h1, h2]
  exact ⟨_, rfl, nearest_rung _ _ _⟩
theorem sub_fin {a b : Nat} (ha : a % 9223372036854775808 < 9218868437227405312) (hb : b % 9223372036854775808 < 9218868437227405312) : ∃ r, D.sub a b = some r ∧ r < 18446744073709551616 ∧ r % 9223372036854775808 ≤ 9218868437227405312 := by
  obtain ⟨s, m, p, h1, _⟩ := read_num ha
  obtain ⟨t, n, q, h2, _⟩ := read_num hb
  unfold Format.sub
  rw [h1, h2]
  exact ⟨_, rfl, nearest_rung _ _ _⟩
theorem mul_fin {a b : Nat} (ha : a % 9223372036854775808 < 9218868437227405312) (hb : b % 9223372036854775808 < 9218868437227405312) : ∃ r, D.mul a b = some r ∧ r < 18446744073709551616 ∧ r % 9223372036854775808 ≤ 9218868437227405312 := by
  obtain ⟨s, m, p, h1, _⟩ := read_num ha
  obtain ⟨t, n, q, h2, _⟩ := read_num hb
  unfold Format.mul
  rw [h1, h2]
  exact ⟨_, rfl, nearest_rung _ _ _⟩
theorem div_fin {a b : Nat} (ha : a % 9223372036854775808 < 9218868437227405312) (hb : b % 9223372036854775808 < 9218868437227405312) (h0 : b % 9223372036854775808 ≠ 0) : ∃ r, D.div a b = some r ∧ r < 18446744073709551616 ∧ r % 9223372036854775808 ≤ 9218868437227405312 := by
  obtain ⟨s, m, p, h1, _⟩ := read_num ha
  obtain ⟨t, n, q, h2, h3⟩ := read_num hb
  have hn : n ≠ 0 := fun e => h0 (h3.1 e)
  unfold Format.div
  rw [h1, h2]
  simp only [Datum.quotient, if_neg hn, Option.map_some]
  exact ⟨_, rfl, nearest_rung _ _ _⟩
/-- 0 added to a finite float. -/
theorem add_zero (a : Nat) (ha : a < 18446744073709551616) (h : a % 9223372036854775808 < 9218868437227405312) : D.add a 0 = some (if a = 9223372036854775808 then 0 else a) := by
  have hr : D.read 0 = .number false 0 (-1074) := by rw [read_low 0 (by omega)]; rfl
  unfold Format.add
  obtain ⟨m, j, hs, hj, hm0, hn⟩ := nearest_shifted a ha h (a / 9223372036854775808 % 2 == 1)
  rw [hr, hs]
  simp only [Datum.sum]
  rw [Int.min_eq_right hj, signed_zero, Int.add_zero]
  by_cases c : a % 9223372036854775808 = 0
  · have hm := hm0.2 c
    subst hm
    have : a = 0 ∨ a = 9223372036854775808 := by omega
    rw [signed_zero, if_pos rfl]
    rcases this with rfl | rfl <;> rfl
  · have hm : m ≠ 0 := fun e => c (hm0.1 e)
    have hne : ¬ a = 9223372036854775808 := by omega
    rw [if_neg hne]
    have hp : 0 < m <<< (j - -1074).toNat := by rw [Nat.shiftLeft_eq]; exact Nat.mul_pos (Nat.pos_of_ne_zero hm) (Nat.two_pow_pos _)
    generalize hM : m <<< (j - -1074).toNat = M at *
    have hsg : signed (a / 9223372036854775808 % 2 == 1) m (j - -1074).toNat = if (a / 9223372036854775808 % 2 == 1) = true then -(M : Int) else M := by
      unfold signed; rw [hM]
    rw [hsg]
    have hw : D.word (a / 9223372036854775808 % 2 == 1) (a % 9223372036854775808) = a := word_of a ha
    by_cases cs : (a / 9223372036854775808 % 2 == 1) = true
    · rw [if_pos cs, if_neg (by omega), show decide (-(M : Int) < 0) = true by simp; omega, show (-(M : Int)).natAbs = M by omega]
      rw [cs] at hn hw
      show some (D.nearest true M (-1074)) = _
      rw [hn, hw]
    · rw [if_neg cs, if_neg (by omega), show decide ((M : Int) < 0) = false by simp, show (M : Int).natAbs = M by omega]
      rw [Bool.not_eq_true] at cs
      rw [cs] at hn hw
      show some (D.nearest false M (-1074)) = _
      rw [hn, hw]
theorem isRate_lt {a : Nat} (h : isRate a = true) : a % 9223372036854775808 < 9218868437227405312 ∧ a ≠ 9223372036854775808 := by
  simpa [isRate] using h
/-- What is told of a result: itself, 0 in the place of -0; nothing, if it is infinite. -/
def toldW (r : Nat) : Nat × Bool := if r % 9223372036854775808 = 9218868437227405312 then (0, false) else (if r = 9223372036854775808 then 0 else r, true)
theorem toldW_rate {r : Nat} (hr : r % 9223372036854775808 ≤ 9218868437227405312) (h : (toldW r).2 = true) : isRate (toldW r).1 = true := by
  unfold toldW at h ⊢
  split
  · rename_i e; rw [if_pos e] at h; cases h
  · simp only
    split
    · decide
    · simp [isRate]; omega
theorem toldW_lt {r : Nat} (hr : r < 18446744073709551616) : (toldW r).1 < 18446744073709551616 := by
  unfold toldW
  split
  · simp
  · simp only; split <;> omega
def opW (f : Nat → Nat → Option Nat) (a b : Nat) : Nat × Bool := toldW ((f a b).getD 0)
/-- Of two rates: sum, difference, product, quotient. -/
def addW (a b : Nat) : Nat × Bool := opW D.add a b
def subW (a b : Nat) : Nat × Bool := opW D.sub a b
def mulW (a b : Nat) : Nat × Bool := opW D.mul a b
def divW (a b : Nat) : Nat × Int := if b % 9223372036854775808 = 0 then (0, 4) else if (opW D.div a b).2 = true then ((opW D.div a b).1, 0) else (0, 5)
theorem opW_ok {f : Nat → Nat → Option Nat} {a b r : Nat} (h : f a b = some r) (h1 : r < 18446744073709551616) (h2 : r % 9223372036854775808 ≤ 9218868437227405312) : (opW f a b).1 < 18446744073709551616 ∧ ((opW f a b).2 = true → isRate (opW f a b).1 = true) := by
  unfold opW
  rw [h]
  exact ⟨toldW_lt h1, fun q => toldW_rate h2 q⟩
theorem addW_ok {a b : Nat} (ha : isRate a = true) (hb : isRate b = true) : (addW a b).1 < 18446744073709551616 ∧ ((addW a b).2 = true → isRate (addW a b).1 = true) := by
  obtain ⟨r, h, h1, h2⟩ := add_fin (isRate_fin ha) (isRate_fin hb)
  exact opW_ok h h1 h2
theorem subW_ok {a b : Nat} (ha : isRate a = true) (hb : isRate b = true) : (subW a b).1 < 18446744073709551616 ∧ ((subW a b).2 = true → isRate (subW a b).1 = true) := by
  obtain ⟨r, h, h1, h2⟩ := sub_fin (isRate_fin ha) (isRate_fin hb)
  exact opW_ok h h1 h2
theorem mulW_ok {a b : Nat} (ha : isRate a = true) (hb : isRate b = true) : (mulW a b).1 < 18446744073709551616 ∧ ((mulW a b).2 = true → isRate (mulW a b).1 = true) := by
  obtain ⟨r, h, h1, h2⟩ := mul_fin (isRate_fin ha) (isRate_fin hb)
  exact opW_ok h h1 h2
theorem divW_ok {a b : Nat} (ha : isRate a = true) (hb : isRate b = true) : (divW a b).1 < 18446744073709551616 ∧ ((divW a b).2 = 0 → isRate (divW a b).1 = true) ∧ ((divW a b).2 = 0 ∨ (divW a b).2 = 4 ∨ (divW a b).2 = 5) := by
  unfold divW
  split
  · exact ⟨by decide, (fun q => absurd q (by decide)), by decide⟩
  · rename_i h0
    obtain ⟨r, h, h1, h2⟩ := div_fin (isRate_fin ha) (isRate_fin hb) h0
    have := opW_ok h h1 h2
    split
    · rename_i hq; exact ⟨this.1, fun _ => this.2 hq, by simp⟩
    · exact ⟨by decide, (fun q => absurd q (by decide)), by decide⟩
/-- A whole number as a rate. -/
def ofW (n : Int) : Nat := D.nearest (decide (n < 0)) n.natAbs 0
theorem cut_le (way : Toward) (neg : Bool) (n drop : Nat) : way.cut neg n drop ≤ n / (1 <<< min drop (n.log2 + 2)) + 1 := by
  unfold Toward.cut
  have : ∀ b : Bool, b.toNat ≤ 1 := fun b => by cases b <;> decide
  exact Nat.add_le_add_left (this _) _
theorem ofW_ok (n : Int) (h : -9223372036854775808 ≤ n ∧ n ≤ 9223372036854775807) : ofW n < 18446744073709551616 ∧ isRate (ofW n) = true := by
  refine ⟨(nearest_rung _ _ _).1, ?_⟩
  unfold ofW Format.nearest
  split
  · rename_i h0
    have : n = 0 := by omega
    subst this
    decide
  · rename_i h0
    generalize hm : n.natAbs = m at *
    have hm64 : m < 2 ^ 64 := by simp only [Nat.reducePow]; omega
    have hl := log2_lt h0 hm64
    have hlt : m < 2 ^ (m.log2 + 1) := Nat.lt_log2_self
    simp only [fb, least, bin, inf]
    generalize hL : (0 + (m.log2 : Int) - (52 : Nat)) = L0
    have hLm : max L0 (-1074) = L0 := by omega
    rw [hLm]
    have hk : Toward.even.cut (decide (n < 0)) (m <<< (0 - L0).toNat) (L0 - 0).toNat ≤ 9007199254740993 := by
      refine Nat.le_trans (cut_le _ _ _ _) ?_
      rcases Nat.lt_or_ge m.log2 53 with q | q
      · have h1 : (L0 - 0).toNat = 0 := by omega
        have h2 : (0 - L0).toNat = 52 - m.log2 := by omega
        rw [h1, h2, Nat.zero_min, Nat.shiftLeft_zero, Nat.div_one, Nat.shiftLeft_eq]
        have h3 : m * 2 ^ (52 - m.log2) < 2 ^ (m.log2 + 1) * 2 ^ (52 - m.log2) := Nat.mul_lt_mul_of_pos_right hlt (Nat.two_pow_pos _)
        rw [← Nat.pow_add, show m.log2 + 1 + (52 - m.log2) = 53 by omega] at h3
        have h4 : (2 : Nat) ^ 53 = 9007199254740992 := by decide
        omega
      · have h1 : (L0 - 0).toNat = m.log2 - 52 := by omega
        have h2 : (0 - L0).toNat = 0 := by omega
        rw [h1, h2, Nat.shiftLeft_zero, Nat.min_eq_left (by omega), Nat.one_shiftLeft]
        have h3 : m / 2 ^ (m.log2 - 52) < 2 ^ 53 := by
          rw [Nat.div_lt_iff_lt_mul (Nat.two_pow_pos _), ← Nat.pow_add, show 53 + (m.log2 - 52) = m.log2 + 1 by omega]
          exact hlt
        have h4 : (2 : Nat) ^ 53 = 9007199254740992 := by decide
        omega
    generalize Toward.even.cut (decide (n < 0)) (m <<< (0 - L0).toNat) (L0 - 0).toNat = K at hk
    generalize hR : (L0 - -1074).toNat = R
    have hR1 : 1022 ≤ R ∧ R ≤ 1085 := by omega
    have hR2 : R * 4503599627370496 ≤ 1085 * 4503599627370496 := Nat.mul_le_mul_right _ hR1.2
    have hR3 : 1022 * 4503599627370496 ≤ R * 4503599627370496 := Nat.mul_le_mul_right _ hR1.1
    obtain ⟨Y, hY⟩ : ∃ Y, R * 4503599627370496 = Y := ⟨_, rfl⟩
    rw [hY] at hR2 hR3
    rw [hY]
    have hmin : min (Y + K) 9218868437227405312 = Y + K := Nat.min_eq_left (by omega)
    rw [hmin]
    unfold Format.word
    rw [sw]
    unfold isRate
    have hZ : 4503599627370496 ≤ Y + K ∧ Y + K < 9218868437227405312 := ⟨by omega, by omega⟩
    obtain ⟨Z, hZ'⟩ : ∃ Z, Y + K = Z := ⟨_, rfl⟩
    rw [hZ'] at hZ
    rw [hZ']
    simp only [Bool.and_eq_true, decide_eq_true_eq]
    split
    · exact ⟨by omega, by omega⟩
    · exact ⟨by omega, by omega⟩
/-- The whole part, downwards. -/
def floorW (a : Nat) : Nat := D.write ((D.read a).integral .down)
theorem floorW_rung {a : Nat} (h : a % 9223372036854775808 < 9218868437227405312) : floorW a < 18446744073709551616 ∧ floorW a % 9223372036854775808 ≤ 9218868437227405312 := by
  obtain ⟨s, m, p, h1, _⟩ := read_num h
  unfold floorW
  rw [h1]
  exact nearest_rung _ _ _
abbrev minF : Nat := 14114281232179134464
abbrev maxF : Nat := 4890909195324358656
theorem V_min : V minF = -(9223372036854775808 * (2 ^ 1074 : Nat)) := by decide +kernel
theorem V_max : V maxF = 9223372036854775808 * (2 ^ 1074 : Nat) := by decide +kernel
def outB (w : Nat) : Bool := (D.order w minF == some .lt) || (D.order w maxF == some .gt || D.order w maxF == some .eq)
theorem zero_cut (s : Bool) (n k : Nat) : Toward.zero.cut s n k = n / (1 <<< min k (n.log2 + 2)) := by
  unfold Toward.cut; simp
theorem zero_cut_le (s : Bool) (n k : Nat) : Toward.zero.cut s n k * 2 ^ k ≤ n := by
  rw [zero_cut, Nat.one_shiftLeft]
  rcases Nat.lt_or_ge (n.log2 + 2) k with h | h
  · rw [Nat.min_eq_right (by omega)]
    have : n < 2 ^ (n.log2 + 2) := Nat.lt_of_lt_of_le Nat.lt_log2_self (Nat.pow_le_pow_right (by omega) (by omega))
    rw [Nat.div_eq_of_lt this]; omega
  · rw [Nat.min_eq_left h]
    exact Nat.div_mul_le_self _ _
theorem pow_some (k : Nat) : ∃ P, (2 ^ k : Nat) = P ∧ 0 < P := ⟨_, rfl, Nat.two_pow_pos k⟩
theorem toInt_in {w : Nat} (hw : w % 9223372036854775808 ≤ 9218868437227405312) (ho : outB w = false) : ∃ n, (D.read w).toInt .zero = some n ∧ -9223372036854775808 ≤ n ∧ n ≤ 9223372036854775807 := by
  have hm : minF % 9223372036854775808 < 9218868437227405312 := by decide
  have hM : maxF % 9223372036854775808 < 9218868437227405312 := by decide
  unfold outB at ho
  simp only [Bool.or_eq_false_iff] at ho
  rcases Nat.lt_or_ge (w % 9223372036854775808) 9218868437227405312 with hf | hf
  · obtain ⟨P, hP, hp⟩ : ∃ P, (2 ^ 1074 : Nat) = P ∧ 0 < P := pow_some 1074
    rw [order_fin w minF hf hm, order_fin w maxF hf hM, V_min, V_max, hP] at ho
    obtain ⟨m, j, hr, hj, hv⟩ := read_fin w hf
    generalize (w / 9223372036854775808 % 2 == 1) = s at hr hv
    have h1 : -(9223372036854775808 * (P : Int)) ≤ V w := by
      rcases Int.lt_trichotomy (V w) (-(9223372036854775808 * (P : Int))) with q | q | q
      · rw [Int.compare_eq_lt.2 q] at ho; simp at ho
      · omega
      · omega
    have h2 : V w < 9223372036854775808 * (P : Int) := by
      rcases Int.lt_trichotomy (V w) (9223372036854775808 * (P : Int)) with q | q | q
      · exact q
      · rw [Int.compare_eq_eq.2 q] at ho; simp at ho
      · rw [Int.compare_eq_gt.2 q] at ho; simp at ho
    refine ⟨signed s (Toward.zero.cut s (m <<< j.toNat) (-j).toNat) 0, by rw [hr]; rfl, ?_⟩
    have hc := zero_cut_le s (m <<< j.toNat) (-j).toNat
    generalize Toward.zero.cut s (m <<< j.toNat) (-j).toNat = c at hc
    have hc2 : c * P ≤ m * 2 ^ (j + 1074).toNat := by
      rw [← hP]
      rw [Nat.shiftLeft_eq] at hc
      by_cases q : j < 0
      · have e1 : j.toNat = 0 := by omega
        have e2 : (1074 : Nat) = (-j).toNat + (j + 1074).toNat := by omega
        rw [e1, Nat.pow_zero, Nat.mul_one] at hc
        rw [e2, Nat.pow_add, ← Nat.mul_assoc]
        exact Nat.mul_le_mul_right _ hc
      · have e1 : (-j).toNat = 0 := by omega
        have e2 : (j + 1074).toNat = j.toNat + 1074 := by omega
        rw [e1, Nat.pow_zero, Nat.mul_one] at hc
        rw [e2, Nat.pow_add, ← Nat.mul_assoc]
        exact Nat.mul_le_mul_right _ hc
    unfold signed at hv ⊢
    simp only [Nat.shiftLeft_eq, Nat.pow_zero, Nat.mul_one] at hv ⊢
    generalize m * 2 ^ (j + 1074).toNat = M at *
    cases s
    · simp only [Bool.false_eq_true, if_false] at hv ⊢
      have h3 : c * P < 9223372036854775808 * P := by
        have : (M : Int) < 9223372036854775808 * (P : Int) := by rw [hv]; exact h2
        omega
      have h4 : c < 9223372036854775808 := Nat.lt_of_mul_lt_mul_right h3
      omega
    · simp only [if_true] at hv ⊢
      have h3 : c * P ≤ 9223372036854775808 * P := by
        have : -(9223372036854775808 * (P : Int)) ≤ -(M : Int) := by rw [hv]; exact h1
        omega
      have h4 : c ≤ 9223372036854775808 := Nat.le_of_mul_le_mul_right h3 hp
      omega
  · have he : w % 9223372036854775808 = 9218868437227405312 := by omega
    exfalso
    have hrM : D.read maxF = .number false 4503599627370496 11 := by decide +kernel
    have hrm : D.read minF = .number true 4503599627370496 11 := by decide +kernel
    unfold Format.order at ho
    rw [read_inf w he, hrM, hrm] at ho
    simp only [Datum.order] at ho
    by_cases hq : w / 9223372036854775808 % 2 = 1 <;> simp [hq] at ho
/-- The whole part of a rate, if it is a whole number of 64 bits. -/
def floorP (r : Nat) : Int × Bool := if outB (floorW r) = true then (0, false) else match (D.read (floorW r)).toInt .zero with
  | some n => (n, true)
  | none => (0, false)
theorem floorP_in {r : Nat} (h : r % 9223372036854775808 < 9218868437227405312) (ho : outB (floorW r) = false) : ∃ n, (D.read (floorW r)).toInt .zero = some n ∧ floorP r = (n, true) ∧ -9223372036854775808 ≤ n ∧ n ≤ 9223372036854775807 := by
  obtain ⟨n, h1, h2⟩ := toInt_in (floorW_rung h).2 ho
  exact ⟨n, h1, by unfold floorP; rw [if_neg (by rw [ho]; simp), h1], h2⟩
theorem floorP_out {r : Nat} (ho : outB (floorW r) = true) : floorP r = (0, false) := by unfold floorP; rw [if_pos ho]
end Go.Proofs.Ytlclgpiabjlpbaa.Fm
