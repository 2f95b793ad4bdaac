/- Plain facts on floats of 64 bits: reading a word and writing it gives that word; which words are rates; the contrary of a rate. -/
import Derived.Laws.FloatArith
namespace Go.Proofs.Ytlclgpiabjlpbaa.Fm
open Ieee

abbrev D : Format := Ieee.double
theorem sw : D.signWeight = 9223372036854775808 := rfl
theorem bin : D.binade = 4503599627370496 := rfl
theorem inf : D.infRung = 9218868437227405312 := by decide +kernel
theorem least : D.leastPlace = -1074 := by decide +kernel
theorem fb : D.fractionBits = 52 := rfl

theorem log2_lt {n k : Nat} (h0 : n ≠ 0) (h : n < 2 ^ k) : n.log2 < k := (Nat.log2_lt h0).2 h
theorem log2_ge {n k : Nat} (h0 : n ≠ 0) (h : 2 ^ k ≤ n) : k ≤ n.log2 := (Nat.le_log2 h0).2 h

/-- what is cut off without a rest -/
theorem cut_exact (way : Toward) (neg : Bool) (m k : Nat) : way.cut neg (m <<< k) k = m := by
  unfold Toward.cut
  by_cases hm : m = 0
  · subst hm; cases way <;> simp
  have e : min k ((m <<< k).log2 + 2) = k := by
    rw [Nat.shiftLeft_eq]
    have h1 : 2 ^ k ≤ m * 2 ^ k := Nat.le_mul_of_pos_left _ (Nat.pos_of_ne_zero hm)
    have h2 : m * 2 ^ k ≠ 0 := Nat.ne_of_gt (Nat.lt_of_lt_of_le (Nat.two_pow_pos k) h1)
    have := log2_ge h2 h1
    omega
  have hp : 0 < 2 ^ k := Nat.two_pow_pos k
  dsimp only
  rw [e]
  simp only [Nat.shiftLeft_eq, Nat.one_mul, Nat.mul_div_cancel _ hp, Nat.mul_mod_left]
  cases way <;> simp

/-- the word of a finite rung's own number, shifted by up to what its place allows -/
theorem nearest_low (neg : Bool) (m : Nat) (h : m < 4503599627370496) : D.nearest neg m (-1074) = D.word neg m := by
  unfold Format.nearest
  by_cases h0 : m = 0
  · rw [if_pos h0, h0]
  rw [if_neg h0]
  have hl : m.log2 < 52 := log2_lt h0 (by simpa using h)
  have e : max ((-1074 : Int) + (m.log2 : Nat) - (D.fractionBits : Nat)) D.leastPlace = -1074 := by rw [least, fb]; omega
  dsimp only
  rw [e, least]
  have := cut_exact .even neg m 0
  simp only [Nat.shiftLeft_zero] at this
  rw [show ((-1074 : Int) - -1074).toNat = 0 from rfl, Nat.shiftLeft_zero, this, Nat.zero_mul, Nat.zero_add, inf, Nat.min_eq_left (by omega)]

theorem nearest_high (neg : Bool) (e f k : Nat) (hf : f < 4503599627370496) (he : e < 2046) (hk : k ≤ e) :
    D.nearest neg ((4503599627370496 + f) <<< k) (-1074 + e - k : Int) = D.word neg ((e + 1) * 4503599627370496 + f) := by
  have hp : 0 < 2 ^ k := Nat.two_pow_pos k
  have hm : (4503599627370496 + f) <<< k = (4503599627370496 + f) * 2 ^ k := Nat.shiftLeft_eq ..
  have h0 : (4503599627370496 + f) <<< k ≠ 0 := by rw [hm]; exact Nat.ne_of_gt (Nat.mul_pos (by omega) hp)
  have hlog : ((4503599627370496 + f) <<< k).log2 = 52 + k := by
    have a1 : 2 ^ (52 + k) ≤ (4503599627370496 + f) <<< k := by
      rw [hm, Nat.pow_add]; exact Nat.mul_le_mul_right _ (by omega)
    have a2 : (4503599627370496 + f) <<< k < 2 ^ (53 + k) := by
      rw [hm, Nat.pow_add]; exact Nat.mul_lt_mul_of_pos_right (by omega) hp
    have := log2_ge h0 a1
    have := log2_lt h0 a2
    omega
  unfold Format.nearest
  rw [if_neg h0]
  have el : max ((-1074 + e - k : Int) + (((4503599627370496 + f) <<< k).log2 : Nat) - (D.fractionBits : Nat)) D.leastPlace = -1074 + e := by
    rw [least, fb, hlog]; omega
  dsimp only
  rw [el, least]
  rw [show ((-1074 + e - k : Int) - (-1074 + e)).toNat = 0 by omega, Nat.shiftLeft_zero, show ((-1074 + e : Int) - (-1074 + e - k)).toNat = k by omega, cut_exact,
    show ((-1074 + e : Int) - -1074).toNat = e by omega, inf, bin, Nat.min_eq_left (by omega),
    show e * 4503599627370496 + (4503599627370496 + f) = (e + 1) * 4503599627370496 + f by omega]

/-- how a word of a finite rung reads -/
theorem read_low (a : Nat) (h : a % 9223372036854775808 < 4503599627370496) :
    D.read a = .number (a / 9223372036854775808 % 2 == 1) (a % 9223372036854775808) (-1074) := by
  unfold Format.read
  simp only [sw, bin, least, if_pos h]

theorem read_high (a : Nat) (h : 4503599627370496 ≤ a % 9223372036854775808) (h2 : a % 9223372036854775808 < 9218868437227405312) :
    D.read a = .number (a / 9223372036854775808 % 2 == 1) (4503599627370496 + a % 9223372036854775808 % 4503599627370496) (-1074 + (a % 9223372036854775808 / 4503599627370496 - 1 : Nat)) := by
  unfold Format.read
  simp only [sw, bin, least, inf]
  rw [if_neg (by omega), if_pos h2]

theorem read_inf (a : Nat) (h : a % 9223372036854775808 = 9218868437227405312) : D.read a = .infinity (a / 9223372036854775808 % 2 == 1) := by
  unfold Format.read
  simp only [sw, bin, inf]
  rw [if_neg (by omega), if_neg (by omega), if_pos h]

theorem read_nan (a : Nat) (h : 9218868437227405312 < a % 9223372036854775808) :
    D.read a = .nan (a / 9223372036854775808 % 2 == 1) (a % 9223372036854775808 - 9218868437227405312) := by
  unfold Format.read
  simp only [sw, bin, inf]
  rw [if_neg (by omega), if_neg (by omega), if_neg (by omega)]

theorem word_of (a : Nat) (h : a < 18446744073709551616) : D.word (a / 9223372036854775808 % 2 == 1) (a % 9223372036854775808) = a := by
  unfold Format.word
  rw [sw]
  by_cases c : a < 9223372036854775808
  · rw [if_neg (by simp; omega)]; omega
  · rw [if_pos (by simp; omega)]; omega

/-- reading and writing back -/
theorem write_read (a : Nat) (h : a < 18446744073709551616) (hf : a % 9223372036854775808 < 9218868437227405312) : D.write (D.read a) = a := by
  by_cases c : a % 9223372036854775808 < 4503599627370496
  · rw [read_low a c]
    show D.nearest _ _ _ = a
    rw [nearest_low _ _ c, word_of a h]
  · rw [read_high a (by omega) hf]
    show D.nearest _ _ _ = a
    have e := nearest_high (a / 9223372036854775808 % 2 == 1) (a % 9223372036854775808 / 4503599627370496 - 1) (a % 9223372036854775808 % 4503599627370496) 0 (by omega) (by omega) (by omega)
    rw [Nat.shiftLeft_zero] at e
    rw [show ((-1074 : Int) + (a % 9223372036854775808 / 4503599627370496 - 1 : Nat)) = -1074 + (a % 9223372036854775808 / 4503599627370496 - 1 : Nat) - (0 : Nat) by omega, e]
    rw [show (a % 9223372036854775808 / 4503599627370496 - 1 + 1) * 4503599627370496 + a % 9223372036854775808 % 4503599627370496 = a % 9223372036854775808 by omega, word_of a h]

/-- the same number told at the least place -/
theorem nearest_shifted (a : Nat) (_h : a < 18446744073709551616) (hf : a % 9223372036854775808 < 9218868437227405312) (neg : Bool) :
    ∃ m j, D.read a = .number (a / 9223372036854775808 % 2 == 1) m j ∧ (-1074 : Int) ≤ j ∧ (m = 0 ↔ a % 9223372036854775808 = 0) ∧
      D.nearest neg (m <<< (j - -1074).toNat) (-1074) = D.word neg (a % 9223372036854775808) := by
  by_cases c : a % 9223372036854775808 < 4503599627370496
  · exact ⟨_, _, read_low a c, by omega, Iff.rfl, by rw [show ((-1074 : Int) - -1074).toNat = 0 from rfl, Nat.shiftLeft_zero, nearest_low _ _ c]⟩
  · refine ⟨_, _, read_high a (by omega) hf, by omega, by omega, ?_⟩
    have e := nearest_high neg (a % 9223372036854775808 / 4503599627370496 - 1) (a % 9223372036854775808 % 4503599627370496) (a % 9223372036854775808 / 4503599627370496 - 1) (by omega) (by omega) (by omega)
    rw [show ((-1074 : Int) + (a % 9223372036854775808 / 4503599627370496 - 1 : Nat) - (a % 9223372036854775808 / 4503599627370496 - 1 : Nat)) = -1074 by omega] at e
    rw [show ((-1074 : Int) + (a % 9223372036854775808 / 4503599627370496 - 1 : Nat) - -1074).toNat = a % 9223372036854775808 / 4503599627370496 - 1 by omega, e,
      show (a % 9223372036854775808 / 4503599627370496 - 1 + 1) * 4503599627370496 + a % 9223372036854775808 % 4503599627370496 = a % 9223372036854775808 by omega]

/-- is a word a rate? -/
def isRate (a : Nat) : Bool := decide (a % 9223372036854775808 < 9218868437227405312) && decide (a ≠ 9223372036854775808)

theorem signed_self (s : Bool) (m k : Nat) : signed s m k + signed (!s) m k = 0 := by cases s <;> simp [signed] <;> omega
theorem signed_zero (s : Bool) (k : Nat) : signed s 0 k = 0 := by cases s <;> simp [signed]

/-- order of a number with itself -/
theorem order_self (a : Nat) : (D.order a a == some .eq) = !decide (9218868437227405312 < a % 9223372036854775808) := by
  unfold Format.order
  by_cases c1 : a % 9223372036854775808 < 9218868437227405312
  · obtain ⟨m, j, hr, -⟩ : ∃ m j, D.read a = .number (a / 9223372036854775808 % 2 == 1) m j ∧ True := by
      by_cases c : a % 9223372036854775808 < 4503599627370496
      · exact ⟨_, _, read_low a c, trivial⟩
      · exact ⟨_, _, read_high a (by omega) c1, trivial⟩
    rw [hr]
    have hn : ¬ 9218868437227405312 < a % 9223372036854775808 := by omega
    simp [Datum.order, hn]
  by_cases c2 : a % 9223372036854775808 = 9218868437227405312
  · rw [read_inf a c2]
    have hn : ¬ 9218868437227405312 < a % 9223372036854775808 := by omega
    simp [Datum.order, hn]
  · have hn : 9218868437227405312 < a % 9223372036854775808 := by omega
    rw [read_nan a hn]
    simp [Datum.order, hn]

/-- the magnitude of a finite rung, in units of the least place -/
def N (r : Nat) : Nat := if r < 4503599627370496 then r else (4503599627370496 + r % 4503599627370496) * 2 ^ (r / 4503599627370496 - 1)
theorem N_mono {r s : Nat} (h : r < s) : N r < N s := by
  unfold N
  by_cases c2 : s < 4503599627370496
  · rw [if_pos c2, if_pos (by omega)]; exact h
  rw [if_neg c2]
  have p2 : 0 < 2 ^ (s / 4503599627370496 - 1) := Nat.two_pow_pos _
  by_cases c1 : r < 4503599627370496
  · rw [if_pos c1]
    have : (4503599627370496 + s % 4503599627370496) * 1 ≤ (4503599627370496 + s % 4503599627370496) * 2 ^ (s / 4503599627370496 - 1) := Nat.mul_le_mul_left _ p2
    omega
  rw [if_neg c1]
  by_cases c3 : r / 4503599627370496 = s / 4503599627370496
  · rw [c3]
    exact Nat.mul_lt_mul_of_pos_right (by omega) p2
  · have hle : r / 4503599627370496 - 1 + 1 ≤ s / 4503599627370496 - 1 := by omega
    have h1 : (4503599627370496 + r % 4503599627370496) * 2 ^ (r / 4503599627370496 - 1) < (2 * 4503599627370496) * 2 ^ (r / 4503599627370496 - 1) :=
      Nat.mul_lt_mul_of_pos_right (by omega) (Nat.two_pow_pos _)
    have h2 : (2 * 4503599627370496) * 2 ^ (r / 4503599627370496 - 1) = 4503599627370496 * 2 ^ (r / 4503599627370496 - 1 + 1) := by
      rw [Nat.pow_succ]; generalize 2 ^ (r / 4503599627370496 - 1) = q; omega
    have h3 : 4503599627370496 * 2 ^ (r / 4503599627370496 - 1 + 1) ≤ 4503599627370496 * 2 ^ (s / 4503599627370496 - 1) := Nat.mul_le_mul_left _ (Nat.pow_le_pow_right (by omega) hle)
    have h4 : 4503599627370496 * 2 ^ (s / 4503599627370496 - 1) ≤ (4503599627370496 + s % 4503599627370496) * 2 ^ (s / 4503599627370496 - 1) := Nat.mul_le_mul_right _ (by omega)
    omega
theorem N_zero : N 0 = 0 := rfl
theorem N_eq_zero {r : Nat} : N r = 0 ↔ r = 0 := by
  constructor
  · intro h
    rcases Nat.eq_zero_or_pos r with h0 | h0
    · exact h0
    · have := N_mono h0; omega
  · intro h; rw [h]; rfl
theorem N_inj {r s : Nat} : N r = N s ↔ r = s := by
  constructor
  · intro h
    rcases Nat.lt_trichotomy r s with c | c | c
    · have := N_mono c; omega
    · exact c
    · have := N_mono c; omega
  · intro h; rw [h]
theorem N_lt {r s : Nat} : N r < N s ↔ r < s := by
  constructor
  · intro h
    rcases Nat.lt_trichotomy r s with c | c | c
    · exact c
    · subst c; omega
    · have := N_mono c; omega
  · exact N_mono

/-- the number that a finite word says, in units of the least place -/
def V (a : Nat) : Int := signed (a / 9223372036854775808 % 2 == 1) (N (a % 9223372036854775808)) 0

theorem signed_scale (s : Bool) (m k c : Nat) : signed s m (k + c) = signed s m k * (2 ^ c : Nat) := by
  unfold signed
  simp only [Nat.shiftLeft_eq, Nat.pow_add]
  cases s <;> simp [Int.natCast_mul, Int.mul_assoc, Int.neg_mul]

/-- a finite word reads as its number, shifted -/
theorem read_fin (a : Nat) (h : a % 9223372036854775808 < 9218868437227405312) :
    ∃ m j, D.read a = .number (a / 9223372036854775808 % 2 == 1) m j ∧ (-1074 : Int) ≤ j ∧ signed (a / 9223372036854775808 % 2 == 1) m (j + 1074).toNat = V a := by
  unfold V N
  by_cases c : a % 9223372036854775808 < 4503599627370496
  · refine ⟨_, _, read_low a c, by omega, ?_⟩
    rw [if_pos c]; rfl
  · refine ⟨_, _, read_high a (by omega) h, by omega, ?_⟩
    rw [if_neg c]
    rw [show ((-1074 : Int) + (a % 9223372036854775808 / 4503599627370496 - 1 : Nat) + 1074).toNat = a % 9223372036854775808 / 4503599627370496 - 1 by omega]
    unfold signed
    simp only [Nat.shiftLeft_eq, Nat.pow_zero, Nat.mul_one]

theorem compare_scale (x y : Int) (c : Nat) (hc : 0 < c) : compare (x * c) (y * c) = compare x y := by
  have hc' : (0 : Int) < c := by omega
  rcases Int.lt_trichotomy x y with h | h | h
  · rw [Int.compare_eq_lt.2 h, Int.compare_eq_lt.2 (Int.mul_lt_mul_of_pos_right h hc')]
  · subst h; simp
  · rw [Int.compare_eq_gt.2 h, Int.compare_eq_gt.2 (Int.mul_lt_mul_of_pos_right h hc')]

/-- finite words stand to each other as their numbers do -/
theorem order_fin (a b : Nat) (ha : a % 9223372036854775808 < 9218868437227405312) (hb : b % 9223372036854775808 < 9218868437227405312) :
    D.order a b = some (compare (V a) (V b)) := by
  obtain ⟨m, i, hr, hi, hv⟩ := read_fin a ha
  obtain ⟨n, j, hs, hj, hu⟩ := read_fin b hb
  unfold Format.order
  rw [hr, hs]
  simp only [Datum.order]
  rw [← hv, ← hu, show (i + 1074).toNat = (i - min i j).toNat + (min i j + 1074).toNat by omega, show (j + 1074).toNat = (j - min i j).toNat + (min i j + 1074).toNat by omega,
    signed_scale, signed_scale, compare_scale _ _ _ (Nat.two_pow_pos _)]

theorem V_eq (a : Nat) : V a = if a / 9223372036854775808 % 2 = 1 then -(N (a % 9223372036854775808) : Int) else (N (a % 9223372036854775808) : Int) := by
  unfold V signed
  simp only [Nat.shiftLeft_zero]
  by_cases c : a / 9223372036854775808 % 2 = 1 <;> simp [c]
theorem V_zero : V 0 = 0 := rfl

theorem order_zero (a : Nat) : (D.order a 0 == some .eq) = decide (a % 9223372036854775808 = 0) := by
  by_cases c1 : a % 9223372036854775808 < 9218868437227405312
  · rw [order_fin a 0 c1 (by omega), V_zero, V_eq]
    have := @N_eq_zero (a % 9223372036854775808)
    by_cases c : a % 9223372036854775808 = 0
    · rw [c, N_zero]; simp
    · have hN : N (a % 9223372036854775808) ≠ 0 := fun h => c (this.1 h)
      simp only [c, decide_false]
      rw [beq_eq_false_iff_ne]
      intro h
      have h := Int.compare_eq_eq.1 (Option.some.inj h)
      split at h <;> omega
  have hr : D.read 0 = .number false 0 (-1074) := by rw [read_low 0 (by omega)]; rfl
  have hne : ¬ a % 9223372036854775808 = 0 := by omega
  unfold Format.order
  rw [hr]
  by_cases c2 : a % 9223372036854775808 = 9218868437227405312
  · rw [read_inf a c2]
    simp only [Datum.order, hne, decide_false]
    split <;> rfl
  · rw [read_nan a (by omega)]
    simp [Datum.order, hne]

theorem order_max (a : Nat) : (D.order (a % 9223372036854775808) 9218868437227405311 == some .gt) = decide (a % 9223372036854775808 = 9218868437227405312) := by
  have hm : a % 9223372036854775808 % 9223372036854775808 = a % 9223372036854775808 := by omega
  by_cases c1 : a % 9223372036854775808 < 9218868437227405312
  · rw [order_fin _ _ (by omega) (by omega), V_eq, V_eq, hm]
    rw [if_neg (by omega), if_neg (by omega), show (9218868437227405311 : Nat) % 9223372036854775808 = 9218868437227405311 by omega]
    have hne : ¬ a % 9223372036854775808 = 9218868437227405312 := by omega
    simp only [hne, decide_false]
    rw [beq_eq_false_iff_ne]
    intro h
    have h := Int.compare_eq_gt.1 (Option.some.inj h)
    have := (@N_lt 9218868437227405311 (a % 9223372036854775808)).1 (by omega)
    omega
  have hr : D.read 9218868437227405311 = .number false 9007199254740991 971 := by decide +kernel
  unfold Format.order
  rw [hr]
  by_cases c2 : a % 9223372036854775808 = 9218868437227405312
  · rw [read_inf (a % 9223372036854775808) (by omega)]
    have : a % 9223372036854775808 / 9223372036854775808 % 2 = 0 := by omega
    simp [Datum.order, c2]
  · rw [read_nan (a % 9223372036854775808) (by omega)]
    simp [Datum.order, c2]

theorem xor_sign (a : Nat) (h : a < 18446744073709551616) : a ^^^ 9223372036854775808 = if a < 9223372036854775808 then a + 9223372036854775808 else a - 9223372036854775808 := by
  have hm : (a ^^^ 9223372036854775808) % 9223372036854775808 = a % 9223372036854775808 := by
    have := Nat.xor_mod_two_pow (a := a) (b := 9223372036854775808) (n := 63)
    simpa using this
  have hd : (a ^^^ 9223372036854775808) / 9223372036854775808 = (a / 9223372036854775808) ^^^ 1 := by
    have := Nat.shiftRight_xor_distrib (a := a) (b := 9223372036854775808) (i := 63)
    simpa [Nat.shiftRight_eq_div_pow] using this
  have hq : a / 9223372036854775808 = 0 ∨ a / 9223372036854775808 = 1 := by omega
  rcases hq with q | q <;> rw [q] at hd
  · rw [if_pos (by omega)]
    have : (0 ^^^ 1 : Nat) = 1 := by decide
    omega
  · rw [if_neg (by omega)]
    have : (1 ^^^ 1 : Nat) = 0 := by decide
    omega

/-- the contrary of a rate -/
def negW (a : Nat) : Nat := if a % 9223372036854775808 = 0 then 0 else a ^^^ 9223372036854775808

theorem isRate_fin {a : Nat} (h : isRate a = true) : a % 9223372036854775808 < 9218868437227405312 := by
  unfold isRate at h
  simp at h
  omega

theorem sub_self (a : Nat) (h : a % 9223372036854775808 < 9218868437227405312) : D.sub a a = some 0 := by
  obtain ⟨m, i, hr, -, -⟩ := read_fin a h
  unfold Format.sub
  rw [hr]
  simp only [Datum.opposite, Datum.sum, signed_self, if_true, Option.map_some]
  cases (a / 9223372036854775808 % 2 == 1) <;> rfl

theorem sub_self_none (a : Nat) (h : ¬ a % 9223372036854775808 < 9218868437227405312) : D.sub a a = none := by
  unfold Format.sub
  by_cases c2 : a % 9223372036854775808 = 9218868437227405312
  · rw [read_inf a c2]
    simp [Datum.opposite, Datum.sum]
  · rw [read_nan a (by omega)]
    simp [Datum.sum]

/-- 0 less a finite float -/
theorem zero_sub (a : Nat) (ha : a < 18446744073709551616) (h : a % 9223372036854775808 < 9218868437227405312) : D.sub 0 a = some (if a = 9223372036854775808 then 0 else negW a) := by
  have hr : D.read 0 = .number false 0 (-1074) := by rw [read_low 0 (by omega)]; rfl
  unfold Format.sub negW
  obtain ⟨m, j, hs, hj, hm0, hn⟩ := nearest_shifted a ha h (!(a / 9223372036854775808 % 2 == 1))
  rw [hr, hs]
  simp only [Datum.opposite, Datum.sum]
  rw [Int.min_eq_left hj, signed_zero, Int.zero_add]
  by_cases c : a % 9223372036854775808 = 0
  · have hm := hm0.2 c
    subst hm
    have : a = 0 ∨ a = 9223372036854775808 := by omega
    rw [signed_zero, if_pos rfl, if_pos c]
    rcases this with rfl | rfl <;> rfl
  · have hm : m ≠ 0 := fun e => c (hm0.1 e)
    rw [if_neg c]
    have hne : ¬ a = 9223372036854775808 := by omega
    rw [if_neg hne]
    have hp : 0 < m <<< (j - -1074).toNat := by rw [Nat.shiftLeft_eq]; exact Nat.mul_pos (Nat.pos_of_ne_zero hm) (Nat.two_pow_pos _)
    generalize hM : m <<< (j - -1074).toNat = M at *
    have hsg : signed (!(a / 9223372036854775808 % 2 == 1)) m (j - -1074).toNat = if (!(a / 9223372036854775808 % 2 == 1)) = true then -(M : Int) else M := by
      unfold signed; rw [hM]
    rw [hsg]
    have hw : D.word (!(a / 9223372036854775808 % 2 == 1)) (a % 9223372036854775808) = a ^^^ 9223372036854775808 := by
      rw [xor_sign a ha]
      unfold Format.word
      rw [sw]
      by_cases cs : a < 9223372036854775808
      · rw [if_pos (by simp; omega), if_pos cs]; omega
      · rw [if_neg (by simp; omega), if_neg cs]; omega
    by_cases cs : (!(a / 9223372036854775808 % 2 == 1)) = true
    · rw [if_pos cs, if_neg (by omega), show decide (-(M : Int) < 0) = true by simp; omega, show (-(M : Int)).natAbs = M by omega]
      rw [cs] at hn hw
      show some (D.nearest true M (-1074)) = _
      rw [hn, hw]
    · rw [if_neg cs, if_neg (by omega), show decide ((M : Int) < 0) = false by simp, show (M : Int).natAbs = M by omega]
      rw [Bool.not_eq_true] at cs
      rw [cs] at hn hw
      show some (D.nearest false M (-1074)) = _
      rw [hn, hw]
end Go.Proofs.Ytlclgpiabjlpbaa.Fm
