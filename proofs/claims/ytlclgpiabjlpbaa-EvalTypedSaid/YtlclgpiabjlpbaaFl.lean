/- The walks of the float functions: package math's, package rate's Right and Neg, the reference's Right, Plain and Neg: what each returns. -/
import Derived.Test.YtlclgpiabjlpbaaFo
import Derived.Test.YtlclgpiabjlpbaaRows
import Derived.WalkKit
import Derived.WalkSpells
import Derived.WalkLawsBesides
import Derived.Outline
import Derived.Lib.Hide
namespace Go.Proofs.Ytlclgpiabjlpbaa
open Go.RowKit

theorem run_float_nan {P : Program} (op : BinOp) (t : TypeId) (x y : Nat) (w : World) (hop : op = .add ∨ op = .sub ∨ op = .mul ∨ op = .quo) (h : floatBits op .f64 x y = none) :
    (binOp op t (.float .f64 x) (.float .f64 y)).run P w = .ok (.float .f64 ((Question.nanBits .f64 x y).cut (w.tape w.drawn (.nanBits .f64 x y)))) w.drew := by
  unfold floatBits at h
  rcases hop with rfl | rfl | rfl | rfl <;> simp only at h
  all_goals simp [binOp, Op.floatArith, h, choose, Sem.run, Question.forced]

theorem nan_cut (x y t : Nat) : 9218868437227405312 < ((Question.nanBits .f64 x y).cut t) % 9223372036854775808 := by
  show 9218868437227405312 < ((t % 2) * 2 ^ 63 + 0x7ff0000000000000 + 1 + (t / 2) % (2 ^ 52 - 1)) % 9223372036854775808
  have h : (t / 2) % (2 ^ 52 - 1) < 2 ^ 52 - 1 := Nat.mod_lt _ (by decide)
  generalize (t / 2) % (2 ^ 52 - 1) = r at h
  have h2 : t % 2 < 2 := Nat.mod_lt _ (by decide)
  generalize t % 2 = q at h2
  simp only [Nat.reducePow, Nat.reduceSub] at h ⊢
  omega

theorem ext_frombits : (Extern.find Try.f85) = some Extern.MathFloatBits.float64frombits := by kernel_rfl
theorem ext_bits : (Extern.find Try.f34) = some Extern.MathFloatBits.float64bits := by kernel_rfl
theorem run_frombits (n : Int) (w : World) : (callFunc 85 #[.int .u64 n]).run Try.prog w = .ok (.value (.float .f64 n.toNat)) w := by
  rw [run_callFunc_extern Try.func85 (by kernel_rfl) (by kernel_rfl) (by kernel_rfl) ext_frombits]; rfl
theorem run_bits (n : Nat) (w : World) : (callFunc 34 #[.float .f64 n]).run Try.prog w = .ok (.value (.int .u64 n)) w := by
  rw [run_callFunc_extern Try.func34 (by kernel_rfl) (by kernel_rfl) (by kernel_rfl) ext_bits]; rfl

set_option maxRecDepth 100000 in
set_option maxHeartbeats 400000 in
theorem isnan_any (a : Nat) (w : World) :
    Calls Try.prog 35 #[.float .f64 a] w fun e w' => e = .returned (.bool (decide (9218868437227405312 < a % 9223372036854775808))) ∧ w = w' := by
  have E := Lib.hid (Fm.order_self a)
  go_enter Try.func35, Try.ntmps35
  go_wp2
  go_ret
  refine ⟨?_, rfl⟩
  show Ending.returned (Value.bool (!(Ieee.double.order a a == some .eq))) = _
  rw [E.out, Bool.not_not]

theorem wrap64_neg (a : Nat) (h : a < 18446744073709551616) : decide (wrap64 (a : Int) < 0) = decide (9223372036854775808 ≤ a) := by
  unfold wrap64
  by_cases c : 9223372036854775808 ≤ a
  · rw [decide_eq_true c, decide_eq_true]; omega
  · rw [decide_eq_false c, decide_eq_false]; omega
theorem abs_bits (a : Nat) (h : a < 18446744073709551616) : (bits .andNot .u64 (a : Int) 9223372036854775808).toNat = a % 9223372036854775808 := by
  have e := u64_andNot_nat a 9223372036854775808 h (by decide)
  have e2 : bits .andNot .u64 (a : Int) 9223372036854775808 = ((a &&& (18446744073709551615 - 9223372036854775808) : Nat) : Int) := e
  rw [e2, Int.toNat_natCast]
  have := Nat.and_two_pow_sub_one_eq_mod a 63
  simpa using this
set_option maxRecDepth 100000 in
set_option maxHeartbeats 400000 in
theorem signbit_any (a : Nat) (ha : a < 18446744073709551616) (w : World) :
    Calls Try.prog 37 #[.float .f64 a] w fun e w' => e = .returned (.bool (decide (9223372036854775808 ≤ a))) ∧ w = w' := by
  have hb := run_bits
  have E := Lib.hid (wrap64_neg a ha)
  clear ha
  go_enter Try.func37, Try.ntmps37
  go_wp2
  go_ret
  refine ⟨?_, rfl⟩
  show Ending.returned (Value.bool (decide (wrap64 (a : Int) < 0))) = _
  rw [E.out]

set_option maxRecDepth 100000 in
set_option maxHeartbeats 400000 in
theorem abs_any (a : Nat) (ha : a < 18446744073709551616) (w : World) :
    Calls Try.prog 64 #[.float .f64 a] w fun e w' => e = .returned (.float .f64 (a % 9223372036854775808)) ∧ w = w' := by
  have hb := run_bits
  have hc := run_frombits
  have E := Lib.hid (abs_bits a ha)
  clear ha
  go_enter Try.func64, Try.ntmps64
  go_wp2
  go_ret
  refine ⟨?_, rfl⟩
  show Ending.returned (Value.float .f64 (bits .andNot .u64 (a : Int) 9223372036854775808).toNat) = _
  rw [E.out]

set_option maxRecDepth 100000 in
set_option maxHeartbeats 400000 in
theorem isinf_any (a : Nat) (ha : a < 18446744073709551616) (w : World) :
    Calls Try.prog 36 #[.float .f64 a, .int .i64 0] w fun e w' => e = .returned (.bool (decide (a % 9223372036854775808 = 9218868437227405312))) ∧ w = w' := by
  have E := Lib.hid (Fm.order_max a)
  go_enter Try.func36, Try.ntmps36
  go_wp2_with (go_at_call 64; refine (abs_any a ha _).mono ?_; rintro e w' ⟨rfl, rfl⟩)
  go_ret
  refine ⟨?_, rfl⟩
  show Ending.returned (Value.bool (Ieee.double.order (a % 9223372036854775808) 9218868437227405311 == some .gt)) = _
  rw [E.out]

theorem zero_iff (a : Nat) : (FloatKind.f64.format.order a 0 = some Ordering.eq) = (a % 9223372036854775808 = 0) := by
  have h := Fm.order_zero a
  apply propext
  constructor
  · intro e
    have e' : Fm.D.order a 0 = some .eq := e
    rw [e'] at h
    simpa using h.symm
  · intro e
    rw [decide_eq_true e] at h
    exact eq_of_beq h
theorem ret_bool {a b : Bool} (h : a = b) : Ending.returned (.bool a) = Ending.returned (.bool b) := by rw [h]
theorem ret_float {a b : Nat} (h : a = b) : Ending.returned (.float .f64 a) = Ending.returned (.float .f64 b) := by rw [h]
theorem isRate_true {a : Nat} (h1 : a % 9223372036854775808 < 9218868437227405312) (h2 : a ≠ 9223372036854775808) : Fm.isRate a = true := by simp [Fm.isRate, h1, h2]
theorem isRate_big {a : Nat} (h1 : ¬ a % 9223372036854775808 < 9218868437227405312) : Fm.isRate a = false := by simp [Fm.isRate, h1]
theorem isRate_zero {a : Nat} (ha : a < 18446744073709551616) (h1 : a % 9223372036854775808 = 0) : Fm.isRate a = !decide (9223372036854775808 ≤ a) := by
  unfold Fm.isRate
  rw [Bool.eq_iff_iff]
  simp
  omega
set_option maxRecDepth 100000 in
set_option maxHeartbeats 400000 in
theorem rateRight_any (a : Nat) (ha : a < 18446744073709551616) (w : World) :
    Calls Try.prog 21 #[.float .f64 a] w fun e w' => e = .returned (.bool (Fm.isRate a)) ∧ w = w' := by
  have Z := Lib.hid (zero_iff a)
  go_enter Try.func21, Try.ntmps21
  go_wp2_with (first | (go_at_call 35; refine (isnan_any a _).mono ?_; rintro e w' ⟨rfl, rfl⟩) | (go_at_call 36; refine (isinf_any a ha _).mono ?_; rintro e w' ⟨rfl, rfl⟩) | (go_at_call 37; refine (signbit_any a ha _).mono ?_; rintro e w' ⟨rfl, rfl⟩))
  all_goals
    go_ret
    refine ⟨ret_bool ?_, rfl⟩
    simp only [Z.out] at *
    unfold Fm.isRate
    rw [Bool.eq_iff_iff]
    simp only [Bool.and_eq_true, Bool.not_eq_true', decide_eq_true_eq, decide_eq_false_iff_not, ne_eq, Bool.false_eq_true]
    first | omega | exact ⟨fun hh => hh.elim, fun hh => by omega⟩

set_option maxRecDepth 100000 in
set_option maxHeartbeats 400000 in
theorem refRight_any (a : Nat) (ha : a < 18446744073709551616) (w : World) :
    Calls Try.prog 45 #[.float .f64 a] w fun e w' => e = .returned (.bool (Fm.isRate a)) ∧ Below w.heap.size w w' := by
  have Z := Lib.hid (zero_iff a)
  by_cases hf : a % 9223372036854775808 < 9218868437227405312
  · have hs := fun w => run_float_arith (P := Try.prog) w .sub 32 .f64 a a 0 (Fm.sub_self a hf)
    have h00 : (FloatKind.f64.format.order 0 0 != some .eq) = false := by decide +kernel
    by_cases hz : a % 9223372036854775808 = 0
    · have hz' : a = 0 ∨ a = 9223372036854775808 := by omega
      rcases hz' with rfl | rfl
      · have hd := fun w => run_float_arith (P := Try.prog) w .quo 32 .f64 4607182418800017408 0 9218868437227405312 (by decide +kernel)
        have hg : (FloatKind.f64.format.order 9218868437227405312 0 == some .gt) = true := by decide +kernel
        clear Z hf hz ha
        go_enter Try.func45, Try.ntmps45
        go_wp2
        go_ret
        exact ⟨ret_bool (by decide +kernel), Below.refl _ _⟩
      · have hd := fun w => run_float_arith (P := Try.prog) w .quo 32 .f64 4607182418800017408 9223372036854775808 18442240474082181120 (by decide +kernel)
        have hg : (FloatKind.f64.format.order 18442240474082181120 0 == some .gt) = false := by decide +kernel
        have hn : (FloatKind.f64.format.order 9223372036854775808 0 != some .eq) = false := by decide +kernel
        clear Z hf hz ha
        go_enter Try.func45, Try.ntmps45
        go_wp2
        go_ret
        exact ⟨ret_bool (by decide +kernel), Below.refl _ _⟩
    · have hn : (FloatKind.f64.format.order a 0 != some .eq) = true := by rw [bne_iff_ne]; intro h; exact hz (Z.out ▸ h)
      have R := Lib.hid (isRate_true hf (by omega))
      clear Z hf hz ha
      go_enter Try.func45, Try.ntmps45
      go_wp2
      go_ret
      exact ⟨ret_bool R.out.symm, Below.refl _ _⟩
  · have hs := fun w => run_float_nan (P := Try.prog) .sub 32 a a w (.inr (.inl rfl)) (Fm.sub_self_none a hf)
    have hb := fun t => nan_cut a a t
    have hn : ∀ t, (FloatKind.f64.format.order ((Question.nanBits .f64 a a).cut t) 0 != some .eq) = true := by
      intro t
      rw [bne_iff_ne]
      intro h
      rw [zero_iff] at h
      have := hb t
      omega
    have R := Lib.hid (isRate_big hf)
    clear Z hf ha hb
    go_enter Try.func45, Try.ntmps45
    go_wp2
    go_ret
    exact ⟨ret_bool R.out.symm, (Below.refl _ _).drew⟩

/-- 0 in the place of -0 -/
def plainW (a : Nat) : Nat := if a % 9223372036854775808 = 0 then 0 else a
/-- what Neg tells of a word -/
def negR (a : Nat) : Nat := if Fm.isRate a = true then Fm.negW a else 0
set_option maxRecDepth 100000 in
set_option maxHeartbeats 400000 in
theorem rateNeg_any (a : Nat) (ha : a < 18446744073709551616) (w : World) :
    Calls Try.prog 78 #[.float .f64 a] w fun e w' => e = .returned (.float .f64 (negR a)) ∧ w = w' := by
  by_cases hr : Fm.isRate a = true
  · have hs := fun w => run_float_arith (P := Try.prog) w .sub 32 .f64 0 a _ (Fm.zero_sub a ha (Fm.isRate_fin hr))
    have hne : a ≠ 9223372036854775808 := by intro h; subst h; revert hr; decide +kernel
    simp only [if_neg hne] at hs
    have R : Hid (negR a = Fm.negW a) := by unfold negR; exact if_pos hr
    clear hne
    go_enter Try.func78, Try.ntmps78
    go_wp2_with (go_at_call 21; refine (rateRight_any a ha _).mono ?_; rintro e w' ⟨rfl, rfl⟩)
    go_ret
    exact ⟨ret_float R.out.symm, rfl⟩
  · have hr' : Fm.isRate a = false := by simpa using hr
    have R : Hid (negR a = 0) := by unfold negR; exact if_neg hr
    clear hr
    go_enter Try.func78, Try.ntmps78
    go_wp2_with (go_at_call 21; refine (rateRight_any a ha _).mono ?_; rintro e w' ⟨rfl, rfl⟩)
    go_ret
    exact ⟨ret_float R.out.symm, rfl⟩

theorem run_neg_float {P : Program} (a : Nat) (w : World) : (Op.unary .neg (.float .f64 a)).run P w = .ok (.float .f64 (a ^^^ 9223372036854775808)) w := rfl
theorem ext_floor : (Extern.find Try.f97) = some (Extern.MathFloor.toIntegral "math.archFloor" .down) := by kernel_rfl
theorem run_floor (n : Nat) (h : n % 9223372036854775808 < 9218868437227405312) (w : World) : (callFunc 97 #[.float .f64 n]).run Try.prog w = .ok (.value (.float .f64 (Fm.floorW n))) w := by
  rw [run_callFunc_extern Try.func97 (by kernel_rfl) (by kernel_rfl) (by kernel_rfl) ext_floor]
  obtain ⟨s, m, p, h1, _⟩ := Fm.read_num h
  have h1' : FloatKind.f64.decode n = .number s m p := h1
  have h2 : Fm.floorW n = FloatKind.f64.encode ((Ieee.Datum.number s m p).integral .down) := by unfold Fm.floorW; rw [h1]; rfl
  rw [h2]
  have e : ∃ f, Extern.MathFloor.toIntegral "math.archFloor" .down #[.float .f64 n] = Extern.MathFloor.toIntegral.match_1 (fun _ => Sem Value) (FloatKind.f64.decode n) f (fun d => pure (.float .f64 (FloatKind.f64.encode (d.integral .down)))) := ⟨_, rfl⟩
  obtain ⟨f, e⟩ := e
  rw [e, h1']; rfl
set_option maxRecDepth 100000 in
set_option maxHeartbeats 400000 in
theorem floor_any (a : Nat) (h : a % 9223372036854775808 < 9218868437227405312) (w : World) :
    Calls Try.prog 95 #[.float .f64 a] w fun e w' => e = .returned (.float .f64 (Fm.floorW a)) ∧ w = w' := by
  have hf := run_floor a h
  go_enter Try.func95, Try.ntmps95
  go_wp2
  go_ret
  exact ⟨rfl, rfl⟩
end Go.Proofs.Ytlclgpiabjlpbaa
