/- Walks: packages num, rate, cells, eval. -/
import Derived.Test.YtlclgpiabjlpbaaEv
import Derived.Test.YtlclgpiabjlpbaaS
import Derived.Test.YtlclgpiabjlpbaaAm23
namespace Go.Proofs.Ytlclgpiabjlpbaa.Am
open Go.RowKit
set_option linter.unusedVariables false
set_option linter.unusedSimpArgs false
set_option maxRecDepth 100000

theorem at_c (r : Ref) (s o : ByteArray) : ∀ H, ACalls tt 71 [.agg r.av, .s s, .s o] H (fun res_ H' => res_ = .agg (atC r s o).av ∧ H' = H) := by
  refine body_calc (T := tt) Try.func71 rfl Try.ntmps71 rfl rfl (by rfl) (by rfl) ?_
  refine wp_reg ?_
  refine st_box rfl rfl rfl rfl rfl rfl rfl rfl rfl ?_
  refine st_alloc rfl rfl rfl rfl rfl rfl rfl ?_
  refine st_nil ?_
  refine awp_seq ?_
  refine wp_reg ?_
  refine st_pop rfl rfl rfl rfl ?_
  refine st_pop rfl rfl rfl rfl ?_
  refine st_nil ?_
  refine awp_block ?_
  refine wp_reg ?_
  refine st_pop rfl rfl rfl rfl ?_
  refine st_pop rfl rfl rfl rfl ?_
  refine st_nil ?_
  refine wp_bit 9 rfl fun b hb1 => ?_
  cases b
  · try simp only [decide_eq_true_eq, decide_eq_false_iff_not, Bool.not_eq_true', Bool.not_eq_false', Int.not_lt, Int.not_le] at hb1
    refine wp_f rfl ?_
    refine wp_reg ?_
    refine st_pop rfl rfl rfl rfl ?_
    refine st_pop rfl rfl rfl rfl ?_
    refine st_nil ?_
    refine wp_bit 17 rfl fun b hb2 => ?_
    cases b
    · try simp only [decide_eq_true_eq, decide_eq_false_iff_not, Bool.not_eq_true', Bool.not_eq_false', Int.not_lt, Int.not_le] at hb2
      refine wp_f rfl ?_
      refine wp_reg ?_
      refine st_pop rfl rfl rfl rfl ?_
      refine st_pop rfl rfl rfl rfl ?_
      refine st_nil ?_
      refine wp_bit 25 rfl fun b hb3 => ?_
      cases b
      · try simp only [decide_eq_true_eq, decide_eq_false_iff_not, Bool.not_eq_true', Bool.not_eq_false', Int.not_lt, Int.not_le] at hb3
        refine wp_f rfl ?_
        refine awp_skip ?_
        refine ab_norm ?_
        refine at_norm ?_
        refine wp_reg ?_
        refine st_pop rfl rfl rfl rfl ?_
        refine st_store rfl rfl rfl rfl rfl rfl rfl rfl rfl rfl rfl rfl rfl ?_
        refine st_nil ?_
        refine awp_ret ?_
        refine ret_ret rfl rfl ?_
        refine wk_agg ?_; simp_all [atC, Cel.av, cel0]
      · try simp only [decide_eq_true_eq, decide_eq_false_iff_not, Bool.not_eq_true', Bool.not_eq_false', Int.not_lt, Int.not_le] at hb3
        refine wp_t rfl ?_
        refine wp_reg ?_
        refine st_pop rfl rfl rfl rfl ?_
        refine st_pop rfl rfl rfl rfl ?_
        refine st_pop rfl rfl rfl rfl ?_
        refine st_pop rfl rfl rfl rfl ?_
        refine st_pop rfl rfl rfl rfl ?_
        refine st_store rfl rfl rfl rfl rfl rfl rfl rfl rfl rfl rfl rfl rfl ?_
        refine st_nil ?_
        refine awp_ret ?_
        refine ab_ret ?_
        refine at_ret ?_
        refine ret_ret rfl rfl ?_
        refine wk_agg ?_; simp_all [atC, Cel.av, cel0]
    · try simp only [decide_eq_true_eq, decide_eq_false_iff_not, Bool.not_eq_true', Bool.not_eq_false', Int.not_lt, Int.not_le] at hb2
      refine wp_t rfl ?_
      refine wp_reg ?_
      refine st_pop rfl rfl rfl rfl ?_
      refine st_pop rfl rfl rfl rfl ?_
      refine st_pop rfl rfl rfl rfl ?_
      refine st_pop rfl rfl rfl rfl ?_
      refine st_pop rfl rfl rfl rfl ?_
      refine st_pop rfl rfl rfl rfl ?_
      refine st_store rfl rfl rfl rfl rfl rfl rfl rfl rfl rfl rfl rfl rfl ?_
      refine st_nil ?_
      refine awp_ret ?_
      refine ab_ret ?_
      refine at_ret ?_
      refine ret_ret rfl rfl ?_
      refine wk_agg ?_; simp_all [atC, Cel.av, cel0]
  · try simp only [decide_eq_true_eq, decide_eq_false_iff_not, Bool.not_eq_true', Bool.not_eq_false', Int.not_lt, Int.not_le] at hb1
    refine wp_t rfl ?_
    refine wp_reg ?_
    refine st_pop rfl rfl rfl rfl ?_
    refine st_pop rfl rfl rfl rfl ?_
    refine st_pop rfl rfl rfl rfl ?_
    refine st_pop rfl rfl rfl rfl ?_
    refine st_pop rfl rfl rfl rfl ?_
    refine st_pop rfl rfl rfl rfl ?_
    refine st_store rfl rfl rfl rfl rfl rfl rfl rfl rfl rfl rfl rfl rfl ?_
    refine st_nil ?_
    refine awp_ret ?_
    refine ab_ret ?_
    refine at_ret ?_
    refine ret_ret rfl rfl ?_
    refine wk_agg ?_; simp_all [atC, Cel.av, cel0]
theorem celOk_c (c : Cel) : ∀ H, ACalls tt 25 [.agg c.av] H (fun res_ H' => res_ = .b (celOk c) ∧ H' = H) := by
  refine body_calc (T := tt) Try.func25 rfl Try.ntmps25 rfl rfl (by rfl) (by rfl) ?_
  refine wp_reg ?_
  refine st_box rfl rfl rfl rfl rfl rfl rfl rfl rfl ?_
  refine st_pop rfl rfl rfl rfl ?_
  refine st_nil ?_
  refine wp_reg ?_
  refine st_pop rfl rfl rfl rfl ?_
  refine st_pop rfl rfl rfl rfl ?_
  refine st_calc (xs := [.tmp 5]) _ rfl rfl rfl rfl Try.func41 rfl rfl rfl (name_c _ _) ?_
  refine st_pop rfl rfl rfl rfl ?_
  refine st_nil ?_
  refine awp_seq ?_
  refine wp_reg ?_
  refine st_pop rfl rfl rfl rfl ?_
  refine st_pop rfl rfl rfl rfl ?_
  refine st_pop rfl rfl rfl rfl ?_
  refine st_nil ?_
  refine wp_bit 9 rfl fun b hb1 => ?_
  cases b
  · try simp only [decide_eq_true_eq, decide_eq_false_iff_not, Bool.not_eq_true', Bool.not_eq_false', Int.not_lt, Int.not_le] at hb1
    refine wp_f rfl ?_
    refine awp_skip ?_
    refine at_norm ?_
    refine wp_reg ?_
    refine st_pop rfl rfl rfl rfl ?_
    refine st_pop rfl rfl rfl rfl ?_
    refine st_calc (xs := [.tmp 14]) _ rfl rfl rfl rfl Try.func42 rfl rfl rfl (scope_c _ _) ?_
    refine st_pop rfl rfl rfl rfl ?_
    refine st_bit 16 rfl fun b hb2 => ?_
    cases b
    · try simp only [decide_eq_true_eq, decide_eq_false_iff_not, Bool.not_eq_true', Bool.not_eq_false', Int.not_lt, Int.not_le] at hb2
      refine st_skip rfl rfl rfl ?_
      refine st_pop rfl rfl rfl rfl ?_
      refine st_pop rfl rfl rfl rfl ?_
      refine st_skip rfl rfl rfl ?_
      refine st_skip rfl rfl rfl ?_
      refine st_skip rfl rfl rfl ?_
      refine st_pop rfl rfl rfl rfl ?_
      refine st_pop rfl rfl rfl rfl ?_
      refine st_nil ?_
      refine awp_ret ?_
      refine ret_ret rfl rfl ?_
      refine wk_b ?_
      first
        | (simp_all [celOk]; done)
        | (rw [Bool.eq_iff_iff]; simp_all [celOk]; done)
    · try simp only [decide_eq_true_eq, decide_eq_false_iff_not, Bool.not_eq_true', Bool.not_eq_false', Int.not_lt, Int.not_le] at hb2
      refine st_pop rfl rfl rfl rfl ?_
      refine st_pop rfl rfl rfl rfl ?_
      refine st_pop rfl rfl rfl rfl ?_
      refine st_bit 19 rfl fun b hb3 => ?_
      cases b
      · try simp only [decide_eq_true_eq, decide_eq_false_iff_not, Bool.not_eq_true', Bool.not_eq_false', Int.not_lt, Int.not_le] at hb3
        refine st_skip rfl rfl rfl ?_
        refine st_skip rfl rfl rfl ?_
        refine st_skip rfl rfl rfl ?_
        refine st_pop rfl rfl rfl rfl ?_
        refine st_pop rfl rfl rfl rfl ?_
        refine st_nil ?_
        refine awp_ret ?_
        refine ret_ret rfl rfl ?_
        refine wk_b ?_
        first
          | (simp_all [celOk]; done)
          | (rw [Bool.eq_iff_iff]; simp_all [celOk]; done)
      · try simp only [decide_eq_true_eq, decide_eq_false_iff_not, Bool.not_eq_true', Bool.not_eq_false', Int.not_lt, Int.not_le] at hb3
        refine st_pop rfl rfl rfl rfl ?_
        refine st_pop rfl rfl rfl rfl ?_
        refine st_calc (xs := [.tmp 21]) _ rfl rfl rfl rfl Try.func41 rfl rfl rfl (name_c _ _) ?_
        refine st_pop rfl rfl rfl rfl ?_
        refine st_pop rfl rfl rfl rfl ?_
        refine st_nil ?_
        refine awp_ret ?_
        refine ret_ret rfl rfl ?_
        refine wk_b ?_
        first
          | (simp_all [celOk]; done)
          | (rw [Bool.eq_iff_iff]; simp_all [celOk]; done)
  · try simp only [decide_eq_true_eq, decide_eq_false_iff_not, Bool.not_eq_true', Bool.not_eq_false', Int.not_lt, Int.not_le] at hb1
    refine wp_t rfl ?_
    refine awp_region ?_
    refine st_pop rfl rfl rfl rfl ?_
    refine st_pop rfl rfl rfl rfl ?_
    refine st_pop rfl rfl rfl rfl ?_
    refine st_pop rfl rfl rfl rfl ?_
    refine st_nil ?_
    refine at_norm ?_
    refine wp_reg ?_
    refine st_pop rfl rfl rfl rfl ?_
    refine st_pop rfl rfl rfl rfl ?_
    refine st_calc (xs := [.tmp 14]) _ rfl rfl rfl rfl Try.func42 rfl rfl rfl (scope_c _ _) ?_
    refine st_pop rfl rfl rfl rfl ?_
    refine st_bit 16 rfl fun b hb4 => ?_
    cases b
    · try simp only [decide_eq_true_eq, decide_eq_false_iff_not, Bool.not_eq_true', Bool.not_eq_false', Int.not_lt, Int.not_le] at hb4
      refine st_skip rfl rfl rfl ?_
      refine st_pop rfl rfl rfl rfl ?_
      refine st_pop rfl rfl rfl rfl ?_
      refine st_skip rfl rfl rfl ?_
      refine st_skip rfl rfl rfl ?_
      refine st_skip rfl rfl rfl ?_
      refine st_pop rfl rfl rfl rfl ?_
      refine st_pop rfl rfl rfl rfl ?_
      refine st_nil ?_
      refine awp_ret ?_
      refine ret_ret rfl rfl ?_
      refine wk_b ?_
      first
        | (simp_all [celOk]; done)
        | (rw [Bool.eq_iff_iff]; simp_all [celOk]; done)
    · try simp only [decide_eq_true_eq, decide_eq_false_iff_not, Bool.not_eq_true', Bool.not_eq_false', Int.not_lt, Int.not_le] at hb4
      refine st_pop rfl rfl rfl rfl ?_
      refine st_pop rfl rfl rfl rfl ?_
      refine st_pop rfl rfl rfl rfl ?_
      refine st_bit 19 rfl fun b hb5 => ?_
      cases b
      · try simp only [decide_eq_true_eq, decide_eq_false_iff_not, Bool.not_eq_true', Bool.not_eq_false', Int.not_lt, Int.not_le] at hb5
        refine st_skip rfl rfl rfl ?_
        refine st_skip rfl rfl rfl ?_
        refine st_skip rfl rfl rfl ?_
        refine st_pop rfl rfl rfl rfl ?_
        refine st_pop rfl rfl rfl rfl ?_
        refine st_nil ?_
        refine awp_ret ?_
        refine ret_ret rfl rfl ?_
        refine wk_b ?_
        first
          | (simp_all [celOk]; done)
          | (rw [Bool.eq_iff_iff]; simp_all [celOk]; done)
      · try simp only [decide_eq_true_eq, decide_eq_false_iff_not, Bool.not_eq_true', Bool.not_eq_false', Int.not_lt, Int.not_le] at hb5
        refine st_pop rfl rfl rfl rfl ?_
        refine st_pop rfl rfl rfl rfl ?_
        refine st_calc (xs := [.tmp 21]) _ rfl rfl rfl rfl Try.func41 rfl rfl rfl (name_c _ _) ?_
        refine st_pop rfl rfl rfl rfl ?_
        refine st_pop rfl rfl rfl rfl ?_
        refine st_nil ?_
        refine awp_ret ?_
        refine ret_ret rfl rfl ?_
        refine wk_b ?_
        first
          | (simp_all [celOk]; done)
          | (rw [Bool.eq_iff_iff]; simp_all [celOk]; done)
theorem fits_c (v : Val) (b : Bool) (w : Int) : ∀ H, ACalls tt 72 [.agg v.av, .b b, .i .i64 w] H (fun res_ H' => res_ = vwAV (fitsP v b w) ∧ H' = H) := by
  refine body_calc (T := tt) Try.func72 rfl Try.ntmps72 rfl rfl (by rfl) (by rfl) ?_
  refine wp_reg ?_
  refine st_box rfl rfl rfl rfl rfl rfl rfl rfl rfl ?_
  refine st_alloc rfl rfl rfl rfl rfl rfl rfl ?_
  refine st_pop rfl rfl rfl rfl ?_
  refine st_nil ?_
  refine awp_seq ?_
  refine wp_reg ?_
  refine st_pop rfl rfl rfl rfl ?_
  refine st_pop rfl rfl rfl rfl ?_
  refine st_nil ?_
  refine wp_bit 9 rfl fun b hb1 => ?_
  cases b
  · try simp only [decide_eq_true_eq, decide_eq_false_iff_not, Bool.not_eq_true', Bool.not_eq_false', Int.not_lt, Int.not_le] at hb1
    refine wp_f rfl ?_
    refine awp_skip ?_
    refine at_norm ?_
    refine wp_reg ?_
    refine st_pop rfl rfl rfl rfl ?_
    refine st_store rfl rfl rfl rfl rfl rfl rfl rfl rfl rfl rfl rfl rfl ?_
    refine st_pop rfl rfl rfl rfl ?_
    refine st_nil ?_
    refine awp_ret ?_
    refine ret_ret rfl rfl ?_
    refine wk_eq ?_; simp_all [fitsP, vwAV, Val.av, zeroVal]
  · try simp only [decide_eq_true_eq, decide_eq_false_iff_not, Bool.not_eq_true', Bool.not_eq_false', Int.not_lt, Int.not_le] at hb1
    refine wp_t rfl ?_
    refine wp_reg ?_
    refine st_pop rfl rfl rfl rfl ?_
    refine st_pop rfl rfl rfl rfl ?_
    refine st_store rfl rfl rfl rfl rfl rfl rfl rfl rfl rfl rfl rfl rfl ?_
    refine st_pop rfl rfl rfl rfl ?_
    refine st_nil ?_
    refine awp_ret ?_
    refine at_ret ?_
    refine ret_ret rfl rfl ?_
    refine wk_eq ?_; simp_all [fitsP, vwAV, Val.av, zeroVal]
theorem told_c (v : Val) (w : Int) : ∀ H, ACalls tt 75 [.agg v.av, .i .i64 w] H (fun res_ H' => res_ = vwAV (toldP v w) ∧ H' = H) := by
  refine body_calc (T := tt) Try.func75 rfl Try.ntmps75 rfl rfl (by rfl) (by rfl) ?_
  refine wp_reg ?_
  refine st_box rfl rfl rfl rfl rfl rfl rfl rfl rfl ?_
  refine st_alloc rfl rfl rfl rfl rfl rfl rfl ?_
  refine st_pop rfl rfl rfl rfl ?_
  refine st_nil ?_
  refine awp_seq ?_
  refine wp_reg ?_
  refine st_pop rfl rfl rfl rfl ?_
  refine st_pop rfl rfl rfl rfl ?_
  refine st_nil ?_
  refine wp_bit 7 rfl fun b hb1 => ?_
  cases b
  · try simp only [decide_eq_true_eq, decide_eq_false_iff_not, Bool.not_eq_true', Bool.not_eq_false', Int.not_lt, Int.not_le] at hb1
    refine wp_f rfl ?_
    refine awp_skip ?_
    refine at_norm ?_
    refine wp_reg ?_
    refine st_pop rfl rfl rfl rfl ?_
    refine st_store rfl rfl rfl rfl rfl rfl rfl rfl rfl rfl rfl rfl rfl ?_
    refine st_pop rfl rfl rfl rfl ?_
    refine st_nil ?_
    refine awp_ret ?_
    refine ret_ret rfl rfl ?_
    refine wk_eq ?_; simp_all [toldP, vwAV, Val.av, zeroVal]
  · try simp only [decide_eq_true_eq, decide_eq_false_iff_not, Bool.not_eq_true', Bool.not_eq_false', Int.not_lt, Int.not_le] at hb1
    refine wp_t rfl ?_
    refine wp_reg ?_
    refine st_pop rfl rfl rfl rfl ?_
    refine st_pop rfl rfl rfl rfl ?_
    refine st_store rfl rfl rfl rfl rfl rfl rfl rfl rfl rfl rfl rfl rfl ?_
    refine st_pop rfl rfl rfl rfl ?_
    refine st_nil ?_
    refine awp_ret ?_
    refine at_ret ?_
    refine ret_ret rfl rfl ?_
    refine wk_eq ?_; simp_all [toldP, vwAV, Val.av, zeroVal]
theorem truth_c (b : Bool) : ∀ H, ACalls tt 73 [.b b] H (fun res_ H' => res_ = .agg (truthV b).av ∧ H' = H) := by
  refine body_calc (T := tt) Try.func73 rfl Try.ntmps73 rfl rfl (by rfl) (by rfl) ?_
  refine wp_reg ?_
  refine st_alloc rfl rfl rfl rfl rfl rfl rfl ?_
  refine st_nil ?_
  refine wp_reg ?_
  refine st_pop rfl rfl rfl rfl ?_
  refine st_pop rfl rfl rfl rfl ?_
  refine st_store rfl rfl rfl rfl rfl rfl rfl rfl rfl rfl rfl rfl rfl ?_
  refine st_nil ?_
  refine awp_ret ?_
  refine ret_ret rfl rfl ?_
  exact .refl _
theorem whole_c (n : Int) : ∀ H, ACalls tt 74 [.i .i64 n] H (fun res_ H' => res_ = .agg (wholeV n).av ∧ H' = H) := by
  refine body_calc (T := tt) Try.func74 rfl Try.ntmps74 rfl rfl (by rfl) (by rfl) ?_
  refine wp_reg ?_
  refine st_alloc rfl rfl rfl rfl rfl rfl rfl ?_
  refine st_nil ?_
  refine wp_reg ?_
  refine st_pop rfl rfl rfl rfl ?_
  refine st_pop rfl rfl rfl rfl ?_
  refine st_store rfl rfl rfl rfl rfl rfl rfl rfl rfl rfl rfl rfl rfl ?_
  refine st_nil ?_
  refine awp_ret ?_
  refine ret_ret rfl rfl ?_
  exact .refl _
theorem real_c (r : Nat) : ∀ H, ACalls tt 77 [.f r] H (fun res_ H' => res_ = .agg (realV r).av ∧ H' = H) := by
  refine body_calc (T := tt) Try.func77 rfl Try.ntmps77 rfl rfl (by rfl) (by rfl) ?_
  refine wp_reg ?_
  refine st_alloc rfl rfl rfl rfl rfl rfl rfl ?_
  refine st_nil ?_
  refine wp_reg ?_
  refine st_pop rfl rfl rfl rfl ?_
  refine st_pop rfl rfl rfl rfl ?_
  refine st_store rfl rfl rfl rfl rfl rfl rfl rfl rfl rfl rfl rfl rfl ?_
  refine st_nil ?_
  refine awp_ret ?_
  refine ret_ret rfl rfl ?_
  exact .refl _
theorem neg_c (a : Int) (ha : inI a) : ∀ H, ACalls tt 76 [.i .i64 a] H (fun res_ H' => res_ = .tup [.i .i64 (numNeg a).1, .b (numNeg a).2] ∧ H' = H) := by
  refine body_calc (T := tt) Try.func76 rfl Try.ntmps76 rfl rfl (by rfl) (by rfl) ?_
  refine wp_reg ?_
  refine st_pop rfl rfl rfl rfl ?_
  refine st_pop rfl rfl rfl rfl ?_
  refine st_nil ?_
  refine awp_seq ?_
  refine wp_reg ?_
  refine st_pop rfl rfl rfl rfl ?_
  refine st_pop rfl rfl rfl rfl ?_
  refine st_nil ?_
  refine wp_bit 5 rfl fun b hb1 => ?_
  cases b
  · try simp only [decide_eq_true_eq, decide_eq_false_iff_not, Bool.not_eq_true', Bool.not_eq_false', Int.not_lt, Int.not_le] at hb1
    refine wp_f rfl ?_
    refine awp_skip ?_
    refine at_norm ?_
    refine wp_reg ?_
    refine st_pop rfl rfl rfl rfl ?_
    refine st_pop rfl rfl rfl rfl ?_
    refine st_val 7 (.i .i64 (-a)) rfl (wrap_eq (by unfold inI at *; omega) (by omega)) ?_
    refine st_pop rfl rfl rfl rfl ?_
    refine st_pop rfl rfl rfl rfl ?_
    refine st_nil ?_
    refine awp_ret ?_
    refine ret_ret rfl rfl ?_
    refine wk_eq ?_
    unfold inI at *
    first
      | (rw [show numNeg a = (-a, true) from if_pos (by unfold inI; omega)]; done)
      | (rw [show numNeg a = (0, false) from if_neg (by unfold inI; omega)]; done)
  · try simp only [decide_eq_true_eq, decide_eq_false_iff_not, Bool.not_eq_true', Bool.not_eq_false', Int.not_lt, Int.not_le] at hb1
    refine wp_t rfl ?_
    refine wp_reg ?_
    refine st_pop rfl rfl rfl rfl ?_
    refine st_pop rfl rfl rfl rfl ?_
    refine st_nil ?_
    refine awp_ret ?_
    refine at_ret ?_
    refine ret_ret rfl rfl ?_
    refine wk_eq ?_
    unfold inI at *
    first
      | (rw [show numNeg a = (-a, true) from if_pos (by unfold inI; omega)]; done)
      | (rw [show numNeg a = (0, false) from if_neg (by unfold inI; omega)]; done)
theorem add_c (a b : Int) (ha : inI a) (hb : inI b) : ∀ H, ACalls tt 86 [.i .i64 a, .i .i64 b] H (fun res_ H' => res_ = .tup [.i .i64 (numAdd a b).1, .b (numAdd a b).2] ∧ H' = H) := by
  refine body_calc (T := tt) Try.func86 rfl Try.ntmps86 rfl rfl (by rfl) (by rfl) ?_
  refine wp_reg ?_
  refine st_pop rfl rfl rfl rfl ?_
  refine st_pop rfl rfl rfl rfl ?_
  refine st_nil ?_
  refine awp_seq ?_
  refine wp_reg ?_
  refine st_pop rfl rfl rfl rfl ?_
  refine st_pop rfl rfl rfl rfl ?_
  refine st_pop rfl rfl rfl rfl ?_
  refine st_bit 8 rfl fun b hb1 => ?_
  cases b
  · try simp only [decide_eq_true_eq, decide_eq_false_iff_not, Bool.not_eq_true', Bool.not_eq_false', Int.not_lt, Int.not_le] at hb1
    refine st_skip rfl rfl rfl ?_
    refine st_skip rfl rfl rfl ?_
    refine st_skip rfl rfl rfl ?_
    refine st_skip rfl rfl rfl ?_
    refine st_pop rfl rfl rfl rfl ?_
    refine st_pop rfl rfl rfl rfl ?_
    refine st_pop rfl rfl rfl rfl ?_
    refine st_pop rfl rfl rfl rfl ?_
    refine st_pop rfl rfl rfl rfl ?_
    refine st_bit 17 rfl fun b hb2 => ?_
    cases b
    · try simp only [decide_eq_true_eq, decide_eq_false_iff_not, Bool.not_eq_true', Bool.not_eq_false', Int.not_lt, Int.not_le] at hb2
      refine st_skip rfl rfl rfl ?_
      refine st_skip rfl rfl rfl ?_
      refine st_skip rfl rfl rfl ?_
      refine st_skip rfl rfl rfl ?_
      refine st_pop rfl rfl rfl rfl ?_
      refine st_pop rfl rfl rfl rfl ?_
      refine st_nil ?_
      refine wp_f rfl ?_
      refine awp_skip ?_
      refine at_norm ?_
      refine wp_reg ?_
      refine st_pop rfl rfl rfl rfl ?_
      refine st_pop rfl rfl rfl rfl ?_
      refine st_pop rfl rfl rfl rfl ?_
      refine st_val 26 (.i .i64 (a + b)) rfl (wrap_in (by unfold inI at *; omega)) ?_
      refine st_pop rfl rfl rfl rfl ?_
      refine st_pop rfl rfl rfl rfl ?_
      refine st_nil ?_
      refine awp_ret ?_
      refine ret_ret rfl rfl ?_
      refine wk_eq ?_
      unfold inI at *
      first
        | (rw [show numAdd a b = (a + b, true) from if_pos (by unfold inI; omega)]; done)
        | (rw [show numAdd a b = (0, false) from if_neg (by unfold inI; omega)]; done)
    · try simp only [decide_eq_true_eq, decide_eq_false_iff_not, Bool.not_eq_true', Bool.not_eq_false', Int.not_lt, Int.not_le] at hb2
      refine st_pop rfl rfl rfl rfl ?_
      refine st_pop rfl rfl rfl rfl ?_
      refine st_pop rfl rfl rfl rfl ?_
      refine st_val 20 (.i .i64 (-9223372036854775808 - b)) rfl (wrap_in (by unfold inI at *; omega)) ?_
      refine st_pop rfl rfl rfl rfl ?_
      refine st_pop rfl rfl rfl rfl ?_
      refine st_pop rfl rfl rfl rfl ?_
      refine st_nil ?_
      refine wp_bit 23 rfl fun b hb3 => ?_
      cases b
      · try simp only [decide_eq_true_eq, decide_eq_false_iff_not, Bool.not_eq_true', Bool.not_eq_false', Int.not_lt, Int.not_le] at hb3
        refine wp_f rfl ?_
        refine awp_skip ?_
        refine at_norm ?_
        refine wp_reg ?_
        refine st_pop rfl rfl rfl rfl ?_
        refine st_pop rfl rfl rfl rfl ?_
        refine st_pop rfl rfl rfl rfl ?_
        refine st_val 26 (.i .i64 (a + b)) rfl (wrap_in (by unfold inI at *; omega)) ?_
        refine st_pop rfl rfl rfl rfl ?_
        refine st_pop rfl rfl rfl rfl ?_
        refine st_nil ?_
        refine awp_ret ?_
        refine ret_ret rfl rfl ?_
        refine wk_eq ?_
        unfold inI at *
        first
          | (rw [show numAdd a b = (a + b, true) from if_pos (by unfold inI; omega)]; done)
          | (rw [show numAdd a b = (0, false) from if_neg (by unfold inI; omega)]; done)
      · try simp only [decide_eq_true_eq, decide_eq_false_iff_not, Bool.not_eq_true', Bool.not_eq_false', Int.not_lt, Int.not_le] at hb3
        refine wp_t rfl ?_
        refine wp_reg ?_
        refine st_pop rfl rfl rfl rfl ?_
        refine st_pop rfl rfl rfl rfl ?_
        refine st_nil ?_
        refine awp_ret ?_
        refine at_ret ?_
        refine ret_ret rfl rfl ?_
        refine wk_eq ?_
        unfold inI at *
        first
          | (rw [show numAdd a b = (a + b, true) from if_pos (by unfold inI; omega)]; done)
          | (rw [show numAdd a b = (0, false) from if_neg (by unfold inI; omega)]; done)
  · try simp only [decide_eq_true_eq, decide_eq_false_iff_not, Bool.not_eq_true', Bool.not_eq_false', Int.not_lt, Int.not_le] at hb1
    refine st_pop rfl rfl rfl rfl ?_
    refine st_pop rfl rfl rfl rfl ?_
    refine st_pop rfl rfl rfl rfl ?_
    refine st_val 11 (.i .i64 (9223372036854775807 - b)) rfl (wrap_in (by unfold inI at *; omega)) ?_
    refine st_pop rfl rfl rfl rfl ?_
    refine st_pop rfl rfl rfl rfl ?_
    refine st_pop rfl rfl rfl rfl ?_
    refine st_bit 14 rfl fun b hb4 => ?_
    cases b
    · try simp only [decide_eq_true_eq, decide_eq_false_iff_not, Bool.not_eq_true', Bool.not_eq_false', Int.not_lt, Int.not_le] at hb4
      refine st_pop rfl rfl rfl rfl ?_
      refine st_pop rfl rfl rfl rfl ?_
      refine st_pop rfl rfl rfl rfl ?_
      refine st_bit 17 rfl fun b hb5 => ?_
      cases b
      · try simp only [decide_eq_true_eq, decide_eq_false_iff_not, Bool.not_eq_true', Bool.not_eq_false', Int.not_lt, Int.not_le] at hb5
        refine st_skip rfl rfl rfl ?_
        refine st_skip rfl rfl rfl ?_
        refine st_skip rfl rfl rfl ?_
        refine st_skip rfl rfl rfl ?_
        refine st_pop rfl rfl rfl rfl ?_
        refine st_pop rfl rfl rfl rfl ?_
        refine st_nil ?_
        refine wp_f rfl ?_
        refine awp_skip ?_
        refine at_norm ?_
        refine wp_reg ?_
        refine st_pop rfl rfl rfl rfl ?_
        refine st_pop rfl rfl rfl rfl ?_
        refine st_pop rfl rfl rfl rfl ?_
        refine st_val 26 (.i .i64 (a + b)) rfl (wrap_in (by unfold inI at *; omega)) ?_
        refine st_pop rfl rfl rfl rfl ?_
        refine st_pop rfl rfl rfl rfl ?_
        refine st_nil ?_
        refine awp_ret ?_
        refine ret_ret rfl rfl ?_
        refine wk_eq ?_
        unfold inI at *
        first
          | (rw [show numAdd a b = (a + b, true) from if_pos (by unfold inI; omega)]; done)
          | (rw [show numAdd a b = (0, false) from if_neg (by unfold inI; omega)]; done)
      · try simp only [decide_eq_true_eq, decide_eq_false_iff_not, Bool.not_eq_true', Bool.not_eq_false', Int.not_lt, Int.not_le] at hb5
        refine st_pop rfl rfl rfl rfl ?_
        refine st_pop rfl rfl rfl rfl ?_
        refine st_pop rfl rfl rfl rfl ?_
        refine st_val 20 (.i .i64 (-9223372036854775808 - b)) rfl (wrap_in (by unfold inI at *; omega)) ?_
        refine st_pop rfl rfl rfl rfl ?_
        refine st_pop rfl rfl rfl rfl ?_
        refine st_pop rfl rfl rfl rfl ?_
        refine st_nil ?_
        refine wp_bit 23 rfl fun b hb6 => ?_
        cases b
        · try simp only [decide_eq_true_eq, decide_eq_false_iff_not, Bool.not_eq_true', Bool.not_eq_false', Int.not_lt, Int.not_le] at hb6
          refine wp_f rfl ?_
          refine awp_skip ?_
          refine at_norm ?_
          refine wp_reg ?_
          refine st_pop rfl rfl rfl rfl ?_
          refine st_pop rfl rfl rfl rfl ?_
          refine st_pop rfl rfl rfl rfl ?_
          refine st_val 26 (.i .i64 (a + b)) rfl (wrap_in (by unfold inI at *; omega)) ?_
          refine st_pop rfl rfl rfl rfl ?_
          refine st_pop rfl rfl rfl rfl ?_
          refine st_nil ?_
          refine awp_ret ?_
          refine ret_ret rfl rfl ?_
          refine wk_eq ?_
          unfold inI at *
          first
            | (rw [show numAdd a b = (a + b, true) from if_pos (by unfold inI; omega)]; done)
            | (rw [show numAdd a b = (0, false) from if_neg (by unfold inI; omega)]; done)
        · try simp only [decide_eq_true_eq, decide_eq_false_iff_not, Bool.not_eq_true', Bool.not_eq_false', Int.not_lt, Int.not_le] at hb6
          refine wp_t rfl ?_
          refine wp_reg ?_
          refine st_pop rfl rfl rfl rfl ?_
          refine st_pop rfl rfl rfl rfl ?_
          refine st_nil ?_
          refine awp_ret ?_
          refine at_ret ?_
          refine ret_ret rfl rfl ?_
          refine wk_eq ?_
          unfold inI at *
          first
            | (rw [show numAdd a b = (a + b, true) from if_pos (by unfold inI; omega)]; done)
            | (rw [show numAdd a b = (0, false) from if_neg (by unfold inI; omega)]; done)
    · try simp only [decide_eq_true_eq, decide_eq_false_iff_not, Bool.not_eq_true', Bool.not_eq_false', Int.not_lt, Int.not_le] at hb4
      refine st_skip rfl rfl rfl ?_
      refine st_skip rfl rfl rfl ?_
      refine st_skip rfl rfl rfl ?_
      refine st_skip rfl rfl rfl ?_
      refine st_skip rfl rfl rfl ?_
      refine st_skip rfl rfl rfl ?_
      refine st_skip rfl rfl rfl ?_
      refine st_skip rfl rfl rfl ?_
      refine st_pop rfl rfl rfl rfl ?_
      refine st_nil ?_
      refine wp_t rfl ?_
      refine wp_reg ?_
      refine st_pop rfl rfl rfl rfl ?_
      refine st_pop rfl rfl rfl rfl ?_
      refine st_nil ?_
      refine awp_ret ?_
      refine at_ret ?_
      refine ret_ret rfl rfl ?_
      refine wk_eq ?_
      unfold inI at *
      first
        | (rw [show numAdd a b = (a + b, true) from if_pos (by unfold inI; omega)]; done)
        | (rw [show numAdd a b = (0, false) from if_neg (by unfold inI; omega)]; done)
theorem sub_c (a b : Int) (ha : inI a) (hb : inI b) : ∀ H, ACalls tt 87 [.i .i64 a, .i .i64 b] H (fun res_ H' => res_ = .tup [.i .i64 (numSub a b).1, .b (numSub a b).2] ∧ H' = H) := by
  refine body_calc (T := tt) Try.func87 rfl Try.ntmps87 rfl rfl (by rfl) (by rfl) ?_
  refine wp_reg ?_
  refine st_pop rfl rfl rfl rfl ?_
  refine st_pop rfl rfl rfl rfl ?_
  refine st_nil ?_
  refine awp_seq ?_
  refine wp_reg ?_
  refine st_pop rfl rfl rfl rfl ?_
  refine st_pop rfl rfl rfl rfl ?_
  refine st_pop rfl rfl rfl rfl ?_
  refine st_bit 8 rfl fun b hb1 => ?_
  cases b
  · try simp only [decide_eq_true_eq, decide_eq_false_iff_not, Bool.not_eq_true', Bool.not_eq_false', Int.not_lt, Int.not_le] at hb1
    refine st_skip rfl rfl rfl ?_
    refine st_skip rfl rfl rfl ?_
    refine st_skip rfl rfl rfl ?_
    refine st_skip rfl rfl rfl ?_
    refine st_pop rfl rfl rfl rfl ?_
    refine st_pop rfl rfl rfl rfl ?_
    refine st_pop rfl rfl rfl rfl ?_
    refine st_pop rfl rfl rfl rfl ?_
    refine st_pop rfl rfl rfl rfl ?_
    refine st_bit 17 rfl fun b hb2 => ?_
    cases b
    · try simp only [decide_eq_true_eq, decide_eq_false_iff_not, Bool.not_eq_true', Bool.not_eq_false', Int.not_lt, Int.not_le] at hb2
      refine st_skip rfl rfl rfl ?_
      refine st_skip rfl rfl rfl ?_
      refine st_skip rfl rfl rfl ?_
      refine st_skip rfl rfl rfl ?_
      refine st_pop rfl rfl rfl rfl ?_
      refine st_pop rfl rfl rfl rfl ?_
      refine st_nil ?_
      refine wp_f rfl ?_
      refine awp_skip ?_
      refine at_norm ?_
      refine wp_reg ?_
      refine st_pop rfl rfl rfl rfl ?_
      refine st_pop rfl rfl rfl rfl ?_
      refine st_pop rfl rfl rfl rfl ?_
      refine st_val 26 (.i .i64 (a - b)) rfl (wrap_in (by unfold inI at *; omega)) ?_
      refine st_pop rfl rfl rfl rfl ?_
      refine st_pop rfl rfl rfl rfl ?_
      refine st_nil ?_
      refine awp_ret ?_
      refine ret_ret rfl rfl ?_
      refine wk_eq ?_
      unfold inI at *
      first
        | (rw [show numSub a b = (a - b, true) from if_pos (by unfold inI; omega)]; done)
        | (rw [show numSub a b = (0, false) from if_neg (by unfold inI; omega)]; done)
    · try simp only [decide_eq_true_eq, decide_eq_false_iff_not, Bool.not_eq_true', Bool.not_eq_false', Int.not_lt, Int.not_le] at hb2
      refine st_pop rfl rfl rfl rfl ?_
      refine st_pop rfl rfl rfl rfl ?_
      refine st_pop rfl rfl rfl rfl ?_
      refine st_val 20 (.i .i64 (-9223372036854775808 + b)) rfl (wrap_in (by unfold inI at *; omega)) ?_
      refine st_pop rfl rfl rfl rfl ?_
      refine st_pop rfl rfl rfl rfl ?_
      refine st_pop rfl rfl rfl rfl ?_
      refine st_nil ?_
      refine wp_bit 23 rfl fun b hb3 => ?_
      cases b
      · try simp only [decide_eq_true_eq, decide_eq_false_iff_not, Bool.not_eq_true', Bool.not_eq_false', Int.not_lt, Int.not_le] at hb3
        refine wp_f rfl ?_
        refine awp_skip ?_
        refine at_norm ?_
        refine wp_reg ?_
        refine st_pop rfl rfl rfl rfl ?_
        refine st_pop rfl rfl rfl rfl ?_
        refine st_pop rfl rfl rfl rfl ?_
        refine st_val 26 (.i .i64 (a - b)) rfl (wrap_in (by unfold inI at *; omega)) ?_
        refine st_pop rfl rfl rfl rfl ?_
        refine st_pop rfl rfl rfl rfl ?_
        refine st_nil ?_
        refine awp_ret ?_
        refine ret_ret rfl rfl ?_
        refine wk_eq ?_
        unfold inI at *
        first
          | (rw [show numSub a b = (a - b, true) from if_pos (by unfold inI; omega)]; done)
          | (rw [show numSub a b = (0, false) from if_neg (by unfold inI; omega)]; done)
      · try simp only [decide_eq_true_eq, decide_eq_false_iff_not, Bool.not_eq_true', Bool.not_eq_false', Int.not_lt, Int.not_le] at hb3
        refine wp_t rfl ?_
        refine wp_reg ?_
        refine st_pop rfl rfl rfl rfl ?_
        refine st_pop rfl rfl rfl rfl ?_
        refine st_nil ?_
        refine awp_ret ?_
        refine at_ret ?_
        refine ret_ret rfl rfl ?_
        refine wk_eq ?_
        unfold inI at *
        first
          | (rw [show numSub a b = (a - b, true) from if_pos (by unfold inI; omega)]; done)
          | (rw [show numSub a b = (0, false) from if_neg (by unfold inI; omega)]; done)
  · try simp only [decide_eq_true_eq, decide_eq_false_iff_not, Bool.not_eq_true', Bool.not_eq_false', Int.not_lt, Int.not_le] at hb1
    refine st_pop rfl rfl rfl rfl ?_
    refine st_pop rfl rfl rfl rfl ?_
    refine st_pop rfl rfl rfl rfl ?_
    refine st_val 11 (.i .i64 (9223372036854775807 + b)) rfl (wrap_in (by unfold inI at *; omega)) ?_
    refine st_pop rfl rfl rfl rfl ?_
    refine st_pop rfl rfl rfl rfl ?_
    refine st_pop rfl rfl rfl rfl ?_
    refine st_bit 14 rfl fun b hb4 => ?_
    cases b
    · try simp only [decide_eq_true_eq, decide_eq_false_iff_not, Bool.not_eq_true', Bool.not_eq_false', Int.not_lt, Int.not_le] at hb4
      refine st_pop rfl rfl rfl rfl ?_
      refine st_pop rfl rfl rfl rfl ?_
      refine st_pop rfl rfl rfl rfl ?_
      refine st_bit 17 rfl fun b hb5 => ?_
      cases b
      · try simp only [decide_eq_true_eq, decide_eq_false_iff_not, Bool.not_eq_true', Bool.not_eq_false', Int.not_lt, Int.not_le] at hb5
        refine st_skip rfl rfl rfl ?_
        refine st_skip rfl rfl rfl ?_
        refine st_skip rfl rfl rfl ?_
        refine st_skip rfl rfl rfl ?_
        refine st_pop rfl rfl rfl rfl ?_
        refine st_pop rfl rfl rfl rfl ?_
        refine st_nil ?_
        refine wp_f rfl ?_
        refine awp_skip ?_
        refine at_norm ?_
        refine wp_reg ?_
        refine st_pop rfl rfl rfl rfl ?_
        refine st_pop rfl rfl rfl rfl ?_
        refine st_pop rfl rfl rfl rfl ?_
        refine st_val 26 (.i .i64 (a - b)) rfl (wrap_in (by unfold inI at *; omega)) ?_
        refine st_pop rfl rfl rfl rfl ?_
        refine st_pop rfl rfl rfl rfl ?_
        refine st_nil ?_
        refine awp_ret ?_
        refine ret_ret rfl rfl ?_
        refine wk_eq ?_
        unfold inI at *
        first
          | (rw [show numSub a b = (a - b, true) from if_pos (by unfold inI; omega)]; done)
          | (rw [show numSub a b = (0, false) from if_neg (by unfold inI; omega)]; done)
      · try simp only [decide_eq_true_eq, decide_eq_false_iff_not, Bool.not_eq_true', Bool.not_eq_false', Int.not_lt, Int.not_le] at hb5
        refine st_pop rfl rfl rfl rfl ?_
        refine st_pop rfl rfl rfl rfl ?_
        refine st_pop rfl rfl rfl rfl ?_
        refine st_val 20 (.i .i64 (-9223372036854775808 + b)) rfl (wrap_in (by unfold inI at *; omega)) ?_
        refine st_pop rfl rfl rfl rfl ?_
        refine st_pop rfl rfl rfl rfl ?_
        refine st_pop rfl rfl rfl rfl ?_
        refine st_nil ?_
        refine wp_bit 23 rfl fun b hb6 => ?_
        cases b
        · try simp only [decide_eq_true_eq, decide_eq_false_iff_not, Bool.not_eq_true', Bool.not_eq_false', Int.not_lt, Int.not_le] at hb6
          refine wp_f rfl ?_
          refine awp_skip ?_
          refine at_norm ?_
          refine wp_reg ?_
          refine st_pop rfl rfl rfl rfl ?_
          refine st_pop rfl rfl rfl rfl ?_
          refine st_pop rfl rfl rfl rfl ?_
          refine st_val 26 (.i .i64 (a - b)) rfl (wrap_in (by unfold inI at *; omega)) ?_
          refine st_pop rfl rfl rfl rfl ?_
          refine st_pop rfl rfl rfl rfl ?_
          refine st_nil ?_
          refine awp_ret ?_
          refine ret_ret rfl rfl ?_
          refine wk_eq ?_
          unfold inI at *
          first
            | (rw [show numSub a b = (a - b, true) from if_pos (by unfold inI; omega)]; done)
            | (rw [show numSub a b = (0, false) from if_neg (by unfold inI; omega)]; done)
        · try simp only [decide_eq_true_eq, decide_eq_false_iff_not, Bool.not_eq_true', Bool.not_eq_false', Int.not_lt, Int.not_le] at hb6
          refine wp_t rfl ?_
          refine wp_reg ?_
          refine st_pop rfl rfl rfl rfl ?_
          refine st_pop rfl rfl rfl rfl ?_
          refine st_nil ?_
          refine awp_ret ?_
          refine at_ret ?_
          refine ret_ret rfl rfl ?_
          refine wk_eq ?_
          unfold inI at *
          first
            | (rw [show numSub a b = (a - b, true) from if_pos (by unfold inI; omega)]; done)
            | (rw [show numSub a b = (0, false) from if_neg (by unfold inI; omega)]; done)
    · try simp only [decide_eq_true_eq, decide_eq_false_iff_not, Bool.not_eq_true', Bool.not_eq_false', Int.not_lt, Int.not_le] at hb4
      refine st_skip rfl rfl rfl ?_
      refine st_skip rfl rfl rfl ?_
      refine st_skip rfl rfl rfl ?_
      refine st_skip rfl rfl rfl ?_
      refine st_skip rfl rfl rfl ?_
      refine st_skip rfl rfl rfl ?_
      refine st_skip rfl rfl rfl ?_
      refine st_skip rfl rfl rfl ?_
      refine st_pop rfl rfl rfl rfl ?_
      refine st_nil ?_
      refine wp_t rfl ?_
      refine wp_reg ?_
      refine st_pop rfl rfl rfl rfl ?_
      refine st_pop rfl rfl rfl rfl ?_
      refine st_nil ?_
      refine awp_ret ?_
      refine at_ret ?_
      refine ret_ret rfl rfl ?_
      refine wk_eq ?_
      unfold inI at *
      first
        | (rw [show numSub a b = (a - b, true) from if_pos (by unfold inI; omega)]; done)
        | (rw [show numSub a b = (0, false) from if_neg (by unfold inI; omega)]; done)
theorem mul_c (a b : Int) (ha : inI a) (hb : inI b) : ∀ H, ACalls tt 88 [.i .i64 a, .i .i64 b] H (fun res_ H' => res_ = .tup [.i .i64 (numMul a b).1, .b (numMul a b).2] ∧ H' = H) := by
  refine body_calc (T := tt) Try.func88 rfl Try.ntmps88 rfl rfl (by rfl) (by rfl) ?_
  refine wp_reg ?_
  refine st_pop rfl rfl rfl rfl ?_
  refine st_pop rfl rfl rfl rfl ?_
  refine st_nil ?_
  refine awp_seq ?_
  refine wp_reg ?_
  refine st_pop rfl rfl rfl rfl ?_
  refine st_pop rfl rfl rfl rfl ?_
  refine st_pop rfl rfl rfl rfl ?_
  refine st_bit 9 rfl fun b hb1 => ?_
  cases b
  · try simp only [decide_eq_true_eq, decide_eq_false_iff_not, Bool.not_eq_true', Bool.not_eq_false', Int.not_lt, Int.not_le] at hb1
    refine st_pop rfl rfl rfl rfl ?_
    refine st_pop rfl rfl rfl rfl ?_
    refine st_pop rfl rfl rfl rfl ?_
    refine st_nil ?_
    refine wp_bit 12 rfl fun b hb2 => ?_
    cases b
    · try simp only [decide_eq_true_eq, decide_eq_false_iff_not, Bool.not_eq_true', Bool.not_eq_false', Int.not_lt, Int.not_le] at hb2
      refine wp_f rfl ?_
      refine awp_skip ?_
      refine at_norm ?_
      refine awp_seq ?_
      refine wp_reg ?_
      refine st_pop rfl rfl rfl rfl ?_
      refine st_pop rfl rfl rfl rfl ?_
      refine st_nil ?_
      refine wp_bit 14 rfl fun b hb3 => ?_
      cases b
      · try simp only [decide_eq_true_eq, decide_eq_false_iff_not, Bool.not_eq_true', Bool.not_eq_false', Int.not_lt, Int.not_le] at hb3
        refine wp_f rfl ?_
        refine awp_skip ?_
        refine at_norm ?_
        refine wp_reg ?_
        refine st_pop rfl rfl rfl rfl ?_
        refine st_pop rfl rfl rfl rfl ?_
        refine st_pop rfl rfl rfl rfl ?_
        refine st_pop rfl rfl rfl rfl ?_
        refine st_nil ?_
        refine awp_seq ?_
        refine wp_reg ?_
        refine st_pop rfl rfl rfl rfl ?_
        refine st_pop rfl rfl rfl rfl ?_
        refine st_popx (.i .i64 (IntKind.i64.wrap ((IntKind.i64.wrap (a * b)).tdiv a))) rfl rfl rfl (by simp [pop, abin, abinI, ev, upd, *]) ?_
        refine st_pop rfl rfl rfl rfl ?_
        refine st_pop rfl rfl rfl rfl ?_
        refine st_nil ?_
        refine wp_bit 26 rfl fun b hb4 => ?_
        cases b
        · try simp only [decide_eq_true_eq, decide_eq_false_iff_not, Bool.not_eq_true', Bool.not_eq_false', Int.not_lt, Int.not_le] at hb4
          refine wp_f rfl ?_
          refine awp_skip ?_
          refine at_norm ?_
          refine wp_reg ?_
          refine st_pop rfl rfl rfl rfl ?_
          refine st_pop rfl rfl rfl rfl ?_
          refine st_pop rfl rfl rfl rfl ?_
          refine st_nil ?_
          refine awp_ret ?_
          refine ret_ret rfl rfl ?_
          refine wk_eq ?_
          first
            | (simp_all [numMul, numNeg, inI]; done)
            | (have hm := mul_back ha hb (by assumption) (by assumption)
               first
                 | (rw [show numMul a b = (0, false) from if_neg (fun q => by have := hm.2 q; simp_all)]; done)
                 | (have q := hm.1 (by simp_all)
                    rw [show numMul a b = (a * b, true) from if_pos q, IntWalk.i64_in _ q]; done))
        · try simp only [decide_eq_true_eq, decide_eq_false_iff_not, Bool.not_eq_true', Bool.not_eq_false', Int.not_lt, Int.not_le] at hb4
          refine wp_t rfl ?_
          refine wp_reg ?_
          refine st_pop rfl rfl rfl rfl ?_
          refine st_pop rfl rfl rfl rfl ?_
          refine st_nil ?_
          refine awp_ret ?_
          refine at_ret ?_
          refine ret_ret rfl rfl ?_
          refine wk_eq ?_
          first
            | (simp_all [numMul, numNeg, inI]; done)
            | (have hm := mul_back ha hb (by assumption) (by assumption)
               first
                 | (rw [show numMul a b = (0, false) from if_neg (fun q => by have := hm.2 q; simp_all)]; done)
                 | (have q := hm.1 (by simp_all)
                    rw [show numMul a b = (a * b, true) from if_pos q, IntWalk.i64_in _ q]; done))
      · try simp only [decide_eq_true_eq, decide_eq_false_iff_not, Bool.not_eq_true', Bool.not_eq_false', Int.not_lt, Int.not_le] at hb3
        refine wp_t rfl ?_
        refine wp_reg ?_
        refine st_pop rfl rfl rfl rfl ?_
        refine st_calc (xs := [.tmp 15]) _ rfl rfl rfl rfl Try.func76 rfl rfl rfl (neg_c _ (by assumption) _) ?_
        refine st_pop rfl rfl rfl rfl ?_
        refine st_pop rfl rfl rfl rfl ?_
        refine st_pop rfl rfl rfl rfl ?_
        refine st_pop rfl rfl rfl rfl ?_
        refine st_nil ?_
        refine awp_ret ?_
        refine at_ret ?_
        refine ret_ret rfl rfl ?_
        refine wk_eq ?_
        first
          | (simp_all [numMul, numNeg, inI]; done)
          | (have hm := mul_back ha hb (by assumption) (by assumption)
             first
               | (rw [show numMul a b = (0, false) from if_neg (fun q => by have := hm.2 q; simp_all)]; done)
               | (have q := hm.1 (by simp_all)
                  rw [show numMul a b = (a * b, true) from if_pos q, IntWalk.i64_in _ q]; done))
    · try simp only [decide_eq_true_eq, decide_eq_false_iff_not, Bool.not_eq_true', Bool.not_eq_false', Int.not_lt, Int.not_le] at hb2
      refine wp_t rfl ?_
      refine wp_reg ?_
      refine st_pop rfl rfl rfl rfl ?_
      refine st_pop rfl rfl rfl rfl ?_
      refine st_nil ?_
      refine awp_ret ?_
      refine at_ret ?_
      refine ret_ret rfl rfl ?_
      refine wk_eq ?_
      first
        | (simp_all [numMul, numNeg, inI]; done)
        | (have hm := mul_back ha hb (by assumption) (by assumption)
           first
             | (rw [show numMul a b = (0, false) from if_neg (fun q => by have := hm.2 q; simp_all)]; done)
             | (have q := hm.1 (by simp_all)
                rw [show numMul a b = (a * b, true) from if_pos q, IntWalk.i64_in _ q]; done))
  · try simp only [decide_eq_true_eq, decide_eq_false_iff_not, Bool.not_eq_true', Bool.not_eq_false', Int.not_lt, Int.not_le] at hb1
    refine st_skip rfl rfl rfl ?_
    refine st_skip rfl rfl rfl ?_
    refine st_pop rfl rfl rfl rfl ?_
    refine st_nil ?_
    refine wp_t rfl ?_
    refine wp_reg ?_
    refine st_pop rfl rfl rfl rfl ?_
    refine st_pop rfl rfl rfl rfl ?_
    refine st_nil ?_
    refine awp_ret ?_
    refine at_ret ?_
    refine ret_ret rfl rfl ?_
    refine wk_eq ?_
    first
      | (simp_all [numMul, numNeg, inI]; done)
      | (have hm := mul_back ha hb (by assumption) (by assumption)
         first
           | (rw [show numMul a b = (0, false) from if_neg (fun q => by have := hm.2 q; simp_all)]; done)
           | (have q := hm.1 (by simp_all)
              rw [show numMul a b = (a * b, true) from if_pos q, IntWalk.i64_in _ q]; done))
theorem div_c (a b : Int) (ha : inI a) (hb : inI b) : ∀ H, ACalls tt 89 [.i .i64 a, .i .i64 b] H (fun res_ H' => res_ = .tup [.i .i64 (numDiv a b).1, .i .i64 (numDiv a b).2] ∧ H' = H) := by
  refine body_calc (T := tt) Try.func89 rfl Try.ntmps89 rfl rfl (by rfl) (by rfl) ?_
  refine wp_reg ?_
  refine st_pop rfl rfl rfl rfl ?_
  refine st_pop rfl rfl rfl rfl ?_
  refine st_nil ?_
  refine awp_seq ?_
  refine awp_block ?_
  refine wp_reg ?_
  refine st_pop rfl rfl rfl rfl ?_
  refine st_pop rfl rfl rfl rfl ?_
  refine st_pop rfl rfl rfl rfl ?_
  refine st_nil ?_
  refine wp_bit 6 rfl fun b hb1 => ?_
  cases b
  · try simp only [decide_eq_true_eq, decide_eq_false_iff_not, Bool.not_eq_true', Bool.not_eq_false', Int.not_lt, Int.not_le] at hb1
    refine wp_f rfl ?_
    refine wp_reg ?_
    refine st_pop rfl rfl rfl rfl ?_
    refine st_pop rfl rfl rfl rfl ?_
    refine st_pop rfl rfl rfl rfl ?_
    refine st_bit 12 rfl fun b hb2 => ?_
    cases b
    · try simp only [decide_eq_true_eq, decide_eq_false_iff_not, Bool.not_eq_true', Bool.not_eq_false', Int.not_lt, Int.not_le] at hb2
      refine st_skip rfl rfl rfl ?_
      refine st_skip rfl rfl rfl ?_
      refine st_pop rfl rfl rfl rfl ?_
      refine st_pop rfl rfl rfl rfl ?_
      refine st_nil ?_
      refine wp_f rfl ?_
      refine awp_skip ?_
      refine ab_norm ?_
      refine at_norm ?_
      refine wp_reg ?_
      refine st_pop rfl rfl rfl rfl ?_
      refine st_pop rfl rfl rfl rfl ?_
      refine st_popx (.i .i64 (a.tdiv b)) rfl rfl rfl (by simp [pop, abin, abinI, ev, upd, (show ¬ b = 0 by assumption), IntWalk.i64_in _ (tdiv_in ha (show b ≠ 0 by assumption) (by omega))]) ?_
      refine st_pop rfl rfl rfl rfl ?_
      refine st_pop rfl rfl rfl rfl ?_
      refine st_nil ?_
      refine awp_ret ?_
      refine ret_ret rfl rfl ?_
      refine wk_eq ?_
      first
        | (simp_all [numDiv]; done)
        | (rw [show numDiv a b = (0, 3) from by (obtain ⟨rfl, rfl⟩ : a = -9223372036854775808 ∧ b = -1 := ⟨by omega, by omega⟩); decide]; done)
        | (rw [show numDiv a b = (a.tdiv b, 0) from by unfold numDiv; rw [if_neg (by assumption), if_pos (tdiv_in ha (by assumption) (by omega))]]; done)
    · try simp only [decide_eq_true_eq, decide_eq_false_iff_not, Bool.not_eq_true', Bool.not_eq_false', Int.not_lt, Int.not_le] at hb2
      refine st_pop rfl rfl rfl rfl ?_
      refine st_pop rfl rfl rfl rfl ?_
      refine st_pop rfl rfl rfl rfl ?_
      refine st_pop rfl rfl rfl rfl ?_
      refine st_nil ?_
      refine wp_bit 9 rfl fun b hb3 => ?_
      cases b
      · try simp only [decide_eq_true_eq, decide_eq_false_iff_not, Bool.not_eq_true', Bool.not_eq_false', Int.not_lt, Int.not_le] at hb3
        refine wp_f rfl ?_
        refine awp_skip ?_
        refine ab_norm ?_
        refine at_norm ?_
        refine wp_reg ?_
        refine st_pop rfl rfl rfl rfl ?_
        refine st_pop rfl rfl rfl rfl ?_
        refine st_popx (.i .i64 (a.tdiv b)) rfl rfl rfl (by simp [pop, abin, abinI, ev, upd, (show ¬ b = 0 by assumption), IntWalk.i64_in _ (tdiv_in ha (show b ≠ 0 by assumption) (by omega))]) ?_
        refine st_pop rfl rfl rfl rfl ?_
        refine st_pop rfl rfl rfl rfl ?_
        refine st_nil ?_
        refine awp_ret ?_
        refine ret_ret rfl rfl ?_
        refine wk_eq ?_
        first
          | (simp_all [numDiv]; done)
          | (rw [show numDiv a b = (0, 3) from by (obtain ⟨rfl, rfl⟩ : a = -9223372036854775808 ∧ b = -1 := ⟨by omega, by omega⟩); decide]; done)
          | (rw [show numDiv a b = (a.tdiv b, 0) from by unfold numDiv; rw [if_neg (by assumption), if_pos (tdiv_in ha (by assumption) (by omega))]]; done)
      · try simp only [decide_eq_true_eq, decide_eq_false_iff_not, Bool.not_eq_true', Bool.not_eq_false', Int.not_lt, Int.not_le] at hb3
        refine wp_t rfl ?_
        refine wp_reg ?_
        refine st_pop rfl rfl rfl rfl ?_
        refine st_pop rfl rfl rfl rfl ?_
        refine st_nil ?_
        refine awp_ret ?_
        refine ab_ret ?_
        refine at_ret ?_
        refine ret_ret rfl rfl ?_
        refine wk_eq ?_
        first
          | (simp_all [numDiv]; done)
          | (rw [show numDiv a b = (0, 3) from by (obtain ⟨rfl, rfl⟩ : a = -9223372036854775808 ∧ b = -1 := ⟨by omega, by omega⟩); decide]; done)
          | (rw [show numDiv a b = (a.tdiv b, 0) from by unfold numDiv; rw [if_neg (by assumption), if_pos (tdiv_in ha (by assumption) (by omega))]]; done)
  · try simp only [decide_eq_true_eq, decide_eq_false_iff_not, Bool.not_eq_true', Bool.not_eq_false', Int.not_lt, Int.not_le] at hb1
    refine wp_t rfl ?_
    refine wp_reg ?_
    refine st_pop rfl rfl rfl rfl ?_
    refine st_pop rfl rfl rfl rfl ?_
    refine st_nil ?_
    refine awp_ret ?_
    refine ab_ret ?_
    refine at_ret ?_
    refine ret_ret rfl rfl ?_
    refine wk_eq ?_
    first
      | (simp_all [numDiv]; done)
      | (rw [show numDiv a b = (0, 3) from by (obtain ⟨rfl, rfl⟩ : a = -9223372036854775808 ∧ b = -1 := ⟨by omega, by omega⟩); decide]; done)
      | (rw [show numDiv a b = (a.tdiv b, 0) from by unfold numDiv; rw [if_neg (by assumption), if_pos (tdiv_in ha (by assumption) (by omega))]]; done)
theorem mod_c (a b : Int) (ha : inI a) (hb : inI b) : ∀ H, ACalls tt 90 [.i .i64 a, .i .i64 b] H (fun res_ H' => res_ = .tup [.i .i64 (numMod a b).1, .i .i64 (numMod a b).2] ∧ H' = H) := by
  refine body_calc (T := tt) Try.func90 rfl Try.ntmps90 rfl rfl (by rfl) (by rfl) ?_
  refine wp_reg ?_
  refine st_pop rfl rfl rfl rfl ?_
  refine st_pop rfl rfl rfl rfl ?_
  refine st_nil ?_
  refine awp_seq ?_
  refine wp_reg ?_
  refine st_pop rfl rfl rfl rfl ?_
  refine st_nil ?_
  refine awp_block ?_
  refine wp_reg ?_
  refine st_pop rfl rfl rfl rfl ?_
  refine st_pop rfl rfl rfl rfl ?_
  refine st_nil ?_
  refine wp_bit 7 rfl fun b hb1 => ?_
  cases b
  · try simp only [decide_eq_true_eq, decide_eq_false_iff_not, Bool.not_eq_true', Bool.not_eq_false', Int.not_lt, Int.not_le] at hb1
    refine wp_f rfl ?_
    refine wp_reg ?_
    refine st_pop rfl rfl rfl rfl ?_
    refine st_pop rfl rfl rfl rfl ?_
    refine st_nil ?_
    refine wp_bit 9 rfl fun b hb2 => ?_
    cases b
    · try simp only [decide_eq_true_eq, decide_eq_false_iff_not, Bool.not_eq_true', Bool.not_eq_false', Int.not_lt, Int.not_le] at hb2
      refine wp_f rfl ?_
      refine awp_skip ?_
      refine ab_norm ?_
      refine at_norm ?_
      refine wp_reg ?_
      refine st_pop rfl rfl rfl rfl ?_
      refine st_pop rfl rfl rfl rfl ?_
      refine st_popx (.i .i64 (a.tmod b)) rfl rfl rfl (by simp [pop, abin, abinI, ev, upd, *]) ?_
      refine st_pop rfl rfl rfl rfl ?_
      refine st_pop rfl rfl rfl rfl ?_
      refine st_nil ?_
      refine awp_ret ?_
      refine ret_ret rfl rfl ?_
      refine wk_eq ?_
      first
        | (simp_all [numMod]; done)
        | (rw [show numMod a b = (a.tmod b, 0) from by unfold numMod; rw [if_neg (by assumption)]]; done)
    · try simp only [decide_eq_true_eq, decide_eq_false_iff_not, Bool.not_eq_true', Bool.not_eq_false', Int.not_lt, Int.not_le] at hb2
      refine wp_t rfl ?_
      refine wp_reg ?_
      refine st_pop rfl rfl rfl rfl ?_
      refine st_pop rfl rfl rfl rfl ?_
      refine st_nil ?_
      refine awp_ret ?_
      refine ab_ret ?_
      refine at_ret ?_
      refine ret_ret rfl rfl ?_
      refine wk_eq ?_
      first
        | (simp_all [numMod]; done)
        | (rw [show numMod a b = (a.tmod b, 0) from by unfold numMod; rw [if_neg (by assumption)]]; done)
  · try simp only [decide_eq_true_eq, decide_eq_false_iff_not, Bool.not_eq_true', Bool.not_eq_false', Int.not_lt, Int.not_le] at hb1
    refine wp_t rfl ?_
    refine wp_reg ?_
    refine st_pop rfl rfl rfl rfl ?_
    refine st_pop rfl rfl rfl rfl ?_
    refine st_nil ?_
    refine awp_ret ?_
    refine ab_ret ?_
    refine at_ret ?_
    refine ret_ret rfl rfl ?_
    refine wk_eq ?_
    first
      | (simp_all [numMod]; done)
      | (rw [show numMod a b = (a.tmod b, 0) from by unfold numMod; rw [if_neg (by assumption)]]; done)
theorem isInf_c (x : Nat) (hx : x < 18446744073709551616) : ∀ H, ACalls tt 36 [.f x, .i .i64 0] H (fun res_ H' => res_ = .b (decide (x % 9223372036854775808 = 9218868437227405312)) ∧ H' = H) := by
  intro H
  have h : ∀ w, Calls Try.prog 36 #[.float .f64 x, .int .i64 0] w fun e w' => e = .returned (.bool (decide (x % 9223372036854775808 = 9218868437227405312))) ∧ Below w.heap.size w w' := fun w => Am.Calls.mono' (isinf_any x hx w) fun e w' hh => ⟨hh.1, hh.2 ▸ .refl _ _⟩
  exact acalls_lift (T := tt) (args := [.f x, .i .i64 0]) (r := .b (decide (x % 9223372036854775808 = 9218868437227405312))) rfl rfl h H
theorem rateNeg_c (x : Nat) (hx : x < 18446744073709551616) : ∀ H, ACalls tt 78 [.f x] H (fun res_ H' => res_ = .f (negW x) ∧ H' = H) := by
  intro H
  have h : ∀ w, Calls Try.prog 78 #[.float .f64 x] w fun e w' => e = .returned (.float .f64 (negW x)) ∧ Below w.heap.size w w' := fun w => Am.Calls.mono' (rateNeg_any x hx w) fun e w' hh => ⟨hh.1, hh.2 ▸ .refl _ _⟩
  exact acalls_lift (T := tt) (args := [.f x]) (r := .f (negW x)) rfl rfl h H
theorem floor_c (x : Nat) (hx : x % 9223372036854775808 < 9218868437227405312) : ∀ H, ACalls tt 95 [.f x] H (fun res_ H' => res_ = .f (Fm.floorW x) ∧ H' = H) := by
  intro H
  have h : ∀ w, Calls Try.prog 95 #[.float .f64 x] w fun e w' => e = .returned (.float .f64 (Fm.floorW x)) ∧ Below w.heap.size w w' := fun w => Am.Calls.mono' (floor_any x hx w) fun e w' hh => ⟨hh.1, hh.2 ▸ .refl _ _⟩
  exact acalls_lift (T := tt) (args := [.f x]) (r := .f (Fm.floorW x)) rfl rfl h H
theorem rtold_c (a b r : Nat) (ha : a < 18446744073709551616) (hb : b < 18446744073709551616) (ra : Fm.isRate a = true) (rb : Fm.isRate b = true) (h1 : r < 18446744073709551616) (h2 : r % 9223372036854775808 ≤ 9218868437227405312) : ∀ H, ACalls tt 96 [.f a, .f b, .f r] H (fun res_ H' => res_ = .tup [.f (Fm.toldW r).1, .b (Fm.toldW r).2] ∧ H' = H) := by
  refine body_calc (T := tt) Try.func96 rfl Try.ntmps96 rfl rfl (by rfl) (by rfl) ?_
  refine wp_reg ?_
  refine st_pop rfl rfl rfl rfl ?_
  refine st_pop rfl rfl rfl rfl ?_
  refine st_nil ?_
  refine awp_seq ?_
  refine wp_reg ?_
  refine st_pop rfl rfl rfl rfl ?_
  refine st_calc (xs := [.tmp 8]) _ rfl rfl rfl rfl Try.func21 rfl rfl rfl (rate_c _ (by assumption) _) ?_
  refine st_pop rfl rfl rfl rfl ?_
  refine st_pop rfl rfl rfl rfl ?_
  refine st_bit 11 rfl fun b hb1 => ?_
  cases b
  · try simp only [decide_eq_true_eq, decide_eq_false_iff_not, Bool.not_eq_true', Bool.not_eq_false', Int.not_lt, Int.not_le] at hb1
    refine st_pop rfl rfl rfl rfl ?_
    refine st_calc (xs := [.tmp 12]) _ rfl rfl rfl rfl Try.func21 rfl rfl rfl (rate_c _ (by assumption) _) ?_
    refine st_pop rfl rfl rfl rfl ?_
    refine st_pop rfl rfl rfl rfl ?_
    refine st_pop rfl rfl rfl rfl ?_
    refine st_bit 16 rfl fun b hb2 => ?_
    cases b
    · try simp only [decide_eq_true_eq, decide_eq_false_iff_not, Bool.not_eq_true', Bool.not_eq_false', Int.not_lt, Int.not_le] at hb2
      refine st_pop rfl rfl rfl rfl ?_
      refine st_calc (xs := [.tmp 17, _]) _ rfl rfl rfl rfl Try.func36 rfl rfl rfl (isInf_c _ (by assumption) _) ?_
      refine st_pop rfl rfl rfl rfl ?_
      refine st_nil ?_
      refine wp_bit 19 rfl fun b hb3 => ?_
      cases b
      · try simp only [decide_eq_true_eq, decide_eq_false_iff_not, Bool.not_eq_true', Bool.not_eq_false', Int.not_lt, Int.not_le] at hb3
        refine wp_f rfl ?_
        refine awp_skip ?_
        refine at_norm ?_
        refine wp_reg ?_
        refine st_pop rfl rfl rfl rfl ?_
        refine st_popx (.f (if r = 9223372036854775808 then 0 else r)) rfl rfl rfl (show (Ieee.double.add r 0).map AV.f = _ by rw [Fm.add_zero r h1 (by simp_all; omega)]; rfl) ?_
        refine st_pop rfl rfl rfl rfl ?_
        refine st_pop rfl rfl rfl rfl ?_
        refine st_nil ?_
        refine awp_ret ?_
        refine ret_ret rfl rfl ?_
        refine wk_eq ?_
        first
          | (simp_all [Fm.toldW]; done)
          | (rw [show Fm.toldW r = _ from if_neg (by simp_all)]; done)
      · try simp only [decide_eq_true_eq, decide_eq_false_iff_not, Bool.not_eq_true', Bool.not_eq_false', Int.not_lt, Int.not_le] at hb3
        refine wp_t rfl ?_
        refine wp_reg ?_
        refine st_pop rfl rfl rfl rfl ?_
        refine st_pop rfl rfl rfl rfl ?_
        refine st_nil ?_
        refine awp_ret ?_
        refine at_ret ?_
        refine ret_ret rfl rfl ?_
        refine wk_eq ?_
        first
          | (simp_all [Fm.toldW]; done)
          | (rw [show Fm.toldW r = _ from if_neg (by simp_all)]; done)
    · try simp only [decide_eq_true_eq, decide_eq_false_iff_not, Bool.not_eq_true', Bool.not_eq_false', Int.not_lt, Int.not_le] at hb2
      refine st_skip rfl rfl rfl ?_
      refine st_skip rfl rfl rfl ?_
      refine st_pop rfl rfl rfl rfl ?_
      refine st_nil ?_
      refine wp_t rfl ?_
      refine wp_reg ?_
      refine st_pop rfl rfl rfl rfl ?_
      refine st_pop rfl rfl rfl rfl ?_
      refine st_nil ?_
      refine awp_ret ?_
      refine at_ret ?_
      refine ret_ret rfl rfl ?_
      refine wk_eq ?_
      first
        | (simp_all [Fm.toldW]; done)
        | (rw [show Fm.toldW r = _ from if_neg (by simp_all)]; done)
  · try simp only [decide_eq_true_eq, decide_eq_false_iff_not, Bool.not_eq_true', Bool.not_eq_false', Int.not_lt, Int.not_le] at hb1
    refine st_skip rfl rfl rfl ?_
    refine st_skip rfl rfl rfl ?_
    refine st_skip rfl rfl rfl ?_
    refine st_pop rfl rfl rfl rfl ?_
    refine st_pop rfl rfl rfl rfl ?_
    refine st_skip rfl rfl rfl ?_
    refine st_skip rfl rfl rfl ?_
    refine st_pop rfl rfl rfl rfl ?_
    refine st_nil ?_
    refine wp_t rfl ?_
    refine wp_reg ?_
    refine st_pop rfl rfl rfl rfl ?_
    refine st_pop rfl rfl rfl rfl ?_
    refine st_nil ?_
    refine awp_ret ?_
    refine at_ret ?_
    refine ret_ret rfl rfl ?_
    refine wk_eq ?_
    first
      | (simp_all [Fm.toldW]; done)
      | (rw [show Fm.toldW r = _ from if_neg (by simp_all)]; done)
theorem rAdd_c (a b : Nat) (ha : a < 18446744073709551616) (hb : b < 18446744073709551616) (ra : Fm.isRate a = true) (rb : Fm.isRate b = true) : ∀ H, ACalls tt 91 [.f a, .f b] H (fun res_ H' => res_ = .tup [.f (Fm.addW a b).1, .b (Fm.addW a b).2] ∧ H' = H) := by
  obtain ⟨r, hr, h1, h2⟩ := Fm.add_fin (Fm.isRate_fin ra) (Fm.isRate_fin rb)
  refine body_calc (T := tt) Try.func91 rfl Try.ntmps91 rfl rfl (by rfl) (by rfl) ?_
  refine wp_reg ?_
  refine st_pop rfl rfl rfl rfl ?_
  refine st_pop rfl rfl rfl rfl ?_
  refine st_nil ?_
  refine wp_reg ?_
  refine st_pop rfl rfl rfl rfl ?_
  refine st_pop rfl rfl rfl rfl ?_
  refine st_pop rfl rfl rfl rfl ?_
  refine st_pop rfl rfl rfl rfl ?_
  refine st_popx (.f r) rfl rfl rfl (show (Ieee.double.add a b).map AV.f = _ by rw [hr]; rfl) ?_
  refine st_calc (xs := [.tmp 6, .tmp 7, .tmp 10]) _ rfl rfl rfl rfl Try.func96 rfl rfl rfl (rtold_c _ _ _ ha hb ra rb h1 h2 _) ?_
  refine st_pop rfl rfl rfl rfl ?_
  refine st_pop rfl rfl rfl rfl ?_
  refine st_pop rfl rfl rfl rfl ?_
  refine st_pop rfl rfl rfl rfl ?_
  refine st_nil ?_
  refine awp_ret ?_
  refine ret_ret rfl rfl ?_
  refine wk_eq ?_
  rw [show Fm.addW a b = Fm.toldW r from by simp [Fm.addW, Fm.opW, hr]]
theorem rSub_c (a b : Nat) (ha : a < 18446744073709551616) (hb : b < 18446744073709551616) (ra : Fm.isRate a = true) (rb : Fm.isRate b = true) : ∀ H, ACalls tt 92 [.f a, .f b] H (fun res_ H' => res_ = .tup [.f (Fm.subW a b).1, .b (Fm.subW a b).2] ∧ H' = H) := by
  obtain ⟨r, hr, h1, h2⟩ := Fm.sub_fin (Fm.isRate_fin ra) (Fm.isRate_fin rb)
  refine body_calc (T := tt) Try.func92 rfl Try.ntmps92 rfl rfl (by rfl) (by rfl) ?_
  refine wp_reg ?_
  refine st_pop rfl rfl rfl rfl ?_
  refine st_pop rfl rfl rfl rfl ?_
  refine st_nil ?_
  refine wp_reg ?_
  refine st_pop rfl rfl rfl rfl ?_
  refine st_pop rfl rfl rfl rfl ?_
  refine st_pop rfl rfl rfl rfl ?_
  refine st_pop rfl rfl rfl rfl ?_
  refine st_popx (.f r) rfl rfl rfl (show (Ieee.double.sub a b).map AV.f = _ by rw [hr]; rfl) ?_
  refine st_calc (xs := [.tmp 6, .tmp 7, .tmp 10]) _ rfl rfl rfl rfl Try.func96 rfl rfl rfl (rtold_c _ _ _ ha hb ra rb h1 h2 _) ?_
  refine st_pop rfl rfl rfl rfl ?_
  refine st_pop rfl rfl rfl rfl ?_
  refine st_pop rfl rfl rfl rfl ?_
  refine st_pop rfl rfl rfl rfl ?_
  refine st_nil ?_
  refine awp_ret ?_
  refine ret_ret rfl rfl ?_
  refine wk_eq ?_
  rw [show Fm.subW a b = Fm.toldW r from by simp [Fm.subW, Fm.opW, hr]]
theorem rMul_c (a b : Nat) (ha : a < 18446744073709551616) (hb : b < 18446744073709551616) (ra : Fm.isRate a = true) (rb : Fm.isRate b = true) : ∀ H, ACalls tt 93 [.f a, .f b] H (fun res_ H' => res_ = .tup [.f (Fm.mulW a b).1, .b (Fm.mulW a b).2] ∧ H' = H) := by
  obtain ⟨r, hr, h1, h2⟩ := Fm.mul_fin (Fm.isRate_fin ra) (Fm.isRate_fin rb)
  refine body_calc (T := tt) Try.func93 rfl Try.ntmps93 rfl rfl (by rfl) (by rfl) ?_
  refine wp_reg ?_
  refine st_pop rfl rfl rfl rfl ?_
  refine st_pop rfl rfl rfl rfl ?_
  refine st_nil ?_
  refine wp_reg ?_
  refine st_pop rfl rfl rfl rfl ?_
  refine st_pop rfl rfl rfl rfl ?_
  refine st_pop rfl rfl rfl rfl ?_
  refine st_pop rfl rfl rfl rfl ?_
  refine st_popx (.f r) rfl rfl rfl (show (Ieee.double.mul a b).map AV.f = _ by rw [hr]; rfl) ?_
  refine st_calc (xs := [.tmp 6, .tmp 7, .tmp 10]) _ rfl rfl rfl rfl Try.func96 rfl rfl rfl (rtold_c _ _ _ ha hb ra rb h1 h2 _) ?_
  refine st_pop rfl rfl rfl rfl ?_
  refine st_pop rfl rfl rfl rfl ?_
  refine st_pop rfl rfl rfl rfl ?_
  refine st_pop rfl rfl rfl rfl ?_
  refine st_nil ?_
  refine awp_ret ?_
  refine ret_ret rfl rfl ?_
  refine wk_eq ?_
  rw [show Fm.mulW a b = Fm.toldW r from by simp [Fm.mulW, Fm.opW, hr]]
theorem rDiv_c (a b : Nat) (ha : a < 18446744073709551616) (hb : b < 18446744073709551616) (ra : Fm.isRate a = true) (rb : Fm.isRate b = true) : ∀ H, ACalls tt 94 [.f a, .f b] H (fun res_ H' => res_ = .tup [.f (Fm.divW a b).1, .i .i64 (Fm.divW a b).2] ∧ H' = H) := by
  refine body_calc (T := tt) Try.func94 rfl Try.ntmps94 rfl rfl (by rfl) (by rfl) ?_
  refine wp_reg ?_
  refine st_pop rfl rfl rfl rfl ?_
  refine st_pop rfl rfl rfl rfl ?_
  refine st_nil ?_
  refine awp_seq ?_
  refine awp_block ?_
  refine wp_reg ?_
  refine st_pop rfl rfl rfl rfl ?_
  refine st_calc (xs := [.tmp 9]) _ rfl rfl rfl rfl Try.func21 rfl rfl rfl (rate_c _ (by assumption) _) ?_
  refine st_pop rfl rfl rfl rfl ?_
  refine st_pop rfl rfl rfl rfl ?_
  refine st_bit 12 rfl fun b hb1 => ?_
  cases b
  · try simp only [decide_eq_true_eq, decide_eq_false_iff_not, Bool.not_eq_true', Bool.not_eq_false', Int.not_lt, Int.not_le] at hb1
    refine st_pop rfl rfl rfl rfl ?_
    refine st_calc (xs := [.tmp 13]) _ rfl rfl rfl rfl Try.func21 rfl rfl rfl (rate_c _ (by assumption) _) ?_
    refine st_pop rfl rfl rfl rfl ?_
    refine st_pop rfl rfl rfl rfl ?_
    refine st_pop rfl rfl rfl rfl ?_
    refine st_nil ?_
    refine wp_bit 8 rfl fun b hb2 => ?_
    cases b
    · try simp only [decide_eq_true_eq, decide_eq_false_iff_not, Bool.not_eq_true', Bool.not_eq_false', Int.not_lt, Int.not_le] at hb2
      refine wp_f rfl ?_
      refine wp_reg ?_
      refine st_pop rfl rfl rfl rfl ?_
      refine st_pop rfl rfl rfl rfl ?_
      refine st_pop rfl rfl rfl rfl ?_
      refine st_nil ?_
      refine wp_bit 17 rfl fun b hb3 => ?_
      cases b
      · try simp only [decide_eq_true_eq, decide_eq_false_iff_not, Bool.not_eq_true', Bool.not_eq_false', Int.not_lt, Int.not_le] at hb3
        have h0 : b % 9223372036854775808 ≠ 0 := fun q => by rw [Fm.order_zero, q] at hb3; simp at hb3
        obtain ⟨r, hr, h1, h2⟩ := Fm.div_fin (Fm.isRate_fin ra) (Fm.isRate_fin rb) h0
        refine wp_f rfl ?_
        refine awp_skip ?_
        refine ab_norm ?_
        refine at_norm ?_
        refine wp_reg ?_
        refine st_pop rfl rfl rfl rfl ?_
        refine st_pop rfl rfl rfl rfl ?_
        refine st_pop rfl rfl rfl rfl ?_
        refine st_pop rfl rfl rfl rfl ?_
        refine st_popx (.f r) rfl rfl rfl (show (Ieee.double.div a b).map AV.f = _ by rw [hr]; rfl) ?_
        refine st_calc (xs := [.tmp 21, .tmp 22, .tmp 25]) _ rfl rfl rfl rfl Try.func96 rfl rfl rfl (rtold_c _ _ _ ha hb ra rb h1 h2 _) ?_
        refine st_pop rfl rfl rfl rfl ?_
        refine st_pop rfl rfl rfl rfl ?_
        refine st_pop rfl rfl rfl rfl ?_
        refine st_pop rfl rfl rfl rfl ?_
        refine st_pop rfl rfl rfl rfl ?_
        refine st_nil ?_
        refine awp_seq ?_
        refine wp_reg ?_
        refine st_pop rfl rfl rfl rfl ?_
        refine st_pop rfl rfl rfl rfl ?_
        refine st_nil ?_
        refine wp_bit 30 rfl fun b hb4 => ?_
        cases b
        · try simp only [decide_eq_true_eq, decide_eq_false_iff_not, Bool.not_eq_true', Bool.not_eq_false', Int.not_lt, Int.not_le] at hb4
          refine wp_f rfl ?_
          refine awp_skip ?_
          refine at_norm ?_
          refine wp_reg ?_
          refine st_pop rfl rfl rfl rfl ?_
          refine st_pop rfl rfl rfl rfl ?_
          refine st_pop rfl rfl rfl rfl ?_
          refine st_nil ?_
          refine awp_ret ?_
          refine ret_ret rfl rfl ?_
          refine wk_eq ?_
          first
            | (rw [show Fm.divW a b = (0, 4) from if_pos h0]; done)
            | (exfalso; simp_all; done)
            | (have hd : Fm.divW a b = if (Fm.toldW r).2 = true then ((Fm.toldW r).1, 0) else (0, 5) := by (unfold Fm.divW Fm.opW; rw [if_neg h0, hr]; rfl)
               rw [hd]; simp_all; done)
        · try simp only [decide_eq_true_eq, decide_eq_false_iff_not, Bool.not_eq_true', Bool.not_eq_false', Int.not_lt, Int.not_le] at hb4
          refine wp_t rfl ?_
          refine wp_reg ?_
          refine st_pop rfl rfl rfl rfl ?_
          refine st_pop rfl rfl rfl rfl ?_
          refine st_nil ?_
          refine awp_ret ?_
          refine at_ret ?_
          refine ret_ret rfl rfl ?_
          refine wk_eq ?_
          first
            | (rw [show Fm.divW a b = (0, 4) from if_pos h0]; done)
            | (exfalso; simp_all; done)
            | (have hd : Fm.divW a b = if (Fm.toldW r).2 = true then ((Fm.toldW r).1, 0) else (0, 5) := by (unfold Fm.divW Fm.opW; rw [if_neg h0, hr]; rfl)
               rw [hd]; simp_all; done)
      · try simp only [decide_eq_true_eq, decide_eq_false_iff_not, Bool.not_eq_true', Bool.not_eq_false', Int.not_lt, Int.not_le] at hb3
        have h0 : b % 9223372036854775808 = 0 := by rw [Fm.order_zero] at hb3; simpa using hb3
        refine wp_t rfl ?_
        refine wp_reg ?_
        refine st_pop rfl rfl rfl rfl ?_
        refine st_pop rfl rfl rfl rfl ?_
        refine st_nil ?_
        refine awp_ret ?_
        refine ab_ret ?_
        refine at_ret ?_
        refine ret_ret rfl rfl ?_
        refine wk_eq ?_
        first
          | (rw [show Fm.divW a b = (0, 4) from if_pos h0]; done)
          | (exfalso; simp_all; done)
          | (have hd : Fm.divW a b = if (Fm.toldW r).2 = true then ((Fm.toldW r).1, 0) else (0, 5) := by (unfold Fm.divW Fm.opW; rw [if_neg h0, hr]; rfl)
             rw [hd]; simp_all; done)
    · try simp only [decide_eq_true_eq, decide_eq_false_iff_not, Bool.not_eq_true', Bool.not_eq_false', Int.not_lt, Int.not_le] at hb2
      refine wp_t rfl ?_
      refine wp_reg ?_
      refine st_pop rfl rfl rfl rfl ?_
      refine st_pop rfl rfl rfl rfl ?_
      refine st_nil ?_
      refine awp_ret ?_
      refine ab_ret ?_
      refine at_ret ?_
      refine ret_ret rfl rfl ?_
      refine wk_eq ?_
      first
        | (rw [show Fm.divW a b = (0, 4) from if_pos h0]; done)
        | (exfalso; simp_all; done)
        | (have hd : Fm.divW a b = if (Fm.toldW r).2 = true then ((Fm.toldW r).1, 0) else (0, 5) := by (unfold Fm.divW Fm.opW; rw [if_neg h0, hr]; rfl)
           rw [hd]; simp_all; done)
  · try simp only [decide_eq_true_eq, decide_eq_false_iff_not, Bool.not_eq_true', Bool.not_eq_false', Int.not_lt, Int.not_le] at hb1
    refine st_skip rfl rfl rfl ?_
    refine st_skip rfl rfl rfl ?_
    refine st_skip rfl rfl rfl ?_
    refine st_pop rfl rfl rfl rfl ?_
    refine st_pop rfl rfl rfl rfl ?_
    refine st_nil ?_
    refine wp_t rfl ?_
    refine wp_reg ?_
    refine st_pop rfl rfl rfl rfl ?_
    refine st_pop rfl rfl rfl rfl ?_
    refine st_nil ?_
    refine awp_ret ?_
    refine ab_ret ?_
    refine at_ret ?_
    refine ret_ret rfl rfl ?_
    refine wk_eq ?_
    first
      | (rw [show Fm.divW a b = (0, 4) from if_pos h0]; done)
      | (exfalso; simp_all; done)
      | (have hd : Fm.divW a b = if (Fm.toldW r).2 = true then ((Fm.toldW r).1, 0) else (0, 5) := by (unfold Fm.divW Fm.opW; rw [if_neg h0, hr]; rfl)
         rw [hd]; simp_all; done)
theorem rOf_c (n : Int) : ∀ H, ACalls tt 83 [.i .i64 n] H (fun res_ H' => res_ = .f (Fm.ofW n) ∧ H' = H) := by
  refine body_calc (T := tt) Try.func83 rfl Try.ntmps83 rfl rfl (by rfl) (by rfl) ?_
  refine wp_reg ?_
  refine st_pop rfl rfl rfl rfl ?_
  refine st_nil ?_
  refine wp_reg ?_
  refine st_pop rfl rfl rfl rfl ?_
  refine st_pop rfl rfl rfl rfl ?_
  refine st_pop rfl rfl rfl rfl ?_
  refine st_nil ?_
  refine awp_ret ?_
  refine ret_ret rfl rfl ?_
  exact .refl _
theorem rFloor_c (r : Nat) (h64 : r < 18446744073709551616) (hr : Fm.isRate r = true) : ∀ H, ACalls tt 84 [.f r] H (fun res_ H' => res_ = .tup [.i .i64 (Fm.floorP r).1, .b (Fm.floorP r).2] ∧ H' = H) := by
  refine body_calc (T := tt) Try.func84 rfl Try.ntmps84 rfl rfl (by rfl) (by rfl) ?_
  refine wp_reg ?_
  refine st_pop rfl rfl rfl rfl ?_
  refine st_pop rfl rfl rfl rfl ?_
  refine st_nil ?_
  refine wp_reg ?_
  refine st_pop rfl rfl rfl rfl ?_
  refine st_calc (xs := [.tmp 5]) _ rfl rfl rfl rfl Try.func95 rfl rfl rfl (floor_c r (Fm.isRate_fin hr) _) ?_
  refine st_pop rfl rfl rfl rfl ?_
  refine st_nil ?_
  refine awp_seq ?_
  refine wp_reg ?_
  refine st_pop rfl rfl rfl rfl ?_
  refine st_calc (xs := [.tmp 7]) _ rfl rfl rfl rfl Try.func21 rfl rfl rfl (rate_c r h64 _) ?_
  refine st_pop rfl rfl rfl rfl ?_
  refine st_pop rfl rfl rfl rfl ?_
  refine st_bit 10 rfl fun b hb1 => ?_
  cases b
  · try simp only [decide_eq_true_eq, decide_eq_false_iff_not, Bool.not_eq_true', Bool.not_eq_false', Int.not_lt, Int.not_le] at hb1
    refine st_pop rfl rfl rfl rfl ?_
    refine st_pop rfl rfl rfl rfl ?_
    refine st_pop rfl rfl rfl rfl ?_
    refine st_pop rfl rfl rfl rfl ?_
    refine st_bit 14 rfl fun b hb2 => ?_
    cases b
    · try simp only [decide_eq_true_eq, decide_eq_false_iff_not, Bool.not_eq_true', Bool.not_eq_false', Int.not_lt, Int.not_le] at hb2
      refine st_pop rfl rfl rfl rfl ?_
      refine st_pop rfl rfl rfl rfl ?_
      refine st_pop rfl rfl rfl rfl ?_
      refine st_nil ?_
      refine wp_bit 17 rfl fun b hb3 => ?_
      cases b
      · try simp only [decide_eq_true_eq, decide_eq_false_iff_not, Bool.not_eq_true', Bool.not_eq_false', Int.not_lt, Int.not_le] at hb3
        have ho : Fm.outB (Fm.floorW r) = false := by simp_all [Fm.outB]
        obtain ⟨n, hn1, hn2, hn3⟩ := Fm.floorP_in (Fm.isRate_fin hr) ho
        refine wp_f rfl ?_
        refine awp_skip ?_
        refine at_norm ?_
        refine wp_reg ?_
        refine st_pop rfl rfl rfl rfl ?_
        refine st_popx (.i .i64 n) rfl rfl rfl (show (match (FloatKind.f64.decode (Fm.floorW r)).toInt .zero with | some n => if IntKind.i64.min ≤ n ∧ n ≤ IntKind.i64.max then some (AV.i .i64 n) else none | none => none) = _ by rw [show (FloatKind.f64.decode (Fm.floorW r)).toInt .zero = some n from hn1]; exact if_pos hn3) ?_
        refine st_pop rfl rfl rfl rfl ?_
        refine st_pop rfl rfl rfl rfl ?_
        refine st_nil ?_
        refine awp_ret ?_
        refine ret_ret rfl rfl ?_
        refine wk_eq ?_
        first
          | (rw [hn2]; done)
          | (rw [Fm.floorP_out ho]; done)
          | (rw [Fm.floorP_out (r := r) (by simp_all [Fm.outB])]; done)
          | (exfalso; simp_all; done)
      · try simp only [decide_eq_true_eq, decide_eq_false_iff_not, Bool.not_eq_true', Bool.not_eq_false', Int.not_lt, Int.not_le] at hb3
        have ho : Fm.outB (Fm.floorW r) = true := by simp_all [Fm.outB]
        refine wp_t rfl ?_
        refine wp_reg ?_
        refine st_pop rfl rfl rfl rfl ?_
        refine st_pop rfl rfl rfl rfl ?_
        refine st_nil ?_
        refine awp_ret ?_
        refine at_ret ?_
        refine ret_ret rfl rfl ?_
        refine wk_eq ?_
        first
          | (rw [hn2]; done)
          | (rw [Fm.floorP_out ho]; done)
          | (rw [Fm.floorP_out (r := r) (by simp_all [Fm.outB])]; done)
          | (exfalso; simp_all; done)
    · try simp only [decide_eq_true_eq, decide_eq_false_iff_not, Bool.not_eq_true', Bool.not_eq_false', Int.not_lt, Int.not_le] at hb2
      refine st_skip rfl rfl rfl ?_
      refine st_skip rfl rfl rfl ?_
      refine st_pop rfl rfl rfl rfl ?_
      refine st_nil ?_
      refine wp_t rfl ?_
      refine wp_reg ?_
      refine st_pop rfl rfl rfl rfl ?_
      refine st_pop rfl rfl rfl rfl ?_
      refine st_nil ?_
      refine awp_ret ?_
      refine at_ret ?_
      refine ret_ret rfl rfl ?_
      refine wk_eq ?_
      first
        | (rw [hn2]; done)
        | (rw [Fm.floorP_out ho]; done)
        | (rw [Fm.floorP_out (r := r) (by simp_all [Fm.outB])]; done)
        | (exfalso; simp_all; done)
  · try simp only [decide_eq_true_eq, decide_eq_false_iff_not, Bool.not_eq_true', Bool.not_eq_false', Int.not_lt, Int.not_le] at hb1
    refine st_skip rfl rfl rfl ?_
    refine st_skip rfl rfl rfl ?_
    refine st_pop rfl rfl rfl rfl ?_
    refine st_pop rfl rfl rfl rfl ?_
    refine st_skip rfl rfl rfl ?_
    refine st_skip rfl rfl rfl ?_
    refine st_pop rfl rfl rfl rfl ?_
    refine st_nil ?_
    refine wp_t rfl ?_
    refine wp_reg ?_
    refine st_pop rfl rfl rfl rfl ?_
    refine st_pop rfl rfl rfl rfl ?_
    refine st_nil ?_
    refine awp_ret ?_
    refine at_ret ?_
    refine ret_ret rfl rfl ?_
    refine wk_eq ?_
    first
      | (rw [hn2]; done)
      | (rw [Fm.floorP_out ho]; done)
      | (rw [Fm.floorP_out (r := r) (by simp_all [Fm.outB])]; done)
      | (exfalso; simp_all; done)
theorem same_c (a b : Val) (ha : a.fit) (hb : b.fit) : ∀ H, ACalls tt 26 [.agg a.av, .agg b.av] H (fun res_ H' => res_ = .b (valSame a b) ∧ H' = H) := by
  refine body_calc (T := tt) Try.func26 rfl Try.ntmps26 rfl rfl (by rfl) (by rfl) ?_
  refine wp_reg ?_
  refine st_box rfl rfl rfl rfl rfl rfl rfl rfl rfl ?_
  refine st_box rfl rfl rfl rfl rfl rfl rfl rfl rfl ?_
  refine st_pop rfl rfl rfl rfl ?_
  refine st_nil ?_
  refine wp_reg ?_
  refine st_pop rfl rfl rfl rfl ?_
  refine st_calc (xs := [.tmp 5]) _ rfl rfl rfl rfl Try.func10 rfl rfl rfl (valRight_c a ha _) ?_
  refine st_pop rfl rfl rfl rfl ?_
  refine st_bit 7 rfl fun b hb1 => ?_
  cases b
  · try simp only [decide_eq_true_eq, decide_eq_false_iff_not, Bool.not_eq_true', Bool.not_eq_false', Int.not_lt, Int.not_le] at hb1
    refine st_skip rfl rfl rfl ?_
    refine st_skip rfl rfl rfl ?_
    refine st_pop rfl rfl rfl rfl ?_
    refine st_pop rfl rfl rfl rfl ?_
    refine st_skip rfl rfl rfl ?_
    refine st_skip rfl rfl rfl ?_
    refine st_skip rfl rfl rfl ?_
    refine st_pop rfl rfl rfl rfl ?_
    refine st_pop rfl rfl rfl rfl ?_
    refine st_nil ?_
    refine awp_ret ?_
    refine ret_ret rfl rfl ?_
    refine wk_b ?_
    first
      | (simp_all [valSame]; done)
      | (rw [Bool.eq_iff_iff]; simp_all [valSame, valEq, feq, and_assoc]; done)
  · try simp only [decide_eq_true_eq, decide_eq_false_iff_not, Bool.not_eq_true', Bool.not_eq_false', Int.not_lt, Int.not_le] at hb1
    refine st_pop rfl rfl rfl rfl ?_
    refine st_calc (xs := [.tmp 8]) _ rfl rfl rfl rfl Try.func10 rfl rfl rfl (valRight_c b hb _) ?_
    refine st_pop rfl rfl rfl rfl ?_
    refine st_pop rfl rfl rfl rfl ?_
    refine st_bit 11 rfl fun b hb2 => ?_
    cases b
    · try simp only [decide_eq_true_eq, decide_eq_false_iff_not, Bool.not_eq_true', Bool.not_eq_false', Int.not_lt, Int.not_le] at hb2
      refine st_skip rfl rfl rfl ?_
      refine st_skip rfl rfl rfl ?_
      refine st_skip rfl rfl rfl ?_
      refine st_pop rfl rfl rfl rfl ?_
      refine st_pop rfl rfl rfl rfl ?_
      refine st_nil ?_
      refine awp_ret ?_
      refine ret_ret rfl rfl ?_
      refine wk_b ?_
      first
        | (simp_all [valSame]; done)
        | (rw [Bool.eq_iff_iff]; simp_all [valSame, valEq, feq, and_assoc]; done)
    · try simp only [decide_eq_true_eq, decide_eq_false_iff_not, Bool.not_eq_true', Bool.not_eq_false', Int.not_lt, Int.not_le] at hb2
      refine st_pop rfl rfl rfl rfl ?_
      refine st_pop rfl rfl rfl rfl ?_
      refine st_pop rfl rfl rfl rfl ?_
      refine st_pop rfl rfl rfl rfl ?_
      refine st_pop rfl rfl rfl rfl ?_
      refine st_nil ?_
      refine awp_ret ?_
      refine ret_ret rfl rfl ?_
      refine wk_b ?_
      first
        | (simp_all [valSame]; done)
        | (rw [Bool.eq_iff_iff]; simp_all [valSame, valEq, feq, and_assoc]; done)
theorem less_c (a b : Val) (ha : a.fit) (hb : b.fit) : ∀ H, ACalls tt 80 [.agg a.av, .agg b.av] H (fun res_ H' => res_ = lessAV (valLess a b) ∧ H' = H) := by
  refine body_calc (T := tt) Try.func80 rfl Try.ntmps80 rfl rfl (by rfl) (by rfl) ?_
  refine wp_reg ?_
  refine st_box rfl rfl rfl rfl rfl rfl rfl rfl rfl ?_
  refine st_box rfl rfl rfl rfl rfl rfl rfl rfl rfl ?_
  refine st_pop rfl rfl rfl rfl ?_
  refine st_pop rfl rfl rfl rfl ?_
  refine st_nil ?_
  refine awp_seq ?_
  refine wp_reg ?_
  refine st_pop rfl rfl rfl rfl ?_
  refine st_calc (xs := [.tmp 6]) _ rfl rfl rfl rfl Try.func10 rfl rfl rfl (valRight_c a ha _) ?_
  refine st_pop rfl rfl rfl rfl ?_
  refine st_pop rfl rfl rfl rfl ?_
  refine st_bit 9 rfl fun b hb1 => ?_
  cases b
  · try simp only [decide_eq_true_eq, decide_eq_false_iff_not, Bool.not_eq_true', Bool.not_eq_false', Int.not_lt, Int.not_le] at hb1
    refine st_pop rfl rfl rfl rfl ?_
    refine st_calc (xs := [.tmp 10]) _ rfl rfl rfl rfl Try.func10 rfl rfl rfl (valRight_c b hb _) ?_
    refine st_pop rfl rfl rfl rfl ?_
    refine st_pop rfl rfl rfl rfl ?_
    refine st_pop rfl rfl rfl rfl ?_
    refine st_bit 14 rfl fun b hb2 => ?_
    cases b
    · try simp only [decide_eq_true_eq, decide_eq_false_iff_not, Bool.not_eq_true', Bool.not_eq_false', Int.not_lt, Int.not_le] at hb2
      refine st_pop rfl rfl rfl rfl ?_
      refine st_pop rfl rfl rfl rfl ?_
      refine st_pop rfl rfl rfl rfl ?_
      refine st_pop rfl rfl rfl rfl ?_
      refine st_pop rfl rfl rfl rfl ?_
      refine st_pop rfl rfl rfl rfl ?_
      refine st_nil ?_
      refine wp_bit 20 rfl fun b hb3 => ?_
      cases b
      · try simp only [decide_eq_true_eq, decide_eq_false_iff_not, Bool.not_eq_true', Bool.not_eq_false', Int.not_lt, Int.not_le] at hb3
        refine wp_f rfl ?_
        refine awp_skip ?_
        refine at_norm ?_
        refine awp_seq ?_
        refine wp_reg ?_
        refine st_pop rfl rfl rfl rfl ?_
        refine st_pop rfl rfl rfl rfl ?_
        refine st_nil ?_
        refine awp_block ?_
        refine wp_reg ?_
        refine st_pop rfl rfl rfl rfl ?_
        refine st_pop rfl rfl rfl rfl ?_
        refine st_nil ?_
        refine wp_bit 23 rfl fun b hb4 => ?_
        cases b
        · try simp only [decide_eq_true_eq, decide_eq_false_iff_not, Bool.not_eq_true', Bool.not_eq_false', Int.not_lt, Int.not_le] at hb4
          refine wp_f rfl ?_
          refine wp_reg ?_
          refine st_pop rfl rfl rfl rfl ?_
          refine st_pop rfl rfl rfl rfl ?_
          refine st_nil ?_
          refine wp_bit 30 rfl fun b hb5 => ?_
          cases b
          · try simp only [decide_eq_true_eq, decide_eq_false_iff_not, Bool.not_eq_true', Bool.not_eq_false', Int.not_lt, Int.not_le] at hb5
            refine wp_f rfl ?_
            refine wp_reg ?_
            refine st_pop rfl rfl rfl rfl ?_
            refine st_pop rfl rfl rfl rfl ?_
            refine st_nil ?_
            refine wp_bit 37 rfl fun b hb6 => ?_
            cases b
            · try simp only [decide_eq_true_eq, decide_eq_false_iff_not, Bool.not_eq_true', Bool.not_eq_false', Int.not_lt, Int.not_le] at hb6
              refine wp_f rfl ?_
              refine awp_skip ?_
              refine ab_norm ?_
              refine at_norm ?_
              refine wp_reg ?_
              refine st_pop rfl rfl rfl rfl ?_
              refine st_pop rfl rfl rfl rfl ?_
              refine st_nil ?_
              refine awp_ret ?_
              refine ret_ret rfl rfl ?_
              refine wk_eq ?_; simp_all [valLess, lessAV, strLt, flt]
            · try simp only [decide_eq_true_eq, decide_eq_false_iff_not, Bool.not_eq_true', Bool.not_eq_false', Int.not_lt, Int.not_le] at hb6
              refine wp_t rfl ?_
              refine wp_reg ?_
              refine st_pop rfl rfl rfl rfl ?_
              refine st_pop rfl rfl rfl rfl ?_
              refine st_pop rfl rfl rfl rfl ?_
              refine st_pop rfl rfl rfl rfl ?_
              refine st_pop rfl rfl rfl rfl ?_
              refine st_pop rfl rfl rfl rfl ?_
              refine st_pop rfl rfl rfl rfl ?_
              refine st_nil ?_
              refine awp_ret ?_
              refine ab_ret ?_
              refine at_ret ?_
              refine ret_ret rfl rfl ?_
              refine wk_eq ?_; simp_all [valLess, lessAV, strLt, flt]
          · try simp only [decide_eq_true_eq, decide_eq_false_iff_not, Bool.not_eq_true', Bool.not_eq_false', Int.not_lt, Int.not_le] at hb5
            refine wp_t rfl ?_
            refine wp_reg ?_
            refine st_pop rfl rfl rfl rfl ?_
            refine st_pop rfl rfl rfl rfl ?_
            refine st_pop rfl rfl rfl rfl ?_
            refine st_pop rfl rfl rfl rfl ?_
            refine st_pop rfl rfl rfl rfl ?_
            refine st_pop rfl rfl rfl rfl ?_
            refine st_pop rfl rfl rfl rfl ?_
            refine st_nil ?_
            refine awp_ret ?_
            refine ab_ret ?_
            refine at_ret ?_
            refine ret_ret rfl rfl ?_
            refine wk_eq ?_; simp_all [valLess, lessAV, strLt, flt]
        · try simp only [decide_eq_true_eq, decide_eq_false_iff_not, Bool.not_eq_true', Bool.not_eq_false', Int.not_lt, Int.not_le] at hb4
          refine wp_t rfl ?_
          refine wp_reg ?_
          refine st_pop rfl rfl rfl rfl ?_
          refine st_pop rfl rfl rfl rfl ?_
          refine st_pop rfl rfl rfl rfl ?_
          refine st_pop rfl rfl rfl rfl ?_
          refine st_pop rfl rfl rfl rfl ?_
          refine st_pop rfl rfl rfl rfl ?_
          refine st_pop rfl rfl rfl rfl ?_
          refine st_nil ?_
          refine awp_ret ?_
          refine ab_ret ?_
          refine at_ret ?_
          refine ret_ret rfl rfl ?_
          refine wk_eq ?_; simp_all [valLess, lessAV, strLt, flt]
      · try simp only [decide_eq_true_eq, decide_eq_false_iff_not, Bool.not_eq_true', Bool.not_eq_false', Int.not_lt, Int.not_le] at hb3
        refine wp_t rfl ?_
        refine wp_reg ?_
        refine st_pop rfl rfl rfl rfl ?_
        refine st_pop rfl rfl rfl rfl ?_
        refine st_nil ?_
        refine awp_ret ?_
        refine at_ret ?_
        refine ret_ret rfl rfl ?_
        refine wk_eq ?_; simp_all [valLess, lessAV, strLt, flt]
    · try simp only [decide_eq_true_eq, decide_eq_false_iff_not, Bool.not_eq_true', Bool.not_eq_false', Int.not_lt, Int.not_le] at hb2
      refine st_skip rfl rfl rfl ?_
      refine st_skip rfl rfl rfl ?_
      refine st_skip rfl rfl rfl ?_
      refine st_skip rfl rfl rfl ?_
      refine st_skip rfl rfl rfl ?_
      refine st_pop rfl rfl rfl rfl ?_
      refine st_nil ?_
      refine wp_t rfl ?_
      refine wp_reg ?_
      refine st_pop rfl rfl rfl rfl ?_
      refine st_pop rfl rfl rfl rfl ?_
      refine st_nil ?_
      refine awp_ret ?_
      refine at_ret ?_
      refine ret_ret rfl rfl ?_
      refine wk_eq ?_; simp_all [valLess, lessAV, strLt, flt]
  · try simp only [decide_eq_true_eq, decide_eq_false_iff_not, Bool.not_eq_true', Bool.not_eq_false', Int.not_lt, Int.not_le] at hb1
    refine st_skip rfl rfl rfl ?_
    refine st_skip rfl rfl rfl ?_
    refine st_skip rfl rfl rfl ?_
    refine st_pop rfl rfl rfl rfl ?_
    refine st_pop rfl rfl rfl rfl ?_
    refine st_skip rfl rfl rfl ?_
    refine st_skip rfl rfl rfl ?_
    refine st_skip rfl rfl rfl ?_
    refine st_skip rfl rfl rfl ?_
    refine st_skip rfl rfl rfl ?_
    refine st_pop rfl rfl rfl rfl ?_
    refine st_nil ?_
    refine wp_t rfl ?_
    refine wp_reg ?_
    refine st_pop rfl rfl rfl rfl ?_
    refine st_pop rfl rfl rfl rfl ?_
    refine st_nil ?_
    refine awp_ret ?_
    refine at_ret ?_
    refine ret_ret rfl rfl ?_
    refine wk_eq ?_; simp_all [valLess, lessAV, strLt, flt]
theorem ints_c (op a b : Int) (ha : inI a) (hb : inI b) : ∀ H, ACalls tt 81 [.i .i64 op, .i .i64 a, .i .i64 b] H (fun res_ H' => res_ = vwAV (intsP op a b) ∧ H' = H) := by
  refine body_calc (T := tt) Try.func81 rfl Try.ntmps81 rfl rfl (by rfl) (by rfl) ?_
  refine wp_reg ?_
  refine st_alloc rfl rfl rfl rfl rfl rfl rfl ?_
  refine st_pop rfl rfl rfl rfl ?_
  refine st_nil ?_
  refine wp_reg ?_
  refine st_pop rfl rfl rfl rfl ?_
  refine st_pop rfl rfl rfl rfl ?_
  refine st_pop rfl rfl rfl rfl ?_
  refine st_nil ?_
  refine awp_seq ?_
  refine wp_reg ?_
  refine st_pop rfl rfl rfl rfl ?_
  refine st_nil ?_
  refine awp_block ?_
  refine wp_reg ?_
  refine st_pop rfl rfl rfl rfl ?_
  refine st_pop rfl rfl rfl rfl ?_
  refine st_nil ?_
  refine wp_bit 24 rfl fun b hb1 => ?_
  cases b
  · try simp only [decide_eq_true_eq, decide_eq_false_iff_not, Bool.not_eq_true', Bool.not_eq_false', Int.not_lt, Int.not_le] at hb1
    refine wp_f rfl ?_
    refine wp_reg ?_
    refine st_pop rfl rfl rfl rfl ?_
    refine st_pop rfl rfl rfl rfl ?_
    refine st_nil ?_
    refine wp_bit 32 rfl fun b hb2 => ?_
    cases b
    · try simp only [decide_eq_true_eq, decide_eq_false_iff_not, Bool.not_eq_true', Bool.not_eq_false', Int.not_lt, Int.not_le] at hb2
      refine wp_f rfl ?_
      refine wp_reg ?_
      refine st_pop rfl rfl rfl rfl ?_
      refine st_pop rfl rfl rfl rfl ?_
      refine st_nil ?_
      refine wp_bit 40 rfl fun b hb3 => ?_
      cases b
      · try simp only [decide_eq_true_eq, decide_eq_false_iff_not, Bool.not_eq_true', Bool.not_eq_false', Int.not_lt, Int.not_le] at hb3
        refine wp_f rfl ?_
        refine wp_reg ?_
        refine st_pop rfl rfl rfl rfl ?_
        refine st_pop rfl rfl rfl rfl ?_
        refine st_nil ?_
        refine wp_bit 48 rfl fun b hb4 => ?_
        cases b
        · try simp only [decide_eq_true_eq, decide_eq_false_iff_not, Bool.not_eq_true', Bool.not_eq_false', Int.not_lt, Int.not_le] at hb4
          refine wp_f rfl ?_
          refine wp_reg ?_
          refine st_pop rfl rfl rfl rfl ?_
          refine st_pop rfl rfl rfl rfl ?_
          refine st_calc (xs := [.tmp 13, .tmp 14]) _ rfl rfl rfl rfl Try.func90 rfl rfl rfl (mod_c _ _ (by assumption) (by assumption) _) ?_
          refine st_pop rfl rfl rfl rfl ?_
          refine st_pop rfl rfl rfl rfl ?_
          refine st_pop rfl rfl rfl rfl ?_
          refine st_pop rfl rfl rfl rfl ?_
          refine st_pop rfl rfl rfl rfl ?_
          refine st_nil ?_
          refine wp_reg ?_
          refine st_pop rfl rfl rfl rfl ?_
          refine st_calc (xs := [.tmp 18]) _ rfl rfl rfl rfl Try.func74 rfl rfl rfl (whole_c _ _) ?_
          refine st_pop rfl rfl rfl rfl ?_
          refine st_calc (xs := [.tmp 19, .tmp 20]) _ rfl rfl rfl rfl Try.func75 rfl rfl rfl (told_c _ _ _) ?_
          refine st_pop rfl rfl rfl rfl ?_
          refine st_pop rfl rfl rfl rfl ?_
          refine st_store rfl rfl rfl rfl rfl rfl rfl rfl rfl rfl rfl rfl rfl ?_
          refine st_pop rfl rfl rfl rfl ?_
          refine st_nil ?_
          refine awp_ret ?_
          refine ab_ret ?_
          refine at_ret ?_
          refine ret_ret rfl rfl ?_
          refine wk_eq ?_; simp_all [intsP, vwAV, Val.av]
        · try simp only [decide_eq_true_eq, decide_eq_false_iff_not, Bool.not_eq_true', Bool.not_eq_false', Int.not_lt, Int.not_le] at hb4
          refine wp_t rfl ?_
          refine wp_reg ?_
          refine st_pop rfl rfl rfl rfl ?_
          refine st_pop rfl rfl rfl rfl ?_
          refine st_calc (xs := [.tmp 51, .tmp 52]) _ rfl rfl rfl rfl Try.func89 rfl rfl rfl (div_c _ _ (by assumption) (by assumption) _) ?_
          refine st_pop rfl rfl rfl rfl ?_
          refine st_pop rfl rfl rfl rfl ?_
          refine st_pop rfl rfl rfl rfl ?_
          refine st_pop rfl rfl rfl rfl ?_
          refine st_pop rfl rfl rfl rfl ?_
          refine st_nil ?_
          refine wp_reg ?_
          refine st_pop rfl rfl rfl rfl ?_
          refine st_calc (xs := [.tmp 56]) _ rfl rfl rfl rfl Try.func74 rfl rfl rfl (whole_c _ _) ?_
          refine st_pop rfl rfl rfl rfl ?_
          refine st_calc (xs := [.tmp 57, .tmp 58]) _ rfl rfl rfl rfl Try.func75 rfl rfl rfl (told_c _ _ _) ?_
          refine st_pop rfl rfl rfl rfl ?_
          refine st_pop rfl rfl rfl rfl ?_
          refine st_store rfl rfl rfl rfl rfl rfl rfl rfl rfl rfl rfl rfl rfl ?_
          refine st_pop rfl rfl rfl rfl ?_
          refine st_nil ?_
          refine awp_ret ?_
          refine ab_ret ?_
          refine at_ret ?_
          refine ret_ret rfl rfl ?_
          refine wk_eq ?_; simp_all [intsP, vwAV, Val.av]
      · try simp only [decide_eq_true_eq, decide_eq_false_iff_not, Bool.not_eq_true', Bool.not_eq_false', Int.not_lt, Int.not_le] at hb3
        refine wp_t rfl ?_
        refine awp_region ?_
        refine st_pop rfl rfl rfl rfl ?_
        refine st_pop rfl rfl rfl rfl ?_
        refine st_calc (xs := [.tmp 43, .tmp 44]) _ rfl rfl rfl rfl Try.func88 rfl rfl rfl (mul_c _ _ (by assumption) (by assumption) _) ?_
        refine st_pop rfl rfl rfl rfl ?_
        refine st_pop rfl rfl rfl rfl ?_
        refine st_pop rfl rfl rfl rfl ?_
        refine st_pop rfl rfl rfl rfl ?_
        refine st_pop rfl rfl rfl rfl ?_
        refine st_nil ?_
        refine ab_norm ?_
        refine at_norm ?_
        refine wp_reg ?_
        refine st_pop rfl rfl rfl rfl ?_
        refine st_calc (xs := [.tmp 62]) _ rfl rfl rfl rfl Try.func74 rfl rfl rfl (whole_c _ _) ?_
        refine st_pop rfl rfl rfl rfl ?_
        refine st_pop rfl rfl rfl rfl ?_
        refine st_calc (xs := [.tmp 63, .tmp 64, .tmp 65]) _ rfl rfl rfl rfl Try.func72 rfl rfl rfl (fits_c _ _ _ _) ?_
        refine st_pop rfl rfl rfl rfl ?_
        refine st_pop rfl rfl rfl rfl ?_
        refine st_store rfl rfl rfl rfl rfl rfl rfl rfl rfl rfl rfl rfl rfl ?_
        refine st_pop rfl rfl rfl rfl ?_
        refine st_nil ?_
        refine awp_ret ?_
        refine ret_ret rfl rfl ?_
        refine wk_eq ?_; simp_all [intsP, vwAV, Val.av]
    · try simp only [decide_eq_true_eq, decide_eq_false_iff_not, Bool.not_eq_true', Bool.not_eq_false', Int.not_lt, Int.not_le] at hb2
      refine wp_t rfl ?_
      refine awp_region ?_
      refine st_pop rfl rfl rfl rfl ?_
      refine st_pop rfl rfl rfl rfl ?_
      refine st_calc (xs := [.tmp 35, .tmp 36]) _ rfl rfl rfl rfl Try.func87 rfl rfl rfl (sub_c _ _ (by assumption) (by assumption) _) ?_
      refine st_pop rfl rfl rfl rfl ?_
      refine st_pop rfl rfl rfl rfl ?_
      refine st_pop rfl rfl rfl rfl ?_
      refine st_pop rfl rfl rfl rfl ?_
      refine st_pop rfl rfl rfl rfl ?_
      refine st_nil ?_
      refine ab_norm ?_
      refine at_norm ?_
      refine wp_reg ?_
      refine st_pop rfl rfl rfl rfl ?_
      refine st_calc (xs := [.tmp 62]) _ rfl rfl rfl rfl Try.func74 rfl rfl rfl (whole_c _ _) ?_
      refine st_pop rfl rfl rfl rfl ?_
      refine st_pop rfl rfl rfl rfl ?_
      refine st_calc (xs := [.tmp 63, .tmp 64, .tmp 65]) _ rfl rfl rfl rfl Try.func72 rfl rfl rfl (fits_c _ _ _ _) ?_
      refine st_pop rfl rfl rfl rfl ?_
      refine st_pop rfl rfl rfl rfl ?_
      refine st_store rfl rfl rfl rfl rfl rfl rfl rfl rfl rfl rfl rfl rfl ?_
      refine st_pop rfl rfl rfl rfl ?_
      refine st_nil ?_
      refine awp_ret ?_
      refine ret_ret rfl rfl ?_
      refine wk_eq ?_; simp_all [intsP, vwAV, Val.av]
  · try simp only [decide_eq_true_eq, decide_eq_false_iff_not, Bool.not_eq_true', Bool.not_eq_false', Int.not_lt, Int.not_le] at hb1
    refine wp_t rfl ?_
    refine awp_region ?_
    refine st_pop rfl rfl rfl rfl ?_
    refine st_pop rfl rfl rfl rfl ?_
    refine st_calc (xs := [.tmp 27, .tmp 28]) _ rfl rfl rfl rfl Try.func86 rfl rfl rfl (add_c _ _ (by assumption) (by assumption) _) ?_
    refine st_pop rfl rfl rfl rfl ?_
    refine st_pop rfl rfl rfl rfl ?_
    refine st_pop rfl rfl rfl rfl ?_
    refine st_pop rfl rfl rfl rfl ?_
    refine st_pop rfl rfl rfl rfl ?_
    refine st_nil ?_
    refine ab_norm ?_
    refine at_norm ?_
    refine wp_reg ?_
    refine st_pop rfl rfl rfl rfl ?_
    refine st_calc (xs := [.tmp 62]) _ rfl rfl rfl rfl Try.func74 rfl rfl rfl (whole_c _ _) ?_
    refine st_pop rfl rfl rfl rfl ?_
    refine st_pop rfl rfl rfl rfl ?_
    refine st_calc (xs := [.tmp 63, .tmp 64, .tmp 65]) _ rfl rfl rfl rfl Try.func72 rfl rfl rfl (fits_c _ _ _ _) ?_
    refine st_pop rfl rfl rfl rfl ?_
    refine st_pop rfl rfl rfl rfl ?_
    refine st_store rfl rfl rfl rfl rfl rfl rfl rfl rfl rfl rfl rfl rfl ?_
    refine st_pop rfl rfl rfl rfl ?_
    refine st_nil ?_
    refine awp_ret ?_
    refine ret_ret rfl rfl ?_
    refine wk_eq ?_; simp_all [intsP, vwAV, Val.av]
theorem rates_c (op : Int) (a b : Nat) (ha : a < 18446744073709551616) (hb : b < 18446744073709551616) (ra : Fm.isRate a = true) (rb : Fm.isRate b = true) : ∀ H, ACalls tt 82 [.i .i64 op, .f a, .f b] H (fun res_ H' => res_ = vwAV (ratesP op a b) ∧ H' = H) := by
  refine body_calc (T := tt) Try.func82 rfl Try.ntmps82 rfl rfl (by rfl) (by rfl) ?_
  refine wp_reg ?_
  refine st_alloc rfl rfl rfl rfl rfl rfl rfl ?_
  refine st_pop rfl rfl rfl rfl ?_
  refine st_nil ?_
  refine wp_reg ?_
  refine st_pop rfl rfl rfl rfl ?_
  refine st_pop rfl rfl rfl rfl ?_
  refine st_nil ?_
  refine awp_seq ?_
  refine wp_reg ?_
  refine st_pop rfl rfl rfl rfl ?_
  refine st_nil ?_
  refine awp_block ?_
  refine wp_reg ?_
  refine st_pop rfl rfl rfl rfl ?_
  refine st_pop rfl rfl rfl rfl ?_
  refine st_nil ?_
  refine wp_bit 14 rfl fun b hb1 => ?_
  cases b
  · try simp only [decide_eq_true_eq, decide_eq_false_iff_not, Bool.not_eq_true', Bool.not_eq_false', Int.not_lt, Int.not_le] at hb1
    refine wp_f rfl ?_
    refine wp_reg ?_
    refine st_pop rfl rfl rfl rfl ?_
    refine st_pop rfl rfl rfl rfl ?_
    refine st_nil ?_
    refine wp_bit 22 rfl fun b hb2 => ?_
    cases b
    · try simp only [decide_eq_true_eq, decide_eq_false_iff_not, Bool.not_eq_true', Bool.not_eq_false', Int.not_lt, Int.not_le] at hb2
      refine wp_f rfl ?_
      refine wp_reg ?_
      refine st_pop rfl rfl rfl rfl ?_
      refine st_pop rfl rfl rfl rfl ?_
      refine st_nil ?_
      refine wp_bit 30 rfl fun b hb3 => ?_
      cases b
      · try simp only [decide_eq_true_eq, decide_eq_false_iff_not, Bool.not_eq_true', Bool.not_eq_false', Int.not_lt, Int.not_le] at hb3
        refine wp_f rfl ?_
        refine wp_reg ?_
        refine st_pop rfl rfl rfl rfl ?_
        refine st_pop rfl rfl rfl rfl ?_
        refine st_nil ?_
        refine wp_bit 38 rfl fun b hb4 => ?_
        cases b
        · try simp only [decide_eq_true_eq, decide_eq_false_iff_not, Bool.not_eq_true', Bool.not_eq_false', Int.not_lt, Int.not_le] at hb4
          refine wp_f rfl ?_
          refine wp_reg ?_
          refine st_pop rfl rfl rfl rfl ?_
          refine st_store rfl rfl rfl rfl rfl rfl rfl rfl rfl rfl rfl rfl rfl ?_
          refine st_pop rfl rfl rfl rfl ?_
          refine st_nil ?_
          refine awp_ret ?_
          refine ab_ret ?_
          refine at_ret ?_
          refine ret_ret rfl rfl ?_
          refine wk_eq ?_; simp_all [ratesP, vwAV, Val.av, zeroVal]
        · try simp only [decide_eq_true_eq, decide_eq_false_iff_not, Bool.not_eq_true', Bool.not_eq_false', Int.not_lt, Int.not_le] at hb4
          refine wp_t rfl ?_
          refine wp_reg ?_
          refine st_pop rfl rfl rfl rfl ?_
          refine st_pop rfl rfl rfl rfl ?_
          refine st_calc (xs := [.tmp 41, .tmp 42]) _ rfl rfl rfl rfl Try.func94 rfl rfl rfl (rDiv_c _ _ ha hb ra rb _) ?_
          refine st_pop rfl rfl rfl rfl ?_
          refine st_pop rfl rfl rfl rfl ?_
          refine st_pop rfl rfl rfl rfl ?_
          refine st_pop rfl rfl rfl rfl ?_
          refine st_pop rfl rfl rfl rfl ?_
          refine st_nil ?_
          refine wp_reg ?_
          refine st_pop rfl rfl rfl rfl ?_
          refine st_calc (xs := [.tmp 46]) _ rfl rfl rfl rfl Try.func77 rfl rfl rfl (real_c _ _) ?_
          refine st_pop rfl rfl rfl rfl ?_
          refine st_calc (xs := [.tmp 47, .tmp 48]) _ rfl rfl rfl rfl Try.func75 rfl rfl rfl (told_c _ _ _) ?_
          refine st_pop rfl rfl rfl rfl ?_
          refine st_pop rfl rfl rfl rfl ?_
          refine st_store rfl rfl rfl rfl rfl rfl rfl rfl rfl rfl rfl rfl rfl ?_
          refine st_pop rfl rfl rfl rfl ?_
          refine st_nil ?_
          refine awp_ret ?_
          refine ab_ret ?_
          refine at_ret ?_
          refine ret_ret rfl rfl ?_
          refine wk_eq ?_; simp_all [ratesP, vwAV, Val.av, zeroVal]
      · try simp only [decide_eq_true_eq, decide_eq_false_iff_not, Bool.not_eq_true', Bool.not_eq_false', Int.not_lt, Int.not_le] at hb3
        refine wp_t rfl ?_
        refine awp_region ?_
        refine st_pop rfl rfl rfl rfl ?_
        refine st_pop rfl rfl rfl rfl ?_
        refine st_calc (xs := [.tmp 33, .tmp 34]) _ rfl rfl rfl rfl Try.func93 rfl rfl rfl (rMul_c _ _ ha hb ra rb _) ?_
        refine st_pop rfl rfl rfl rfl ?_
        refine st_pop rfl rfl rfl rfl ?_
        refine st_pop rfl rfl rfl rfl ?_
        refine st_pop rfl rfl rfl rfl ?_
        refine st_pop rfl rfl rfl rfl ?_
        refine st_nil ?_
        refine ab_norm ?_
        refine at_norm ?_
        refine wp_reg ?_
        refine st_pop rfl rfl rfl rfl ?_
        refine st_calc (xs := [.tmp 52]) _ rfl rfl rfl rfl Try.func77 rfl rfl rfl (real_c _ _) ?_
        refine st_pop rfl rfl rfl rfl ?_
        refine st_calc (xs := [.tmp 53, .tmp 54, _]) _ rfl rfl rfl rfl Try.func72 rfl rfl rfl (fits_c _ _ _ _) ?_
        refine st_pop rfl rfl rfl rfl ?_
        refine st_pop rfl rfl rfl rfl ?_
        refine st_store rfl rfl rfl rfl rfl rfl rfl rfl rfl rfl rfl rfl rfl ?_
        refine st_pop rfl rfl rfl rfl ?_
        refine st_nil ?_
        refine awp_ret ?_
        refine ret_ret rfl rfl ?_
        refine wk_eq ?_; simp_all [ratesP, vwAV, Val.av, zeroVal]
    · try simp only [decide_eq_true_eq, decide_eq_false_iff_not, Bool.not_eq_true', Bool.not_eq_false', Int.not_lt, Int.not_le] at hb2
      refine wp_t rfl ?_
      refine awp_region ?_
      refine st_pop rfl rfl rfl rfl ?_
      refine st_pop rfl rfl rfl rfl ?_
      refine st_calc (xs := [.tmp 25, .tmp 26]) _ rfl rfl rfl rfl Try.func92 rfl rfl rfl (rSub_c _ _ ha hb ra rb _) ?_
      refine st_pop rfl rfl rfl rfl ?_
      refine st_pop rfl rfl rfl rfl ?_
      refine st_pop rfl rfl rfl rfl ?_
      refine st_pop rfl rfl rfl rfl ?_
      refine st_pop rfl rfl rfl rfl ?_
      refine st_nil ?_
      refine ab_norm ?_
      refine at_norm ?_
      refine wp_reg ?_
      refine st_pop rfl rfl rfl rfl ?_
      refine st_calc (xs := [.tmp 52]) _ rfl rfl rfl rfl Try.func77 rfl rfl rfl (real_c _ _) ?_
      refine st_pop rfl rfl rfl rfl ?_
      refine st_calc (xs := [.tmp 53, .tmp 54, _]) _ rfl rfl rfl rfl Try.func72 rfl rfl rfl (fits_c _ _ _ _) ?_
      refine st_pop rfl rfl rfl rfl ?_
      refine st_pop rfl rfl rfl rfl ?_
      refine st_store rfl rfl rfl rfl rfl rfl rfl rfl rfl rfl rfl rfl rfl ?_
      refine st_pop rfl rfl rfl rfl ?_
      refine st_nil ?_
      refine awp_ret ?_
      refine ret_ret rfl rfl ?_
      refine wk_eq ?_; simp_all [ratesP, vwAV, Val.av, zeroVal]
  · try simp only [decide_eq_true_eq, decide_eq_false_iff_not, Bool.not_eq_true', Bool.not_eq_false', Int.not_lt, Int.not_le] at hb1
    refine wp_t rfl ?_
    refine awp_region ?_
    refine st_pop rfl rfl rfl rfl ?_
    refine st_pop rfl rfl rfl rfl ?_
    refine st_calc (xs := [.tmp 17, .tmp 18]) _ rfl rfl rfl rfl Try.func91 rfl rfl rfl (rAdd_c _ _ ha hb ra rb _) ?_
    refine st_pop rfl rfl rfl rfl ?_
    refine st_pop rfl rfl rfl rfl ?_
    refine st_pop rfl rfl rfl rfl ?_
    refine st_pop rfl rfl rfl rfl ?_
    refine st_pop rfl rfl rfl rfl ?_
    refine st_nil ?_
    refine ab_norm ?_
    refine at_norm ?_
    refine wp_reg ?_
    refine st_pop rfl rfl rfl rfl ?_
    refine st_calc (xs := [.tmp 52]) _ rfl rfl rfl rfl Try.func77 rfl rfl rfl (real_c _ _) ?_
    refine st_pop rfl rfl rfl rfl ?_
    refine st_calc (xs := [.tmp 53, .tmp 54, _]) _ rfl rfl rfl rfl Try.func72 rfl rfl rfl (fits_c _ _ _ _) ?_
    refine st_pop rfl rfl rfl rfl ?_
    refine st_pop rfl rfl rfl rfl ?_
    refine st_store rfl rfl rfl rfl rfl rfl rfl rfl rfl rfl rfl rfl rfl ?_
    refine st_pop rfl rfl rfl rfl ?_
    refine st_nil ?_
    refine awp_ret ?_
    refine ret_ret rfl rfl ?_
    refine wk_eq ?_; simp_all [ratesP, vwAV, Val.av, zeroVal]
noncomputable def celKT : KeyTy tt 43 Cel.av := ⟨[.i .i64, .s, .s], rfl, rfl, fun a => rfl, fun a b h => by cases a; cases b; simp [Cel.av] at h; simp [h]⟩
theorem heldZero : ∃ v, (∀ w, (zeroValue 89).run tt.P w = .ok v w) ∧ ∀ G, Rel tt G (.agg [.i .i64 0, .i .i64 0, .s ⟨#[]⟩, .b false, .f 0, .i .i64 0]) v := zero_agg (T := tt) (t := 89) (z := [.i .i64 0, .i .i64 0, .s ⟨#[]⟩, .b false, .f 0, .i .i64 0]) rfl (by decide)
theorem heldZ1 : ∀ w, (zeroValue 89).run tt.P w = .ok heldZero.choose w := heldZero.choose_spec.1
theorem heldZ2 : ∀ G, Rel tt G (.agg [.i .i64 0, .i .i64 0, .s ⟨#[]⟩, .b false, .f 0, .i .i64 0]) heldZero.choose := heldZero.choose_spec.2
theorem sto_ok (s : Sto) : [ABox.cells [.m 1], mapB Cel.av Hld.agg s].all (okB 2) = true := by
  show (okB 2 (.cells [.m 1]) && (okB 2 (mapB Cel.av Hld.agg s) && true)) = true
  rw [sto_okB]; rfl
theorem acalls_st {f : FuncId} {args args' : List AV} {y : AV} {s s' : Sto} (hargs : okL 2 args = true) (hy : clean y = true) (h : ACalls tt f args ⟨[.cells [.m 1], mapB Cel.av Hld.agg s], []⟩ (BigR tt 2 (One y [.cells [.m 1], mapB Cel.av Hld.agg s']))) (H : AH) (b m : Nat) (hb : H.bs[b]? = some (.cells [.m m])) (hm : H.bs[m]? = some (mapB Cel.av Hld.agg s)) (ha : renL (sg [b, m]) args = args') :
    ACalls tt f args' H (fun r H' => r = y ∧ H' = ⟨H.bs.set m (mapB Cel.av Hld.agg s'), H.ts⟩) := by
  have hne : b ≠ m := by rintro rfl; rw [hb] at hm; cases hm
  refine acalls_one (T := tt) [b, m] [.cells [.m 1], mapB Cel.av Hld.agg s] rfl (by simp [hne]) (fun i t x hs hx => ?_) hargs (sto_ok s) h ha (clean_ren y hy) ?_
  · match i, hs, hx with
    | 0, hs, hx => simp at hs hx; subst hs; subst hx; exact hb
    | 1, hs, hx => simp at hs hx; subst hs; subst hx; rw [sto_ren]; exact hm
    | i + 2, hs, _ => simp at hs
  · show putB [b, m] [renB (sg [b, m]) (.cells [.m 1]), renB (sg [b, m]) (mapB Cel.av Hld.agg s')] H.bs = _
    rw [sto_ren]
    show (H.bs.set b (.cells [.m m])).set m (mapB Cel.av Hld.agg s') = _
    rw [list_set_same hb]
theorem acalls_stR {f : FuncId} {args args' : List AV} {y : AV} {s : Sto} (hargs : okL 2 args = true) (hy : clean y = true) (h : ACalls tt f args ⟨[.cells [.m 1], mapB Cel.av Hld.agg s], []⟩ (BigR tt 2 (One y [.cells [.m 1], mapB Cel.av Hld.agg s]))) (H : AH) (b m : Nat) (hb : H.bs[b]? = some (.cells [.m m])) (hm : H.bs[m]? = some (mapB Cel.av Hld.agg s)) (ha : renL (sg [b, m]) args = args') :
    ACalls tt f args' H (fun r H' => r = y ∧ H' = H) := by
  have := acalls_st hargs hy h H b m hb hm ha
  rwa [list_set_same hm] at this
theorem get0_some (s : Sto) (c : Cel) (h : Hld) (hg : mget s c = some h) : ACalls tt 70 [.ptr 0 0, .agg c.av] ⟨[.cells [.m 1], mapB Cel.av Hld.agg s], []⟩ (BigR tt 2 (One (.tup [.agg h.v.av, .i .i64 h.version, .b true]) [.cells [.m 1], mapB Cel.av Hld.agg s])) := by
  refine body_big (T := tt) Try.func70 rfl Try.ntmps70 rfl rfl ?_
  refine wp_reg ?_
  refine st_box rfl rfl rfl rfl rfl rfl rfl rfl rfl ?_
  refine st_alloc rfl rfl rfl rfl rfl rfl rfl ?_
  refine st_pop rfl rfl rfl rfl ?_
  refine st_pop rfl rfl rfl rfl ?_
  refine st_nil ?_
  refine wp_open [.op 11, .bar] (D := [0, 1, 3, 7, 0, 31, 63, 127, 127, 0, 767, 2047]) (by kernel_rfl) (by kernel_rfl) (by kernel_rfl) ?_
  refine ad_op rfl rfl ?_
  refine do_pop rfl rfl rfl rfl rfl (by kernel_rfl) ?_
  refine do_pop rfl rfl rfl rfl rfl (by kernel_rfl) ?_
  refine do_pop rfl rfl rfl rfl rfl (by kernel_rfl) ?_
  refine do_pop rfl rfl rfl rfl rfl (by kernel_rfl) ?_
  refine do_pop rfl rfl rfl rfl rfl (by kernel_rfl) ?_
  refine do_lookup s c celKT heldZ1 heldZ2 rfl rfl rfl rfl rfl rfl rfl rfl hg rfl (by kernel_rfl) ?_
  refine do_pop rfl rfl rfl rfl rfl (by kernel_rfl) ?_
  refine do_pop rfl rfl rfl rfl rfl (by kernel_rfl) ?_
  refine do_pop rfl rfl rfl rfl rfl (by kernel_rfl) ?_
  refine do_alloc rfl rfl rfl rfl rfl rfl rfl (by kernel_rfl) ?_
  refine do_store rfl rfl rfl rfl rfl rfl rfl rfl rfl rfl rfl rfl rfl (by kernel_rfl) ?_
  refine do_nil ?_
  refine ad_bar ?_
  refine st_pop rfl rfl rfl rfl ?_
  refine st_nil ?_
  refine ad_nil ?_
  refine wp_open [.op 7, .bar] (D := [0, 1, 0, 4, 0, 3, 47, 127]) (by kernel_rfl) (by kernel_rfl) (by kernel_rfl) ?_
  refine ad_op rfl rfl ?_
  refine do_pop rfl rfl rfl rfl rfl (by kernel_rfl) ?_
  refine do_pop rfl rfl rfl rfl rfl (by kernel_rfl) ?_
  refine do_pop rfl rfl rfl rfl rfl (by kernel_rfl) ?_
  refine do_pop rfl rfl rfl rfl rfl (by kernel_rfl) ?_
  refine do_pop rfl rfl rfl rfl rfl (by kernel_rfl) ?_
  refine do_store rfl rfl rfl rfl rfl rfl rfl rfl rfl rfl rfl rfl rfl (by kernel_rfl) ?_
  refine do_pop rfl rfl rfl rfl rfl (by kernel_rfl) ?_
  refine do_nil ?_
  refine ad_bar ?_
  refine st_pop rfl rfl rfl rfl ?_
  refine st_nil ?_
  refine ad_nil ?_
  refine awp_ret ?_
  refine ret_ret rfl rfl ?_
  exact bigR _ _ (.refl _) rfl rfl ⟨_, rfl⟩ (sto_ok s) ⟨rfl, rfl⟩
theorem get0_none (s : Sto) (c : Cel) (hg : mget s c = none) : ACalls tt 70 [.ptr 0 0, .agg c.av] ⟨[.cells [.m 1], mapB Cel.av Hld.agg s], []⟩ (BigR tt 2 (One (.tup [.agg zeroVal.av, .i .i64 0, .b false]) [.cells [.m 1], mapB Cel.av Hld.agg s])) := by
  refine body_big (T := tt) Try.func70 rfl Try.ntmps70 rfl rfl ?_
  refine wp_reg ?_
  refine st_box rfl rfl rfl rfl rfl rfl rfl rfl rfl ?_
  refine st_alloc rfl rfl rfl rfl rfl rfl rfl ?_
  refine st_pop rfl rfl rfl rfl ?_
  refine st_pop rfl rfl rfl rfl ?_
  refine st_nil ?_
  refine wp_open [.op 11, .bar] (D := [0, 1, 3, 7, 0, 31, 63, 127, 127, 0, 767, 2047]) (by kernel_rfl) (by kernel_rfl) (by kernel_rfl) ?_
  refine ad_op rfl rfl ?_
  refine do_pop rfl rfl rfl rfl rfl (by kernel_rfl) ?_
  refine do_pop rfl rfl rfl rfl rfl (by kernel_rfl) ?_
  refine do_pop rfl rfl rfl rfl rfl (by kernel_rfl) ?_
  refine do_pop rfl rfl rfl rfl rfl (by kernel_rfl) ?_
  refine do_pop rfl rfl rfl rfl rfl (by kernel_rfl) ?_
  refine do_lookup s c celKT heldZ1 heldZ2 rfl rfl rfl rfl rfl rfl rfl rfl hg rfl (by kernel_rfl) ?_
  refine do_pop rfl rfl rfl rfl rfl (by kernel_rfl) ?_
  refine do_pop rfl rfl rfl rfl rfl (by kernel_rfl) ?_
  refine do_pop rfl rfl rfl rfl rfl (by kernel_rfl) ?_
  refine do_alloc rfl rfl rfl rfl rfl rfl rfl (by kernel_rfl) ?_
  refine do_store rfl rfl rfl rfl rfl rfl rfl rfl rfl rfl rfl rfl rfl (by kernel_rfl) ?_
  refine do_nil ?_
  refine ad_bar ?_
  refine st_pop rfl rfl rfl rfl ?_
  refine st_nil ?_
  refine ad_nil ?_
  refine wp_open [.op 7, .bar] (D := [0, 1, 0, 4, 0, 3, 47, 127]) (by kernel_rfl) (by kernel_rfl) (by kernel_rfl) ?_
  refine ad_op rfl rfl ?_
  refine do_pop rfl rfl rfl rfl rfl (by kernel_rfl) ?_
  refine do_pop rfl rfl rfl rfl rfl (by kernel_rfl) ?_
  refine do_pop rfl rfl rfl rfl rfl (by kernel_rfl) ?_
  refine do_pop rfl rfl rfl rfl rfl (by kernel_rfl) ?_
  refine do_pop rfl rfl rfl rfl rfl (by kernel_rfl) ?_
  refine do_store rfl rfl rfl rfl rfl rfl rfl rfl rfl rfl rfl rfl rfl (by kernel_rfl) ?_
  refine do_pop rfl rfl rfl rfl rfl (by kernel_rfl) ?_
  refine do_nil ?_
  refine ad_bar ?_
  refine st_pop rfl rfl rfl rfl ?_
  refine st_nil ?_
  refine ad_nil ?_
  refine awp_ret ?_
  refine ret_ret rfl rfl ?_
  exact bigR _ _ (.refl _) rfl rfl ⟨_, rfl⟩ (sto_ok s) ⟨rfl, rfl⟩
theorem get_c (s : Sto) (c : Cel) (H : AH) (b m : Nat) (hb : H.bs[b]? = some (.cells [.m m])) (hm : H.bs[m]? = some (mapB Cel.av Hld.agg s)) {g : Option Hld} (hg : mget s c = g) : ACalls tt 70 [.ptr b 0, .agg c.av] H (fun r H' => r = getAV g ∧ H' = H) := by
  cases g with
  | some h => exact acalls_stR rfl rfl (get0_some s c h hg) H b m hb hm rfl
  | none => exact acalls_stR rfl rfl (get0_none s c hg) H b m hb hm rfl
theorem set0_some (s : Sto) (c : Cel) (v : Val) (hv : v.fit) (h : Hld) (hg : mget s c = some h) (hv2 : h.v.fit) (hw : inI h.version) : ACalls tt 15 [.ptr 0 0, .agg c.av, .agg v.av] ⟨[.cells [.m 1], mapB Cel.av Hld.agg s], []⟩ (BigR tt 2 (One (setAV (setP s c v)) [.cells [.m 1], mapB Cel.av Hld.agg (setP s c v).1])) := by
  refine body_big (T := tt) Try.func15 rfl Try.ntmps15 rfl rfl ?_
  refine wp_reg ?_
  refine st_box rfl rfl rfl rfl rfl rfl rfl rfl rfl ?_
  refine st_box rfl rfl rfl rfl rfl rfl rfl rfl rfl ?_
  refine st_pop rfl rfl rfl rfl ?_
  refine st_pop rfl rfl rfl rfl ?_
  refine st_nil ?_
  refine wp_open [.op 11, .bar] (D := [0, 1, 3, 7, 0, 31, 63, 127, 127, 0, 767, 2047]) (by kernel_rfl) (by kernel_rfl) (by kernel_rfl) ?_
  refine ad_op rfl rfl ?_
  refine do_pop rfl rfl rfl rfl rfl (by kernel_rfl) ?_
  refine do_pop rfl rfl rfl rfl rfl (by kernel_rfl) ?_
  refine do_pop rfl rfl rfl rfl rfl (by kernel_rfl) ?_
  refine do_pop rfl rfl rfl rfl rfl (by kernel_rfl) ?_
  refine do_pop rfl rfl rfl rfl rfl (by kernel_rfl) ?_
  refine do_lookup s c celKT heldZ1 heldZ2 rfl rfl rfl rfl rfl rfl rfl rfl hg rfl (by kernel_rfl) ?_
  refine do_pop rfl rfl rfl rfl rfl (by kernel_rfl) ?_
  refine do_pop rfl rfl rfl rfl rfl (by kernel_rfl) ?_
  refine do_pop rfl rfl rfl rfl rfl (by kernel_rfl) ?_
  refine do_alloc rfl rfl rfl rfl rfl rfl rfl (by kernel_rfl) ?_
  refine do_store rfl rfl rfl rfl rfl rfl rfl rfl rfl rfl rfl rfl rfl (by kernel_rfl) ?_
  refine do_nil ?_
  refine ad_bar ?_
  refine st_pop rfl rfl rfl rfl ?_
  refine st_nil ?_
  refine ad_nil ?_
  refine awp_seq ?_
  refine awp_block ?_
  refine wp_reg ?_
  refine st_pop rfl rfl rfl rfl ?_
  refine st_calc (xs := [.tmp 20]) _ rfl rfl rfl rfl Try.func25 rfl rfl rfl (celOk_c c _) ?_
  refine st_pop rfl rfl rfl rfl ?_
  refine st_pop rfl rfl rfl rfl ?_
  refine st_nil ?_
  refine wp_bit 19 rfl fun b hb1 => ?_
  cases b
  · try simp only [decide_eq_true_eq, decide_eq_false_iff_not, Bool.not_eq_true', Bool.not_eq_false', Int.not_lt, Int.not_le] at hb1
    refine wp_f rfl ?_
    refine wp_reg ?_
    refine st_pop rfl rfl rfl rfl ?_
    refine st_calc (xs := [.tmp 24]) _ rfl rfl rfl rfl Try.func10 rfl rfl rfl (valRight_c v hv _) ?_
    refine st_pop rfl rfl rfl rfl ?_
    refine st_pop rfl rfl rfl rfl ?_
    refine st_nil ?_
    refine wp_bit 23 rfl fun b hb2 => ?_
    cases b
    · try simp only [decide_eq_true_eq, decide_eq_false_iff_not, Bool.not_eq_true', Bool.not_eq_false', Int.not_lt, Int.not_le] at hb2
      refine wp_f rfl ?_
      refine wp_reg ?_
      refine st_pop rfl rfl rfl rfl ?_
      refine st_pop rfl rfl rfl rfl ?_
      refine st_pop rfl rfl rfl rfl ?_
      refine st_skip rfl rfl rfl ?_
      refine st_skip rfl rfl rfl ?_
      refine st_skip rfl rfl rfl ?_
      refine st_skip rfl rfl rfl ?_
      refine st_skip rfl rfl rfl ?_
      refine st_skip rfl rfl rfl ?_
      refine st_pop rfl rfl rfl rfl ?_
      refine st_pop rfl rfl rfl rfl ?_
      refine st_nil ?_
      refine wp_f rfl ?_
      refine wp_reg ?_
      refine st_pop rfl rfl rfl rfl ?_
      refine st_pop rfl rfl rfl rfl ?_
      refine st_pop rfl rfl rfl rfl ?_
      refine st_pop rfl rfl rfl rfl ?_
      refine st_pop rfl rfl rfl rfl ?_
      refine st_calc (xs := [.tmp 42, .tmp 43]) _ rfl rfl rfl rfl Try.func26 rfl rfl rfl (same_c _ _ (by assumption) hv _) ?_
      refine st_pop rfl rfl rfl rfl ?_
      refine st_pop rfl rfl rfl rfl ?_
      refine st_nil ?_
      refine wp_bit 38 rfl fun b hb3 => ?_
      cases b
      · try simp only [decide_eq_true_eq, decide_eq_false_iff_not, Bool.not_eq_true', Bool.not_eq_false', Int.not_lt, Int.not_le] at hb3
        refine wp_f rfl ?_
        refine wp_reg ?_
        refine st_pop rfl rfl rfl rfl ?_
        refine st_pop rfl rfl rfl rfl ?_
        refine st_pop rfl rfl rfl rfl ?_
        refine st_pop rfl rfl rfl rfl ?_
        refine st_pop rfl rfl rfl rfl ?_
        refine st_pop rfl rfl rfl rfl ?_
        refine st_pop rfl rfl rfl rfl ?_
        refine st_nil ?_
        refine wp_bit 46 rfl fun b hb4 => ?_
        cases b
        · try simp only [decide_eq_true_eq, decide_eq_false_iff_not, Bool.not_eq_true', Bool.not_eq_false', Int.not_lt, Int.not_le] at hb4
          refine wp_f rfl ?_
          refine awp_skip ?_
          refine ab_norm ?_
          refine at_norm ?_
          refine wp_reg ?_
          refine st_pop rfl rfl rfl rfl ?_
          refine st_pop rfl rfl rfl rfl ?_
          refine st_store rfl rfl rfl rfl rfl rfl rfl rfl rfl rfl rfl rfl rfl ?_
          refine st_nil ?_
          refine wp_open [.op 6, .bar] (D := [0, 1, 3, 7, 0, 0, 63]) (by kernel_rfl) (by kernel_rfl) (by kernel_rfl) ?_
          refine ad_op rfl rfl ?_
          refine do_pop rfl rfl rfl rfl rfl (by kernel_rfl) ?_
          refine do_pop rfl rfl rfl rfl rfl (by kernel_rfl) ?_
          refine do_pop rfl rfl rfl rfl rfl (by kernel_rfl) ?_
          refine do_pop rfl rfl rfl rfl rfl (by kernel_rfl) ?_
          refine do_pop rfl rfl rfl rfl rfl (by kernel_rfl) ?_
          refine do_pop rfl rfl rfl rfl rfl (by kernel_rfl) ?_
          refine do_nil ?_
          refine ad_bar ?_
          refine st_mapUpdate s c ⟨v, h.version⟩ celKT rfl rfl rfl rfl rfl rfl rfl rfl rfl ?_
          refine st_nil ?_
          refine ad_nil ?_
          refine wp_reg ?_
          refine st_pop rfl rfl rfl rfl ?_
          refine st_pop rfl rfl rfl rfl ?_
          refine st_nil ?_
          refine awp_ret ?_
          refine ret_ret rfl rfl ?_
          refine bigR _ _ (.refl _) rfl rfl ⟨_, rfl⟩ (sto_ok _) ?_
          first
            | (have hn : ¬ h.version < 9223372036854775807 := by omega
               have e : setP s c v = (mput s c ⟨v, h.version⟩, true, 0) := by simp [setP, *]
               rw [e]; exact ⟨rfl, rfl⟩)
            | (have e : setP s c v = (s, false, 80) := by (simp_all [setP] <;> omega)
               rw [e]; exact ⟨rfl, rfl⟩)
            | (have e : setP s c v = (s, false, 81) := by (simp_all [setP] <;> omega)
               rw [e]; exact ⟨rfl, rfl⟩)
            | (have e : setP s c v = (s, false, 0) := by (simp_all [setP] <;> omega)
               rw [e]; exact ⟨rfl, rfl⟩)
            | (have e : setP s c v = (mput s c ⟨v, h.version + 1⟩, true, 0) := by (simp_all [setP] <;> omega)
               rw [e]; exact ⟨rfl, rfl⟩)
            | (have e : setP s c v = (mput s c ⟨v, h.version⟩, true, 0) := by (simp_all [setP] <;> omega)
               rw [e]; exact ⟨rfl, rfl⟩)
        · try simp only [decide_eq_true_eq, decide_eq_false_iff_not, Bool.not_eq_true', Bool.not_eq_false', Int.not_lt, Int.not_le] at hb4
          refine wp_t rfl ?_
          refine awp_region ?_
          refine st_pop rfl rfl rfl rfl ?_
          refine st_pop rfl rfl rfl rfl ?_
          refine st_pop rfl rfl rfl rfl ?_
          refine st_val 55 (.i .i64 (h.version + 1)) rfl (wrap_in (by unfold inI at *; omega)) ?_
          refine st_pop rfl rfl rfl rfl ?_
          refine st_store rfl rfl rfl rfl rfl rfl rfl rfl rfl rfl rfl rfl rfl ?_
          refine st_nil ?_
          refine ab_norm ?_
          refine at_norm ?_
          refine wp_reg ?_
          refine st_pop rfl rfl rfl rfl ?_
          refine st_pop rfl rfl rfl rfl ?_
          refine st_store rfl rfl rfl rfl rfl rfl rfl rfl rfl rfl rfl rfl rfl ?_
          refine st_nil ?_
          refine wp_open [.op 6, .bar] (D := [0, 1, 3, 7, 0, 0, 63]) (by kernel_rfl) (by kernel_rfl) (by kernel_rfl) ?_
          refine ad_op rfl rfl ?_
          refine do_pop rfl rfl rfl rfl rfl (by kernel_rfl) ?_
          refine do_pop rfl rfl rfl rfl rfl (by kernel_rfl) ?_
          refine do_pop rfl rfl rfl rfl rfl (by kernel_rfl) ?_
          refine do_pop rfl rfl rfl rfl rfl (by kernel_rfl) ?_
          refine do_pop rfl rfl rfl rfl rfl (by kernel_rfl) ?_
          refine do_pop rfl rfl rfl rfl rfl (by kernel_rfl) ?_
          refine do_nil ?_
          refine ad_bar ?_
          refine st_mapUpdate s c ⟨v, h.version + 1⟩ celKT rfl rfl rfl rfl rfl rfl rfl rfl rfl ?_
          refine st_nil ?_
          refine ad_nil ?_
          refine wp_reg ?_
          refine st_pop rfl rfl rfl rfl ?_
          refine st_pop rfl rfl rfl rfl ?_
          refine st_nil ?_
          refine awp_ret ?_
          refine ret_ret rfl rfl ?_
          refine bigR _ _ (.refl _) rfl rfl ⟨_, rfl⟩ (sto_ok _) ?_
          first
            | (have hn : ¬ h.version < 9223372036854775807 := by omega
               have e : setP s c v = (mput s c ⟨v, h.version⟩, true, 0) := by simp [setP, *]
               rw [e]; exact ⟨rfl, rfl⟩)
            | (have e : setP s c v = (s, false, 80) := by (simp_all [setP] <;> omega)
               rw [e]; exact ⟨rfl, rfl⟩)
            | (have e : setP s c v = (s, false, 81) := by (simp_all [setP] <;> omega)
               rw [e]; exact ⟨rfl, rfl⟩)
            | (have e : setP s c v = (s, false, 0) := by (simp_all [setP] <;> omega)
               rw [e]; exact ⟨rfl, rfl⟩)
            | (have e : setP s c v = (mput s c ⟨v, h.version + 1⟩, true, 0) := by (simp_all [setP] <;> omega)
               rw [e]; exact ⟨rfl, rfl⟩)
            | (have e : setP s c v = (mput s c ⟨v, h.version⟩, true, 0) := by (simp_all [setP] <;> omega)
               rw [e]; exact ⟨rfl, rfl⟩)
      · try simp only [decide_eq_true_eq, decide_eq_false_iff_not, Bool.not_eq_true', Bool.not_eq_false', Int.not_lt, Int.not_le] at hb3
        refine wp_t rfl ?_
        refine wp_reg ?_
        refine st_pop rfl rfl rfl rfl ?_
        refine st_pop rfl rfl rfl rfl ?_
        refine st_nil ?_
        refine awp_ret ?_
        refine ab_ret ?_
        refine at_ret ?_
        refine ret_ret rfl rfl ?_
        refine bigR _ _ (.refl _) rfl rfl ⟨_, rfl⟩ (sto_ok _) ?_
        first
          | (have hn : ¬ h.version < 9223372036854775807 := by omega
             have e : setP s c v = (mput s c ⟨v, h.version⟩, true, 0) := by simp [setP, *]
             rw [e]; exact ⟨rfl, rfl⟩)
          | (have e : setP s c v = (s, false, 80) := by (simp_all [setP] <;> omega)
             rw [e]; exact ⟨rfl, rfl⟩)
          | (have e : setP s c v = (s, false, 81) := by (simp_all [setP] <;> omega)
             rw [e]; exact ⟨rfl, rfl⟩)
          | (have e : setP s c v = (s, false, 0) := by (simp_all [setP] <;> omega)
             rw [e]; exact ⟨rfl, rfl⟩)
          | (have e : setP s c v = (mput s c ⟨v, h.version + 1⟩, true, 0) := by (simp_all [setP] <;> omega)
             rw [e]; exact ⟨rfl, rfl⟩)
          | (have e : setP s c v = (mput s c ⟨v, h.version⟩, true, 0) := by (simp_all [setP] <;> omega)
             rw [e]; exact ⟨rfl, rfl⟩)
    · try simp only [decide_eq_true_eq, decide_eq_false_iff_not, Bool.not_eq_true', Bool.not_eq_false', Int.not_lt, Int.not_le] at hb2
      refine wp_t rfl ?_
      refine wp_reg ?_
      refine st_pop rfl rfl rfl rfl ?_
      refine st_pop rfl rfl rfl rfl ?_
      refine st_nil ?_
      refine awp_ret ?_
      refine ab_ret ?_
      refine at_ret ?_
      refine ret_ret rfl rfl ?_
      refine bigR _ _ (.refl _) rfl rfl ⟨_, rfl⟩ (sto_ok _) ?_
      first
        | (have hn : ¬ h.version < 9223372036854775807 := by omega
           have e : setP s c v = (mput s c ⟨v, h.version⟩, true, 0) := by simp [setP, *]
           rw [e]; exact ⟨rfl, rfl⟩)
        | (have e : setP s c v = (s, false, 80) := by (simp_all [setP] <;> omega)
           rw [e]; exact ⟨rfl, rfl⟩)
        | (have e : setP s c v = (s, false, 81) := by (simp_all [setP] <;> omega)
           rw [e]; exact ⟨rfl, rfl⟩)
        | (have e : setP s c v = (s, false, 0) := by (simp_all [setP] <;> omega)
           rw [e]; exact ⟨rfl, rfl⟩)
        | (have e : setP s c v = (mput s c ⟨v, h.version + 1⟩, true, 0) := by (simp_all [setP] <;> omega)
           rw [e]; exact ⟨rfl, rfl⟩)
        | (have e : setP s c v = (mput s c ⟨v, h.version⟩, true, 0) := by (simp_all [setP] <;> omega)
           rw [e]; exact ⟨rfl, rfl⟩)
  · try simp only [decide_eq_true_eq, decide_eq_false_iff_not, Bool.not_eq_true', Bool.not_eq_false', Int.not_lt, Int.not_le] at hb1
    refine wp_t rfl ?_
    refine wp_reg ?_
    refine st_pop rfl rfl rfl rfl ?_
    refine st_pop rfl rfl rfl rfl ?_
    refine st_nil ?_
    refine awp_ret ?_
    refine ab_ret ?_
    refine at_ret ?_
    refine ret_ret rfl rfl ?_
    refine bigR _ _ (.refl _) rfl rfl ⟨_, rfl⟩ (sto_ok _) ?_
    first
      | (have hn : ¬ h.version < 9223372036854775807 := by omega
         have e : setP s c v = (mput s c ⟨v, h.version⟩, true, 0) := by simp [setP, *]
         rw [e]; exact ⟨rfl, rfl⟩)
      | (have e : setP s c v = (s, false, 80) := by (simp_all [setP] <;> omega)
         rw [e]; exact ⟨rfl, rfl⟩)
      | (have e : setP s c v = (s, false, 81) := by (simp_all [setP] <;> omega)
         rw [e]; exact ⟨rfl, rfl⟩)
      | (have e : setP s c v = (s, false, 0) := by (simp_all [setP] <;> omega)
         rw [e]; exact ⟨rfl, rfl⟩)
      | (have e : setP s c v = (mput s c ⟨v, h.version + 1⟩, true, 0) := by (simp_all [setP] <;> omega)
         rw [e]; exact ⟨rfl, rfl⟩)
      | (have e : setP s c v = (mput s c ⟨v, h.version⟩, true, 0) := by (simp_all [setP] <;> omega)
         rw [e]; exact ⟨rfl, rfl⟩)
theorem set0_none (s : Sto) (c : Cel) (v : Val) (hv : v.fit) (hg : mget s c = none) : ACalls tt 15 [.ptr 0 0, .agg c.av, .agg v.av] ⟨[.cells [.m 1], mapB Cel.av Hld.agg s], []⟩ (BigR tt 2 (One (setAV (setP s c v)) [.cells [.m 1], mapB Cel.av Hld.agg (setP s c v).1])) := by
  refine body_big (T := tt) Try.func15 rfl Try.ntmps15 rfl rfl ?_
  refine wp_reg ?_
  refine st_box rfl rfl rfl rfl rfl rfl rfl rfl rfl ?_
  refine st_box rfl rfl rfl rfl rfl rfl rfl rfl rfl ?_
  refine st_pop rfl rfl rfl rfl ?_
  refine st_pop rfl rfl rfl rfl ?_
  refine st_nil ?_
  refine wp_open [.op 11, .bar] (D := [0, 1, 3, 7, 0, 31, 63, 127, 127, 0, 767, 2047]) (by kernel_rfl) (by kernel_rfl) (by kernel_rfl) ?_
  refine ad_op rfl rfl ?_
  refine do_pop rfl rfl rfl rfl rfl (by kernel_rfl) ?_
  refine do_pop rfl rfl rfl rfl rfl (by kernel_rfl) ?_
  refine do_pop rfl rfl rfl rfl rfl (by kernel_rfl) ?_
  refine do_pop rfl rfl rfl rfl rfl (by kernel_rfl) ?_
  refine do_pop rfl rfl rfl rfl rfl (by kernel_rfl) ?_
  refine do_lookup s c celKT heldZ1 heldZ2 rfl rfl rfl rfl rfl rfl rfl rfl hg rfl (by kernel_rfl) ?_
  refine do_pop rfl rfl rfl rfl rfl (by kernel_rfl) ?_
  refine do_pop rfl rfl rfl rfl rfl (by kernel_rfl) ?_
  refine do_pop rfl rfl rfl rfl rfl (by kernel_rfl) ?_
  refine do_alloc rfl rfl rfl rfl rfl rfl rfl (by kernel_rfl) ?_
  refine do_store rfl rfl rfl rfl rfl rfl rfl rfl rfl rfl rfl rfl rfl (by kernel_rfl) ?_
  refine do_nil ?_
  refine ad_bar ?_
  refine st_pop rfl rfl rfl rfl ?_
  refine st_nil ?_
  refine ad_nil ?_
  refine awp_seq ?_
  refine awp_block ?_
  refine wp_reg ?_
  refine st_pop rfl rfl rfl rfl ?_
  refine st_calc (xs := [.tmp 20]) _ rfl rfl rfl rfl Try.func25 rfl rfl rfl (celOk_c c _) ?_
  refine st_pop rfl rfl rfl rfl ?_
  refine st_pop rfl rfl rfl rfl ?_
  refine st_nil ?_
  refine wp_bit 19 rfl fun b hb1 => ?_
  cases b
  · try simp only [decide_eq_true_eq, decide_eq_false_iff_not, Bool.not_eq_true', Bool.not_eq_false', Int.not_lt, Int.not_le] at hb1
    refine wp_f rfl ?_
    refine wp_reg ?_
    refine st_pop rfl rfl rfl rfl ?_
    refine st_calc (xs := [.tmp 24]) _ rfl rfl rfl rfl Try.func10 rfl rfl rfl (valRight_c v hv _) ?_
    refine st_pop rfl rfl rfl rfl ?_
    refine st_pop rfl rfl rfl rfl ?_
    refine st_nil ?_
    refine wp_bit 23 rfl fun b hb2 => ?_
    cases b
    · try simp only [decide_eq_true_eq, decide_eq_false_iff_not, Bool.not_eq_true', Bool.not_eq_false', Int.not_lt, Int.not_le] at hb2
      refine wp_f rfl ?_
      refine wp_reg ?_
      refine st_pop rfl rfl rfl rfl ?_
      refine st_pop rfl rfl rfl rfl ?_
      refine st_pop rfl rfl rfl rfl ?_
      refine st_pop rfl rfl rfl rfl ?_
      refine st_pop rfl rfl rfl rfl ?_
      refine st_pop rfl rfl rfl rfl ?_
      refine st_pop rfl rfl rfl rfl ?_
      refine st_pop rfl rfl rfl rfl ?_
      refine st_pop rfl rfl rfl rfl ?_
      refine st_pop rfl rfl rfl rfl ?_
      refine st_pop rfl rfl rfl rfl ?_
      refine st_nil ?_
      refine wp_bit 27 rfl fun b hb3 => ?_
      cases b
      · try simp only [decide_eq_true_eq, decide_eq_false_iff_not, Bool.not_eq_true', Bool.not_eq_false', Int.not_lt, Int.not_le] at hb3
        refine wp_f rfl ?_
        refine wp_reg ?_
        refine st_pop rfl rfl rfl rfl ?_
        refine st_pop rfl rfl rfl rfl ?_
        refine st_skip rfl rfl rfl ?_
        refine st_skip rfl rfl rfl ?_
        refine st_skip rfl rfl rfl ?_
        refine st_skip rfl rfl rfl ?_
        refine st_pop rfl rfl rfl rfl ?_
        refine st_pop rfl rfl rfl rfl ?_
        refine st_nil ?_
        refine wp_f rfl ?_
        refine wp_reg ?_
        refine st_pop rfl rfl rfl rfl ?_
        refine st_pop rfl rfl rfl rfl ?_
        refine st_skip rfl rfl rfl ?_
        refine st_skip rfl rfl rfl ?_
        refine st_skip rfl rfl rfl ?_
        refine st_pop rfl rfl rfl rfl ?_
        refine st_pop rfl rfl rfl rfl ?_
        refine st_nil ?_
        refine wp_f rfl ?_
        refine awp_skip ?_
        refine ab_norm ?_
        refine at_norm ?_
        refine wp_reg ?_
        refine st_pop rfl rfl rfl rfl ?_
        refine st_pop rfl rfl rfl rfl ?_
        refine st_store rfl rfl rfl rfl rfl rfl rfl rfl rfl rfl rfl rfl rfl ?_
        refine st_nil ?_
        refine wp_open [.op 6, .bar] (D := [0, 1, 3, 7, 0, 0, 63]) (by kernel_rfl) (by kernel_rfl) (by kernel_rfl) ?_
        refine ad_op rfl rfl ?_
        refine do_pop rfl rfl rfl rfl rfl (by kernel_rfl) ?_
        refine do_pop rfl rfl rfl rfl rfl (by kernel_rfl) ?_
        refine do_pop rfl rfl rfl rfl rfl (by kernel_rfl) ?_
        refine do_pop rfl rfl rfl rfl rfl (by kernel_rfl) ?_
        refine do_pop rfl rfl rfl rfl rfl (by kernel_rfl) ?_
        refine do_pop rfl rfl rfl rfl rfl (by kernel_rfl) ?_
        refine do_nil ?_
        refine ad_bar ?_
        refine st_mapUpdate s c ⟨v, 0⟩ celKT rfl rfl rfl rfl rfl rfl rfl rfl rfl ?_
        refine st_nil ?_
        refine ad_nil ?_
        refine wp_reg ?_
        refine st_pop rfl rfl rfl rfl ?_
        refine st_pop rfl rfl rfl rfl ?_
        refine st_nil ?_
        refine awp_ret ?_
        refine ret_ret rfl rfl ?_
        refine bigR _ _ (.refl _) rfl rfl ⟨_, rfl⟩ (sto_ok _) ?_
        first
          | (have e : setP s c v = (s, false, 80) := by (simp_all [setP] <;> omega)
             rw [e]; exact ⟨rfl, rfl⟩)
          | (have e : setP s c v = (s, false, 81) := by (simp_all [setP] <;> omega)
             rw [e]; exact ⟨rfl, rfl⟩)
          | (have e : setP s c v = (s, false, 82) := by (simp_all [setP] <;> omega)
             rw [e]; exact ⟨rfl, rfl⟩)
          | (have e : setP s c v = (mput s c ⟨v, 0⟩, true, 0) := by (simp_all [setP] <;> omega)
             rw [e]; exact ⟨rfl, rfl⟩)
      · try simp only [decide_eq_true_eq, decide_eq_false_iff_not, Bool.not_eq_true', Bool.not_eq_false', Int.not_lt, Int.not_le] at hb3
        refine wp_t rfl ?_
        refine wp_reg ?_
        refine st_pop rfl rfl rfl rfl ?_
        refine st_pop rfl rfl rfl rfl ?_
        refine st_nil ?_
        refine awp_ret ?_
        refine ab_ret ?_
        refine at_ret ?_
        refine ret_ret rfl rfl ?_
        refine bigR _ _ (.refl _) rfl rfl ⟨_, rfl⟩ (sto_ok _) ?_
        first
          | (have e : setP s c v = (s, false, 80) := by (simp_all [setP] <;> omega)
             rw [e]; exact ⟨rfl, rfl⟩)
          | (have e : setP s c v = (s, false, 81) := by (simp_all [setP] <;> omega)
             rw [e]; exact ⟨rfl, rfl⟩)
          | (have e : setP s c v = (s, false, 82) := by (simp_all [setP] <;> omega)
             rw [e]; exact ⟨rfl, rfl⟩)
          | (have e : setP s c v = (mput s c ⟨v, 0⟩, true, 0) := by (simp_all [setP] <;> omega)
             rw [e]; exact ⟨rfl, rfl⟩)
    · try simp only [decide_eq_true_eq, decide_eq_false_iff_not, Bool.not_eq_true', Bool.not_eq_false', Int.not_lt, Int.not_le] at hb2
      refine wp_t rfl ?_
      refine wp_reg ?_
      refine st_pop rfl rfl rfl rfl ?_
      refine st_pop rfl rfl rfl rfl ?_
      refine st_nil ?_
      refine awp_ret ?_
      refine ab_ret ?_
      refine at_ret ?_
      refine ret_ret rfl rfl ?_
      refine bigR _ _ (.refl _) rfl rfl ⟨_, rfl⟩ (sto_ok _) ?_
      first
        | (have e : setP s c v = (s, false, 80) := by (simp_all [setP] <;> omega)
           rw [e]; exact ⟨rfl, rfl⟩)
        | (have e : setP s c v = (s, false, 81) := by (simp_all [setP] <;> omega)
           rw [e]; exact ⟨rfl, rfl⟩)
        | (have e : setP s c v = (s, false, 82) := by (simp_all [setP] <;> omega)
           rw [e]; exact ⟨rfl, rfl⟩)
        | (have e : setP s c v = (mput s c ⟨v, 0⟩, true, 0) := by (simp_all [setP] <;> omega)
           rw [e]; exact ⟨rfl, rfl⟩)
  · try simp only [decide_eq_true_eq, decide_eq_false_iff_not, Bool.not_eq_true', Bool.not_eq_false', Int.not_lt, Int.not_le] at hb1
    refine wp_t rfl ?_
    refine wp_reg ?_
    refine st_pop rfl rfl rfl rfl ?_
    refine st_pop rfl rfl rfl rfl ?_
    refine st_nil ?_
    refine awp_ret ?_
    refine ab_ret ?_
    refine at_ret ?_
    refine ret_ret rfl rfl ?_
    refine bigR _ _ (.refl _) rfl rfl ⟨_, rfl⟩ (sto_ok _) ?_
    first
      | (have e : setP s c v = (s, false, 80) := by (simp_all [setP] <;> omega)
         rw [e]; exact ⟨rfl, rfl⟩)
      | (have e : setP s c v = (s, false, 81) := by (simp_all [setP] <;> omega)
         rw [e]; exact ⟨rfl, rfl⟩)
      | (have e : setP s c v = (s, false, 82) := by (simp_all [setP] <;> omega)
         rw [e]; exact ⟨rfl, rfl⟩)
      | (have e : setP s c v = (mput s c ⟨v, 0⟩, true, 0) := by (simp_all [setP] <;> omega)
         rw [e]; exact ⟨rfl, rfl⟩)
theorem set_c (s : Sto) (hs : StoOk s) (c : Cel) (v : Val) (hv : v.fit) (H : AH) (b m : Nat) (hb : H.bs[b]? = some (.cells [.m m])) (hm : H.bs[m]? = some (mapB Cel.av Hld.agg s)) : ACalls tt 15 [.ptr b 0, .agg c.av, .agg v.av] H (fun r H' => r = setAV (setP s c v) ∧ H' = ⟨H.bs.set m (mapB Cel.av Hld.agg (setP s c v).1), H.ts⟩) := by
  cases hg : mget s c with
  | some h => exact acalls_st rfl rfl (set0_some s c v hv h hg (hs c h hg).1.fit (hs c h hg).2) H b m hb hm rfl
  | none => exact acalls_st rfl rfl (set0_none s c v hv hg) H b m hb hm rfl
/-- A call of the machine's that only reads. -/
def MCall (m : Mc) (f : FuncId) (args : List AV) (y : AV) : Prop := ∀ H : AH, H.bs[0]? = some m.b0 → H.bs[1]? = some mb1 → H.bs[2]? = some m.b2 → ACalls tt f args H (fun r H' => r = y ∧ H' = H)
def AtRet (m : Mc) (a : Int) (p : VW) : Prop := MCall m 18 [.ptr 0 0, .i .i64 a] (vwAV p)
theorem mcall {m : Mc} {f : FuncId} {args : List AV} {y : AV} (hargs : okL 3 args = true) (hy : ok 3 y = true) (h : ACalls tt f args ⟨[m.b0, mb1, m.b2], []⟩ (BigR tt 3 (One y [m.b0, mb1, m.b2]))) : MCall m f args y :=
  fun H h0 h1 h2 => acalls_same (xs := [m.b0, mb1, m.b2]) hargs (mc_ok m) hy h H fun i x hx => match i, hx with
    | 0, hx => by simp at hx; subst hx; exact h0
    | 1, hx => by simp at hx; subst hx; exact h1
    | 2, hx => by simp at hx; subst hx; exact h2
    | i + 3, hx => by simp at hx
theorem leaf_mc {m : Mc} {y r : AV} {H1 : AH} (hy : ok 3 y = true) (hH : ∃ gb, H1.bs = [m.b0, mb1, m.b2] ++ gb) (he : r = y) : BigR tt 3 (One y [m.b0, mb1, m.b2]) r H1 :=
  ⟨y, _, he ▸ .refl _, hy, rfl, hH, mc_ok m, rfl, rfl⟩
theorem m_value (m : Mc) (n : Nod) : MCall m 49 [.ptr 0 0, .agg n.av] (vwAV (n.value, 0)) := by
  refine mcall rfl rfl (body_big (T := tt) (k := 3) Try.func49 rfl Try.ntmps49 rfl rfl ?_)
  refine wp_reg ?_
  refine st_box rfl rfl rfl rfl rfl rfl rfl rfl rfl ?_
  refine st_alloc rfl rfl rfl rfl rfl rfl rfl ?_
  refine st_pop rfl rfl rfl rfl ?_
  refine st_nil ?_
  refine wp_reg ?_
  refine st_pop rfl rfl rfl rfl ?_
  refine st_pop rfl rfl rfl rfl ?_
  refine st_store rfl rfl rfl rfl rfl rfl rfl rfl rfl rfl rfl rfl rfl ?_
  refine st_pop rfl rfl rfl rfl ?_
  refine st_nil ?_
  refine awp_ret ?_
  refine ret_ret rfl rfl ?_
  refine leaf_mc rfl ⟨_, rfl⟩ ?_
  rfl
theorem m_ref_some (m : Mc) (n : Nod) (h : Hld) (hg : mget m.s (atC n.ref m.x.sub m.x.obj) = some h) : MCall m 50 [.ptr 0 0, .agg n.av] (vwAV (h.v, 0)) := by
  refine mcall rfl rfl (body_big (T := tt) (k := 3) Try.func50 rfl Try.ntmps50 rfl rfl ?_)
  refine wp_reg ?_
  refine st_box rfl rfl rfl rfl rfl rfl rfl rfl rfl ?_
  refine st_alloc rfl rfl rfl rfl rfl rfl rfl ?_
  refine st_pop rfl rfl rfl rfl ?_
  refine st_nil ?_
  refine wp_open [.op 25, .bar] (D := [0, 1, 3, 7, 0, 16, 0, 64, 192, 448, 960, 0, 2048, 6144, 14336, 30720, 65520, 131071, 262143, 524287, 524287, 524287, 0, 5242879, 14680063, 33554431]) (by kernel_rfl) (by kernel_rfl) (by kernel_rfl) ?_
  refine ad_op rfl rfl ?_
  refine do_pop rfl rfl rfl rfl rfl (by kernel_rfl) ?_
  refine do_pop rfl rfl rfl rfl rfl (by kernel_rfl) ?_
  refine do_pop rfl rfl rfl rfl rfl (by kernel_rfl) ?_
  refine do_pop rfl rfl rfl rfl rfl (by kernel_rfl) ?_
  refine do_pop rfl rfl rfl rfl rfl (by kernel_rfl) ?_
  refine do_pop rfl rfl rfl rfl rfl (by kernel_rfl) ?_
  refine do_pop rfl rfl rfl rfl rfl (by kernel_rfl) ?_
  refine do_pop rfl rfl rfl rfl rfl (by kernel_rfl) ?_
  refine do_pop rfl rfl rfl rfl rfl (by kernel_rfl) ?_
  refine do_pop rfl rfl rfl rfl rfl (by kernel_rfl) ?_
  refine do_pop rfl rfl rfl rfl rfl (by kernel_rfl) ?_
  refine do_pop rfl rfl rfl rfl rfl (by kernel_rfl) ?_
  refine do_pop rfl rfl rfl rfl rfl (by kernel_rfl) ?_
  refine do_pop rfl rfl rfl rfl rfl (by kernel_rfl) ?_
  refine do_pop rfl rfl rfl rfl rfl (by kernel_rfl) ?_
  refine do_pop rfl rfl rfl rfl rfl (by kernel_rfl) ?_
  refine do_calc (xs := [.tmp 15, .tmp 20, .tmp 25]) _ rfl rfl rfl rfl Try.func71 rfl rfl rfl (fun H_ => at_c _ _ _ _) ?_
  refine do_callH (xs := [.tmp 13, .tmp 26]) [1, 2] _ rfl rfl rfl rfl Try.func70 rfl rfl rfl (fun H_ h => get_c m.s (atC n.ref m.x.sub m.x.obj) H_ 1 2 ((h 1 (by simp)).trans rfl) ((h 2 (by simp)).trans rfl) hg) (by kernel_rfl) ?_
  refine do_pop rfl rfl rfl rfl rfl (by kernel_rfl) ?_
  refine do_pop rfl rfl rfl rfl rfl (by kernel_rfl) ?_
  refine do_pop rfl rfl rfl rfl rfl (by kernel_rfl) ?_
  refine do_pop rfl rfl rfl rfl rfl (by kernel_rfl) ?_
  refine do_alloc rfl rfl rfl rfl rfl rfl rfl (by kernel_rfl) ?_
  refine do_store rfl rfl rfl rfl rfl rfl rfl rfl rfl rfl rfl rfl rfl (by kernel_rfl) ?_
  refine do_pop rfl rfl rfl rfl rfl (by kernel_rfl) ?_
  refine do_nil ?_
  refine ad_bar ?_
  refine st_pop rfl rfl rfl rfl ?_
  refine st_nil ?_
  refine ad_nil ?_
  refine wp_reg ?_
  refine st_pop rfl rfl rfl rfl ?_
  refine st_pop rfl rfl rfl rfl ?_
  refine st_calc (xs := [.tmp 31, .tmp 32, _]) _ rfl rfl rfl rfl Try.func72 rfl rfl rfl (fits_c h.v _ _ _) ?_
  refine st_pop rfl rfl rfl rfl ?_
  refine st_pop rfl rfl rfl rfl ?_
  refine st_store rfl rfl rfl rfl rfl rfl rfl rfl rfl rfl rfl rfl rfl ?_
  refine st_pop rfl rfl rfl rfl ?_
  refine st_nil ?_
  refine awp_ret ?_
  refine ret_ret rfl rfl ?_
  refine leaf_mc rfl ⟨_, rfl⟩ ?_
  rfl
theorem m_has_some (m : Mc) (n : Nod) (h : Hld) (hg : mget m.s (atC n.ref m.x.sub m.x.obj) = some h) : MCall m 51 [.ptr 0 0, .agg n.av] (vwAV (truthV true, 0)) := by
  refine mcall rfl rfl (body_big (T := tt) (k := 3) Try.func51 rfl Try.ntmps51 rfl rfl ?_)
  refine wp_reg ?_
  refine st_box rfl rfl rfl rfl rfl rfl rfl rfl rfl ?_
  refine st_alloc rfl rfl rfl rfl rfl rfl rfl ?_
  refine st_pop rfl rfl rfl rfl ?_
  refine st_nil ?_
  refine wp_open [.op 25, .bar] (D := [0, 1, 3, 7, 0, 16, 0, 64, 192, 448, 960, 0, 2048, 6144, 14336, 30720, 65520, 131071, 262143, 524287, 524287, 524287, 0, 5242879, 14680063, 33554431]) (by kernel_rfl) (by kernel_rfl) (by kernel_rfl) ?_
  refine ad_op rfl rfl ?_
  refine do_pop rfl rfl rfl rfl rfl (by kernel_rfl) ?_
  refine do_pop rfl rfl rfl rfl rfl (by kernel_rfl) ?_
  refine do_pop rfl rfl rfl rfl rfl (by kernel_rfl) ?_
  refine do_pop rfl rfl rfl rfl rfl (by kernel_rfl) ?_
  refine do_pop rfl rfl rfl rfl rfl (by kernel_rfl) ?_
  refine do_pop rfl rfl rfl rfl rfl (by kernel_rfl) ?_
  refine do_pop rfl rfl rfl rfl rfl (by kernel_rfl) ?_
  refine do_pop rfl rfl rfl rfl rfl (by kernel_rfl) ?_
  refine do_pop rfl rfl rfl rfl rfl (by kernel_rfl) ?_
  refine do_pop rfl rfl rfl rfl rfl (by kernel_rfl) ?_
  refine do_pop rfl rfl rfl rfl rfl (by kernel_rfl) ?_
  refine do_pop rfl rfl rfl rfl rfl (by kernel_rfl) ?_
  refine do_pop rfl rfl rfl rfl rfl (by kernel_rfl) ?_
  refine do_pop rfl rfl rfl rfl rfl (by kernel_rfl) ?_
  refine do_pop rfl rfl rfl rfl rfl (by kernel_rfl) ?_
  refine do_pop rfl rfl rfl rfl rfl (by kernel_rfl) ?_
  refine do_calc (xs := [.tmp 15, .tmp 20, .tmp 25]) _ rfl rfl rfl rfl Try.func71 rfl rfl rfl (fun H_ => at_c _ _ _ _) ?_
  refine do_callH (xs := [.tmp 13, .tmp 26]) [1, 2] _ rfl rfl rfl rfl Try.func70 rfl rfl rfl (fun H_ h => get_c m.s (atC n.ref m.x.sub m.x.obj) H_ 1 2 ((h 1 (by simp)).trans rfl) ((h 2 (by simp)).trans rfl) hg) (by kernel_rfl) ?_
  refine do_pop rfl rfl rfl rfl rfl (by kernel_rfl) ?_
  refine do_pop rfl rfl rfl rfl rfl (by kernel_rfl) ?_
  refine do_pop rfl rfl rfl rfl rfl (by kernel_rfl) ?_
  refine do_pop rfl rfl rfl rfl rfl (by kernel_rfl) ?_
  refine do_alloc rfl rfl rfl rfl rfl rfl rfl (by kernel_rfl) ?_
  refine do_store rfl rfl rfl rfl rfl rfl rfl rfl rfl rfl rfl rfl rfl (by kernel_rfl) ?_
  refine do_pop rfl rfl rfl rfl rfl (by kernel_rfl) ?_
  refine do_nil ?_
  refine ad_bar ?_
  refine st_pop rfl rfl rfl rfl ?_
  refine st_nil ?_
  refine ad_nil ?_
  refine wp_reg ?_
  refine st_pop rfl rfl rfl rfl ?_
  refine st_calc (xs := [.tmp 31]) _ rfl rfl rfl rfl Try.func73 rfl rfl rfl (truth_c _ _) ?_
  refine st_store rfl rfl rfl rfl rfl rfl rfl rfl rfl rfl rfl rfl rfl ?_
  refine st_pop rfl rfl rfl rfl ?_
  refine st_nil ?_
  refine awp_ret ?_
  refine ret_ret rfl rfl ?_
  refine leaf_mc rfl ⟨_, rfl⟩ ?_
  rfl
theorem m_ref_none (m : Mc) (n : Nod) (hg : mget m.s (atC n.ref m.x.sub m.x.obj) = none) : MCall m 50 [.ptr 0 0, .agg n.av] (vwAV (zeroVal, 2)) := by
  refine mcall rfl rfl (body_big (T := tt) (k := 3) Try.func50 rfl Try.ntmps50 rfl rfl ?_)
  refine wp_reg ?_
  refine st_box rfl rfl rfl rfl rfl rfl rfl rfl rfl ?_
  refine st_alloc rfl rfl rfl rfl rfl rfl rfl ?_
  refine st_pop rfl rfl rfl rfl ?_
  refine st_nil ?_
  refine wp_open [.op 25, .bar] (D := [0, 1, 3, 7, 0, 16, 0, 64, 192, 448, 960, 0, 2048, 6144, 14336, 30720, 65520, 131071, 262143, 524287, 524287, 524287, 0, 5242879, 14680063, 33554431]) (by kernel_rfl) (by kernel_rfl) (by kernel_rfl) ?_
  refine ad_op rfl rfl ?_
  refine do_pop rfl rfl rfl rfl rfl (by kernel_rfl) ?_
  refine do_pop rfl rfl rfl rfl rfl (by kernel_rfl) ?_
  refine do_pop rfl rfl rfl rfl rfl (by kernel_rfl) ?_
  refine do_pop rfl rfl rfl rfl rfl (by kernel_rfl) ?_
  refine do_pop rfl rfl rfl rfl rfl (by kernel_rfl) ?_
  refine do_pop rfl rfl rfl rfl rfl (by kernel_rfl) ?_
  refine do_pop rfl rfl rfl rfl rfl (by kernel_rfl) ?_
  refine do_pop rfl rfl rfl rfl rfl (by kernel_rfl) ?_
  refine do_pop rfl rfl rfl rfl rfl (by kernel_rfl) ?_
  refine do_pop rfl rfl rfl rfl rfl (by kernel_rfl) ?_
  refine do_pop rfl rfl rfl rfl rfl (by kernel_rfl) ?_
  refine do_pop rfl rfl rfl rfl rfl (by kernel_rfl) ?_
  refine do_pop rfl rfl rfl rfl rfl (by kernel_rfl) ?_
  refine do_pop rfl rfl rfl rfl rfl (by kernel_rfl) ?_
  refine do_pop rfl rfl rfl rfl rfl (by kernel_rfl) ?_
  refine do_pop rfl rfl rfl rfl rfl (by kernel_rfl) ?_
  refine do_calc (xs := [.tmp 15, .tmp 20, .tmp 25]) _ rfl rfl rfl rfl Try.func71 rfl rfl rfl (fun H_ => at_c _ _ _ _) ?_
  refine do_callH (xs := [.tmp 13, .tmp 26]) [1, 2] _ rfl rfl rfl rfl Try.func70 rfl rfl rfl (fun H_ h => get_c m.s (atC n.ref m.x.sub m.x.obj) H_ 1 2 ((h 1 (by simp)).trans rfl) ((h 2 (by simp)).trans rfl) hg) (by kernel_rfl) ?_
  refine do_pop rfl rfl rfl rfl rfl (by kernel_rfl) ?_
  refine do_pop rfl rfl rfl rfl rfl (by kernel_rfl) ?_
  refine do_pop rfl rfl rfl rfl rfl (by kernel_rfl) ?_
  refine do_pop rfl rfl rfl rfl rfl (by kernel_rfl) ?_
  refine do_alloc rfl rfl rfl rfl rfl rfl rfl (by kernel_rfl) ?_
  refine do_store rfl rfl rfl rfl rfl rfl rfl rfl rfl rfl rfl rfl rfl (by kernel_rfl) ?_
  refine do_pop rfl rfl rfl rfl rfl (by kernel_rfl) ?_
  refine do_nil ?_
  refine ad_bar ?_
  refine st_pop rfl rfl rfl rfl ?_
  refine st_nil ?_
  refine ad_nil ?_
  refine wp_reg ?_
  refine st_pop rfl rfl rfl rfl ?_
  refine st_pop rfl rfl rfl rfl ?_
  refine st_calc (xs := [.tmp 31, .tmp 32, _]) _ rfl rfl rfl rfl Try.func72 rfl rfl rfl (fits_c zeroVal _ _ _) ?_
  refine st_pop rfl rfl rfl rfl ?_
  refine st_pop rfl rfl rfl rfl ?_
  refine st_store rfl rfl rfl rfl rfl rfl rfl rfl rfl rfl rfl rfl rfl ?_
  refine st_pop rfl rfl rfl rfl ?_
  refine st_nil ?_
  refine awp_ret ?_
  refine ret_ret rfl rfl ?_
  refine leaf_mc rfl ⟨_, rfl⟩ ?_
  rfl
theorem m_has_none (m : Mc) (n : Nod) (hg : mget m.s (atC n.ref m.x.sub m.x.obj) = none) : MCall m 51 [.ptr 0 0, .agg n.av] (vwAV (truthV false, 0)) := by
  refine mcall rfl rfl (body_big (T := tt) (k := 3) Try.func51 rfl Try.ntmps51 rfl rfl ?_)
  refine wp_reg ?_
  refine st_box rfl rfl rfl rfl rfl rfl rfl rfl rfl ?_
  refine st_alloc rfl rfl rfl rfl rfl rfl rfl ?_
  refine st_pop rfl rfl rfl rfl ?_
  refine st_nil ?_
  refine wp_open [.op 25, .bar] (D := [0, 1, 3, 7, 0, 16, 0, 64, 192, 448, 960, 0, 2048, 6144, 14336, 30720, 65520, 131071, 262143, 524287, 524287, 524287, 0, 5242879, 14680063, 33554431]) (by kernel_rfl) (by kernel_rfl) (by kernel_rfl) ?_
  refine ad_op rfl rfl ?_
  refine do_pop rfl rfl rfl rfl rfl (by kernel_rfl) ?_
  refine do_pop rfl rfl rfl rfl rfl (by kernel_rfl) ?_
  refine do_pop rfl rfl rfl rfl rfl (by kernel_rfl) ?_
  refine do_pop rfl rfl rfl rfl rfl (by kernel_rfl) ?_
  refine do_pop rfl rfl rfl rfl rfl (by kernel_rfl) ?_
  refine do_pop rfl rfl rfl rfl rfl (by kernel_rfl) ?_
  refine do_pop rfl rfl rfl rfl rfl (by kernel_rfl) ?_
  refine do_pop rfl rfl rfl rfl rfl (by kernel_rfl) ?_
  refine do_pop rfl rfl rfl rfl rfl (by kernel_rfl) ?_
  refine do_pop rfl rfl rfl rfl rfl (by kernel_rfl) ?_
  refine do_pop rfl rfl rfl rfl rfl (by kernel_rfl) ?_
  refine do_pop rfl rfl rfl rfl rfl (by kernel_rfl) ?_
  refine do_pop rfl rfl rfl rfl rfl (by kernel_rfl) ?_
  refine do_pop rfl rfl rfl rfl rfl (by kernel_rfl) ?_
  refine do_pop rfl rfl rfl rfl rfl (by kernel_rfl) ?_
  refine do_pop rfl rfl rfl rfl rfl (by kernel_rfl) ?_
  refine do_calc (xs := [.tmp 15, .tmp 20, .tmp 25]) _ rfl rfl rfl rfl Try.func71 rfl rfl rfl (fun H_ => at_c _ _ _ _) ?_
  refine do_callH (xs := [.tmp 13, .tmp 26]) [1, 2] _ rfl rfl rfl rfl Try.func70 rfl rfl rfl (fun H_ h => get_c m.s (atC n.ref m.x.sub m.x.obj) H_ 1 2 ((h 1 (by simp)).trans rfl) ((h 2 (by simp)).trans rfl) hg) (by kernel_rfl) ?_
  refine do_pop rfl rfl rfl rfl rfl (by kernel_rfl) ?_
  refine do_pop rfl rfl rfl rfl rfl (by kernel_rfl) ?_
  refine do_pop rfl rfl rfl rfl rfl (by kernel_rfl) ?_
  refine do_pop rfl rfl rfl rfl rfl (by kernel_rfl) ?_
  refine do_alloc rfl rfl rfl rfl rfl rfl rfl (by kernel_rfl) ?_
  refine do_store rfl rfl rfl rfl rfl rfl rfl rfl rfl rfl rfl rfl rfl (by kernel_rfl) ?_
  refine do_pop rfl rfl rfl rfl rfl (by kernel_rfl) ?_
  refine do_nil ?_
  refine ad_bar ?_
  refine st_pop rfl rfl rfl rfl ?_
  refine st_nil ?_
  refine ad_nil ?_
  refine wp_reg ?_
  refine st_pop rfl rfl rfl rfl ?_
  refine st_calc (xs := [.tmp 31]) _ rfl rfl rfl rfl Try.func73 rfl rfl rfl (truth_c _ _) ?_
  refine st_store rfl rfl rfl rfl rfl rfl rfl rfl rfl rfl rfl rfl rfl ?_
  refine st_pop rfl rfl rfl rfl ?_
  refine st_nil ?_
  refine awp_ret ?_
  refine ret_ret rfl rfl ?_
  refine leaf_mc rfl ⟨_, rfl⟩ ?_
  rfl
theorem m_now (m : Mc) (n : Nod) : MCall m 52 [.ptr 0 0, .agg n.av] (vwAV (wholeV m.x.now, 0)) := by
  refine mcall rfl rfl (body_big (T := tt) (k := 3) Try.func52 rfl Try.ntmps52 rfl rfl ?_)
  refine wp_reg ?_
  refine st_box rfl rfl rfl rfl rfl rfl rfl rfl rfl ?_
  refine st_alloc rfl rfl rfl rfl rfl rfl rfl ?_
  refine st_pop rfl rfl rfl rfl ?_
  refine st_nil ?_
  refine wp_reg ?_
  refine st_pop rfl rfl rfl rfl ?_
  refine st_pop rfl rfl rfl rfl ?_
  refine st_pop rfl rfl rfl rfl ?_
  refine st_pop rfl rfl rfl rfl ?_
  refine st_pop rfl rfl rfl rfl ?_
  refine st_calc (xs := [.tmp 10]) _ rfl rfl rfl rfl Try.func74 rfl rfl rfl (whole_c _ _) ?_
  refine st_store rfl rfl rfl rfl rfl rfl rfl rfl rfl rfl rfl rfl rfl ?_
  refine st_pop rfl rfl rfl rfl ?_
  refine st_nil ?_
  refine awp_ret ?_
  refine ret_ret rfl rfl ?_
  refine leaf_mc rfl ⟨_, rfl⟩ ?_
  rfl
theorem m_began (m : Mc) (n : Nod) : MCall m 53 [.ptr 0 0, .agg n.av] (vwAV (wholeV m.x.began, 0)) := by
  refine mcall rfl rfl (body_big (T := tt) (k := 3) Try.func53 rfl Try.ntmps53 rfl rfl ?_)
  refine wp_reg ?_
  refine st_box rfl rfl rfl rfl rfl rfl rfl rfl rfl ?_
  refine st_alloc rfl rfl rfl rfl rfl rfl rfl ?_
  refine st_pop rfl rfl rfl rfl ?_
  refine st_nil ?_
  refine wp_reg ?_
  refine st_pop rfl rfl rfl rfl ?_
  refine st_pop rfl rfl rfl rfl ?_
  refine st_pop rfl rfl rfl rfl ?_
  refine st_pop rfl rfl rfl rfl ?_
  refine st_pop rfl rfl rfl rfl ?_
  refine st_calc (xs := [.tmp 10]) _ rfl rfl rfl rfl Try.func74 rfl rfl rfl (whole_c _ _) ?_
  refine st_store rfl rfl rfl rfl rfl rfl rfl rfl rfl rfl rfl rfl rfl ?_
  refine st_pop rfl rfl rfl rfl ?_
  refine st_nil ?_
  refine awp_ret ?_
  refine ret_ret rfl rfl ?_
  refine leaf_mc rfl ⟨_, rfl⟩ ?_
  rfl
theorem m_not (m : Mc) (n : Nod) (p : VW) (hp : VWok p) (hatA : AtRet m n.a p) : MCall m 54 [.ptr 0 0, .agg n.av] (vwAV (opNot p)) := by
  refine mcall rfl rfl (body_big (T := tt) (k := 3) Try.func54 rfl Try.ntmps54 rfl rfl ?_)
  refine wp_reg ?_
  refine st_box rfl rfl rfl rfl rfl rfl rfl rfl rfl ?_
  refine st_alloc rfl rfl rfl rfl rfl rfl rfl ?_
  refine st_pop rfl rfl rfl rfl ?_
  refine st_nil ?_
  refine wp_reg ?_
  refine st_pop rfl rfl rfl rfl ?_
  refine st_pop rfl rfl rfl rfl ?_
  refine st_pop rfl rfl rfl rfl ?_
  refine st_calc (xs := [.tmp 9, .tmp 11]) _ rfl rfl rfl rfl Try.func18 rfl rfl rfl (hatA _ rfl rfl rfl) ?_
  refine st_pop rfl rfl rfl rfl ?_
  refine st_pop rfl rfl rfl rfl ?_
  refine st_pop rfl rfl rfl rfl ?_
  refine st_alloc rfl rfl rfl rfl rfl rfl rfl ?_
  refine st_store rfl rfl rfl rfl rfl rfl rfl rfl rfl rfl rfl rfl rfl ?_
  refine st_pop rfl rfl rfl rfl ?_
  refine st_nil ?_
  refine awp_seq ?_
  refine wp_reg ?_
  refine st_pop rfl rfl rfl rfl ?_
  refine st_pop rfl rfl rfl rfl ?_
  refine st_pop rfl rfl rfl rfl ?_
  refine st_bit 17 rfl fun b hb1 => ?_
  cases b
  · try simp only [decide_eq_true_eq, decide_eq_false_iff_not, Bool.not_eq_true', Bool.not_eq_false', Int.not_lt, Int.not_le] at hb1
    refine st_skip rfl rfl rfl ?_
    refine st_skip rfl rfl rfl ?_
    refine st_skip rfl rfl rfl ?_
    refine st_pop rfl rfl rfl rfl ?_
    refine st_nil ?_
    refine wp_f rfl ?_
    refine awp_skip ?_
    refine at_norm ?_
    refine wp_reg ?_
    refine st_pop rfl rfl rfl rfl ?_
    refine st_pop rfl rfl rfl rfl ?_
    refine st_pop rfl rfl rfl rfl ?_
    refine st_calc (xs := [.tmp 24]) _ rfl rfl rfl rfl Try.func73 rfl rfl rfl (truth_c _ _) ?_
    refine st_pop rfl rfl rfl rfl ?_
    refine st_calc (xs := [.tmp 25, .tmp 26]) _ rfl rfl rfl rfl Try.func75 rfl rfl rfl (told_c (truthV (!p.1.bool)) _ _) ?_
    refine st_pop rfl rfl rfl rfl ?_
    refine st_pop rfl rfl rfl rfl ?_
    refine st_store rfl rfl rfl rfl rfl rfl rfl rfl rfl rfl rfl rfl rfl ?_
    refine st_pop rfl rfl rfl rfl ?_
    refine st_nil ?_
    refine awp_ret ?_
    refine ret_ret rfl rfl ?_
    refine leaf_mc rfl ⟨_, rfl⟩ ?_
    (try clear hatA); (try clear hatB); (try clear hcall)
    first
      | (rw [show opNot p = toldP (truthV (!p.1.bool)) (whyK p 3) from rfl, show whyK p 3 = 9 from if_pos (by simp_all)]; rfl)
      | (rw [show opNot p = toldP (truthV (!p.1.bool)) (whyK p 3) from rfl, show whyK p 3 = p.2 from if_neg (by simp_all)]; rfl)
  · try simp only [decide_eq_true_eq, decide_eq_false_iff_not, Bool.not_eq_true', Bool.not_eq_false', Int.not_lt, Int.not_le] at hb1
    refine st_pop rfl rfl rfl rfl ?_
    refine st_pop rfl rfl rfl rfl ?_
    refine st_pop rfl rfl rfl rfl ?_
    refine st_pop rfl rfl rfl rfl ?_
    refine st_nil ?_
    refine wp_bit 21 rfl fun b hb2 => ?_
    cases b
    · try simp only [decide_eq_true_eq, decide_eq_false_iff_not, Bool.not_eq_true', Bool.not_eq_false', Int.not_lt, Int.not_le] at hb2
      refine wp_f rfl ?_
      refine awp_skip ?_
      refine at_norm ?_
      refine wp_reg ?_
      refine st_pop rfl rfl rfl rfl ?_
      refine st_pop rfl rfl rfl rfl ?_
      refine st_pop rfl rfl rfl rfl ?_
      refine st_calc (xs := [.tmp 24]) _ rfl rfl rfl rfl Try.func73 rfl rfl rfl (truth_c _ _) ?_
      refine st_pop rfl rfl rfl rfl ?_
      refine st_calc (xs := [.tmp 25, .tmp 26]) _ rfl rfl rfl rfl Try.func75 rfl rfl rfl (told_c (truthV (!p.1.bool)) _ _) ?_
      refine st_pop rfl rfl rfl rfl ?_
      refine st_pop rfl rfl rfl rfl ?_
      refine st_store rfl rfl rfl rfl rfl rfl rfl rfl rfl rfl rfl rfl rfl ?_
      refine st_pop rfl rfl rfl rfl ?_
      refine st_nil ?_
      refine awp_ret ?_
      refine ret_ret rfl rfl ?_
      refine leaf_mc rfl ⟨_, rfl⟩ ?_
      (try clear hatA); (try clear hatB); (try clear hcall)
      first
        | (rw [show opNot p = toldP (truthV (!p.1.bool)) (whyK p 3) from rfl, show whyK p 3 = 9 from if_pos (by simp_all)]; rfl)
        | (rw [show opNot p = toldP (truthV (!p.1.bool)) (whyK p 3) from rfl, show whyK p 3 = p.2 from if_neg (by simp_all)]; rfl)
    · try simp only [decide_eq_true_eq, decide_eq_false_iff_not, Bool.not_eq_true', Bool.not_eq_false', Int.not_lt, Int.not_le] at hb2
      refine wp_t rfl ?_
      refine awp_region ?_
      refine st_pop rfl rfl rfl rfl ?_
      refine st_nil ?_
      refine at_norm ?_
      refine wp_reg ?_
      refine st_pop rfl rfl rfl rfl ?_
      refine st_pop rfl rfl rfl rfl ?_
      refine st_pop rfl rfl rfl rfl ?_
      refine st_calc (xs := [.tmp 24]) _ rfl rfl rfl rfl Try.func73 rfl rfl rfl (truth_c _ _) ?_
      refine st_pop rfl rfl rfl rfl ?_
      refine st_calc (xs := [.tmp 25, .tmp 26]) _ rfl rfl rfl rfl Try.func75 rfl rfl rfl (told_c (truthV (!p.1.bool)) _ _) ?_
      refine st_pop rfl rfl rfl rfl ?_
      refine st_pop rfl rfl rfl rfl ?_
      refine st_store rfl rfl rfl rfl rfl rfl rfl rfl rfl rfl rfl rfl rfl ?_
      refine st_pop rfl rfl rfl rfl ?_
      refine st_nil ?_
      refine awp_ret ?_
      refine ret_ret rfl rfl ?_
      refine leaf_mc rfl ⟨_, rfl⟩ ?_
      (try clear hatA); (try clear hatB); (try clear hcall)
      first
        | (rw [show opNot p = toldP (truthV (!p.1.bool)) (whyK p 3) from rfl, show whyK p 3 = 9 from if_pos (by simp_all)]; rfl)
        | (rw [show opNot p = toldP (truthV (!p.1.bool)) (whyK p 3) from rfl, show whyK p 3 = p.2 from if_neg (by simp_all)]; rfl)
theorem m_length (m : Mc) (n : Nod) (p : VW) (hp : VWok p) (hatA : AtRet m n.a p) : MCall m 61 [.ptr 0 0, .agg n.av] (vwAV (opLen p)) := by
  refine mcall rfl rfl (body_big (T := tt) (k := 3) Try.func61 rfl Try.ntmps61 rfl rfl ?_)
  refine wp_reg ?_
  refine st_box rfl rfl rfl rfl rfl rfl rfl rfl rfl ?_
  refine st_alloc rfl rfl rfl rfl rfl rfl rfl ?_
  refine st_pop rfl rfl rfl rfl ?_
  refine st_nil ?_
  refine wp_reg ?_
  refine st_pop rfl rfl rfl rfl ?_
  refine st_pop rfl rfl rfl rfl ?_
  refine st_pop rfl rfl rfl rfl ?_
  refine st_calc (xs := [.tmp 9, .tmp 11]) _ rfl rfl rfl rfl Try.func18 rfl rfl rfl (hatA _ rfl rfl rfl) ?_
  refine st_pop rfl rfl rfl rfl ?_
  refine st_pop rfl rfl rfl rfl ?_
  refine st_pop rfl rfl rfl rfl ?_
  refine st_alloc rfl rfl rfl rfl rfl rfl rfl ?_
  refine st_store rfl rfl rfl rfl rfl rfl rfl rfl rfl rfl rfl rfl rfl ?_
  refine st_pop rfl rfl rfl rfl ?_
  refine st_nil ?_
  refine awp_seq ?_
  refine wp_reg ?_
  refine st_pop rfl rfl rfl rfl ?_
  refine st_pop rfl rfl rfl rfl ?_
  refine st_pop rfl rfl rfl rfl ?_
  refine st_bit 17 rfl fun b hb1 => ?_
  cases b
  · try simp only [decide_eq_true_eq, decide_eq_false_iff_not, Bool.not_eq_true', Bool.not_eq_false', Int.not_lt, Int.not_le] at hb1
    refine st_skip rfl rfl rfl ?_
    refine st_skip rfl rfl rfl ?_
    refine st_skip rfl rfl rfl ?_
    refine st_pop rfl rfl rfl rfl ?_
    refine st_nil ?_
    refine wp_f rfl ?_
    refine awp_skip ?_
    refine at_norm ?_
    refine wp_reg ?_
    refine st_pop rfl rfl rfl rfl ?_
    refine st_pop rfl rfl rfl rfl ?_
    refine st_pop rfl rfl rfl rfl ?_
    refine st_calc (xs := [.tmp 24]) _ rfl rfl rfl rfl Try.func74 rfl rfl rfl (whole_c _ _) ?_
    refine st_pop rfl rfl rfl rfl ?_
    refine st_calc (xs := [.tmp 25, .tmp 26]) _ rfl rfl rfl rfl Try.func75 rfl rfl rfl (told_c (wholeV p.1.text.size) _ _) ?_
    refine st_pop rfl rfl rfl rfl ?_
    refine st_pop rfl rfl rfl rfl ?_
    refine st_store rfl rfl rfl rfl rfl rfl rfl rfl rfl rfl rfl rfl rfl ?_
    refine st_pop rfl rfl rfl rfl ?_
    refine st_nil ?_
    refine awp_ret ?_
    refine ret_ret rfl rfl ?_
    refine leaf_mc rfl ⟨_, rfl⟩ ?_
    (try clear hatA); (try clear hatB); (try clear hcall)
    first
      | (rw [show opLen p = toldP (wholeV p.1.text.size) (whyK p 2) from rfl, show whyK p 2 = 9 from if_pos (by simp_all)]; rfl)
      | (rw [show opLen p = toldP (wholeV p.1.text.size) (whyK p 2) from rfl, show whyK p 2 = p.2 from if_neg (by simp_all)]; rfl)
  · try simp only [decide_eq_true_eq, decide_eq_false_iff_not, Bool.not_eq_true', Bool.not_eq_false', Int.not_lt, Int.not_le] at hb1
    refine st_pop rfl rfl rfl rfl ?_
    refine st_pop rfl rfl rfl rfl ?_
    refine st_pop rfl rfl rfl rfl ?_
    refine st_pop rfl rfl rfl rfl ?_
    refine st_nil ?_
    refine wp_bit 21 rfl fun b hb2 => ?_
    cases b
    · try simp only [decide_eq_true_eq, decide_eq_false_iff_not, Bool.not_eq_true', Bool.not_eq_false', Int.not_lt, Int.not_le] at hb2
      refine wp_f rfl ?_
      refine awp_skip ?_
      refine at_norm ?_
      refine wp_reg ?_
      refine st_pop rfl rfl rfl rfl ?_
      refine st_pop rfl rfl rfl rfl ?_
      refine st_pop rfl rfl rfl rfl ?_
      refine st_calc (xs := [.tmp 24]) _ rfl rfl rfl rfl Try.func74 rfl rfl rfl (whole_c _ _) ?_
      refine st_pop rfl rfl rfl rfl ?_
      refine st_calc (xs := [.tmp 25, .tmp 26]) _ rfl rfl rfl rfl Try.func75 rfl rfl rfl (told_c (wholeV p.1.text.size) _ _) ?_
      refine st_pop rfl rfl rfl rfl ?_
      refine st_pop rfl rfl rfl rfl ?_
      refine st_store rfl rfl rfl rfl rfl rfl rfl rfl rfl rfl rfl rfl rfl ?_
      refine st_pop rfl rfl rfl rfl ?_
      refine st_nil ?_
      refine awp_ret ?_
      refine ret_ret rfl rfl ?_
      refine leaf_mc rfl ⟨_, rfl⟩ ?_
      (try clear hatA); (try clear hatB); (try clear hcall)
      first
        | (rw [show opLen p = toldP (wholeV p.1.text.size) (whyK p 2) from rfl, show whyK p 2 = 9 from if_pos (by simp_all)]; rfl)
        | (rw [show opLen p = toldP (wholeV p.1.text.size) (whyK p 2) from rfl, show whyK p 2 = p.2 from if_neg (by simp_all)]; rfl)
    · try simp only [decide_eq_true_eq, decide_eq_false_iff_not, Bool.not_eq_true', Bool.not_eq_false', Int.not_lt, Int.not_le] at hb2
      refine wp_t rfl ?_
      refine awp_region ?_
      refine st_pop rfl rfl rfl rfl ?_
      refine st_nil ?_
      refine at_norm ?_
      refine wp_reg ?_
      refine st_pop rfl rfl rfl rfl ?_
      refine st_pop rfl rfl rfl rfl ?_
      refine st_pop rfl rfl rfl rfl ?_
      refine st_calc (xs := [.tmp 24]) _ rfl rfl rfl rfl Try.func74 rfl rfl rfl (whole_c _ _) ?_
      refine st_pop rfl rfl rfl rfl ?_
      refine st_calc (xs := [.tmp 25, .tmp 26]) _ rfl rfl rfl rfl Try.func75 rfl rfl rfl (told_c (wholeV p.1.text.size) _ _) ?_
      refine st_pop rfl rfl rfl rfl ?_
      refine st_pop rfl rfl rfl rfl ?_
      refine st_store rfl rfl rfl rfl rfl rfl rfl rfl rfl rfl rfl rfl rfl ?_
      refine st_pop rfl rfl rfl rfl ?_
      refine st_nil ?_
      refine awp_ret ?_
      refine ret_ret rfl rfl ?_
      refine leaf_mc rfl ⟨_, rfl⟩ ?_
      (try clear hatA); (try clear hatB); (try clear hcall)
      first
        | (rw [show opLen p = toldP (wholeV p.1.text.size) (whyK p 2) from rfl, show whyK p 2 = 9 from if_pos (by simp_all)]; rfl)
        | (rw [show opLen p = toldP (wholeV p.1.text.size) (whyK p 2) from rfl, show whyK p 2 = p.2 from if_neg (by simp_all)]; rfl)
theorem m_rate (m : Mc) (n : Nod) (p : VW) (hp : VWok p) (hatA : AtRet m n.a p) : MCall m 62 [.ptr 0 0, .agg n.av] (vwAV (opRate p)) := by
  refine mcall rfl rfl (body_big (T := tt) (k := 3) Try.func62 rfl Try.ntmps62 rfl rfl ?_)
  refine wp_reg ?_
  refine st_box rfl rfl rfl rfl rfl rfl rfl rfl rfl ?_
  refine st_alloc rfl rfl rfl rfl rfl rfl rfl ?_
  refine st_pop rfl rfl rfl rfl ?_
  refine st_nil ?_
  refine wp_reg ?_
  refine st_pop rfl rfl rfl rfl ?_
  refine st_pop rfl rfl rfl rfl ?_
  refine st_pop rfl rfl rfl rfl ?_
  refine st_calc (xs := [.tmp 9, .tmp 11]) _ rfl rfl rfl rfl Try.func18 rfl rfl rfl (hatA _ rfl rfl rfl) ?_
  refine st_pop rfl rfl rfl rfl ?_
  refine st_pop rfl rfl rfl rfl ?_
  refine st_pop rfl rfl rfl rfl ?_
  refine st_alloc rfl rfl rfl rfl rfl rfl rfl ?_
  refine st_store rfl rfl rfl rfl rfl rfl rfl rfl rfl rfl rfl rfl rfl ?_
  refine st_pop rfl rfl rfl rfl ?_
  refine st_nil ?_
  refine awp_seq ?_
  refine wp_reg ?_
  refine st_pop rfl rfl rfl rfl ?_
  refine st_pop rfl rfl rfl rfl ?_
  refine st_pop rfl rfl rfl rfl ?_
  refine st_bit 17 rfl fun b hb1 => ?_
  cases b
  · try simp only [decide_eq_true_eq, decide_eq_false_iff_not, Bool.not_eq_true', Bool.not_eq_false', Int.not_lt, Int.not_le] at hb1
    refine st_skip rfl rfl rfl ?_
    refine st_skip rfl rfl rfl ?_
    refine st_skip rfl rfl rfl ?_
    refine st_pop rfl rfl rfl rfl ?_
    refine st_nil ?_
    refine wp_f rfl ?_
    refine awp_skip ?_
    refine at_norm ?_
    refine wp_reg ?_
    refine st_pop rfl rfl rfl rfl ?_
    refine st_pop rfl rfl rfl rfl ?_
    refine st_calc (xs := [.tmp 23]) _ rfl rfl rfl rfl Try.func83 rfl rfl rfl (rOf_c _ _) ?_
    refine st_calc (xs := [.tmp 24]) _ rfl rfl rfl rfl Try.func77 rfl rfl rfl (real_c _ _) ?_
    refine st_pop rfl rfl rfl rfl ?_
    refine st_calc (xs := [.tmp 25, .tmp 26]) _ rfl rfl rfl rfl Try.func75 rfl rfl rfl (told_c (realV (Fm.ofW p.1.int)) _ _) ?_
    refine st_pop rfl rfl rfl rfl ?_
    refine st_pop rfl rfl rfl rfl ?_
    refine st_store rfl rfl rfl rfl rfl rfl rfl rfl rfl rfl rfl rfl rfl ?_
    refine st_pop rfl rfl rfl rfl ?_
    refine st_nil ?_
    refine awp_ret ?_
    refine ret_ret rfl rfl ?_
    refine leaf_mc rfl ⟨_, rfl⟩ ?_
    (try clear hatA); (try clear hatB); (try clear hcall)
    first
      | (rw [show opRate p = toldP (realV (Fm.ofW p.1.int)) (whyK p 1) from rfl, show whyK p 1 = 9 from if_pos (by simp_all)]; rfl)
      | (rw [show opRate p = toldP (realV (Fm.ofW p.1.int)) (whyK p 1) from rfl, show whyK p 1 = p.2 from if_neg (by simp_all)]; rfl)
  · try simp only [decide_eq_true_eq, decide_eq_false_iff_not, Bool.not_eq_true', Bool.not_eq_false', Int.not_lt, Int.not_le] at hb1
    refine st_pop rfl rfl rfl rfl ?_
    refine st_pop rfl rfl rfl rfl ?_
    refine st_pop rfl rfl rfl rfl ?_
    refine st_pop rfl rfl rfl rfl ?_
    refine st_nil ?_
    refine wp_bit 21 rfl fun b hb2 => ?_
    cases b
    · try simp only [decide_eq_true_eq, decide_eq_false_iff_not, Bool.not_eq_true', Bool.not_eq_false', Int.not_lt, Int.not_le] at hb2
      refine wp_f rfl ?_
      refine awp_skip ?_
      refine at_norm ?_
      refine wp_reg ?_
      refine st_pop rfl rfl rfl rfl ?_
      refine st_pop rfl rfl rfl rfl ?_
      refine st_calc (xs := [.tmp 23]) _ rfl rfl rfl rfl Try.func83 rfl rfl rfl (rOf_c _ _) ?_
      refine st_calc (xs := [.tmp 24]) _ rfl rfl rfl rfl Try.func77 rfl rfl rfl (real_c _ _) ?_
      refine st_pop rfl rfl rfl rfl ?_
      refine st_calc (xs := [.tmp 25, .tmp 26]) _ rfl rfl rfl rfl Try.func75 rfl rfl rfl (told_c (realV (Fm.ofW p.1.int)) _ _) ?_
      refine st_pop rfl rfl rfl rfl ?_
      refine st_pop rfl rfl rfl rfl ?_
      refine st_store rfl rfl rfl rfl rfl rfl rfl rfl rfl rfl rfl rfl rfl ?_
      refine st_pop rfl rfl rfl rfl ?_
      refine st_nil ?_
      refine awp_ret ?_
      refine ret_ret rfl rfl ?_
      refine leaf_mc rfl ⟨_, rfl⟩ ?_
      (try clear hatA); (try clear hatB); (try clear hcall)
      first
        | (rw [show opRate p = toldP (realV (Fm.ofW p.1.int)) (whyK p 1) from rfl, show whyK p 1 = 9 from if_pos (by simp_all)]; rfl)
        | (rw [show opRate p = toldP (realV (Fm.ofW p.1.int)) (whyK p 1) from rfl, show whyK p 1 = p.2 from if_neg (by simp_all)]; rfl)
    · try simp only [decide_eq_true_eq, decide_eq_false_iff_not, Bool.not_eq_true', Bool.not_eq_false', Int.not_lt, Int.not_le] at hb2
      refine wp_t rfl ?_
      refine awp_region ?_
      refine st_pop rfl rfl rfl rfl ?_
      refine st_nil ?_
      refine at_norm ?_
      refine wp_reg ?_
      refine st_pop rfl rfl rfl rfl ?_
      refine st_pop rfl rfl rfl rfl ?_
      refine st_calc (xs := [.tmp 23]) _ rfl rfl rfl rfl Try.func83 rfl rfl rfl (rOf_c _ _) ?_
      refine st_calc (xs := [.tmp 24]) _ rfl rfl rfl rfl Try.func77 rfl rfl rfl (real_c _ _) ?_
      refine st_pop rfl rfl rfl rfl ?_
      refine st_calc (xs := [.tmp 25, .tmp 26]) _ rfl rfl rfl rfl Try.func75 rfl rfl rfl (told_c (realV (Fm.ofW p.1.int)) _ _) ?_
      refine st_pop rfl rfl rfl rfl ?_
      refine st_pop rfl rfl rfl rfl ?_
      refine st_store rfl rfl rfl rfl rfl rfl rfl rfl rfl rfl rfl rfl rfl ?_
      refine st_pop rfl rfl rfl rfl ?_
      refine st_nil ?_
      refine awp_ret ?_
      refine ret_ret rfl rfl ?_
      refine leaf_mc rfl ⟨_, rfl⟩ ?_
      (try clear hatA); (try clear hatB); (try clear hcall)
      first
        | (rw [show opRate p = toldP (realV (Fm.ofW p.1.int)) (whyK p 1) from rfl, show whyK p 1 = 9 from if_pos (by simp_all)]; rfl)
        | (rw [show opRate p = toldP (realV (Fm.ofW p.1.int)) (whyK p 1) from rfl, show whyK p 1 = p.2 from if_neg (by simp_all)]; rfl)
theorem m_neg (m : Mc) (n : Nod) (p : VW) (hp : VWok p) (hatA : AtRet m n.a p) : MCall m 55 [.ptr 0 0, .agg n.av] (vwAV (opNeg p)) := by
  refine mcall rfl rfl (body_big (T := tt) (k := 3) Try.func55 rfl Try.ntmps55 rfl rfl ?_)
  refine wp_reg ?_
  refine st_box rfl rfl rfl rfl rfl rfl rfl rfl rfl ?_
  refine st_alloc rfl rfl rfl rfl rfl rfl rfl ?_
  refine st_pop rfl rfl rfl rfl ?_
  refine st_nil ?_
  refine wp_reg ?_
  refine st_pop rfl rfl rfl rfl ?_
  refine st_pop rfl rfl rfl rfl ?_
  refine st_pop rfl rfl rfl rfl ?_
  refine st_calc (xs := [.tmp 11, .tmp 13]) _ rfl rfl rfl rfl Try.func18 rfl rfl rfl (hatA _ rfl rfl rfl) ?_
  refine st_pop rfl rfl rfl rfl ?_
  refine st_pop rfl rfl rfl rfl ?_
  refine st_pop rfl rfl rfl rfl ?_
  refine st_alloc rfl rfl rfl rfl rfl rfl rfl ?_
  refine st_store rfl rfl rfl rfl rfl rfl rfl rfl rfl rfl rfl rfl rfl ?_
  refine st_pop rfl rfl rfl rfl ?_
  refine st_nil ?_
  refine awp_seq ?_
  refine awp_block ?_
  refine wp_reg ?_
  refine st_pop rfl rfl rfl rfl ?_
  refine st_pop rfl rfl rfl rfl ?_
  refine st_pop rfl rfl rfl rfl ?_
  refine st_nil ?_
  refine wp_bit 17 rfl fun b hb1 => ?_
  cases b
  · try simp only [decide_eq_true_eq, decide_eq_false_iff_not, Bool.not_eq_true', Bool.not_eq_false', Int.not_lt, Int.not_le] at hb1
    have h0 : p.2 = 0 := by simpa using hb1
    have hg0 := hp.good h0
    have hin := hp.int
    have hfx := hp.fit.2
    refine wp_f rfl ?_
    refine wp_reg ?_
    refine st_pop rfl rfl rfl rfl ?_
    refine st_pop rfl rfl rfl rfl ?_
    refine st_pop rfl rfl rfl rfl ?_
    refine st_pop rfl rfl rfl rfl ?_
    refine st_nil ?_
    refine wp_bit 22 rfl fun b hb2 => ?_
    cases b
    · try simp only [decide_eq_true_eq, decide_eq_false_iff_not, Bool.not_eq_true', Bool.not_eq_false', Int.not_lt, Int.not_le] at hb2
      refine wp_f rfl ?_
      refine wp_reg ?_
      refine st_pop rfl rfl rfl rfl ?_
      refine st_pop rfl rfl rfl rfl ?_
      refine st_pop rfl rfl rfl rfl ?_
      refine st_pop rfl rfl rfl rfl ?_
      refine st_nil ?_
      refine wp_bit 38 rfl fun b hb3 => ?_
      cases b
      · try simp only [decide_eq_true_eq, decide_eq_false_iff_not, Bool.not_eq_true', Bool.not_eq_false', Int.not_lt, Int.not_le] at hb3
        refine wp_f rfl ?_
        refine awp_skip ?_
        refine ab_norm ?_
        refine at_norm ?_
        refine wp_reg ?_
        refine st_pop rfl rfl rfl rfl ?_
        refine st_store rfl rfl rfl rfl rfl rfl rfl rfl rfl rfl rfl rfl rfl ?_
        refine st_pop rfl rfl rfl rfl ?_
        refine st_nil ?_
        refine awp_ret ?_
        refine ret_ret rfl rfl ?_
        refine leaf_mc rfl ⟨_, rfl⟩ ?_
        (try clear hatA); (try clear hatB); (try clear hcall)
        first
          | (rw [show opNeg p = (zeroVal, p.2) from if_neg (by simp_all)]; rfl)
          | (unfold opNeg; rw [if_pos h0]; first
               | (rw [if_pos (by assumption)]; rfl)
               | (rw [if_neg (by assumption)]; first
                    | (rw [if_pos (by assumption)]; rfl)
                    | (rw [if_neg (by assumption)]; rfl)))
      · try simp only [decide_eq_true_eq, decide_eq_false_iff_not, Bool.not_eq_true', Bool.not_eq_false', Int.not_lt, Int.not_le] at hb3
        refine wp_t rfl ?_
        refine wp_reg ?_
        refine st_pop rfl rfl rfl rfl ?_
        refine st_pop rfl rfl rfl rfl ?_
        refine st_calc (xs := [.tmp 43]) _ rfl rfl rfl rfl Try.func78 rfl rfl rfl (rateNeg_c _ hfx _) ?_
        refine st_calc (xs := [.tmp 44]) _ rfl rfl rfl rfl Try.func77 rfl rfl rfl (real_c _ _) ?_
        refine st_store rfl rfl rfl rfl rfl rfl rfl rfl rfl rfl rfl rfl rfl ?_
        refine st_pop rfl rfl rfl rfl ?_
        refine st_nil ?_
        refine awp_ret ?_
        refine ab_ret ?_
        refine at_ret ?_
        refine ret_ret rfl rfl ?_
        refine leaf_mc rfl ⟨_, rfl⟩ ?_
        (try clear hatA); (try clear hatB); (try clear hcall)
        first
          | (rw [show opNeg p = (zeroVal, p.2) from if_neg (by simp_all)]; rfl)
          | (unfold opNeg; rw [if_pos h0]; first
               | (rw [if_pos (by assumption)]; rfl)
               | (rw [if_neg (by assumption)]; first
                    | (rw [if_pos (by assumption)]; rfl)
                    | (rw [if_neg (by assumption)]; rfl)))
    · try simp only [decide_eq_true_eq, decide_eq_false_iff_not, Bool.not_eq_true', Bool.not_eq_false', Int.not_lt, Int.not_le] at hb2
      refine wp_t rfl ?_
      refine wp_reg ?_
      refine st_pop rfl rfl rfl rfl ?_
      refine st_pop rfl rfl rfl rfl ?_
      refine st_calc (xs := [.tmp 28]) _ rfl rfl rfl rfl Try.func76 rfl rfl rfl (neg_c _ hin _) ?_
      refine st_pop rfl rfl rfl rfl ?_
      refine st_pop rfl rfl rfl rfl ?_
      refine st_pop rfl rfl rfl rfl ?_
      refine st_pop rfl rfl rfl rfl ?_
      refine st_pop rfl rfl rfl rfl ?_
      refine st_nil ?_
      refine wp_reg ?_
      refine st_pop rfl rfl rfl rfl ?_
      refine st_calc (xs := [.tmp 32]) _ rfl rfl rfl rfl Try.func74 rfl rfl rfl (whole_c _ _) ?_
      refine st_pop rfl rfl rfl rfl ?_
      refine st_calc (xs := [.tmp 33, .tmp 34, _]) _ rfl rfl rfl rfl Try.func72 rfl rfl rfl (fits_c (wholeV (numNeg p.1.int).1) _ _ _) ?_
      refine st_pop rfl rfl rfl rfl ?_
      refine st_pop rfl rfl rfl rfl ?_
      refine st_store rfl rfl rfl rfl rfl rfl rfl rfl rfl rfl rfl rfl rfl ?_
      refine st_pop rfl rfl rfl rfl ?_
      refine st_nil ?_
      refine awp_ret ?_
      refine ab_ret ?_
      refine at_ret ?_
      refine ret_ret rfl rfl ?_
      refine leaf_mc rfl ⟨_, rfl⟩ ?_
      (try clear hatA); (try clear hatB); (try clear hcall)
      first
        | (rw [show opNeg p = (zeroVal, p.2) from if_neg (by simp_all)]; rfl)
        | (unfold opNeg; rw [if_pos h0]; first
             | (rw [if_pos (by assumption)]; rfl)
             | (rw [if_neg (by assumption)]; first
                  | (rw [if_pos (by assumption)]; rfl)
                  | (rw [if_neg (by assumption)]; rfl)))
  · try simp only [decide_eq_true_eq, decide_eq_false_iff_not, Bool.not_eq_true', Bool.not_eq_false', Int.not_lt, Int.not_le] at hb1
    refine wp_t rfl ?_
    refine wp_reg ?_
    refine st_pop rfl rfl rfl rfl ?_
    refine st_pop rfl rfl rfl rfl ?_
    refine st_store rfl rfl rfl rfl rfl rfl rfl rfl rfl rfl rfl rfl rfl ?_
    refine st_pop rfl rfl rfl rfl ?_
    refine st_nil ?_
    refine awp_ret ?_
    refine ab_ret ?_
    refine at_ret ?_
    refine ret_ret rfl rfl ?_
    refine leaf_mc rfl ⟨_, rfl⟩ ?_
    (try clear hatA); (try clear hatB); (try clear hcall)
    first
      | (rw [show opNeg p = (zeroVal, p.2) from if_neg (by simp_all)]; rfl)
      | (unfold opNeg; rw [if_pos h0]; first
           | (rw [if_pos (by assumption)]; rfl)
           | (rw [if_neg (by assumption)]; first
                | (rw [if_pos (by assumption)]; rfl)
                | (rw [if_neg (by assumption)]; rfl)))
theorem m_floor (m : Mc) (n : Nod) (p : VW) (hp : VWok p) (hatA : AtRet m n.a p) : MCall m 63 [.ptr 0 0, .agg n.av] (vwAV (opFloor p)) := by
  refine mcall rfl rfl (body_big (T := tt) (k := 3) Try.func63 rfl Try.ntmps63 rfl rfl ?_)
  refine wp_reg ?_
  refine st_box rfl rfl rfl rfl rfl rfl rfl rfl rfl ?_
  refine st_alloc rfl rfl rfl rfl rfl rfl rfl ?_
  refine st_pop rfl rfl rfl rfl ?_
  refine st_nil ?_
  refine wp_reg ?_
  refine st_pop rfl rfl rfl rfl ?_
  refine st_pop rfl rfl rfl rfl ?_
  refine st_pop rfl rfl rfl rfl ?_
  refine st_calc (xs := [.tmp 11, .tmp 13]) _ rfl rfl rfl rfl Try.func18 rfl rfl rfl (hatA _ rfl rfl rfl) ?_
  refine st_pop rfl rfl rfl rfl ?_
  refine st_pop rfl rfl rfl rfl ?_
  refine st_pop rfl rfl rfl rfl ?_
  refine st_alloc rfl rfl rfl rfl rfl rfl rfl ?_
  refine st_store rfl rfl rfl rfl rfl rfl rfl rfl rfl rfl rfl rfl rfl ?_
  refine st_pop rfl rfl rfl rfl ?_
  refine st_nil ?_
  refine awp_seq ?_
  refine wp_reg ?_
  refine st_pop rfl rfl rfl rfl ?_
  refine st_pop rfl rfl rfl rfl ?_
  refine st_pop rfl rfl rfl rfl ?_
  refine st_bit 19 rfl fun b hb1 => ?_
  cases b
  · try simp only [decide_eq_true_eq, decide_eq_false_iff_not, Bool.not_eq_true', Bool.not_eq_false', Int.not_lt, Int.not_le] at hb1
    refine st_skip rfl rfl rfl ?_
    refine st_skip rfl rfl rfl ?_
    refine st_skip rfl rfl rfl ?_
    refine st_pop rfl rfl rfl rfl ?_
    refine st_nil ?_
    refine wp_f rfl ?_
    refine awp_skip ?_
    refine at_norm ?_
    refine awp_seq ?_
    refine wp_reg ?_
    refine st_pop rfl rfl rfl rfl ?_
    refine st_pop rfl rfl rfl rfl ?_
    refine st_nil ?_
    refine wp_bit 25 rfl fun b hb2 => ?_
    cases b
    · try simp only [decide_eq_true_eq, decide_eq_false_iff_not, Bool.not_eq_true', Bool.not_eq_false', Int.not_lt, Int.not_le] at hb2
      refine wp_f rfl ?_
      refine awp_skip ?_
      refine at_norm ?_
      refine wp_reg ?_
      refine st_pop rfl rfl rfl rfl ?_
      refine st_pop rfl rfl rfl rfl ?_
      refine st_calc (xs := [.tmp 30]) _ rfl rfl rfl rfl Try.func84 rfl rfl rfl (rFloor_c _ hp.fit.2 (good_rate (hp.good (by simp_all)) (by simp_all)) _) ?_
      refine st_pop rfl rfl rfl rfl ?_
      refine st_pop rfl rfl rfl rfl ?_
      refine st_pop rfl rfl rfl rfl ?_
      refine st_pop rfl rfl rfl rfl ?_
      refine st_pop rfl rfl rfl rfl ?_
      refine st_nil ?_
      refine wp_reg ?_
      refine st_pop rfl rfl rfl rfl ?_
      refine st_calc (xs := [.tmp 34]) _ rfl rfl rfl rfl Try.func74 rfl rfl rfl (whole_c _ _) ?_
      refine st_pop rfl rfl rfl rfl ?_
      refine st_calc (xs := [.tmp 35, .tmp 36, _]) _ rfl rfl rfl rfl Try.func72 rfl rfl rfl (fits_c (wholeV (Fm.floorP p.1.rate).1) _ _ _) ?_
      refine st_pop rfl rfl rfl rfl ?_
      refine st_pop rfl rfl rfl rfl ?_
      refine st_store rfl rfl rfl rfl rfl rfl rfl rfl rfl rfl rfl rfl rfl ?_
      refine st_pop rfl rfl rfl rfl ?_
      refine st_nil ?_
      refine awp_ret ?_
      refine ret_ret rfl rfl ?_
      refine leaf_mc rfl ⟨_, rfl⟩ ?_
      (try clear hatA); (try clear hatB); (try clear hcall)
      first
        | (rw [show opFloor p = (zeroVal, 9) from by (unfold opFloor; rw [show whyK p 4 = 9 from if_pos (by simp_all)]; rfl)]; rfl)
        | (have e : whyK p 4 = p.2 := if_neg (by simp_all)
           unfold opFloor; rw [e]; first
             | (rw [if_pos (by simp_all)]; rfl)
             | (rw [if_neg (by simp_all)]; rfl))
    · try simp only [decide_eq_true_eq, decide_eq_false_iff_not, Bool.not_eq_true', Bool.not_eq_false', Int.not_lt, Int.not_le] at hb2
      refine wp_t rfl ?_
      refine wp_reg ?_
      refine st_pop rfl rfl rfl rfl ?_
      refine st_pop rfl rfl rfl rfl ?_
      refine st_store rfl rfl rfl rfl rfl rfl rfl rfl rfl rfl rfl rfl rfl ?_
      refine st_pop rfl rfl rfl rfl ?_
      refine st_nil ?_
      refine awp_ret ?_
      refine at_ret ?_
      refine ret_ret rfl rfl ?_
      refine leaf_mc rfl ⟨_, rfl⟩ ?_
      (try clear hatA); (try clear hatB); (try clear hcall)
      first
        | (rw [show opFloor p = (zeroVal, 9) from by (unfold opFloor; rw [show whyK p 4 = 9 from if_pos (by simp_all)]; rfl)]; rfl)
        | (have e : whyK p 4 = p.2 := if_neg (by simp_all)
           unfold opFloor; rw [e]; first
             | (rw [if_pos (by simp_all)]; rfl)
             | (rw [if_neg (by simp_all)]; rfl))
  · try simp only [decide_eq_true_eq, decide_eq_false_iff_not, Bool.not_eq_true', Bool.not_eq_false', Int.not_lt, Int.not_le] at hb1
    refine st_pop rfl rfl rfl rfl ?_
    refine st_pop rfl rfl rfl rfl ?_
    refine st_pop rfl rfl rfl rfl ?_
    refine st_pop rfl rfl rfl rfl ?_
    refine st_nil ?_
    refine wp_bit 23 rfl fun b hb3 => ?_
    cases b
    · try simp only [decide_eq_true_eq, decide_eq_false_iff_not, Bool.not_eq_true', Bool.not_eq_false', Int.not_lt, Int.not_le] at hb3
      refine wp_f rfl ?_
      refine awp_skip ?_
      refine at_norm ?_
      refine awp_seq ?_
      refine wp_reg ?_
      refine st_pop rfl rfl rfl rfl ?_
      refine st_pop rfl rfl rfl rfl ?_
      refine st_nil ?_
      refine wp_bit 25 rfl fun b hb4 => ?_
      cases b
      · try simp only [decide_eq_true_eq, decide_eq_false_iff_not, Bool.not_eq_true', Bool.not_eq_false', Int.not_lt, Int.not_le] at hb4
        refine wp_f rfl ?_
        refine awp_skip ?_
        refine at_norm ?_
        refine wp_reg ?_
        refine st_pop rfl rfl rfl rfl ?_
        refine st_pop rfl rfl rfl rfl ?_
        refine st_calc (xs := [.tmp 30]) _ rfl rfl rfl rfl Try.func84 rfl rfl rfl (rFloor_c _ hp.fit.2 (good_rate (hp.good (by simp_all)) (by simp_all)) _) ?_
        refine st_pop rfl rfl rfl rfl ?_
        refine st_pop rfl rfl rfl rfl ?_
        refine st_pop rfl rfl rfl rfl ?_
        refine st_pop rfl rfl rfl rfl ?_
        refine st_pop rfl rfl rfl rfl ?_
        refine st_nil ?_
        refine wp_reg ?_
        refine st_pop rfl rfl rfl rfl ?_
        refine st_calc (xs := [.tmp 34]) _ rfl rfl rfl rfl Try.func74 rfl rfl rfl (whole_c _ _) ?_
        refine st_pop rfl rfl rfl rfl ?_
        refine st_calc (xs := [.tmp 35, .tmp 36, _]) _ rfl rfl rfl rfl Try.func72 rfl rfl rfl (fits_c (wholeV (Fm.floorP p.1.rate).1) _ _ _) ?_
        refine st_pop rfl rfl rfl rfl ?_
        refine st_pop rfl rfl rfl rfl ?_
        refine st_store rfl rfl rfl rfl rfl rfl rfl rfl rfl rfl rfl rfl rfl ?_
        refine st_pop rfl rfl rfl rfl ?_
        refine st_nil ?_
        refine awp_ret ?_
        refine ret_ret rfl rfl ?_
        refine leaf_mc rfl ⟨_, rfl⟩ ?_
        (try clear hatA); (try clear hatB); (try clear hcall)
        first
          | (rw [show opFloor p = (zeroVal, 9) from by (unfold opFloor; rw [show whyK p 4 = 9 from if_pos (by simp_all)]; rfl)]; rfl)
          | (have e : whyK p 4 = p.2 := if_neg (by simp_all)
             unfold opFloor; rw [e]; first
               | (rw [if_pos (by simp_all)]; rfl)
               | (rw [if_neg (by simp_all)]; rfl))
      · try simp only [decide_eq_true_eq, decide_eq_false_iff_not, Bool.not_eq_true', Bool.not_eq_false', Int.not_lt, Int.not_le] at hb4
        refine wp_t rfl ?_
        refine wp_reg ?_
        refine st_pop rfl rfl rfl rfl ?_
        refine st_pop rfl rfl rfl rfl ?_
        refine st_store rfl rfl rfl rfl rfl rfl rfl rfl rfl rfl rfl rfl rfl ?_
        refine st_pop rfl rfl rfl rfl ?_
        refine st_nil ?_
        refine awp_ret ?_
        refine at_ret ?_
        refine ret_ret rfl rfl ?_
        refine leaf_mc rfl ⟨_, rfl⟩ ?_
        (try clear hatA); (try clear hatB); (try clear hcall)
        first
          | (rw [show opFloor p = (zeroVal, 9) from by (unfold opFloor; rw [show whyK p 4 = 9 from if_pos (by simp_all)]; rfl)]; rfl)
          | (have e : whyK p 4 = p.2 := if_neg (by simp_all)
             unfold opFloor; rw [e]; first
               | (rw [if_pos (by simp_all)]; rfl)
               | (rw [if_neg (by simp_all)]; rfl))
    · try simp only [decide_eq_true_eq, decide_eq_false_iff_not, Bool.not_eq_true', Bool.not_eq_false', Int.not_lt, Int.not_le] at hb3
      refine wp_t rfl ?_
      refine awp_region ?_
      refine st_pop rfl rfl rfl rfl ?_
      refine st_nil ?_
      refine at_norm ?_
      refine awp_seq ?_
      refine wp_reg ?_
      refine st_pop rfl rfl rfl rfl ?_
      refine st_pop rfl rfl rfl rfl ?_
      refine st_nil ?_
      refine wp_bit 25 rfl fun b hb5 => ?_
      cases b
      · try simp only [decide_eq_true_eq, decide_eq_false_iff_not, Bool.not_eq_true', Bool.not_eq_false', Int.not_lt, Int.not_le] at hb5
        refine wp_f rfl ?_
        refine awp_skip ?_
        refine at_norm ?_
        refine wp_reg ?_
        refine st_pop rfl rfl rfl rfl ?_
        refine st_pop rfl rfl rfl rfl ?_
        refine st_calc (xs := [.tmp 30]) _ rfl rfl rfl rfl Try.func84 rfl rfl rfl (rFloor_c _ hp.fit.2 (good_rate (hp.good (by simp_all)) (by simp_all)) _) ?_
        refine st_pop rfl rfl rfl rfl ?_
        refine st_pop rfl rfl rfl rfl ?_
        refine st_pop rfl rfl rfl rfl ?_
        refine st_pop rfl rfl rfl rfl ?_
        refine st_pop rfl rfl rfl rfl ?_
        refine st_nil ?_
        refine wp_reg ?_
        refine st_pop rfl rfl rfl rfl ?_
        refine st_calc (xs := [.tmp 34]) _ rfl rfl rfl rfl Try.func74 rfl rfl rfl (whole_c _ _) ?_
        refine st_pop rfl rfl rfl rfl ?_
        refine st_calc (xs := [.tmp 35, .tmp 36, _]) _ rfl rfl rfl rfl Try.func72 rfl rfl rfl (fits_c (wholeV (Fm.floorP p.1.rate).1) _ _ _) ?_
        refine st_pop rfl rfl rfl rfl ?_
        refine st_pop rfl rfl rfl rfl ?_
        refine st_store rfl rfl rfl rfl rfl rfl rfl rfl rfl rfl rfl rfl rfl ?_
        refine st_pop rfl rfl rfl rfl ?_
        refine st_nil ?_
        refine awp_ret ?_
        refine ret_ret rfl rfl ?_
        refine leaf_mc rfl ⟨_, rfl⟩ ?_
        (try clear hatA); (try clear hatB); (try clear hcall)
        first
          | (rw [show opFloor p = (zeroVal, 9) from by (unfold opFloor; rw [show whyK p 4 = 9 from if_pos (by simp_all)]; rfl)]; rfl)
          | (have e : whyK p 4 = p.2 := if_neg (by simp_all)
             unfold opFloor; rw [e]; first
               | (rw [if_pos (by simp_all)]; rfl)
               | (rw [if_neg (by simp_all)]; rfl))
      · try simp only [decide_eq_true_eq, decide_eq_false_iff_not, Bool.not_eq_true', Bool.not_eq_false', Int.not_lt, Int.not_le] at hb5
        refine wp_t rfl ?_
        refine wp_reg ?_
        refine st_pop rfl rfl rfl rfl ?_
        refine st_pop rfl rfl rfl rfl ?_
        refine st_store rfl rfl rfl rfl rfl rfl rfl rfl rfl rfl rfl rfl rfl ?_
        refine st_pop rfl rfl rfl rfl ?_
        refine st_nil ?_
        refine awp_ret ?_
        refine at_ret ?_
        refine ret_ret rfl rfl ?_
        refine leaf_mc rfl ⟨_, rfl⟩ ?_
        (try clear hatA); (try clear hatB); (try clear hcall)
        first
          | (rw [show opFloor p = (zeroVal, 9) from by (unfold opFloor; rw [show whyK p 4 = 9 from if_pos (by simp_all)]; rfl)]; rfl)
          | (have e : whyK p 4 = p.2 := if_neg (by simp_all)
             unfold opFloor; rw [e]; first
               | (rw [if_pos (by simp_all)]; rfl)
               | (rw [if_neg (by simp_all)]; rfl))
theorem m_short (m : Mc) (n : Nod) (p q : VW) (hp : VWok p) (hq : VWok q) (hatA : AtRet m n.a p) (hatB : AtRet m n.b q) : MCall m 56 [.ptr 0 0, .agg n.av] (vwAV (opShort n.op p q)) := by
  refine mcall rfl rfl (body_big (T := tt) (k := 3) Try.func56 rfl Try.ntmps56 rfl rfl ?_)
  refine wp_reg ?_
  refine st_box rfl rfl rfl rfl rfl rfl rfl rfl rfl ?_
  refine st_alloc rfl rfl rfl rfl rfl rfl rfl ?_
  refine st_pop rfl rfl rfl rfl ?_
  refine st_nil ?_
  refine wp_reg ?_
  refine st_pop rfl rfl rfl rfl ?_
  refine st_pop rfl rfl rfl rfl ?_
  refine st_pop rfl rfl rfl rfl ?_
  refine st_calc (xs := [.tmp 10, .tmp 12]) _ rfl rfl rfl rfl Try.func18 rfl rfl rfl (hatA _ rfl rfl rfl) ?_
  refine st_pop rfl rfl rfl rfl ?_
  refine st_pop rfl rfl rfl rfl ?_
  refine st_pop rfl rfl rfl rfl ?_
  refine st_alloc rfl rfl rfl rfl rfl rfl rfl ?_
  refine st_store rfl rfl rfl rfl rfl rfl rfl rfl rfl rfl rfl rfl rfl ?_
  refine st_pop rfl rfl rfl rfl ?_
  refine st_nil ?_
  refine awp_seq ?_
  refine wp_reg ?_
  refine st_pop rfl rfl rfl rfl ?_
  refine st_pop rfl rfl rfl rfl ?_
  refine st_nil ?_
  refine wp_bit 17 rfl fun b hb1 => ?_
  cases b
  · try simp only [decide_eq_true_eq, decide_eq_false_iff_not, Bool.not_eq_true', Bool.not_eq_false', Int.not_lt, Int.not_le] at hb1
    refine wp_f rfl ?_
    refine awp_skip ?_
    refine at_norm ?_
    refine awp_seq ?_
    refine wp_reg ?_
    refine st_pop rfl rfl rfl rfl ?_
    refine st_pop rfl rfl rfl rfl ?_
    refine st_pop rfl rfl rfl rfl ?_
    refine st_nil ?_
    refine wp_bit 22 rfl fun b hb2 => ?_
    cases b
    · try simp only [decide_eq_true_eq, decide_eq_false_iff_not, Bool.not_eq_true', Bool.not_eq_false', Int.not_lt, Int.not_le] at hb2
      refine wp_f rfl ?_
      refine awp_skip ?_
      refine at_norm ?_
      refine awp_seq ?_
      refine wp_reg ?_
      refine st_pop rfl rfl rfl rfl ?_
      refine st_pop rfl rfl rfl rfl ?_
      refine st_pop rfl rfl rfl rfl ?_
      refine st_pop rfl rfl rfl rfl ?_
      refine st_pop rfl rfl rfl rfl ?_
      refine st_pop rfl rfl rfl rfl ?_
      refine st_nil ?_
      refine wp_bit 29 rfl fun b hb3 => ?_
      cases b
      · try simp only [decide_eq_true_eq, decide_eq_false_iff_not, Bool.not_eq_true', Bool.not_eq_false', Int.not_lt, Int.not_le] at hb3
        have e3 : ¬ p.1.bool = decide (n.op = 9) := by simpa using hb3
        refine wp_f rfl ?_
        refine awp_skip ?_
        refine at_norm ?_
        refine wp_reg ?_
        refine st_pop rfl rfl rfl rfl ?_
        refine st_pop rfl rfl rfl rfl ?_
        refine st_pop rfl rfl rfl rfl ?_
        refine st_calc (xs := [.tmp 32, .tmp 34]) _ rfl rfl rfl rfl Try.func18 rfl rfl rfl (hatB _ rfl rfl rfl) ?_
        refine st_pop rfl rfl rfl rfl ?_
        refine st_pop rfl rfl rfl rfl ?_
        refine st_pop rfl rfl rfl rfl ?_
        refine st_alloc rfl rfl rfl rfl rfl rfl rfl ?_
        refine st_store rfl rfl rfl rfl rfl rfl rfl rfl rfl rfl rfl rfl rfl ?_
        refine st_pop rfl rfl rfl rfl ?_
        refine st_nil ?_
        refine awp_seq ?_
        refine wp_reg ?_
        refine st_pop rfl rfl rfl rfl ?_
        refine st_pop rfl rfl rfl rfl ?_
        refine st_pop rfl rfl rfl rfl ?_
        refine st_bit 40 rfl fun b hb4 => ?_
        cases b
        · try simp only [decide_eq_true_eq, decide_eq_false_iff_not, Bool.not_eq_true', Bool.not_eq_false', Int.not_lt, Int.not_le] at hb4
          refine st_skip rfl rfl rfl ?_
          refine st_skip rfl rfl rfl ?_
          refine st_skip rfl rfl rfl ?_
          refine st_pop rfl rfl rfl rfl ?_
          refine st_nil ?_
          refine wp_f rfl ?_
          refine awp_skip ?_
          refine at_norm ?_
          refine wp_reg ?_
          refine st_pop rfl rfl rfl rfl ?_
          refine st_pop rfl rfl rfl rfl ?_
          refine st_calc (xs := [.tmp 45, .tmp 46]) _ rfl rfl rfl rfl Try.func75 rfl rfl rfl (told_c q.1 _ _) ?_
          refine st_pop rfl rfl rfl rfl ?_
          refine st_pop rfl rfl rfl rfl ?_
          refine st_store rfl rfl rfl rfl rfl rfl rfl rfl rfl rfl rfl rfl rfl ?_
          refine st_pop rfl rfl rfl rfl ?_
          refine st_nil ?_
          refine awp_ret ?_
          refine ret_ret rfl rfl ?_
          refine leaf_mc rfl ⟨_, rfl⟩ ?_
          (try clear hatA); (try clear hatB); (try clear hcall)
          first
            | (rw [opShort_why (by assumption)]; rfl)
            | (rw [opShort_kind (by assumption) (by assumption)]; rfl)
            | (rw [opShort_left (by assumption) (by assumption) (by assumption)]; rfl)
            | (rw [opShort_right (by assumption) (by assumption) (by assumption), whyK_9 (by assumption) (by assumption)]; rfl)
            | (rw [opShort_right (by assumption) (by assumption) (by assumption), whyK_of (by simp_all)]; rfl)
            | (rw [opShort_right (by assumption) (by assumption) (by assumption), whyK_of (fun h => by have := h.1; have := h.2; contradiction)]; rfl)
        · try simp only [decide_eq_true_eq, decide_eq_false_iff_not, Bool.not_eq_true', Bool.not_eq_false', Int.not_lt, Int.not_le] at hb4
          refine st_pop rfl rfl rfl rfl ?_
          refine st_pop rfl rfl rfl rfl ?_
          refine st_pop rfl rfl rfl rfl ?_
          refine st_pop rfl rfl rfl rfl ?_
          refine st_nil ?_
          refine wp_bit 44 rfl fun b hb5 => ?_
          cases b
          · try simp only [decide_eq_true_eq, decide_eq_false_iff_not, Bool.not_eq_true', Bool.not_eq_false', Int.not_lt, Int.not_le] at hb5
            refine wp_f rfl ?_
            refine awp_skip ?_
            refine at_norm ?_
            refine wp_reg ?_
            refine st_pop rfl rfl rfl rfl ?_
            refine st_pop rfl rfl rfl rfl ?_
            refine st_calc (xs := [.tmp 45, .tmp 46]) _ rfl rfl rfl rfl Try.func75 rfl rfl rfl (told_c q.1 _ _) ?_
            refine st_pop rfl rfl rfl rfl ?_
            refine st_pop rfl rfl rfl rfl ?_
            refine st_store rfl rfl rfl rfl rfl rfl rfl rfl rfl rfl rfl rfl rfl ?_
            refine st_pop rfl rfl rfl rfl ?_
            refine st_nil ?_
            refine awp_ret ?_
            refine ret_ret rfl rfl ?_
            refine leaf_mc rfl ⟨_, rfl⟩ ?_
            (try clear hatA); (try clear hatB); (try clear hcall)
            first
              | (rw [opShort_why (by assumption)]; rfl)
              | (rw [opShort_kind (by assumption) (by assumption)]; rfl)
              | (rw [opShort_left (by assumption) (by assumption) (by assumption)]; rfl)
              | (rw [opShort_right (by assumption) (by assumption) (by assumption), whyK_9 (by assumption) (by assumption)]; rfl)
              | (rw [opShort_right (by assumption) (by assumption) (by assumption), whyK_of (by simp_all)]; rfl)
              | (rw [opShort_right (by assumption) (by assumption) (by assumption), whyK_of (fun h => by have := h.1; have := h.2; contradiction)]; rfl)
          · try simp only [decide_eq_true_eq, decide_eq_false_iff_not, Bool.not_eq_true', Bool.not_eq_false', Int.not_lt, Int.not_le] at hb5
            refine wp_t rfl ?_
            refine awp_region ?_
            refine st_pop rfl rfl rfl rfl ?_
            refine st_nil ?_
            refine at_norm ?_
            refine wp_reg ?_
            refine st_pop rfl rfl rfl rfl ?_
            refine st_pop rfl rfl rfl rfl ?_
            refine st_calc (xs := [.tmp 45, .tmp 46]) _ rfl rfl rfl rfl Try.func75 rfl rfl rfl (told_c q.1 _ _) ?_
            refine st_pop rfl rfl rfl rfl ?_
            refine st_pop rfl rfl rfl rfl ?_
            refine st_store rfl rfl rfl rfl rfl rfl rfl rfl rfl rfl rfl rfl rfl ?_
            refine st_pop rfl rfl rfl rfl ?_
            refine st_nil ?_
            refine awp_ret ?_
            refine ret_ret rfl rfl ?_
            refine leaf_mc rfl ⟨_, rfl⟩ ?_
            (try clear hatA); (try clear hatB); (try clear hcall)
            first
              | (rw [opShort_why (by assumption)]; rfl)
              | (rw [opShort_kind (by assumption) (by assumption)]; rfl)
              | (rw [opShort_left (by assumption) (by assumption) (by assumption)]; rfl)
              | (rw [opShort_right (by assumption) (by assumption) (by assumption), whyK_9 (by assumption) (by assumption)]; rfl)
              | (rw [opShort_right (by assumption) (by assumption) (by assumption), whyK_of (by simp_all)]; rfl)
              | (rw [opShort_right (by assumption) (by assumption) (by assumption), whyK_of (fun h => by have := h.1; have := h.2; contradiction)]; rfl)
      · try simp only [decide_eq_true_eq, decide_eq_false_iff_not, Bool.not_eq_true', Bool.not_eq_false', Int.not_lt, Int.not_le] at hb3
        have e3 : p.1.bool = decide (n.op = 9) := by simpa using hb3
        refine wp_t rfl ?_
        refine wp_reg ?_
        refine st_pop rfl rfl rfl rfl ?_
        refine st_store rfl rfl rfl rfl rfl rfl rfl rfl rfl rfl rfl rfl rfl ?_
        refine st_pop rfl rfl rfl rfl ?_
        refine st_nil ?_
        refine awp_ret ?_
        refine at_ret ?_
        refine ret_ret rfl rfl ?_
        refine leaf_mc rfl ⟨_, rfl⟩ ?_
        (try clear hatA); (try clear hatB); (try clear hcall)
        first
          | (rw [opShort_why (by assumption)]; rfl)
          | (rw [opShort_kind (by assumption) (by assumption)]; rfl)
          | (rw [opShort_left (by assumption) (by assumption) (by assumption)]; rfl)
          | (rw [opShort_right (by assumption) (by assumption) (by assumption), whyK_9 (by assumption) (by assumption)]; rfl)
          | (rw [opShort_right (by assumption) (by assumption) (by assumption), whyK_of (by simp_all)]; rfl)
          | (rw [opShort_right (by assumption) (by assumption) (by assumption), whyK_of (fun h => by have := h.1; have := h.2; contradiction)]; rfl)
    · try simp only [decide_eq_true_eq, decide_eq_false_iff_not, Bool.not_eq_true', Bool.not_eq_false', Int.not_lt, Int.not_le] at hb2
      refine wp_t rfl ?_
      refine wp_reg ?_
      refine st_pop rfl rfl rfl rfl ?_
      refine st_store rfl rfl rfl rfl rfl rfl rfl rfl rfl rfl rfl rfl rfl ?_
      refine st_pop rfl rfl rfl rfl ?_
      refine st_nil ?_
      refine awp_ret ?_
      refine at_ret ?_
      refine ret_ret rfl rfl ?_
      refine leaf_mc rfl ⟨_, rfl⟩ ?_
      (try clear hatA); (try clear hatB); (try clear hcall)
      first
        | (rw [opShort_why (by assumption)]; rfl)
        | (rw [opShort_kind (by assumption) (by assumption)]; rfl)
        | (rw [opShort_left (by assumption) (by assumption) (by assumption)]; rfl)
        | (rw [opShort_right (by assumption) (by assumption) (by assumption), whyK_9 (by assumption) (by assumption)]; rfl)
        | (rw [opShort_right (by assumption) (by assumption) (by assumption), whyK_of (by simp_all)]; rfl)
        | (rw [opShort_right (by assumption) (by assumption) (by assumption), whyK_of (fun h => by have := h.1; have := h.2; contradiction)]; rfl)
  · try simp only [decide_eq_true_eq, decide_eq_false_iff_not, Bool.not_eq_true', Bool.not_eq_false', Int.not_lt, Int.not_le] at hb1
    refine wp_t rfl ?_
    refine wp_reg ?_
    refine st_pop rfl rfl rfl rfl ?_
    refine st_pop rfl rfl rfl rfl ?_
    refine st_store rfl rfl rfl rfl rfl rfl rfl rfl rfl rfl rfl rfl rfl ?_
    refine st_pop rfl rfl rfl rfl ?_
    refine st_nil ?_
    refine awp_ret ?_
    refine at_ret ?_
    refine ret_ret rfl rfl ?_
    refine leaf_mc rfl ⟨_, rfl⟩ ?_
    (try clear hatA); (try clear hatB); (try clear hcall)
    first
      | (rw [opShort_why (by assumption)]; rfl)
      | (rw [opShort_kind (by assumption) (by assumption)]; rfl)
      | (rw [opShort_left (by assumption) (by assumption) (by assumption)]; rfl)
      | (rw [opShort_right (by assumption) (by assumption) (by assumption), whyK_9 (by assumption) (by assumption)]; rfl)
      | (rw [opShort_right (by assumption) (by assumption) (by assumption), whyK_of (by simp_all)]; rfl)
      | (rw [opShort_right (by assumption) (by assumption) (by assumption), whyK_of (fun h => by have := h.1; have := h.2; contradiction)]; rfl)
theorem m_both (m : Mc) (n : Nod) (p q : VW) (hp : VWok p) (hq : VWok q) (hatA : AtRet m n.a p) (hatB : AtRet m n.b q) : MCall m 79 [.ptr 0 0, .agg n.av] (bothAV (bothP p q)) := by
  refine mcall rfl rfl (body_big (T := tt) (k := 3) Try.func79 rfl Try.ntmps79 rfl rfl ?_)
  refine wp_reg ?_
  refine st_box rfl rfl rfl rfl rfl rfl rfl rfl rfl ?_
  refine st_alloc rfl rfl rfl rfl rfl rfl rfl ?_
  refine st_alloc rfl rfl rfl rfl rfl rfl rfl ?_
  refine st_pop rfl rfl rfl rfl ?_
  refine st_nil ?_
  refine wp_reg ?_
  refine st_pop rfl rfl rfl rfl ?_
  refine st_pop rfl rfl rfl rfl ?_
  refine st_pop rfl rfl rfl rfl ?_
  refine st_calc (xs := [.tmp 8, .tmp 10]) _ rfl rfl rfl rfl Try.func18 rfl rfl rfl (hatA _ rfl rfl rfl) ?_
  refine st_pop rfl rfl rfl rfl ?_
  refine st_pop rfl rfl rfl rfl ?_
  refine st_pop rfl rfl rfl rfl ?_
  refine st_store rfl rfl rfl rfl rfl rfl rfl rfl rfl rfl rfl rfl rfl ?_
  refine st_pop rfl rfl rfl rfl ?_
  refine st_nil ?_
  refine awp_seq ?_
  refine wp_reg ?_
  refine st_pop rfl rfl rfl rfl ?_
  refine st_pop rfl rfl rfl rfl ?_
  refine st_nil ?_
  refine wp_bit 15 rfl fun b hb1 => ?_
  cases b
  · try simp only [decide_eq_true_eq, decide_eq_false_iff_not, Bool.not_eq_true', Bool.not_eq_false', Int.not_lt, Int.not_le] at hb1
    refine wp_f rfl ?_
    refine awp_skip ?_
    refine at_norm ?_
    refine wp_reg ?_
    refine st_pop rfl rfl rfl rfl ?_
    refine st_pop rfl rfl rfl rfl ?_
    refine st_pop rfl rfl rfl rfl ?_
    refine st_calc (xs := [.tmp 20, .tmp 22]) _ rfl rfl rfl rfl Try.func18 rfl rfl rfl (hatB _ rfl rfl rfl) ?_
    refine st_pop rfl rfl rfl rfl ?_
    refine st_pop rfl rfl rfl rfl ?_
    refine st_pop rfl rfl rfl rfl ?_
    refine st_store rfl rfl rfl rfl rfl rfl rfl rfl rfl rfl rfl rfl rfl ?_
    refine st_pop rfl rfl rfl rfl ?_
    refine st_nil ?_
    refine awp_seq ?_
    refine wp_reg ?_
    refine st_pop rfl rfl rfl rfl ?_
    refine st_pop rfl rfl rfl rfl ?_
    refine st_nil ?_
    refine wp_bit 27 rfl fun b hb2 => ?_
    cases b
    · try simp only [decide_eq_true_eq, decide_eq_false_iff_not, Bool.not_eq_true', Bool.not_eq_false', Int.not_lt, Int.not_le] at hb2
      refine wp_f rfl ?_
      refine awp_skip ?_
      refine at_norm ?_
      refine awp_seq ?_
      refine wp_reg ?_
      refine st_pop rfl rfl rfl rfl ?_
      refine st_pop rfl rfl rfl rfl ?_
      refine st_pop rfl rfl rfl rfl ?_
      refine st_pop rfl rfl rfl rfl ?_
      refine st_pop rfl rfl rfl rfl ?_
      refine st_nil ?_
      refine wp_bit 35 rfl fun b hb3 => ?_
      cases b
      · try simp only [decide_eq_true_eq, decide_eq_false_iff_not, Bool.not_eq_true', Bool.not_eq_false', Int.not_lt, Int.not_le] at hb3
        refine wp_f rfl ?_
        refine awp_skip ?_
        refine at_norm ?_
        refine wp_open [.op 3, .bar, .bar] (D := [0, 0, 1, 7, 15]) (by kernel_rfl) (by kernel_rfl) (by kernel_rfl) ?_
        refine ad_op rfl rfl ?_
        refine do_pop rfl rfl rfl rfl rfl (by kernel_rfl) ?_
        refine do_pop rfl rfl rfl rfl rfl (by kernel_rfl) ?_
        refine do_store rfl rfl rfl rfl rfl rfl rfl rfl rfl rfl rfl rfl rfl (by kernel_rfl) ?_
        refine do_nil ?_
        refine ad_bar ?_
        refine st_store rfl rfl rfl rfl rfl rfl rfl rfl rfl rfl rfl rfl rfl ?_
        refine st_nil ?_
        refine ad_bar ?_
        refine st_pop rfl rfl rfl rfl ?_
        refine st_nil ?_
        refine ad_nil ?_
        refine awp_ret ?_
        refine ret_ret rfl rfl ?_
        refine leaf_mc rfl ⟨_, rfl⟩ ?_
        (try clear hatA); (try clear hatB); (try clear hcall)
        unfold bothP; first
          | (rw [if_neg (by simp_all)]; rfl)
          | (rw [if_pos (by simp_all)]; first
               | (rw [if_neg (by simp_all)]; rfl)
               | (rw [if_pos (by simp_all)]; first
                    | (rw [if_pos (by simp_all)]; rfl)
                    | (rw [if_neg (by simp_all)]; rfl)))
      · try simp only [decide_eq_true_eq, decide_eq_false_iff_not, Bool.not_eq_true', Bool.not_eq_false', Int.not_lt, Int.not_le] at hb3
        refine wp_t rfl ?_
        refine wp_reg ?_
        refine st_pop rfl rfl rfl rfl ?_
        refine st_pop rfl rfl rfl rfl ?_
        refine st_store rfl rfl rfl rfl rfl rfl rfl rfl rfl rfl rfl rfl rfl ?_
        refine st_store rfl rfl rfl rfl rfl rfl rfl rfl rfl rfl rfl rfl rfl ?_
        refine st_pop rfl rfl rfl rfl ?_
        refine st_nil ?_
        refine awp_ret ?_
        refine at_ret ?_
        refine ret_ret rfl rfl ?_
        refine leaf_mc rfl ⟨_, rfl⟩ ?_
        (try clear hatA); (try clear hatB); (try clear hcall)
        unfold bothP; first
          | (rw [if_neg (by simp_all)]; rfl)
          | (rw [if_pos (by simp_all)]; first
               | (rw [if_neg (by simp_all)]; rfl)
               | (rw [if_pos (by simp_all)]; first
                    | (rw [if_pos (by simp_all)]; rfl)
                    | (rw [if_neg (by simp_all)]; rfl)))
    · try simp only [decide_eq_true_eq, decide_eq_false_iff_not, Bool.not_eq_true', Bool.not_eq_false', Int.not_lt, Int.not_le] at hb2
      refine wp_t rfl ?_
      refine wp_reg ?_
      refine st_pop rfl rfl rfl rfl ?_
      refine st_pop rfl rfl rfl rfl ?_
      refine st_pop rfl rfl rfl rfl ?_
      refine st_store rfl rfl rfl rfl rfl rfl rfl rfl rfl rfl rfl rfl rfl ?_
      refine st_store rfl rfl rfl rfl rfl rfl rfl rfl rfl rfl rfl rfl rfl ?_
      refine st_pop rfl rfl rfl rfl ?_
      refine st_nil ?_
      refine awp_ret ?_
      refine at_ret ?_
      refine ret_ret rfl rfl ?_
      refine leaf_mc rfl ⟨_, rfl⟩ ?_
      (try clear hatA); (try clear hatB); (try clear hcall)
      unfold bothP; first
        | (rw [if_neg (by simp_all)]; rfl)
        | (rw [if_pos (by simp_all)]; first
             | (rw [if_neg (by simp_all)]; rfl)
             | (rw [if_pos (by simp_all)]; first
                  | (rw [if_pos (by simp_all)]; rfl)
                  | (rw [if_neg (by simp_all)]; rfl)))
  · try simp only [decide_eq_true_eq, decide_eq_false_iff_not, Bool.not_eq_true', Bool.not_eq_false', Int.not_lt, Int.not_le] at hb1
    refine wp_t rfl ?_
    refine wp_reg ?_
    refine st_pop rfl rfl rfl rfl ?_
    refine st_pop rfl rfl rfl rfl ?_
    refine st_pop rfl rfl rfl rfl ?_
    refine st_store rfl rfl rfl rfl rfl rfl rfl rfl rfl rfl rfl rfl rfl ?_
    refine st_store rfl rfl rfl rfl rfl rfl rfl rfl rfl rfl rfl rfl rfl ?_
    refine st_pop rfl rfl rfl rfl ?_
    refine st_nil ?_
    refine awp_ret ?_
    refine at_ret ?_
    refine ret_ret rfl rfl ?_
    refine leaf_mc rfl ⟨_, rfl⟩ ?_
    (try clear hatA); (try clear hatB); (try clear hcall)
    unfold bothP; first
      | (rw [if_neg (by simp_all)]; rfl)
      | (rw [if_pos (by simp_all)]; first
           | (rw [if_neg (by simp_all)]; rfl)
           | (rw [if_pos (by simp_all)]; first
                | (rw [if_pos (by simp_all)]; rfl)
                | (rw [if_neg (by simp_all)]; rfl)))
theorem m_equal (m : Mc) (n : Nod) (t : Val × Val × Int) (ht : BothOk t) (hatA : MCall m 79 [.ptr 0 0, .agg n.av] (bothAV t)) : MCall m 57 [.ptr 0 0, .agg n.av] (vwAV (opEqual n.op t)) := by
  refine mcall rfl rfl (body_big (T := tt) (k := 3) Try.func57 rfl Try.ntmps57 rfl rfl ?_)
  refine wp_reg ?_
  refine st_box rfl rfl rfl rfl rfl rfl rfl rfl rfl ?_
  refine st_alloc rfl rfl rfl rfl rfl rfl rfl ?_
  refine st_pop rfl rfl rfl rfl ?_
  refine st_nil ?_
  refine wp_reg ?_
  refine st_pop rfl rfl rfl rfl ?_
  refine st_pop rfl rfl rfl rfl ?_
  refine st_calc (xs := [.tmp 10, .tmp 11]) _ rfl rfl rfl rfl Try.func79 rfl rfl rfl (hatA _ rfl rfl rfl) ?_
  refine st_pop rfl rfl rfl rfl ?_
  refine st_pop rfl rfl rfl rfl ?_
  refine st_pop rfl rfl rfl rfl ?_
  refine st_pop rfl rfl rfl rfl ?_
  refine st_alloc rfl rfl rfl rfl rfl rfl rfl ?_
  refine st_alloc rfl rfl rfl rfl rfl rfl rfl ?_
  refine st_store rfl rfl rfl rfl rfl rfl rfl rfl rfl rfl rfl rfl rfl ?_
  refine st_store rfl rfl rfl rfl rfl rfl rfl rfl rfl rfl rfl rfl rfl ?_
  refine st_pop rfl rfl rfl rfl ?_
  refine st_nil ?_
  refine wp_open [.op 9, .bar, .op 2, .bar, .bar] (D := [0, 0, 3, 0, 8, 24, 63, 127, 0, 511, 1023, 1023, 4095, 8191]) (by kernel_rfl) (by kernel_rfl) (by kernel_rfl) ?_
  refine ad_op rfl rfl ?_
  refine do_pop rfl rfl rfl rfl rfl (by kernel_rfl) ?_
  refine do_pop rfl rfl rfl rfl rfl (by kernel_rfl) ?_
  refine do_calc (xs := [.tmp 16, .tmp 17]) _ rfl rfl rfl rfl Try.func26 rfl rfl rfl (fun H_ => same_c t.1 t.2.1 ht.fit.1 ht.fit.2 _) ?_
  refine do_pop rfl rfl rfl rfl rfl (by kernel_rfl) ?_
  refine do_pop rfl rfl rfl rfl rfl (by kernel_rfl) ?_
  refine do_pop rfl rfl rfl rfl rfl (by kernel_rfl) ?_
  refine do_pop rfl rfl rfl rfl rfl (by kernel_rfl) ?_
  refine do_calc (xs := [.tmp 22]) _ rfl rfl rfl rfl Try.func73 rfl rfl rfl (fun H_ => truth_c _ _) ?_
  refine do_pop rfl rfl rfl rfl rfl (by kernel_rfl) ?_
  refine do_nil ?_
  refine ad_bar ?_
  refine st_calc (xs := [.tmp 23, .tmp 24]) _ rfl rfl rfl rfl Try.func75 rfl rfl rfl (told_c (truthV (valSame t.1 t.2.1 == decide (n.op = 10))) _ _) ?_
  refine st_nil ?_
  refine ad_op rfl rfl ?_
  refine do_pop rfl rfl rfl rfl rfl (by kernel_rfl) ?_
  refine do_pop rfl rfl rfl rfl rfl (by kernel_rfl) ?_
  refine do_nil ?_
  refine ad_bar ?_
  refine st_store rfl rfl rfl rfl rfl rfl rfl rfl rfl rfl rfl rfl rfl ?_
  refine st_nil ?_
  refine ad_bar ?_
  refine st_pop rfl rfl rfl rfl ?_
  refine st_nil ?_
  refine ad_nil ?_
  refine awp_ret ?_
  refine ret_ret rfl rfl ?_
  refine leaf_mc rfl ⟨_, rfl⟩ ?_
  rfl
theorem m_order (m : Mc) (n : Nod) (t : Val × Val × Int) (ht : BothOk t) (hatA : MCall m 79 [.ptr 0 0, .agg n.av] (bothAV t)) : MCall m 58 [.ptr 0 0, .agg n.av] (vwAV (opOrder n.op t)) := by
  refine mcall rfl rfl (body_big (T := tt) (k := 3) Try.func58 rfl Try.ntmps58 rfl rfl ?_)
  refine wp_reg ?_
  refine st_box rfl rfl rfl rfl rfl rfl rfl rfl rfl ?_
  refine st_alloc rfl rfl rfl rfl rfl rfl rfl ?_
  refine st_pop rfl rfl rfl rfl ?_
  refine st_nil ?_
  refine wp_reg ?_
  refine st_pop rfl rfl rfl rfl ?_
  refine st_pop rfl rfl rfl rfl ?_
  refine st_calc (xs := [.tmp 15, .tmp 16]) _ rfl rfl rfl rfl Try.func79 rfl rfl rfl (hatA _ rfl rfl rfl) ?_
  refine st_pop rfl rfl rfl rfl ?_
  refine st_pop rfl rfl rfl rfl ?_
  refine st_pop rfl rfl rfl rfl ?_
  refine st_pop rfl rfl rfl rfl ?_
  refine st_alloc rfl rfl rfl rfl rfl rfl rfl ?_
  refine st_alloc rfl rfl rfl rfl rfl rfl rfl ?_
  refine st_store rfl rfl rfl rfl rfl rfl rfl rfl rfl rfl rfl rfl rfl ?_
  refine st_store rfl rfl rfl rfl rfl rfl rfl rfl rfl rfl rfl rfl rfl ?_
  refine st_pop rfl rfl rfl rfl ?_
  refine st_nil ?_
  refine awp_seq ?_
  refine wp_reg ?_
  refine st_pop rfl rfl rfl rfl ?_
  refine st_pop rfl rfl rfl rfl ?_
  refine st_nil ?_
  refine wp_bit 22 rfl fun b hb1 => ?_
  cases b
  · try simp only [decide_eq_true_eq, decide_eq_false_iff_not, Bool.not_eq_true', Bool.not_eq_false', Int.not_lt, Int.not_le] at hb1
    refine wp_f rfl ?_
    refine awp_skip ?_
    refine at_norm ?_
    refine wp_reg ?_
    refine st_pop rfl rfl rfl rfl ?_
    refine st_pop rfl rfl rfl rfl ?_
    refine st_calc (xs := [.tmp 26, .tmp 27]) _ rfl rfl rfl rfl Try.func80 rfl rfl rfl (less_c t.1 t.2.1 ht.fit.1 ht.fit.2 _) ?_
    refine st_pop rfl rfl rfl rfl ?_
    refine st_pop rfl rfl rfl rfl ?_
    refine st_pop rfl rfl rfl rfl ?_
    refine st_pop rfl rfl rfl rfl ?_
    refine st_pop rfl rfl rfl rfl ?_
    refine st_nil ?_
    refine wp_reg ?_
    refine st_pop rfl rfl rfl rfl ?_
    refine st_pop rfl rfl rfl rfl ?_
    refine st_calc (xs := [.tmp 32, .tmp 33]) _ rfl rfl rfl rfl Try.func80 rfl rfl rfl (less_c t.2.1 t.1 ht.fit.2 ht.fit.1 _) ?_
    refine st_pop rfl rfl rfl rfl ?_
    refine st_pop rfl rfl rfl rfl ?_
    refine st_pop rfl rfl rfl rfl ?_
    refine st_pop rfl rfl rfl rfl ?_
    refine st_pop rfl rfl rfl rfl ?_
    refine st_nil ?_
    refine wp_reg ?_
    refine st_pop rfl rfl rfl rfl ?_
    refine st_pop rfl rfl rfl rfl ?_
    refine st_nil ?_
    refine awp_seq ?_
    refine wp_reg ?_
    refine st_pop rfl rfl rfl rfl ?_
    refine st_pop rfl rfl rfl rfl ?_
    refine st_nil ?_
    refine awp_block ?_
    refine wp_reg ?_
    refine st_pop rfl rfl rfl rfl ?_
    refine st_pop rfl rfl rfl rfl ?_
    refine st_nil ?_
    refine wp_bit 40 rfl fun b hb2 => ?_
    cases b
    · try simp only [decide_eq_true_eq, decide_eq_false_iff_not, Bool.not_eq_true', Bool.not_eq_false', Int.not_lt, Int.not_le] at hb2
      refine wp_f rfl ?_
      refine wp_reg ?_
      refine st_pop rfl rfl rfl rfl ?_
      refine st_pop rfl rfl rfl rfl ?_
      refine st_nil ?_
      refine wp_bit 44 rfl fun b hb3 => ?_
      cases b
      · try simp only [decide_eq_true_eq, decide_eq_false_iff_not, Bool.not_eq_true', Bool.not_eq_false', Int.not_lt, Int.not_le] at hb3
        refine wp_f rfl ?_
        refine wp_reg ?_
        refine st_pop rfl rfl rfl rfl ?_
        refine st_pop rfl rfl rfl rfl ?_
        refine st_nil ?_
        refine wp_bit 47 rfl fun b hb4 => ?_
        cases b
        · try simp only [decide_eq_true_eq, decide_eq_false_iff_not, Bool.not_eq_true', Bool.not_eq_false', Int.not_lt, Int.not_le] at hb4
          refine wp_f rfl ?_
          refine awp_skip ?_
          refine ab_norm ?_
          refine at_norm ?_
          refine wp_reg ?_
          refine st_pop rfl rfl rfl rfl ?_
          refine st_calc (xs := [.tmp 51]) _ rfl rfl rfl rfl Try.func73 rfl rfl rfl (truth_c _ _) ?_
          refine st_pop rfl rfl rfl rfl ?_
          refine st_calc (xs := [.tmp 52, .tmp 53, _]) _ rfl rfl rfl rfl Try.func72 rfl rfl rfl (fits_c (truthV _) _ _ _) ?_
          refine st_pop rfl rfl rfl rfl ?_
          refine st_pop rfl rfl rfl rfl ?_
          refine st_store rfl rfl rfl rfl rfl rfl rfl rfl rfl rfl rfl rfl rfl ?_
          refine st_pop rfl rfl rfl rfl ?_
          refine st_nil ?_
          refine awp_ret ?_
          refine ret_ret rfl rfl ?_
          refine leaf_mc rfl ⟨_, rfl⟩ ?_
          (try clear hatA); (try clear hatB); (try clear hcall)
          unfold opOrder; first
            | (rw [if_neg (by simp_all)]; rfl)
            | (rw [if_pos (by simp_all)]; first
                 | (rw [show orderB n.op t.1 t.2.1 = !(valLess t.2.1 t.1).1 from by simp_all [orderB]]; rfl)
                 | (rw [show orderB n.op t.1 t.2.1 = (valLess t.2.1 t.1).1 from by simp_all [orderB]]; rfl)
                 | (rw [show orderB n.op t.1 t.2.1 = !(valLess t.1 t.2.1).1 from by simp_all [orderB]]; rfl)
                 | (rw [show orderB n.op t.1 t.2.1 = (valLess t.1 t.2.1).1 from by simp_all [orderB]]; rfl))
        · try simp only [decide_eq_true_eq, decide_eq_false_iff_not, Bool.not_eq_true', Bool.not_eq_false', Int.not_lt, Int.not_le] at hb4
          refine wp_t rfl ?_
          refine awp_region ?_
          refine st_pop rfl rfl rfl rfl ?_
          refine st_pop rfl rfl rfl rfl ?_
          refine st_pop rfl rfl rfl rfl ?_
          refine st_nil ?_
          refine ab_norm ?_
          refine at_norm ?_
          refine wp_reg ?_
          refine st_pop rfl rfl rfl rfl ?_
          refine st_calc (xs := [.tmp 51]) _ rfl rfl rfl rfl Try.func73 rfl rfl rfl (truth_c _ _) ?_
          refine st_pop rfl rfl rfl rfl ?_
          refine st_calc (xs := [.tmp 52, .tmp 53, _]) _ rfl rfl rfl rfl Try.func72 rfl rfl rfl (fits_c (truthV _) _ _ _) ?_
          refine st_pop rfl rfl rfl rfl ?_
          refine st_pop rfl rfl rfl rfl ?_
          refine st_store rfl rfl rfl rfl rfl rfl rfl rfl rfl rfl rfl rfl rfl ?_
          refine st_pop rfl rfl rfl rfl ?_
          refine st_nil ?_
          refine awp_ret ?_
          refine ret_ret rfl rfl ?_
          refine leaf_mc rfl ⟨_, rfl⟩ ?_
          (try clear hatA); (try clear hatB); (try clear hcall)
          unfold opOrder; first
            | (rw [if_neg (by simp_all)]; rfl)
            | (rw [if_pos (by simp_all)]; first
                 | (rw [show orderB n.op t.1 t.2.1 = !(valLess t.2.1 t.1).1 from by simp_all [orderB]]; rfl)
                 | (rw [show orderB n.op t.1 t.2.1 = (valLess t.2.1 t.1).1 from by simp_all [orderB]]; rfl)
                 | (rw [show orderB n.op t.1 t.2.1 = !(valLess t.1 t.2.1).1 from by simp_all [orderB]]; rfl)
                 | (rw [show orderB n.op t.1 t.2.1 = (valLess t.1 t.2.1).1 from by simp_all [orderB]]; rfl))
      · try simp only [decide_eq_true_eq, decide_eq_false_iff_not, Bool.not_eq_true', Bool.not_eq_false', Int.not_lt, Int.not_le] at hb3
        refine wp_t rfl ?_
        refine awp_region ?_
        refine st_pop rfl rfl rfl rfl ?_
        refine st_pop rfl rfl rfl rfl ?_
        refine st_nil ?_
        refine ab_norm ?_
        refine at_norm ?_
        refine wp_reg ?_
        refine st_pop rfl rfl rfl rfl ?_
        refine st_calc (xs := [.tmp 51]) _ rfl rfl rfl rfl Try.func73 rfl rfl rfl (truth_c _ _) ?_
        refine st_pop rfl rfl rfl rfl ?_
        refine st_calc (xs := [.tmp 52, .tmp 53, _]) _ rfl rfl rfl rfl Try.func72 rfl rfl rfl (fits_c (truthV _) _ _ _) ?_
        refine st_pop rfl rfl rfl rfl ?_
        refine st_pop rfl rfl rfl rfl ?_
        refine st_store rfl rfl rfl rfl rfl rfl rfl rfl rfl rfl rfl rfl rfl ?_
        refine st_pop rfl rfl rfl rfl ?_
        refine st_nil ?_
        refine awp_ret ?_
        refine ret_ret rfl rfl ?_
        refine leaf_mc rfl ⟨_, rfl⟩ ?_
        (try clear hatA); (try clear hatB); (try clear hcall)
        unfold opOrder; first
          | (rw [if_neg (by simp_all)]; rfl)
          | (rw [if_pos (by simp_all)]; first
               | (rw [show orderB n.op t.1 t.2.1 = !(valLess t.2.1 t.1).1 from by simp_all [orderB]]; rfl)
               | (rw [show orderB n.op t.1 t.2.1 = (valLess t.2.1 t.1).1 from by simp_all [orderB]]; rfl)
               | (rw [show orderB n.op t.1 t.2.1 = !(valLess t.1 t.2.1).1 from by simp_all [orderB]]; rfl)
               | (rw [show orderB n.op t.1 t.2.1 = (valLess t.1 t.2.1).1 from by simp_all [orderB]]; rfl))
    · try simp only [decide_eq_true_eq, decide_eq_false_iff_not, Bool.not_eq_true', Bool.not_eq_false', Int.not_lt, Int.not_le] at hb2
      refine wp_t rfl ?_
      refine awp_region ?_
      refine st_pop rfl rfl rfl rfl ?_
      refine st_pop rfl rfl rfl rfl ?_
      refine st_pop rfl rfl rfl rfl ?_
      refine st_nil ?_
      refine ab_norm ?_
      refine at_norm ?_
      refine wp_reg ?_
      refine st_pop rfl rfl rfl rfl ?_
      refine st_calc (xs := [.tmp 51]) _ rfl rfl rfl rfl Try.func73 rfl rfl rfl (truth_c _ _) ?_
      refine st_pop rfl rfl rfl rfl ?_
      refine st_calc (xs := [.tmp 52, .tmp 53, _]) _ rfl rfl rfl rfl Try.func72 rfl rfl rfl (fits_c (truthV _) _ _ _) ?_
      refine st_pop rfl rfl rfl rfl ?_
      refine st_pop rfl rfl rfl rfl ?_
      refine st_store rfl rfl rfl rfl rfl rfl rfl rfl rfl rfl rfl rfl rfl ?_
      refine st_pop rfl rfl rfl rfl ?_
      refine st_nil ?_
      refine awp_ret ?_
      refine ret_ret rfl rfl ?_
      refine leaf_mc rfl ⟨_, rfl⟩ ?_
      (try clear hatA); (try clear hatB); (try clear hcall)
      unfold opOrder; first
        | (rw [if_neg (by simp_all)]; rfl)
        | (rw [if_pos (by simp_all)]; first
             | (rw [show orderB n.op t.1 t.2.1 = !(valLess t.2.1 t.1).1 from by simp_all [orderB]]; rfl)
             | (rw [show orderB n.op t.1 t.2.1 = (valLess t.2.1 t.1).1 from by simp_all [orderB]]; rfl)
             | (rw [show orderB n.op t.1 t.2.1 = !(valLess t.1 t.2.1).1 from by simp_all [orderB]]; rfl)
             | (rw [show orderB n.op t.1 t.2.1 = (valLess t.1 t.2.1).1 from by simp_all [orderB]]; rfl))
  · try simp only [decide_eq_true_eq, decide_eq_false_iff_not, Bool.not_eq_true', Bool.not_eq_false', Int.not_lt, Int.not_le] at hb1
    refine wp_t rfl ?_
    refine wp_reg ?_
    refine st_pop rfl rfl rfl rfl ?_
    refine st_pop rfl rfl rfl rfl ?_
    refine st_store rfl rfl rfl rfl rfl rfl rfl rfl rfl rfl rfl rfl rfl ?_
    refine st_pop rfl rfl rfl rfl ?_
    refine st_nil ?_
    refine awp_ret ?_
    refine at_ret ?_
    refine ret_ret rfl rfl ?_
    refine leaf_mc rfl ⟨_, rfl⟩ ?_
    (try clear hatA); (try clear hatB); (try clear hcall)
    unfold opOrder; first
      | (rw [if_neg (by simp_all)]; rfl)
      | (rw [if_pos (by simp_all)]; first
           | (rw [show orderB n.op t.1 t.2.1 = !(valLess t.2.1 t.1).1 from by simp_all [orderB]]; rfl)
           | (rw [show orderB n.op t.1 t.2.1 = (valLess t.2.1 t.1).1 from by simp_all [orderB]]; rfl)
           | (rw [show orderB n.op t.1 t.2.1 = !(valLess t.1 t.2.1).1 from by simp_all [orderB]]; rfl)
           | (rw [show orderB n.op t.1 t.2.1 = (valLess t.1 t.2.1).1 from by simp_all [orderB]]; rfl))
theorem m_sum (m : Mc) (n : Nod) (t : Val × Val × Int) (ht : BothOk t) (hatA : MCall m 79 [.ptr 0 0, .agg n.av] (bothAV t)) : MCall m 59 [.ptr 0 0, .agg n.av] (vwAV (opSum n.op t)) := by
  refine mcall rfl rfl (body_big (T := tt) (k := 3) Try.func59 rfl Try.ntmps59 rfl rfl ?_)
  refine wp_reg ?_
  refine st_box rfl rfl rfl rfl rfl rfl rfl rfl rfl ?_
  refine st_alloc rfl rfl rfl rfl rfl rfl rfl ?_
  refine st_pop rfl rfl rfl rfl ?_
  refine st_nil ?_
  refine wp_reg ?_
  refine st_pop rfl rfl rfl rfl ?_
  refine st_pop rfl rfl rfl rfl ?_
  refine st_calc (xs := [.tmp 10, .tmp 11]) _ rfl rfl rfl rfl Try.func79 rfl rfl rfl (hatA _ rfl rfl rfl) ?_
  refine st_pop rfl rfl rfl rfl ?_
  refine st_pop rfl rfl rfl rfl ?_
  refine st_pop rfl rfl rfl rfl ?_
  refine st_pop rfl rfl rfl rfl ?_
  refine st_alloc rfl rfl rfl rfl rfl rfl rfl ?_
  refine st_alloc rfl rfl rfl rfl rfl rfl rfl ?_
  refine st_store rfl rfl rfl rfl rfl rfl rfl rfl rfl rfl rfl rfl rfl ?_
  refine st_store rfl rfl rfl rfl rfl rfl rfl rfl rfl rfl rfl rfl rfl ?_
  refine st_pop rfl rfl rfl rfl ?_
  refine st_nil ?_
  refine awp_seq ?_
  refine awp_block ?_
  refine wp_reg ?_
  refine st_pop rfl rfl rfl rfl ?_
  refine st_pop rfl rfl rfl rfl ?_
  refine st_pop rfl rfl rfl rfl ?_
  refine st_nil ?_
  refine wp_bit 16 rfl fun b hb1 => ?_
  cases b
  · try simp only [decide_eq_true_eq, decide_eq_false_iff_not, Bool.not_eq_true', Bool.not_eq_false', Int.not_lt, Int.not_le] at hb1
    have h0 : t.2.2 = 0 := by simpa using hb1
    obtain ⟨g1, g2, gk⟩ := ht.good h0
    have i1 := g1.int
    have i2 := g2.int
    refine wp_f rfl ?_
    refine wp_reg ?_
    refine st_pop rfl rfl rfl rfl ?_
    refine st_pop rfl rfl rfl rfl ?_
    refine st_pop rfl rfl rfl rfl ?_
    refine st_pop rfl rfl rfl rfl ?_
    refine st_nil ?_
    refine wp_bit 21 rfl fun b hb2 => ?_
    cases b
    · try simp only [decide_eq_true_eq, decide_eq_false_iff_not, Bool.not_eq_true', Bool.not_eq_false', Int.not_lt, Int.not_le] at hb2
      refine wp_f rfl ?_
      refine wp_reg ?_
      refine st_pop rfl rfl rfl rfl ?_
      refine st_pop rfl rfl rfl rfl ?_
      refine st_pop rfl rfl rfl rfl ?_
      refine st_pop rfl rfl rfl rfl ?_
      refine st_nil ?_
      refine wp_bit 34 rfl fun b hb3 => ?_
      cases b
      · try simp only [decide_eq_true_eq, decide_eq_false_iff_not, Bool.not_eq_true', Bool.not_eq_false', Int.not_lt, Int.not_le] at hb3
        refine wp_f rfl ?_
        refine wp_reg ?_
        refine st_pop rfl rfl rfl rfl ?_
        refine st_pop rfl rfl rfl rfl ?_
        refine st_pop rfl rfl rfl rfl ?_
        refine st_pop rfl rfl rfl rfl ?_
        refine st_bit 51 rfl fun b hb4 => ?_
        cases b
        · try simp only [decide_eq_true_eq, decide_eq_false_iff_not, Bool.not_eq_true', Bool.not_eq_false', Int.not_lt, Int.not_le] at hb4
          refine st_skip rfl rfl rfl ?_
          refine st_skip rfl rfl rfl ?_
          refine st_skip rfl rfl rfl ?_
          refine st_pop rfl rfl rfl rfl ?_
          refine st_pop rfl rfl rfl rfl ?_
          refine st_nil ?_
          refine wp_f rfl ?_
          refine awp_skip ?_
          refine ab_norm ?_
          refine at_norm ?_
          refine wp_reg ?_
          refine st_pop rfl rfl rfl rfl ?_
          refine st_store rfl rfl rfl rfl rfl rfl rfl rfl rfl rfl rfl rfl rfl ?_
          refine st_pop rfl rfl rfl rfl ?_
          refine st_nil ?_
          refine awp_ret ?_
          refine ret_ret rfl rfl ?_
          refine leaf_mc rfl ⟨_, rfl⟩ ?_
          (try clear hatA); (try clear hatB); (try clear hcall)
          unfold opSum; first
            | (rw [if_neg (by simp_all)]; rfl)
            | (rw [if_pos (by simp_all)]; first
                 | (rw [if_pos (by simp_all)]; rfl)
                 | (rw [if_neg (by simp_all)]; first
                      | (rw [if_pos (by simp_all)]; rfl)
                      | (rw [if_neg (by simp_all)]; first
                           | (rw [if_pos (by simp_all), show decide (t.1.text.size + t.2.1.text.size ≤ 40) = decide ((t.1.text.size : Int) + t.2.1.text.size ≤ 40) from by (rw [decide_eq_decide]; omega)]; rfl)
                           | (rw [if_neg (by simp_all)]; rfl))))
        · try simp only [decide_eq_true_eq, decide_eq_false_iff_not, Bool.not_eq_true', Bool.not_eq_false', Int.not_lt, Int.not_le] at hb4
          refine st_pop rfl rfl rfl rfl ?_
          refine st_pop rfl rfl rfl rfl ?_
          refine st_pop rfl rfl rfl rfl ?_
          refine st_pop rfl rfl rfl rfl ?_
          refine st_pop rfl rfl rfl rfl ?_
          refine st_nil ?_
          refine wp_bit 47 rfl fun b hb5 => ?_
          cases b
          · try simp only [decide_eq_true_eq, decide_eq_false_iff_not, Bool.not_eq_true', Bool.not_eq_false', Int.not_lt, Int.not_le] at hb5
            refine wp_f rfl ?_
            refine awp_skip ?_
            refine ab_norm ?_
            refine at_norm ?_
            refine wp_reg ?_
            refine st_pop rfl rfl rfl rfl ?_
            refine st_store rfl rfl rfl rfl rfl rfl rfl rfl rfl rfl rfl rfl rfl ?_
            refine st_pop rfl rfl rfl rfl ?_
            refine st_nil ?_
            refine awp_ret ?_
            refine ret_ret rfl rfl ?_
            refine leaf_mc rfl ⟨_, rfl⟩ ?_
            (try clear hatA); (try clear hatB); (try clear hcall)
            unfold opSum; first
              | (rw [if_neg (by simp_all)]; rfl)
              | (rw [if_pos (by simp_all)]; first
                   | (rw [if_pos (by simp_all)]; rfl)
                   | (rw [if_neg (by simp_all)]; first
                        | (rw [if_pos (by simp_all)]; rfl)
                        | (rw [if_neg (by simp_all)]; first
                             | (rw [if_pos (by simp_all), show decide (t.1.text.size + t.2.1.text.size ≤ 40) = decide ((t.1.text.size : Int) + t.2.1.text.size ≤ 40) from by (rw [decide_eq_decide]; omega)]; rfl)
                             | (rw [if_neg (by simp_all)]; rfl))))
          · try simp only [decide_eq_true_eq, decide_eq_false_iff_not, Bool.not_eq_true', Bool.not_eq_false', Int.not_lt, Int.not_le] at hb5
            refine wp_t rfl ?_
            refine wp_reg ?_
            refine st_pop rfl rfl rfl rfl ?_
            refine st_pop rfl rfl rfl rfl ?_
            refine st_pop rfl rfl rfl rfl ?_
            refine st_pop rfl rfl rfl rfl ?_
            refine st_popx (.s (t.1.text ++ t.2.1.text)) rfl rfl rfl (if_pos (by have := g1.fit.1; have := good_text g1; have := good_text g2; simp_all [textOk]; omega)) ?_
            refine st_pop rfl rfl rfl rfl ?_
            refine st_pop rfl rfl rfl rfl ?_
            refine st_pop rfl rfl rfl rfl ?_
            refine st_pop rfl rfl rfl rfl ?_
            refine st_pop rfl rfl rfl rfl ?_
            refine st_pop rfl rfl rfl rfl ?_
            refine st_pop rfl rfl rfl rfl ?_
            refine st_pop rfl rfl rfl rfl ?_
            refine st_val 68 (.i .i64 ((t.1.text.size : Int) + t.2.1.text.size)) rfl (wrap_in (by have := good_text g1; have := good_text g2; simp only [textOk, Bool.and_eq_true, decide_eq_true_eq] at *; unfold inI; omega)) ?_
            refine st_pop rfl rfl rfl rfl ?_
            refine st_calc (xs := [.tmp 61, .tmp 69, _]) _ rfl rfl rfl rfl Try.func72 rfl rfl rfl (fits_c (textV (t.1.text ++ t.2.1.text)) _ _ _) ?_
            refine st_pop rfl rfl rfl rfl ?_
            refine st_pop rfl rfl rfl rfl ?_
            refine st_store rfl rfl rfl rfl rfl rfl rfl rfl rfl rfl rfl rfl rfl ?_
            refine st_pop rfl rfl rfl rfl ?_
            refine st_nil ?_
            refine awp_ret ?_
            refine ab_ret ?_
            refine at_ret ?_
            refine ret_ret rfl rfl ?_
            refine leaf_mc rfl ⟨_, rfl⟩ ?_
            (try clear hatA); (try clear hatB); (try clear hcall)
            unfold opSum; first
              | (rw [if_neg (by simp_all)]; rfl)
              | (rw [if_pos (by simp_all)]; first
                   | (rw [if_pos (by simp_all)]; rfl)
                   | (rw [if_neg (by simp_all)]; first
                        | (rw [if_pos (by simp_all)]; rfl)
                        | (rw [if_neg (by simp_all)]; first
                             | (rw [if_pos (by simp_all), show decide (t.1.text.size + t.2.1.text.size ≤ 40) = decide ((t.1.text.size : Int) + t.2.1.text.size ≤ 40) from by (rw [decide_eq_decide]; omega)]; rfl)
                             | (rw [if_neg (by simp_all)]; rfl))))
      · try simp only [decide_eq_true_eq, decide_eq_false_iff_not, Bool.not_eq_true', Bool.not_eq_false', Int.not_lt, Int.not_le] at hb3
        refine wp_t rfl ?_
        refine wp_reg ?_
        refine st_pop rfl rfl rfl rfl ?_
        refine st_pop rfl rfl rfl rfl ?_
        refine st_pop rfl rfl rfl rfl ?_
        refine st_pop rfl rfl rfl rfl ?_
        refine st_pop rfl rfl rfl rfl ?_
        refine st_pop rfl rfl rfl rfl ?_
        refine st_calc (xs := [.tmp 39, .tmp 41, .tmp 43]) _ rfl rfl rfl rfl Try.func82 rfl rfl rfl (rates_c _ _ _ g1.fit.2 g2.fit.2 (good_rate g1 (by simp_all)) (good_rate g2 (by simp_all)) _) ?_
        refine st_pop rfl rfl rfl rfl ?_
        refine st_pop rfl rfl rfl rfl ?_
        refine st_store rfl rfl rfl rfl rfl rfl rfl rfl rfl rfl rfl rfl rfl ?_
        refine st_pop rfl rfl rfl rfl ?_
        refine st_nil ?_
        refine awp_ret ?_
        refine ab_ret ?_
        refine at_ret ?_
        refine ret_ret rfl rfl ?_
        refine leaf_mc rfl ⟨_, rfl⟩ ?_
        (try clear hatA); (try clear hatB); (try clear hcall)
        unfold opSum; first
          | (rw [if_neg (by simp_all)]; rfl)
          | (rw [if_pos (by simp_all)]; first
               | (rw [if_pos (by simp_all)]; rfl)
               | (rw [if_neg (by simp_all)]; first
                    | (rw [if_pos (by simp_all)]; rfl)
                    | (rw [if_neg (by simp_all)]; first
                         | (rw [if_pos (by simp_all), show decide (t.1.text.size + t.2.1.text.size ≤ 40) = decide ((t.1.text.size : Int) + t.2.1.text.size ≤ 40) from by (rw [decide_eq_decide]; omega)]; rfl)
                         | (rw [if_neg (by simp_all)]; rfl))))
    · try simp only [decide_eq_true_eq, decide_eq_false_iff_not, Bool.not_eq_true', Bool.not_eq_false', Int.not_lt, Int.not_le] at hb2
      refine wp_t rfl ?_
      refine wp_reg ?_
      refine st_pop rfl rfl rfl rfl ?_
      refine st_pop rfl rfl rfl rfl ?_
      refine st_pop rfl rfl rfl rfl ?_
      refine st_pop rfl rfl rfl rfl ?_
      refine st_pop rfl rfl rfl rfl ?_
      refine st_pop rfl rfl rfl rfl ?_
      refine st_calc (xs := [.tmp 26, .tmp 28, .tmp 30]) _ rfl rfl rfl rfl Try.func81 rfl rfl rfl (ints_c _ _ _ i1 i2 _) ?_
      refine st_pop rfl rfl rfl rfl ?_
      refine st_pop rfl rfl rfl rfl ?_
      refine st_store rfl rfl rfl rfl rfl rfl rfl rfl rfl rfl rfl rfl rfl ?_
      refine st_pop rfl rfl rfl rfl ?_
      refine st_nil ?_
      refine awp_ret ?_
      refine ab_ret ?_
      refine at_ret ?_
      refine ret_ret rfl rfl ?_
      refine leaf_mc rfl ⟨_, rfl⟩ ?_
      (try clear hatA); (try clear hatB); (try clear hcall)
      unfold opSum; first
        | (rw [if_neg (by simp_all)]; rfl)
        | (rw [if_pos (by simp_all)]; first
             | (rw [if_pos (by simp_all)]; rfl)
             | (rw [if_neg (by simp_all)]; first
                  | (rw [if_pos (by simp_all)]; rfl)
                  | (rw [if_neg (by simp_all)]; first
                       | (rw [if_pos (by simp_all), show decide (t.1.text.size + t.2.1.text.size ≤ 40) = decide ((t.1.text.size : Int) + t.2.1.text.size ≤ 40) from by (rw [decide_eq_decide]; omega)]; rfl)
                       | (rw [if_neg (by simp_all)]; rfl))))
  · try simp only [decide_eq_true_eq, decide_eq_false_iff_not, Bool.not_eq_true', Bool.not_eq_false', Int.not_lt, Int.not_le] at hb1
    refine wp_t rfl ?_
    refine wp_reg ?_
    refine st_pop rfl rfl rfl rfl ?_
    refine st_pop rfl rfl rfl rfl ?_
    refine st_store rfl rfl rfl rfl rfl rfl rfl rfl rfl rfl rfl rfl rfl ?_
    refine st_pop rfl rfl rfl rfl ?_
    refine st_nil ?_
    refine awp_ret ?_
    refine ab_ret ?_
    refine at_ret ?_
    refine ret_ret rfl rfl ?_
    refine leaf_mc rfl ⟨_, rfl⟩ ?_
    (try clear hatA); (try clear hatB); (try clear hcall)
    unfold opSum; first
      | (rw [if_neg (by simp_all)]; rfl)
      | (rw [if_pos (by simp_all)]; first
           | (rw [if_pos (by simp_all)]; rfl)
           | (rw [if_neg (by simp_all)]; first
                | (rw [if_pos (by simp_all)]; rfl)
                | (rw [if_neg (by simp_all)]; first
                     | (rw [if_pos (by simp_all), show decide (t.1.text.size + t.2.1.text.size ≤ 40) = decide ((t.1.text.size : Int) + t.2.1.text.size ≤ 40) from by (rw [decide_eq_decide]; omega)]; rfl)
                     | (rw [if_neg (by simp_all)]; rfl))))
theorem m_edge (m : Mc) (n : Nod) (t : Val × Val × Int) (ht : BothOk t) (hatA : MCall m 79 [.ptr 0 0, .agg n.av] (bothAV t)) : MCall m 60 [.ptr 0 0, .agg n.av] (vwAV (opEdge n.op t)) := by
  refine mcall rfl rfl (body_big (T := tt) (k := 3) Try.func60 rfl Try.ntmps60 rfl rfl ?_)
  refine wp_reg ?_
  refine st_box rfl rfl rfl rfl rfl rfl rfl rfl rfl ?_
  refine st_alloc rfl rfl rfl rfl rfl rfl rfl ?_
  refine st_pop rfl rfl rfl rfl ?_
  refine st_nil ?_
  refine wp_reg ?_
  refine st_pop rfl rfl rfl rfl ?_
  refine st_pop rfl rfl rfl rfl ?_
  refine st_calc (xs := [.tmp 12, .tmp 13]) _ rfl rfl rfl rfl Try.func79 rfl rfl rfl (hatA _ rfl rfl rfl) ?_
  refine st_pop rfl rfl rfl rfl ?_
  refine st_pop rfl rfl rfl rfl ?_
  refine st_pop rfl rfl rfl rfl ?_
  refine st_pop rfl rfl rfl rfl ?_
  refine st_alloc rfl rfl rfl rfl rfl rfl rfl ?_
  refine st_alloc rfl rfl rfl rfl rfl rfl rfl ?_
  refine st_store rfl rfl rfl rfl rfl rfl rfl rfl rfl rfl rfl rfl rfl ?_
  refine st_store rfl rfl rfl rfl rfl rfl rfl rfl rfl rfl rfl rfl rfl ?_
  refine st_pop rfl rfl rfl rfl ?_
  refine st_nil ?_
  refine awp_seq ?_
  refine wp_reg ?_
  refine st_pop rfl rfl rfl rfl ?_
  refine st_pop rfl rfl rfl rfl ?_
  refine st_nil ?_
  refine wp_bit 19 rfl fun b hb1 => ?_
  cases b
  · try simp only [decide_eq_true_eq, decide_eq_false_iff_not, Bool.not_eq_true', Bool.not_eq_false', Int.not_lt, Int.not_le] at hb1
    refine wp_f rfl ?_
    refine awp_skip ?_
    refine at_norm ?_
    refine awp_seq ?_
    refine wp_reg ?_
    refine st_pop rfl rfl rfl rfl ?_
    refine st_pop rfl rfl rfl rfl ?_
    refine st_pop rfl rfl rfl rfl ?_
    refine st_pop rfl rfl rfl rfl ?_
    refine st_bit 25 rfl fun b hb2 => ?_
    cases b
    · try simp only [decide_eq_true_eq, decide_eq_false_iff_not, Bool.not_eq_true', Bool.not_eq_false', Int.not_lt, Int.not_le] at hb2
      refine st_skip rfl rfl rfl ?_
      refine st_skip rfl rfl rfl ?_
      refine st_skip rfl rfl rfl ?_
      refine st_pop rfl rfl rfl rfl ?_
      refine st_nil ?_
      refine wp_f rfl ?_
      refine awp_skip ?_
      refine at_norm ?_
      refine wp_reg ?_
      refine st_pop rfl rfl rfl rfl ?_
      refine st_pop rfl rfl rfl rfl ?_
      refine st_calc (xs := [.tmp 32, .tmp 33]) _ rfl rfl rfl rfl Try.func80 rfl rfl rfl (less_c t.2.1 t.1 ht.fit.2 ht.fit.1 _) ?_
      refine st_pop rfl rfl rfl rfl ?_
      refine st_pop rfl rfl rfl rfl ?_
      refine st_pop rfl rfl rfl rfl ?_
      refine st_pop rfl rfl rfl rfl ?_
      refine st_pop rfl rfl rfl rfl ?_
      refine st_nil ?_
      refine awp_seq ?_
      refine wp_reg ?_
      refine st_pop rfl rfl rfl rfl ?_
      refine st_pop rfl rfl rfl rfl ?_
      refine st_pop rfl rfl rfl rfl ?_
      refine st_pop rfl rfl rfl rfl ?_
      refine st_pop rfl rfl rfl rfl ?_
      refine st_nil ?_
      refine wp_bit 41 rfl fun b hb3 => ?_
      cases b
      · try simp only [decide_eq_true_eq, decide_eq_false_iff_not, Bool.not_eq_true', Bool.not_eq_false', Int.not_lt, Int.not_le] at hb3
        refine wp_f rfl ?_
        refine awp_skip ?_
        refine at_norm ?_
        refine wp_reg ?_
        refine st_pop rfl rfl rfl rfl ?_
        refine st_store rfl rfl rfl rfl rfl rfl rfl rfl rfl rfl rfl rfl rfl ?_
        refine st_pop rfl rfl rfl rfl ?_
        refine st_nil ?_
        refine awp_ret ?_
        refine ret_ret rfl rfl ?_
        refine leaf_mc rfl ⟨_, rfl⟩ ?_
        (try clear hatA); (try clear hatB); (try clear hcall)
        unfold opEdge; first
          | (rw [if_neg (by simp_all)]; rfl)
          | (rw [if_pos (by simp_all)]; first
               | (rw [if_neg (by simp_all)]; rfl)
               | (rw [if_pos (by simp_all)]; first
                    | (rw [if_pos (by simp_all)]; rfl)
                    | (rw [if_neg (by simp_all)]; rfl)))
      · try simp only [decide_eq_true_eq, decide_eq_false_iff_not, Bool.not_eq_true', Bool.not_eq_false', Int.not_lt, Int.not_le] at hb3
        refine wp_t rfl ?_
        refine wp_reg ?_
        refine st_pop rfl rfl rfl rfl ?_
        refine st_store rfl rfl rfl rfl rfl rfl rfl rfl rfl rfl rfl rfl rfl ?_
        refine st_pop rfl rfl rfl rfl ?_
        refine st_nil ?_
        refine awp_ret ?_
        refine at_ret ?_
        refine ret_ret rfl rfl ?_
        refine leaf_mc rfl ⟨_, rfl⟩ ?_
        (try clear hatA); (try clear hatB); (try clear hcall)
        unfold opEdge; first
          | (rw [if_neg (by simp_all)]; rfl)
          | (rw [if_pos (by simp_all)]; first
               | (rw [if_neg (by simp_all)]; rfl)
               | (rw [if_pos (by simp_all)]; first
                    | (rw [if_pos (by simp_all)]; rfl)
                    | (rw [if_neg (by simp_all)]; rfl)))
    · try simp only [decide_eq_true_eq, decide_eq_false_iff_not, Bool.not_eq_true', Bool.not_eq_false', Int.not_lt, Int.not_le] at hb2
      refine st_pop rfl rfl rfl rfl ?_
      refine st_pop rfl rfl rfl rfl ?_
      refine st_pop rfl rfl rfl rfl ?_
      refine st_pop rfl rfl rfl rfl ?_
      refine st_nil ?_
      refine wp_bit 29 rfl fun b hb4 => ?_
      cases b
      · try simp only [decide_eq_true_eq, decide_eq_false_iff_not, Bool.not_eq_true', Bool.not_eq_false', Int.not_lt, Int.not_le] at hb4
        refine wp_f rfl ?_
        refine awp_skip ?_
        refine at_norm ?_
        refine wp_reg ?_
        refine st_pop rfl rfl rfl rfl ?_
        refine st_pop rfl rfl rfl rfl ?_
        refine st_calc (xs := [.tmp 32, .tmp 33]) _ rfl rfl rfl rfl Try.func80 rfl rfl rfl (less_c t.2.1 t.1 ht.fit.2 ht.fit.1 _) ?_
        refine st_pop rfl rfl rfl rfl ?_
        refine st_pop rfl rfl rfl rfl ?_
        refine st_pop rfl rfl rfl rfl ?_
        refine st_pop rfl rfl rfl rfl ?_
        refine st_pop rfl rfl rfl rfl ?_
        refine st_nil ?_
        refine awp_seq ?_
        refine wp_reg ?_
        refine st_pop rfl rfl rfl rfl ?_
        refine st_pop rfl rfl rfl rfl ?_
        refine st_pop rfl rfl rfl rfl ?_
        refine st_pop rfl rfl rfl rfl ?_
        refine st_pop rfl rfl rfl rfl ?_
        refine st_nil ?_
        refine wp_bit 41 rfl fun b hb5 => ?_
        cases b
        · try simp only [decide_eq_true_eq, decide_eq_false_iff_not, Bool.not_eq_true', Bool.not_eq_false', Int.not_lt, Int.not_le] at hb5
          refine wp_f rfl ?_
          refine awp_skip ?_
          refine at_norm ?_
          refine wp_reg ?_
          refine st_pop rfl rfl rfl rfl ?_
          refine st_store rfl rfl rfl rfl rfl rfl rfl rfl rfl rfl rfl rfl rfl ?_
          refine st_pop rfl rfl rfl rfl ?_
          refine st_nil ?_
          refine awp_ret ?_
          refine ret_ret rfl rfl ?_
          refine leaf_mc rfl ⟨_, rfl⟩ ?_
          (try clear hatA); (try clear hatB); (try clear hcall)
          unfold opEdge; first
            | (rw [if_neg (by simp_all)]; rfl)
            | (rw [if_pos (by simp_all)]; first
                 | (rw [if_neg (by simp_all)]; rfl)
                 | (rw [if_pos (by simp_all)]; first
                      | (rw [if_pos (by simp_all)]; rfl)
                      | (rw [if_neg (by simp_all)]; rfl)))
        · try simp only [decide_eq_true_eq, decide_eq_false_iff_not, Bool.not_eq_true', Bool.not_eq_false', Int.not_lt, Int.not_le] at hb5
          refine wp_t rfl ?_
          refine wp_reg ?_
          refine st_pop rfl rfl rfl rfl ?_
          refine st_store rfl rfl rfl rfl rfl rfl rfl rfl rfl rfl rfl rfl rfl ?_
          refine st_pop rfl rfl rfl rfl ?_
          refine st_nil ?_
          refine awp_ret ?_
          refine at_ret ?_
          refine ret_ret rfl rfl ?_
          refine leaf_mc rfl ⟨_, rfl⟩ ?_
          (try clear hatA); (try clear hatB); (try clear hcall)
          unfold opEdge; first
            | (rw [if_neg (by simp_all)]; rfl)
            | (rw [if_pos (by simp_all)]; first
                 | (rw [if_neg (by simp_all)]; rfl)
                 | (rw [if_pos (by simp_all)]; first
                      | (rw [if_pos (by simp_all)]; rfl)
                      | (rw [if_neg (by simp_all)]; rfl)))
      · try simp only [decide_eq_true_eq, decide_eq_false_iff_not, Bool.not_eq_true', Bool.not_eq_false', Int.not_lt, Int.not_le] at hb4
        refine wp_t rfl ?_
        refine wp_reg ?_
        refine st_pop rfl rfl rfl rfl ?_
        refine st_store rfl rfl rfl rfl rfl rfl rfl rfl rfl rfl rfl rfl rfl ?_
        refine st_pop rfl rfl rfl rfl ?_
        refine st_nil ?_
        refine awp_ret ?_
        refine at_ret ?_
        refine ret_ret rfl rfl ?_
        refine leaf_mc rfl ⟨_, rfl⟩ ?_
        (try clear hatA); (try clear hatB); (try clear hcall)
        unfold opEdge; first
          | (rw [if_neg (by simp_all)]; rfl)
          | (rw [if_pos (by simp_all)]; first
               | (rw [if_neg (by simp_all)]; rfl)
               | (rw [if_pos (by simp_all)]; first
                    | (rw [if_pos (by simp_all)]; rfl)
                    | (rw [if_neg (by simp_all)]; rfl)))
  · try simp only [decide_eq_true_eq, decide_eq_false_iff_not, Bool.not_eq_true', Bool.not_eq_false', Int.not_lt, Int.not_le] at hb1
    refine wp_t rfl ?_
    refine wp_reg ?_
    refine st_pop rfl rfl rfl rfl ?_
    refine st_pop rfl rfl rfl rfl ?_
    refine st_store rfl rfl rfl rfl rfl rfl rfl rfl rfl rfl rfl rfl rfl ?_
    refine st_pop rfl rfl rfl rfl ?_
    refine st_nil ?_
    refine awp_ret ?_
    refine at_ret ?_
    refine ret_ret rfl rfl ?_
    refine leaf_mc rfl ⟨_, rfl⟩ ?_
    (try clear hatA); (try clear hatB); (try clear hcall)
    unfold opEdge; first
      | (rw [if_neg (by simp_all)]; rfl)
      | (rw [if_pos (by simp_all)]; first
           | (rw [if_neg (by simp_all)]; rfl)
           | (rw [if_pos (by simp_all)]; first
                | (rw [if_pos (by simp_all)]; rfl)
                | (rw [if_neg (by simp_all)]; rfl)))
def opsAV : List AV := [.nf, .fn 49 [], .fn 50 [], .fn 51 [], .fn 52 [], .fn 53 [], .fn 54 [], .fn 55 [], .fn 56 [], .fn 56 [], .fn 57 [], .fn 57 [], .fn 58 [], .fn 58 [], .fn 58 [], .fn 58 [], .fn 59 [], .fn 59 [], .fn 59 [], .fn 59 [], .fn 59 [], .fn 60 [], .fn 60 [], .fn 61 [], .fn 62 [], .fn 63 []]
theorem operators_fn_c  : ∀ H, ACalls tt 33 [] H (fun res_ H' => res_ = .agg opsAV ∧ H' = H) := by
  refine body_calc (T := tt) Try.func33 rfl Try.ntmps33 rfl rfl (by rfl) (by rfl) ?_
  refine wp_reg ?_
  refine st_alloc rfl rfl rfl rfl rfl rfl rfl ?_
  refine st_nil ?_
  refine wp_reg ?_
  refine st_pop rfl rfl rfl rfl ?_
  refine st_store rfl rfl rfl rfl rfl rfl rfl rfl rfl rfl rfl rfl rfl ?_
  refine st_nil ?_
  refine awp_ret ?_
  refine ret_ret rfl rfl ?_
  exact .refl _
theorem at_step (m : Mc) (i : Nat) (nd : Nod) (hnd : m.ns[i]? = some nd) (f : FuncId) (fn : Func) (hidx : aidx tt 98 (.agg opsAV) (.i .i64 nd.op) = some (.fn f [])) (hfn : tt.P.funcs[f]? = some fn) (hbd : fn.body.isNone = false) (hnm : (fn.name == "runtime.NumGoroutine") = false) (r : VW) (hcall : MCall m f [.ptr 0 0, .agg nd.av] (vwAV r)) : MCall m 18 [.ptr 0 0, .i .i64 ((i : Nat) : Int)] (vwAV r) := by
  refine mcall rfl rfl (body_big (T := tt) (k := 3) Try.func18 rfl Try.ntmps18 rfl rfl ?_)
  refine wp_reg ?_
  refine st_alloc rfl rfl rfl rfl rfl rfl rfl ?_
  refine st_pop rfl rfl rfl rfl ?_
  refine st_nil ?_
  refine wp_reg ?_
  refine st_pop rfl rfl rfl rfl ?_
  refine st_pop rfl rfl rfl rfl ?_
  refine st_pop rfl rfl rfl rfl ?_
  refine st_pop rfl rfl rfl rfl ?_
  refine st_pop rfl rfl rfl rfl ?_
  refine st_idxA (n := i) nd.av rfl rfl rfl rfl rfl rfl rfl rfl (by simp [hnd]) ?_
  refine st_pop rfl rfl rfl rfl ?_
  refine st_alloc rfl rfl rfl rfl rfl rfl rfl ?_
  refine st_store rfl rfl rfl rfl rfl rfl rfl rfl rfl rfl rfl rfl rfl ?_
  refine st_nil ?_
  refine wp_open [.op 6, .bar, .op 2, .bar, .bar] (D := [0, 0, 2, 7, 0, 0, 63, 127, 127, 511, 1023]) (by kernel_rfl) (by kernel_rfl) (by kernel_rfl) ?_
  refine ad_op rfl rfl ?_
  refine do_calc (xs := []) _ rfl rfl rfl rfl Try.func33 rfl rfl rfl (fun H_ => operators_fn_c _) ?_
  refine do_pop rfl rfl rfl rfl rfl (by kernel_rfl) ?_
  refine do_pop rfl rfl rfl rfl rfl (by kernel_rfl) ?_
  refine do_popx (.fn f []) rfl rfl rfl hidx rfl (by kernel_rfl) ?_
  refine do_pop rfl rfl rfl rfl rfl (by kernel_rfl) ?_
  refine do_pop rfl rfl rfl rfl rfl (by kernel_rfl) ?_
  refine do_nil ?_
  refine ad_bar ?_
  refine st_callv (xs := [.tmp 18, .tmp 19]) rfl rfl rfl rfl rfl hfn hbd hnm rfl (hcall _ rfl rfl rfl) ?_
  rintro _ _ ⟨rfl, rfl⟩
  refine st_nil ?_
  refine ad_op rfl rfl ?_
  refine do_pop rfl rfl rfl rfl rfl (by kernel_rfl) ?_
  refine do_pop rfl rfl rfl rfl rfl (by kernel_rfl) ?_
  refine do_nil ?_
  refine ad_bar ?_
  refine st_store rfl rfl rfl rfl rfl rfl rfl rfl rfl rfl rfl rfl rfl ?_
  refine st_nil ?_
  refine ad_bar ?_
  refine st_pop rfl rfl rfl rfl ?_
  refine st_nil ?_
  refine ad_nil ?_
  refine awp_ret ?_
  refine ret_ret rfl rfl ?_
  refine leaf_mc rfl ⟨_, rfl⟩ ?_
  rfl
theorem at_main (m : Mc) (hr : rightE m.ns = true) (hs : StoOk m.s) (hx : inI m.x.now ∧ inI m.x.began) (hn : ∀ n ∈ m.ns, n.fit ∧ inI n.value.int) : ∀ f i : Nat, i < f → i < m.ns.length → AtRet m ((i : Nat) : Int) (evN m.ns (getS m.s) m.x f i) := by
  have hg := getS_ok hs
  have hns : ∀ n ∈ m.ns, n.op = 1 → Good n.value := fun n hm h1 => by
    obtain ⟨j, hj⟩ := List.getElem?_of_mem hm
    exact plain_good (right_ops hr hj).1 (hn n hm).1 (hn n hm).2 h1
  intro f
  induction f with
  | zero => intro i hi; omega
  | succ f ih =>
    intro i hif hil
    obtain ⟨nd, hnd⟩ : ∃ nd, m.ns[i]? = some nd := ⟨_, List.getElem?_eq_getElem hil⟩
    obtain ⟨hp, h1, h25, ha, hb⟩ := right_ops hr hnd
    have hP := ok_evN hg hx hns f nd.a.toNat
    have hQ := ok_evN hg hx hns f nd.b.toNat
    have hatA : operands nd.op = 1 ∨ operands nd.op = 2 → AtRet m nd.a (evN m.ns (getS m.s) m.x f nd.a.toNat) := fun ho => by
      obtain ⟨a, e, hlt⟩ := ha ho
      rw [e, Int.toNat_natCast]; exact ih a (by omega) (by omega)
    have hatB : operands nd.op = 2 → AtRet m nd.b (evN m.ns (getS m.s) m.x f nd.b.toNat) := fun ho => by
      obtain ⟨b, e, hlt⟩ := hb ho
      rw [e, Int.toNat_natCast]; exact ih b (by omega) (by omega)
    have e : evN m.ns (getS m.s) m.x (f + 1) i = evOp (getS m.s) m.x nd (evN m.ns (getS m.s) m.x f nd.a.toNat) (evN m.ns (getS m.s) m.x f nd.b.toNat) := by simp only [evN, hnd]
    rw [e]
    generalize evN m.ns (getS m.s) m.x f nd.a.toNat = P at *
    generalize evN m.ns (getS m.s) m.x f nd.b.toNat = Q at *
    have hc : nd.op = 1 ∨ nd.op = 2 ∨ nd.op = 3 ∨ nd.op = 4 ∨ nd.op = 5 ∨ nd.op = 6 ∨ nd.op = 7 ∨ nd.op = 8 ∨ nd.op = 9 ∨ nd.op = 10 ∨ nd.op = 11 ∨ nd.op = 12 ∨ nd.op = 13 ∨ nd.op = 14 ∨ nd.op = 15 ∨ nd.op = 16 ∨ nd.op = 17 ∨ nd.op = 18 ∨ nd.op = 19 ∨ nd.op = 20 ∨ nd.op = 21 ∨ nd.op = 22 ∨ nd.op = 23 ∨ nd.op = 24 ∨ nd.op = 25 := by omega
    rcases hc with h | h | h | h | h | h | h | h | h | h | h | h | h | h | h | h | h | h | h | h | h | h | h | h | h
    · exact at_step m i nd hnd 49 _ (by rw [h]; rfl) Try.func49 rfl rfl _ (by rw [show evOp (getS m.s) m.x nd P Q = (nd.value, 0) from by simp [evOp, h]]; exact m_value m nd)
    · cases hgt : mget m.s (atC nd.ref m.x.sub m.x.obj) with
      | some v => exact at_step m i nd hnd 50 _ (by rw [h]; rfl) Try.func50 rfl rfl _ (by rw [show evOp (getS m.s) m.x nd P Q = (v.v, 0) from by simp [evOp, h, getS, hgt]]; exact m_ref_some m nd v hgt)
      | none => exact at_step m i nd hnd 50 _ (by rw [h]; rfl) Try.func50 rfl rfl _ (by rw [show evOp (getS m.s) m.x nd P Q = (zeroVal, 2) from by simp [evOp, h, getS, hgt]]; exact m_ref_none m nd hgt)
    · cases hgt : mget m.s (atC nd.ref m.x.sub m.x.obj) with
      | some v => exact at_step m i nd hnd 51 _ (by rw [h]; rfl) Try.func51 rfl rfl _ (by rw [show evOp (getS m.s) m.x nd P Q = (truthV true, 0) from by simp [evOp, h, getS, hgt]]; exact m_has_some m nd v hgt)
      | none => exact at_step m i nd hnd 51 _ (by rw [h]; rfl) Try.func51 rfl rfl _ (by rw [show evOp (getS m.s) m.x nd P Q = (truthV false, 0) from by simp [evOp, h, getS, hgt]]; exact m_has_none m nd hgt)
    · exact at_step m i nd hnd 52 _ (by rw [h]; rfl) Try.func52 rfl rfl _ (by rw [show evOp (getS m.s) m.x nd P Q = (wholeV m.x.now, 0) from by simp [evOp, h]]; exact m_now m nd)
    · exact at_step m i nd hnd 53 _ (by rw [h]; rfl) Try.func53 rfl rfl _ (by rw [show evOp (getS m.s) m.x nd P Q = (wholeV m.x.began, 0) from by simp [evOp, h]]; exact m_began m nd)
    · exact at_step m i nd hnd 54 _ (by rw [h]; rfl) Try.func54 rfl rfl _ (by rw [show evOp (getS m.s) m.x nd P Q = opNot P from by simp [evOp, h]]; exact m_not m nd P hP (hatA (by rw [h]; decide)))
    · exact at_step m i nd hnd 55 _ (by rw [h]; rfl) Try.func55 rfl rfl _ (by rw [show evOp (getS m.s) m.x nd P Q = opNeg P from by simp [evOp, h]]; exact m_neg m nd P hP (hatA (by rw [h]; decide)))
    · exact at_step m i nd hnd 56 _ (by rw [h]; rfl) Try.func56 rfl rfl _ (by rw [show evOp (getS m.s) m.x nd P Q = opShort nd.op P Q from by simp [evOp, h]]; exact m_short m nd P Q hP hQ (hatA (by rw [h]; decide)) (hatB (by rw [h]; decide)))
    · exact at_step m i nd hnd 56 _ (by rw [h]; rfl) Try.func56 rfl rfl _ (by rw [show evOp (getS m.s) m.x nd P Q = opShort nd.op P Q from by simp [evOp, h]]; exact m_short m nd P Q hP hQ (hatA (by rw [h]; decide)) (hatB (by rw [h]; decide)))
    · exact at_step m i nd hnd 57 _ (by rw [h]; rfl) Try.func57 rfl rfl _ (by rw [show evOp (getS m.s) m.x nd P Q = opEqual nd.op (bothP P Q) from by simp [evOp, h]]; exact m_equal m nd (bothP P Q) (ok_both hP hQ) (m_both m nd P Q hP hQ (hatA (by rw [h]; decide)) (hatB (by rw [h]; decide))))
    · exact at_step m i nd hnd 57 _ (by rw [h]; rfl) Try.func57 rfl rfl _ (by rw [show evOp (getS m.s) m.x nd P Q = opEqual nd.op (bothP P Q) from by simp [evOp, h]]; exact m_equal m nd (bothP P Q) (ok_both hP hQ) (m_both m nd P Q hP hQ (hatA (by rw [h]; decide)) (hatB (by rw [h]; decide))))
    · exact at_step m i nd hnd 58 _ (by rw [h]; rfl) Try.func58 rfl rfl _ (by rw [show evOp (getS m.s) m.x nd P Q = opOrder nd.op (bothP P Q) from by simp [evOp, h]]; exact m_order m nd (bothP P Q) (ok_both hP hQ) (m_both m nd P Q hP hQ (hatA (by rw [h]; decide)) (hatB (by rw [h]; decide))))
    · exact at_step m i nd hnd 58 _ (by rw [h]; rfl) Try.func58 rfl rfl _ (by rw [show evOp (getS m.s) m.x nd P Q = opOrder nd.op (bothP P Q) from by simp [evOp, h]]; exact m_order m nd (bothP P Q) (ok_both hP hQ) (m_both m nd P Q hP hQ (hatA (by rw [h]; decide)) (hatB (by rw [h]; decide))))
    · exact at_step m i nd hnd 58 _ (by rw [h]; rfl) Try.func58 rfl rfl _ (by rw [show evOp (getS m.s) m.x nd P Q = opOrder nd.op (bothP P Q) from by simp [evOp, h]]; exact m_order m nd (bothP P Q) (ok_both hP hQ) (m_both m nd P Q hP hQ (hatA (by rw [h]; decide)) (hatB (by rw [h]; decide))))
    · exact at_step m i nd hnd 58 _ (by rw [h]; rfl) Try.func58 rfl rfl _ (by rw [show evOp (getS m.s) m.x nd P Q = opOrder nd.op (bothP P Q) from by simp [evOp, h]]; exact m_order m nd (bothP P Q) (ok_both hP hQ) (m_both m nd P Q hP hQ (hatA (by rw [h]; decide)) (hatB (by rw [h]; decide))))
    · exact at_step m i nd hnd 59 _ (by rw [h]; rfl) Try.func59 rfl rfl _ (by rw [show evOp (getS m.s) m.x nd P Q = opSum nd.op (bothP P Q) from by simp [evOp, h]]; exact m_sum m nd (bothP P Q) (ok_both hP hQ) (m_both m nd P Q hP hQ (hatA (by rw [h]; decide)) (hatB (by rw [h]; decide))))
    · exact at_step m i nd hnd 59 _ (by rw [h]; rfl) Try.func59 rfl rfl _ (by rw [show evOp (getS m.s) m.x nd P Q = opSum nd.op (bothP P Q) from by simp [evOp, h]]; exact m_sum m nd (bothP P Q) (ok_both hP hQ) (m_both m nd P Q hP hQ (hatA (by rw [h]; decide)) (hatB (by rw [h]; decide))))
    · exact at_step m i nd hnd 59 _ (by rw [h]; rfl) Try.func59 rfl rfl _ (by rw [show evOp (getS m.s) m.x nd P Q = opSum nd.op (bothP P Q) from by simp [evOp, h]]; exact m_sum m nd (bothP P Q) (ok_both hP hQ) (m_both m nd P Q hP hQ (hatA (by rw [h]; decide)) (hatB (by rw [h]; decide))))
    · exact at_step m i nd hnd 59 _ (by rw [h]; rfl) Try.func59 rfl rfl _ (by rw [show evOp (getS m.s) m.x nd P Q = opSum nd.op (bothP P Q) from by simp [evOp, h]]; exact m_sum m nd (bothP P Q) (ok_both hP hQ) (m_both m nd P Q hP hQ (hatA (by rw [h]; decide)) (hatB (by rw [h]; decide))))
    · exact at_step m i nd hnd 59 _ (by rw [h]; rfl) Try.func59 rfl rfl _ (by rw [show evOp (getS m.s) m.x nd P Q = opSum nd.op (bothP P Q) from by simp [evOp, h]]; exact m_sum m nd (bothP P Q) (ok_both hP hQ) (m_both m nd P Q hP hQ (hatA (by rw [h]; decide)) (hatB (by rw [h]; decide))))
    · exact at_step m i nd hnd 60 _ (by rw [h]; rfl) Try.func60 rfl rfl _ (by rw [show evOp (getS m.s) m.x nd P Q = opEdge nd.op (bothP P Q) from by simp [evOp, h]]; exact m_edge m nd (bothP P Q) (ok_both hP hQ) (m_both m nd P Q hP hQ (hatA (by rw [h]; decide)) (hatB (by rw [h]; decide))))
    · exact at_step m i nd hnd 60 _ (by rw [h]; rfl) Try.func60 rfl rfl _ (by rw [show evOp (getS m.s) m.x nd P Q = opEdge nd.op (bothP P Q) from by simp [evOp, h]]; exact m_edge m nd (bothP P Q) (ok_both hP hQ) (m_both m nd P Q hP hQ (hatA (by rw [h]; decide)) (hatB (by rw [h]; decide))))
    · exact at_step m i nd hnd 61 _ (by rw [h]; rfl) Try.func61 rfl rfl _ (by rw [show evOp (getS m.s) m.x nd P Q = opLen P from by simp [evOp, h]]; exact m_length m nd P hP (hatA (by rw [h]; decide)))
    · exact at_step m i nd hnd 62 _ (by rw [h]; rfl) Try.func62 rfl rfl _ (by rw [show evOp (getS m.s) m.x nd P Q = opRate P from by simp [evOp, h]]; exact m_rate m nd P hP (hatA (by rw [h]; decide)))
    · exact at_step m i nd hnd 63 _ (by rw [h]; rfl) Try.func63 rfl rfl _ (by rw [show evOp (getS m.s) m.x nd P Q = opFloor P from by simp [evOp, h]]; exact m_floor m nd P hP (hatA (by rw [h]; decide)))
theorem mc_gen {m : Mc} {f : FuncId} {a : Int} {y : AV} (h : MCall m f [.ptr 0 0, .i .i64 a] y) (hy : clean y = true) (H : AH) (bm b c : Nat) (h0 : H.bs[bm]? = some (.cells [.l none 63 (m.ns.map Nod.av), .ptr b 0, .s m.x.sub, .s m.x.obj, .i .i64 m.x.now, .i .i64 m.x.began]))
    (h1 : H.bs[b]? = some (.cells [.m c])) (h2 : H.bs[c]? = some m.b2) : ACalls tt f [.ptr bm 0, .i .i64 a] H (fun r H' => r = y ∧ H' = H) := by
  have d1 : bm ≠ b := by rintro rfl; rw [h0] at h1; cases h1
  have d2 : bm ≠ c := by rintro rfl; rw [h0] at h2; cases h2
  have d3 : b ≠ c := by rintro rfl; rw [h1] at h2; cases h2
  have hr0 : renB (sg [bm, b, c]) m.b0 = .cells [.l none 63 (m.ns.map Nod.av), .ptr b 0, .s m.x.sub, .s m.x.obj, .i .i64 m.x.now, .i .i64 m.x.began] := by
    show ABox.cells [.l none 63 (renLL _ (m.ns.map Nod.av)), .ptr b 0, .s m.x.sub, .s m.x.obj, .i .i64 m.x.now, .i .i64 m.x.began] = _
    rw [clean_renLL _ (nods_clean m.ns)]
  have hall : ∀ (i t : Nat) x, [bm, b, c][i]? = some t → [m.b0, mb1, m.b2][i]? = some x → H.bs[t]? = some (renB (sg [bm, b, c]) x) := by
    intro i t x hs hx
    match i, hs, hx with
    | 0, hs, hx => simp at hs hx; subst hs; subst hx; rw [hr0]; exact h0
    | 1, hs, hx => simp at hs hx; subst hs; subst hx; exact h1
    | 2, hs, hx => simp at hs hx; subst hs; subst hx; rw [show renB (sg [bm, b, c]) m.b2 = m.b2 from sto_ren _ m.s]; exact h2
    | i + 3, hs, _ => simp at hs
  refine acalls_one (T := tt) (zs := [m.b0, mb1, m.b2]) (bs := H.bs) [bm, b, c] [m.b0, mb1, m.b2] rfl (by simp [d1, d2, d3]) hall rfl (mc_ok m) ((h ⟨[m.b0, mb1, m.b2], []⟩ rfl rfl rfl).mono ?_) rfl (clean_ren y hy) ?_
  · rintro r H1 ⟨rfl, rfl⟩
    exact leaf_mc (clean_ok _ hy) ⟨[], rfl⟩ rfl
  · refine putB_same (by simp [d1, d2, d3]) rfl fun i t y hs hy => ?_
    rw [List.getElem?_map, Option.map_eq_some_iff] at hy
    obtain ⟨x, hx, rfl⟩ := hy
    exact hall i t x hs hx
theorem value0 (ns : List Nod) (x : Scn) (s : Sto) (hs : StoOk s) (hx : inI x.now ∧ inI x.began) (hns : ∀ n ∈ ns, n.fit ∧ inI n.value.int) (hsz : ns.length ≤ maxI) : ACalls tt 7 [.agg [.l none 63 (ns.map Nod.av)], .ptr 0 0, .agg [.s x.sub, .s x.obj, .i .i64 x.now, .i .i64 x.began]] ⟨[.cells [.m 1], mapB Cel.av Hld.agg s], []⟩ (BigR tt 2 (One (vwAV (evE ns (getS s) x)) [.cells [.m 1], mapB Cel.av Hld.agg s])) := by
  refine body_big (T := tt) Try.func7 rfl Try.ntmps7 rfl rfl ?_
  refine wp_reg ?_
  refine st_box rfl rfl rfl rfl rfl rfl rfl rfl rfl ?_
  refine st_box rfl rfl rfl rfl rfl rfl rfl rfl rfl ?_
  refine st_alloc rfl rfl rfl rfl rfl rfl rfl ?_
  refine st_pop rfl rfl rfl rfl ?_
  refine st_nil ?_
  refine awp_seq ?_
  refine wp_reg ?_
  refine st_pop rfl rfl rfl rfl ?_
  refine st_calc (xs := [.tmp 9]) _ rfl rfl rfl rfl Try.func17 rfl rfl rfl (right_c ns (fun n hn => (hns n hn).1) hsz _) ?_
  refine st_pop rfl rfl rfl rfl ?_
  refine st_nil ?_
  refine wp_bit 11 rfl fun b hb1 => ?_
  cases b
  · try simp only [decide_eq_true_eq, decide_eq_false_iff_not, Bool.not_eq_true', Bool.not_eq_false', Int.not_lt, Int.not_le] at hb1
    have hr : rightE ns = true := by simpa using hb1
    have hl := right_len hr
    have hl1 := right_pos hr
    refine wp_f rfl ?_
    refine awp_skip ?_
    refine at_norm ?_
    refine wp_reg ?_
    refine st_pop rfl rfl rfl rfl ?_
    refine st_pop rfl rfl rfl rfl ?_
    refine st_pop rfl rfl rfl rfl ?_
    refine st_pop rfl rfl rfl rfl ?_
    refine st_pop rfl rfl rfl rfl ?_
    refine st_box rfl rfl rfl rfl rfl rfl rfl rfl rfl ?_
    refine st_pop rfl rfl rfl rfl ?_
    refine st_nil ?_
    refine wp_reg ?_
    refine st_pop rfl rfl rfl rfl ?_
    refine st_pop rfl rfl rfl rfl ?_
    refine st_pop rfl rfl rfl rfl ?_
    refine st_pop rfl rfl rfl rfl ?_
    refine st_val 22 (.i .i64 ((ns.length : Nat) : Int)) rfl (by simp) ?_
    refine st_pop rfl rfl rfl rfl ?_
    refine st_val 23 (.i .i64 ((ns.length - 1 : Nat) : Int)) rfl (wrap_pred (by omega) (by omega)) ?_
    refine st_calc (xs := [.tmp 19, .tmp 23]) _ rfl rfl rfl rfl Try.func18 rfl rfl rfl (mc_gen (m := ⟨ns, x, s⟩) (at_main ⟨ns, x, s⟩ hr hs hx hns ns.length (ns.length - 1) (by omega) (by show _ < ns.length; omega)) rfl _ 5 0 1 rfl rfl rfl) ?_
    refine st_pop rfl rfl rfl rfl ?_
    refine st_pop rfl rfl rfl rfl ?_
    refine st_store rfl rfl rfl rfl rfl rfl rfl rfl rfl rfl rfl rfl rfl ?_
    refine st_pop rfl rfl rfl rfl ?_
    refine st_nil ?_
    refine awp_ret ?_
    refine ret_ret rfl rfl ?_
    refine bigR _ _ (.refl _) rfl rfl ⟨_, rfl⟩ (sto_ok s) ⟨?_, rfl⟩
    unfold evE
    first
      | (rw [if_pos hr]; rfl)
      | (rw [if_neg (by rw [hr]; simp)]; rfl)
  · try simp only [decide_eq_true_eq, decide_eq_false_iff_not, Bool.not_eq_true', Bool.not_eq_false', Int.not_lt, Int.not_le] at hb1
    have hr : rightE ns = false := by simpa using hb1
    refine wp_t rfl ?_
    refine wp_reg ?_
    refine st_pop rfl rfl rfl rfl ?_
    refine st_store rfl rfl rfl rfl rfl rfl rfl rfl rfl rfl rfl rfl rfl ?_
    refine st_pop rfl rfl rfl rfl ?_
    refine st_nil ?_
    refine awp_ret ?_
    refine at_ret ?_
    refine ret_ret rfl rfl ?_
    refine bigR _ _ (.refl _) rfl rfl ⟨_, rfl⟩ (sto_ok s) ⟨?_, rfl⟩
    unfold evE
    first
      | (rw [if_pos hr]; rfl)
      | (rw [if_neg (by rw [hr]; simp)]; rfl)
theorem ok_expr (n : Nat) (ns : List Nod) (l : List AV) (hl : okL n l = true) : okL n (.agg [.l none 63 (ns.map Nod.av)] :: l) = true := by
  simp only [okL, ok, clean_okLL _ (nods_clean ns), hl]; rfl
theorem value_c (ns : List Nod) (x : Scn) (s : Sto) (hs : StoOk s) (hx : inI x.now ∧ inI x.began) (hns : ∀ n ∈ ns, n.fit ∧ inI n.value.int) (hsz : ns.length ≤ maxI) (H : AH) (b m : Nat) (hb : H.bs[b]? = some (.cells [.m m])) (hm : H.bs[m]? = some (mapB Cel.av Hld.agg s)) : ACalls tt 7 [.agg [.l none 63 (ns.map Nod.av)], .ptr b 0, .agg [.s x.sub, .s x.obj, .i .i64 x.now, .i .i64 x.began]] H (fun r H' => r = vwAV (evE ns (getS s) x) ∧ H' = H) :=
  acalls_stR (ok_expr 2 ns _ rfl) rfl (value0 ns x s hs hx hns hsz) H b m hb hm (by simp only [renL, ren, clean_renLL _ (nods_clean ns)]; rfl)
theorem holds0 (ns : List Nod) (x : Scn) (s : Sto) (hs : StoOk s) (hx : inI x.now ∧ inI x.began) (hns : ∀ n ∈ ns, n.fit ∧ inI n.value.int) (hsz : ns.length ≤ maxI) : ACalls tt 8 [.agg [.l none 63 (ns.map Nod.av)], .ptr 0 0, .agg [.s x.sub, .s x.obj, .i .i64 x.now, .i .i64 x.began]] ⟨[.cells [.m 1], mapB Cel.av Hld.agg s], []⟩ (BigR tt 2 (One (.i .i64 (holdsP (evE ns (getS s) x))) [.cells [.m 1], mapB Cel.av Hld.agg s])) := by
  refine body_big (T := tt) Try.func8 rfl Try.ntmps8 rfl rfl ?_
  refine wp_reg ?_
  refine st_box rfl rfl rfl rfl rfl rfl rfl rfl rfl ?_
  refine st_box rfl rfl rfl rfl rfl rfl rfl rfl rfl ?_
  refine st_pop rfl rfl rfl rfl ?_
  refine st_nil ?_
  refine wp_reg ?_
  refine st_pop rfl rfl rfl rfl ?_
  refine st_pop rfl rfl rfl rfl ?_
  refine st_pop rfl rfl rfl rfl ?_
  refine st_calc (xs := [.tmp 10, .tmp 11, .tmp 12]) _ rfl rfl rfl rfl Try.func7 rfl rfl rfl (value_c ns x s hs hx hns hsz _ 0 1 rfl rfl) ?_
  refine st_pop rfl rfl rfl rfl ?_
  refine st_pop rfl rfl rfl rfl ?_
  refine st_pop rfl rfl rfl rfl ?_
  refine st_alloc rfl rfl rfl rfl rfl rfl rfl ?_
  refine st_store rfl rfl rfl rfl rfl rfl rfl rfl rfl rfl rfl rfl rfl ?_
  refine st_pop rfl rfl rfl rfl ?_
  refine st_nil ?_
  refine awp_seq ?_
  refine awp_block ?_
  refine wp_reg ?_
  refine st_pop rfl rfl rfl rfl ?_
  refine st_pop rfl rfl rfl rfl ?_
  refine st_pop rfl rfl rfl rfl ?_
  refine st_nil ?_
  refine wp_bit 16 rfl fun b hb1 => ?_
  cases b
  · try simp only [decide_eq_true_eq, decide_eq_false_iff_not, Bool.not_eq_true', Bool.not_eq_false', Int.not_lt, Int.not_le] at hb1
    refine wp_f rfl ?_
    refine wp_reg ?_
    refine st_pop rfl rfl rfl rfl ?_
    refine st_pop rfl rfl rfl rfl ?_
    refine st_pop rfl rfl rfl rfl ?_
    refine st_pop rfl rfl rfl rfl ?_
    refine st_nil ?_
    refine wp_bit 20 rfl fun b hb2 => ?_
    cases b
    · try simp only [decide_eq_true_eq, decide_eq_false_iff_not, Bool.not_eq_true', Bool.not_eq_false', Int.not_lt, Int.not_le] at hb2
      refine wp_f rfl ?_
      refine wp_reg ?_
      refine st_pop rfl rfl rfl rfl ?_
      refine st_pop rfl rfl rfl rfl ?_
      refine st_pop rfl rfl rfl rfl ?_
      refine st_pop rfl rfl rfl rfl ?_
      refine st_nil ?_
      refine wp_bit 24 rfl fun b hb3 => ?_
      cases b
      · try simp only [decide_eq_true_eq, decide_eq_false_iff_not, Bool.not_eq_true', Bool.not_eq_false', Int.not_lt, Int.not_le] at hb3
        refine wp_f rfl ?_
        refine awp_skip ?_
        refine ab_norm ?_
        refine at_norm ?_
        refine wp_reg ?_
        refine st_pop rfl rfl rfl rfl ?_
        refine st_nil ?_
        refine awp_ret ?_
        refine ret_ret rfl rfl ?_
        refine bigR _ _ (.refl _) rfl rfl ⟨_, rfl⟩ (sto_ok s) ⟨?_, rfl⟩
        generalize evE ns (getS s) x = p at *
        unfold holdsP
        first
          | (rw [if_neg (by assumption)]; done)
          | (rw [if_pos (by assumption)]; first
               | (rw [if_neg (by assumption)]; done)
               | (rw [if_pos (by assumption)]; simp_all; done))
      · try simp only [decide_eq_true_eq, decide_eq_false_iff_not, Bool.not_eq_true', Bool.not_eq_false', Int.not_lt, Int.not_le] at hb3
        refine wp_t rfl ?_
        refine wp_reg ?_
        refine st_pop rfl rfl rfl rfl ?_
        refine st_nil ?_
        refine awp_ret ?_
        refine ab_ret ?_
        refine at_ret ?_
        refine ret_ret rfl rfl ?_
        refine bigR _ _ (.refl _) rfl rfl ⟨_, rfl⟩ (sto_ok s) ⟨?_, rfl⟩
        generalize evE ns (getS s) x = p at *
        unfold holdsP
        first
          | (rw [if_neg (by assumption)]; done)
          | (rw [if_pos (by assumption)]; first
               | (rw [if_neg (by assumption)]; done)
               | (rw [if_pos (by assumption)]; simp_all; done))
    · try simp only [decide_eq_true_eq, decide_eq_false_iff_not, Bool.not_eq_true', Bool.not_eq_false', Int.not_lt, Int.not_le] at hb2
      refine wp_t rfl ?_
      refine wp_reg ?_
      refine st_pop rfl rfl rfl rfl ?_
      refine st_nil ?_
      refine awp_ret ?_
      refine ab_ret ?_
      refine at_ret ?_
      refine ret_ret rfl rfl ?_
      refine bigR _ _ (.refl _) rfl rfl ⟨_, rfl⟩ (sto_ok s) ⟨?_, rfl⟩
      generalize evE ns (getS s) x = p at *
      unfold holdsP
      first
        | (rw [if_neg (by assumption)]; done)
        | (rw [if_pos (by assumption)]; first
             | (rw [if_neg (by assumption)]; done)
             | (rw [if_pos (by assumption)]; simp_all; done))
  · try simp only [decide_eq_true_eq, decide_eq_false_iff_not, Bool.not_eq_true', Bool.not_eq_false', Int.not_lt, Int.not_le] at hb1
    refine wp_t rfl ?_
    refine wp_reg ?_
    refine st_pop rfl rfl rfl rfl ?_
    refine st_pop rfl rfl rfl rfl ?_
    refine st_nil ?_
    refine awp_ret ?_
    refine ab_ret ?_
    refine at_ret ?_
    refine ret_ret rfl rfl ?_
    refine bigR _ _ (.refl _) rfl rfl ⟨_, rfl⟩ (sto_ok s) ⟨?_, rfl⟩
    generalize evE ns (getS s) x = p at *
    unfold holdsP
    first
      | (rw [if_neg (by assumption)]; done)
      | (rw [if_pos (by assumption)]; first
           | (rw [if_neg (by assumption)]; done)
           | (rw [if_pos (by assumption)]; simp_all; done))
theorem holds_c (ns : List Nod) (x : Scn) (s : Sto) (hs : StoOk s) (hx : inI x.now ∧ inI x.began) (hns : ∀ n ∈ ns, n.fit ∧ inI n.value.int) (hsz : ns.length ≤ maxI) (H : AH) (b m : Nat) (hb : H.bs[b]? = some (.cells [.m m])) (hm : H.bs[m]? = some (mapB Cel.av Hld.agg s)) : ACalls tt 8 [.agg [.l none 63 (ns.map Nod.av)], .ptr b 0, .agg [.s x.sub, .s x.obj, .i .i64 x.now, .i .i64 x.began]] H (fun r H' => r = .i .i64 (holdsP (evE ns (getS s) x)) ∧ H' = H) :=
  acalls_stR (ok_expr 2 ns _ rfl) rfl (holds0 ns x s hs hx hns hsz) H b m hb hm (by simp only [renL, ren, clean_renLL _ (nods_clean ns)]; rfl)
end Go.Proofs.Ytlclgpiabjlpbaa.Am

