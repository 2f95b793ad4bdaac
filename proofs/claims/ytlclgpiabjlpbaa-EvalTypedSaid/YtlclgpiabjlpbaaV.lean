/- Walks: package value and the reference's layer 3: names, texts, values. -/
import Derived.Test.YtlclgpiabjlpbaaSp
import Derived.Test.YtlclgpiabjlpbaaTy
import Derived.Test.YtlclgpiabjlpbaaRows
import Derived.Test.YtlclgpiabjlpbaaFl
namespace Go.Proofs.Ytlclgpiabjlpbaa.Am
open Go.RowKit
set_option linter.unusedVariables false
set_option linter.unusedSimpArgs false
set_option maxRecDepth 100000

theorem reserved_c (s : ByteArray) : ∀ H, ACalls tt 67 [.s s] H (fun res_ H' => res_ = .b (reserved s) ∧ H' = H) := by
  refine body_calc (T := tt) Try.func67 rfl Try.ntmps67 rfl rfl (by rfl) (by rfl) ?_
  refine wp_reg ?_
  refine st_pop rfl rfl rfl rfl ?_
  refine st_nil ?_
  refine awp_seq ?_
  refine wp_reg ?_
  refine st_pop rfl rfl rfl rfl ?_
  refine st_nil ?_
  refine awp_block ?_
  refine awp_seq ?_
  refine wp_reg ?_
  refine st_pop rfl rfl rfl rfl ?_
  refine st_pop rfl rfl rfl rfl ?_
  refine st_nil ?_
  refine wp_bit 4 rfl fun b hb1 => ?_
  cases b
  · try simp only [decide_eq_true_eq, decide_eq_false_iff_not, Bool.not_eq_true', Bool.not_eq_false', Int.not_lt, Int.not_le] at hb1
    refine wp_f rfl ?_
    refine wp_reg ?_
    refine st_pop rfl rfl rfl rfl ?_
    refine st_pop rfl rfl rfl rfl ?_
    refine st_nil ?_
    refine wp_bit 4 rfl fun b hb2 => ?_
    cases b
    · try simp only [decide_eq_true_eq, decide_eq_false_iff_not, Bool.not_eq_true', Bool.not_eq_false', Int.not_lt, Int.not_le] at hb2
      refine wp_f rfl ?_
      refine wp_reg ?_
      refine st_pop rfl rfl rfl rfl ?_
      refine st_pop rfl rfl rfl rfl ?_
      refine st_nil ?_
      refine wp_bit 4 rfl fun b hb3 => ?_
      cases b
      · try simp only [decide_eq_true_eq, decide_eq_false_iff_not, Bool.not_eq_true', Bool.not_eq_false', Int.not_lt, Int.not_le] at hb3
        refine wp_f rfl ?_
        refine wp_reg ?_
        refine st_pop rfl rfl rfl rfl ?_
        refine st_pop rfl rfl rfl rfl ?_
        refine st_nil ?_
        refine wp_bit 4 rfl fun b hb4 => ?_
        cases b
        · try simp only [decide_eq_true_eq, decide_eq_false_iff_not, Bool.not_eq_true', Bool.not_eq_false', Int.not_lt, Int.not_le] at hb4
          refine wp_f rfl ?_
          refine wp_reg ?_
          refine st_pop rfl rfl rfl rfl ?_
          refine st_pop rfl rfl rfl rfl ?_
          refine st_nil ?_
          refine wp_bit 4 rfl fun b hb5 => ?_
          cases b
          · try simp only [decide_eq_true_eq, decide_eq_false_iff_not, Bool.not_eq_true', Bool.not_eq_false', Int.not_lt, Int.not_le] at hb5
            refine wp_f rfl ?_
            refine wp_reg ?_
            refine st_pop rfl rfl rfl rfl ?_
            refine st_pop rfl rfl rfl rfl ?_
            refine st_nil ?_
            refine wp_bit 4 rfl fun b hb6 => ?_
            cases b
            · try simp only [decide_eq_true_eq, decide_eq_false_iff_not, Bool.not_eq_true', Bool.not_eq_false', Int.not_lt, Int.not_le] at hb6
              refine wp_f rfl ?_
              refine wp_reg ?_
              refine st_pop rfl rfl rfl rfl ?_
              refine st_pop rfl rfl rfl rfl ?_
              refine st_nil ?_
              refine wp_bit 4 rfl fun b hb7 => ?_
              cases b
              · try simp only [decide_eq_true_eq, decide_eq_false_iff_not, Bool.not_eq_true', Bool.not_eq_false', Int.not_lt, Int.not_le] at hb7
                refine wp_f rfl ?_
                refine wp_reg ?_
                refine st_pop rfl rfl rfl rfl ?_
                refine st_pop rfl rfl rfl rfl ?_
                refine st_nil ?_
                refine wp_bit 4 rfl fun b hb8 => ?_
                cases b
                · try simp only [decide_eq_true_eq, decide_eq_false_iff_not, Bool.not_eq_true', Bool.not_eq_false', Int.not_lt, Int.not_le] at hb8
                  refine wp_f rfl ?_
                  refine wp_reg ?_
                  refine st_pop rfl rfl rfl rfl ?_
                  refine st_pop rfl rfl rfl rfl ?_
                  refine st_nil ?_
                  refine wp_bit 4 rfl fun b hb9 => ?_
                  cases b
                  · try simp only [decide_eq_true_eq, decide_eq_false_iff_not, Bool.not_eq_true', Bool.not_eq_false', Int.not_lt, Int.not_le] at hb9
                    refine wp_f rfl ?_
                    refine awp_region ?_
                    refine st_pop rfl rfl rfl rfl ?_
                    refine st_pop rfl rfl rfl rfl ?_
                    refine st_nil ?_
                    refine at_norm ?_
                    refine wp_bit 4 rfl fun b hb10 => ?_
                    cases b
                    · try simp only [decide_eq_true_eq, decide_eq_false_iff_not, Bool.not_eq_true', Bool.not_eq_false', Int.not_lt, Int.not_le] at hb10
                      refine wp_f rfl ?_
                      refine awp_skip ?_
                      refine ab_norm ?_
                      refine at_norm ?_
                      refine wp_reg ?_
                      refine st_pop rfl rfl rfl rfl ?_
                      refine st_nil ?_
                      refine awp_ret ?_
                      refine ret_ret rfl rfl ?_
                      refine wk_b ?_; simp_all [reserved, words]
                    · try simp only [decide_eq_true_eq, decide_eq_false_iff_not, Bool.not_eq_true', Bool.not_eq_false', Int.not_lt, Int.not_le] at hb10
                      refine wp_t rfl ?_
                      refine wp_reg ?_
                      refine st_pop rfl rfl rfl rfl ?_
                      refine st_nil ?_
                      refine awp_ret ?_
                      refine ab_ret ?_
                      refine at_ret ?_
                      refine ret_ret rfl rfl ?_
                      refine wk_b ?_; simp_all [reserved, words]
                  · try simp only [decide_eq_true_eq, decide_eq_false_iff_not, Bool.not_eq_true', Bool.not_eq_false', Int.not_lt, Int.not_le] at hb9
                    refine wp_t rfl ?_
                    refine awp_skip ?_
                    refine at_norm ?_
                    refine wp_t rfl ?_
                    refine wp_reg ?_
                    refine st_pop rfl rfl rfl rfl ?_
                    refine st_nil ?_
                    refine awp_ret ?_
                    refine ab_ret ?_
                    refine at_ret ?_
                    refine ret_ret rfl rfl ?_
                    refine wk_b ?_; simp_all [reserved, words]
                · try simp only [decide_eq_true_eq, decide_eq_false_iff_not, Bool.not_eq_true', Bool.not_eq_false', Int.not_lt, Int.not_le] at hb8
                  refine wp_t rfl ?_
                  refine awp_skip ?_
                  refine at_norm ?_
                  refine wp_t rfl ?_
                  refine wp_reg ?_
                  refine st_pop rfl rfl rfl rfl ?_
                  refine st_nil ?_
                  refine awp_ret ?_
                  refine ab_ret ?_
                  refine at_ret ?_
                  refine ret_ret rfl rfl ?_
                  refine wk_b ?_; simp_all [reserved, words]
              · try simp only [decide_eq_true_eq, decide_eq_false_iff_not, Bool.not_eq_true', Bool.not_eq_false', Int.not_lt, Int.not_le] at hb7
                refine wp_t rfl ?_
                refine awp_skip ?_
                refine at_norm ?_
                refine wp_t rfl ?_
                refine wp_reg ?_
                refine st_pop rfl rfl rfl rfl ?_
                refine st_nil ?_
                refine awp_ret ?_
                refine ab_ret ?_
                refine at_ret ?_
                refine ret_ret rfl rfl ?_
                refine wk_b ?_; simp_all [reserved, words]
            · try simp only [decide_eq_true_eq, decide_eq_false_iff_not, Bool.not_eq_true', Bool.not_eq_false', Int.not_lt, Int.not_le] at hb6
              refine wp_t rfl ?_
              refine awp_skip ?_
              refine at_norm ?_
              refine wp_t rfl ?_
              refine wp_reg ?_
              refine st_pop rfl rfl rfl rfl ?_
              refine st_nil ?_
              refine awp_ret ?_
              refine ab_ret ?_
              refine at_ret ?_
              refine ret_ret rfl rfl ?_
              refine wk_b ?_; simp_all [reserved, words]
          · try simp only [decide_eq_true_eq, decide_eq_false_iff_not, Bool.not_eq_true', Bool.not_eq_false', Int.not_lt, Int.not_le] at hb5
            refine wp_t rfl ?_
            refine awp_skip ?_
            refine at_norm ?_
            refine wp_t rfl ?_
            refine wp_reg ?_
            refine st_pop rfl rfl rfl rfl ?_
            refine st_nil ?_
            refine awp_ret ?_
            refine ab_ret ?_
            refine at_ret ?_
            refine ret_ret rfl rfl ?_
            refine wk_b ?_; simp_all [reserved, words]
        · try simp only [decide_eq_true_eq, decide_eq_false_iff_not, Bool.not_eq_true', Bool.not_eq_false', Int.not_lt, Int.not_le] at hb4
          refine wp_t rfl ?_
          refine awp_skip ?_
          refine at_norm ?_
          refine wp_t rfl ?_
          refine wp_reg ?_
          refine st_pop rfl rfl rfl rfl ?_
          refine st_nil ?_
          refine awp_ret ?_
          refine ab_ret ?_
          refine at_ret ?_
          refine ret_ret rfl rfl ?_
          refine wk_b ?_; simp_all [reserved, words]
      · try simp only [decide_eq_true_eq, decide_eq_false_iff_not, Bool.not_eq_true', Bool.not_eq_false', Int.not_lt, Int.not_le] at hb3
        refine wp_t rfl ?_
        refine awp_skip ?_
        refine at_norm ?_
        refine wp_t rfl ?_
        refine wp_reg ?_
        refine st_pop rfl rfl rfl rfl ?_
        refine st_nil ?_
        refine awp_ret ?_
        refine ab_ret ?_
        refine at_ret ?_
        refine ret_ret rfl rfl ?_
        refine wk_b ?_; simp_all [reserved, words]
    · try simp only [decide_eq_true_eq, decide_eq_false_iff_not, Bool.not_eq_true', Bool.not_eq_false', Int.not_lt, Int.not_le] at hb2
      refine wp_t rfl ?_
      refine awp_skip ?_
      refine at_norm ?_
      refine wp_t rfl ?_
      refine wp_reg ?_
      refine st_pop rfl rfl rfl rfl ?_
      refine st_nil ?_
      refine awp_ret ?_
      refine ab_ret ?_
      refine at_ret ?_
      refine ret_ret rfl rfl ?_
      refine wk_b ?_; simp_all [reserved, words]
  · try simp only [decide_eq_true_eq, decide_eq_false_iff_not, Bool.not_eq_true', Bool.not_eq_false', Int.not_lt, Int.not_le] at hb1
    refine wp_t rfl ?_
    refine awp_skip ?_
    refine at_norm ?_
    refine wp_t rfl ?_
    refine wp_reg ?_
    refine st_pop rfl rfl rfl rfl ?_
    refine st_nil ?_
    refine awp_ret ?_
    refine ab_ret ?_
    refine at_ret ?_
    refine ret_ret rfl rfl ?_
    refine wk_b ?_; simp_all [reserved, words]
theorem scope_c (n : Int) : ∀ H, ACalls tt 42 [.i .i64 n] H (fun res_ H' => res_ = .b (scopeB n) ∧ H' = H) := by
  refine body_calc (T := tt) Try.func42 rfl Try.ntmps42 rfl rfl (by rfl) (by rfl) ?_
  refine wp_reg ?_
  refine st_pop rfl rfl rfl rfl ?_
  refine st_nil ?_
  refine wp_reg ?_
  refine st_pop rfl rfl rfl rfl ?_
  refine st_pop rfl rfl rfl rfl ?_
  refine st_pop rfl rfl rfl rfl ?_
  refine st_bit 5 rfl fun b hb1 => ?_
  cases b
  · try simp only [decide_eq_true_eq, decide_eq_false_iff_not, Bool.not_eq_true', Bool.not_eq_false', Int.not_lt, Int.not_le] at hb1
    refine st_skip rfl rfl rfl ?_
    refine st_skip rfl rfl rfl ?_
    refine st_pop rfl rfl rfl rfl ?_
    refine st_pop rfl rfl rfl rfl ?_
    refine st_nil ?_
    refine awp_ret ?_
    refine ret_ret rfl rfl ?_
    refine wk_b ?_; simp only [scopeB]; simp_all <;> omega
  · try simp only [decide_eq_true_eq, decide_eq_false_iff_not, Bool.not_eq_true', Bool.not_eq_false', Int.not_lt, Int.not_le] at hb1
    refine st_pop rfl rfl rfl rfl ?_
    refine st_pop rfl rfl rfl rfl ?_
    refine st_pop rfl rfl rfl rfl ?_
    refine st_pop rfl rfl rfl rfl ?_
    refine st_nil ?_
    refine awp_ret ?_
    refine ret_ret rfl rfl ?_
    refine wk_b ?_; simp only [scopeB]; simp_all <;> omega
theorem name_c (s : ByteArray) : ∀ H, ACalls tt 41 [.s s] H (fun res_ H' => res_ = .b (nameOk s) ∧ H' = H) := by
  refine body_calc (T := tt) Try.func41 rfl Try.ntmps41 rfl rfl (by rfl) (by rfl) ?_
  refine wp_reg ?_
  refine st_pop rfl rfl rfl rfl ?_
  refine st_nil ?_
  refine awp_seq ?_
  refine wp_reg ?_
  refine st_pop rfl rfl rfl rfl ?_
  refine st_pop rfl rfl rfl rfl ?_
  refine st_pop rfl rfl rfl rfl ?_
  refine st_bit 7 rfl fun b hb1 => ?_
  cases b
  · try simp only [decide_eq_true_eq, decide_eq_false_iff_not, Bool.not_eq_true', Bool.not_eq_false', Int.not_lt, Int.not_le] at hb1
    have hn0 : s.size ≠ 0 := fun q => hb1 (ba_empty.2 q)
    obtain ⟨c0, hc0⟩ := ba_some (s := s) (i := 0) (by omega)
    refine st_pop rfl rfl rfl rfl ?_
    refine st_pop rfl rfl rfl rfl ?_
    refine st_pop rfl rfl rfl rfl ?_
    refine st_pop rfl rfl rfl rfl ?_
    refine st_pop rfl rfl rfl rfl ?_
    refine st_bit 12 rfl fun b hb2 => ?_
    cases b
    · try simp only [decide_eq_true_eq, decide_eq_false_iff_not, Bool.not_eq_true', Bool.not_eq_false', Int.not_lt, Int.not_le] at hb2
      refine st_pop rfl rfl rfl rfl ?_
      refine st_idxS (n := 0) c0 rfl rfl rfl rfl rfl rfl rfl hc0 ?_
      refine st_pop rfl rfl rfl rfl ?_
      refine st_pop rfl rfl rfl rfl ?_
      refine st_pop rfl rfl rfl rfl ?_
      refine st_bit 17 rfl fun b hb3 => ?_
      cases b
      · try simp only [decide_eq_true_eq, decide_eq_false_iff_not, Bool.not_eq_true', Bool.not_eq_false', Int.not_lt, Int.not_le] at hb3
        refine st_pop rfl rfl rfl rfl ?_
        refine st_idxS (n := 0) c0 rfl rfl rfl rfl rfl rfl rfl hc0 ?_
        refine st_pop rfl rfl rfl rfl ?_
        refine st_pop rfl rfl rfl rfl ?_
        refine st_pop rfl rfl rfl rfl ?_
        refine st_bit 22 rfl fun b hb4 => ?_
        cases b
        · try simp only [decide_eq_true_eq, decide_eq_false_iff_not, Bool.not_eq_true', Bool.not_eq_false', Int.not_lt, Int.not_le] at hb4
          refine st_pop rfl rfl rfl rfl ?_
          refine st_calc (xs := [.tmp 23]) _ rfl rfl rfl rfl Try.func67 rfl rfl rfl (reserved_c _ _) ?_
          refine st_pop rfl rfl rfl rfl ?_
          refine st_nil ?_
          refine wp_bit 25 rfl fun b hb5 => ?_
          cases b
          · try simp only [decide_eq_true_eq, decide_eq_false_iff_not, Bool.not_eq_true', Bool.not_eq_false', Int.not_lt, Int.not_le] at hb5
            refine wp_f rfl ?_
            refine awp_skip ?_
            refine at_norm ?_
            refine awp_seq ?_
            refine wp_reg ?_
            refine st_pop rfl rfl rfl rfl ?_
            refine st_nil ?_
            refine awp_block ?_
            refine wp_loop (α := Nat) (fun k => frl [(0, .s s), (3, .i .i64 (k : Nat))]) (fun _ => ⟨[], []⟩) (fun k => k ≤ s.size ∧ ∀ i c, i < k → s[i]? = some c → nameC c = true) (fun k => s.size - k) 0 ⟨Nat.zero_le _, fun i c h => absurd h (Nat.not_lt_zero _)⟩ (wk_frl (wk_cons rfl (wk_cons rfl wk_nil))) rfl ?_
            rintro k ⟨hk, hall⟩
            refine awp_seq ?_
            refine wp_reg ?_
            refine st_pop rfl rfl rfl rfl ?_
            refine st_pop rfl rfl rfl rfl ?_
            refine st_pop rfl rfl rfl rfl ?_
            refine st_pop rfl rfl rfl rfl ?_
            refine st_nil ?_
            refine wp_bit 29 rfl fun b hb6 => ?_
            cases b
            · try simp only [decide_eq_true_eq, decide_eq_false_iff_not, Bool.not_eq_true', Bool.not_eq_false', Int.not_lt, Int.not_le] at hb6
              refine wp_f rfl ?_
              refine awp_exit ?_
              refine at_exit ?_
              refine at_exit ?_
              refine ab_hit ?_
              refine at_norm ?_
              refine wp_reg ?_
              refine st_pop rfl rfl rfl rfl ?_
              refine st_nil ?_
              refine awp_ret ?_
              refine ret_ret rfl rfl ?_
              refine wk_b ?_
              first
                | (have hb := ball_not (p := nameC) hc (by simp [nameC, lowC]; omega); simp [nameOk, hb]; done)
                | (have hb := ball_of (p := nameC) (k := k) (by omega) hall; have hf : firstOk s = true := by (simp [firstOk, hc0, lowC]; omega)
                   simp [nameOk, hb, hf, *]; omega)
                | (have hf : firstOk s = false := by (simp [firstOk, hc0, lowC]; omega)
                   simp [nameOk, hf]; done)
                | (have hz : decide (1 ≤ s.size) = false := by (rw [decide_eq_false_iff_not]; omega)
                   simp [nameOk, hz]; done)
                | (have hz : decide (s.size ≤ 16) = false := by (rw [decide_eq_false_iff_not]; omega)
                   simp [nameOk, hz]; done)
                | (simp [nameOk, *]; done)
            · try simp only [decide_eq_true_eq, decide_eq_false_iff_not, Bool.not_eq_true', Bool.not_eq_false', Int.not_lt, Int.not_le] at hb6
              obtain ⟨c, hc⟩ := ba_some (s := s) (i := k) (by omega)
              refine wp_t rfl ?_
              refine awp_skip ?_
              refine at_norm ?_
              refine awp_seq ?_
              refine awp_block ?_
              refine wp_reg ?_
              refine st_pop rfl rfl rfl rfl ?_
              refine st_pop rfl rfl rfl rfl ?_
              refine st_idxS (n := k) c rfl rfl rfl rfl rfl rfl rfl hc ?_
              refine st_pop rfl rfl rfl rfl ?_
              refine st_nil ?_
              refine wp_reg ?_
              refine st_pop rfl rfl rfl rfl ?_
              refine st_pop rfl rfl rfl rfl ?_
              refine st_pop rfl rfl rfl rfl ?_
              refine st_bit 37 rfl fun b hb7 => ?_
              cases b
              · try simp only [decide_eq_true_eq, decide_eq_false_iff_not, Bool.not_eq_true', Bool.not_eq_false', Int.not_lt, Int.not_le] at hb7
                refine st_pop rfl rfl rfl rfl ?_
                refine st_pop rfl rfl rfl rfl ?_
                refine st_pop rfl rfl rfl rfl ?_
                refine st_pop rfl rfl rfl rfl ?_
                refine st_bit 41 rfl fun b hb8 => ?_
                cases b
                · try simp only [decide_eq_true_eq, decide_eq_false_iff_not, Bool.not_eq_true', Bool.not_eq_false', Int.not_lt, Int.not_le] at hb8
                  refine st_skip rfl rfl rfl ?_
                  refine st_skip rfl rfl rfl ?_
                  refine st_skip rfl rfl rfl ?_
                  refine st_skip rfl rfl rfl ?_
                  refine st_skip rfl rfl rfl ?_
                  refine st_skip rfl rfl rfl ?_
                  refine st_pop rfl rfl rfl rfl ?_
                  refine st_pop rfl rfl rfl rfl ?_
                  refine st_skip rfl rfl rfl ?_
                  refine st_skip rfl rfl rfl ?_
                  refine st_pop rfl rfl rfl rfl ?_
                  refine st_nil ?_
                  refine wp_f rfl ?_
                  refine awp_skip ?_
                  refine ab_norm ?_
                  refine at_norm ?_
                  refine awp_region ?_
                  refine st_pop rfl rfl rfl rfl ?_
                  refine st_pop rfl rfl rfl rfl ?_
                  refine st_pop rfl rfl rfl rfl ?_
                  refine st_nil ?_
                  refine at_norm ?_
                  refine ⟨k + 1, ⟨by omega, ball_step hc (by simp [nameC, lowC]; omega) hall⟩, wk_frl (wk_cons rfl (wk_cons (wrap_succ (by omega)) wk_nil)), rfl, by omega⟩
                · try simp only [decide_eq_true_eq, decide_eq_false_iff_not, Bool.not_eq_true', Bool.not_eq_false', Int.not_lt, Int.not_le] at hb8
                  refine st_pop rfl rfl rfl rfl ?_
                  refine st_pop rfl rfl rfl rfl ?_
                  refine st_pop rfl rfl rfl rfl ?_
                  refine st_bit 44 rfl fun b hb9 => ?_
                  cases b
                  · try simp only [decide_eq_true_eq, decide_eq_false_iff_not, Bool.not_eq_true', Bool.not_eq_false', Int.not_lt, Int.not_le] at hb9
                    refine st_pop rfl rfl rfl rfl ?_
                    refine st_pop rfl rfl rfl rfl ?_
                    refine st_pop rfl rfl rfl rfl ?_
                    refine st_pop rfl rfl rfl rfl ?_
                    refine st_pop rfl rfl rfl rfl ?_
                    refine st_bit 49 rfl fun b hb10 => ?_
                    cases b
                    · try simp only [decide_eq_true_eq, decide_eq_false_iff_not, Bool.not_eq_true', Bool.not_eq_false', Int.not_lt, Int.not_le] at hb10
                      refine st_skip rfl rfl rfl ?_
                      refine st_skip rfl rfl rfl ?_
                      refine st_pop rfl rfl rfl rfl ?_
                      refine st_nil ?_
                      refine wp_f rfl ?_
                      refine awp_skip ?_
                      refine ab_norm ?_
                      refine at_norm ?_
                      refine awp_region ?_
                      refine st_pop rfl rfl rfl rfl ?_
                      refine st_pop rfl rfl rfl rfl ?_
                      refine st_pop rfl rfl rfl rfl ?_
                      refine st_nil ?_
                      refine at_norm ?_
                      refine ⟨k + 1, ⟨by omega, ball_step hc (by simp [nameC, lowC]; omega) hall⟩, wk_frl (wk_cons rfl (wk_cons (wrap_succ (by omega)) wk_nil)), rfl, by omega⟩
                    · try simp only [decide_eq_true_eq, decide_eq_false_iff_not, Bool.not_eq_true', Bool.not_eq_false', Int.not_lt, Int.not_le] at hb10
                      refine st_pop rfl rfl rfl rfl ?_
                      refine st_pop rfl rfl rfl rfl ?_
                      refine st_pop rfl rfl rfl rfl ?_
                      refine st_nil ?_
                      refine wp_bit 52 rfl fun b hb11 => ?_
                      cases b
                      · try simp only [decide_eq_true_eq, decide_eq_false_iff_not, Bool.not_eq_true', Bool.not_eq_false', Int.not_lt, Int.not_le] at hb11
                        refine wp_f rfl ?_
                        refine awp_skip ?_
                        refine ab_norm ?_
                        refine at_norm ?_
                        refine awp_region ?_
                        refine st_pop rfl rfl rfl rfl ?_
                        refine st_pop rfl rfl rfl rfl ?_
                        refine st_pop rfl rfl rfl rfl ?_
                        refine st_nil ?_
                        refine at_norm ?_
                        refine ⟨k + 1, ⟨by omega, ball_step hc (by simp [nameC, lowC]; omega) hall⟩, wk_frl (wk_cons rfl (wk_cons (wrap_succ (by omega)) wk_nil)), rfl, by omega⟩
                      · try simp only [decide_eq_true_eq, decide_eq_false_iff_not, Bool.not_eq_true', Bool.not_eq_false', Int.not_lt, Int.not_le] at hb11
                        refine wp_t rfl ?_
                        refine wp_reg ?_
                        refine st_pop rfl rfl rfl rfl ?_
                        refine st_nil ?_
                        refine awp_ret ?_
                        refine ab_ret ?_
                        refine at_ret ?_
                        refine at_ret ?_
                        refine ab_ret ?_
                        refine at_ret ?_
                        refine ret_ret rfl rfl ?_
                        refine wk_b ?_
                        first
                          | (have hb := ball_not (p := nameC) hc (by simp [nameC, lowC]; omega); simp [nameOk, hb]; done)
                          | (have hb := ball_of (p := nameC) (k := k) (by omega) hall; have hf : firstOk s = true := by (simp [firstOk, hc0, lowC]; omega)
                             simp [nameOk, hb, hf, *]; omega)
                          | (have hf : firstOk s = false := by (simp [firstOk, hc0, lowC]; omega)
                             simp [nameOk, hf]; done)
                          | (have hz : decide (1 ≤ s.size) = false := by (rw [decide_eq_false_iff_not]; omega)
                             simp [nameOk, hz]; done)
                          | (have hz : decide (s.size ≤ 16) = false := by (rw [decide_eq_false_iff_not]; omega)
                             simp [nameOk, hz]; done)
                          | (simp [nameOk, *]; done)
                  · try simp only [decide_eq_true_eq, decide_eq_false_iff_not, Bool.not_eq_true', Bool.not_eq_false', Int.not_lt, Int.not_le] at hb9
                    refine st_skip rfl rfl rfl ?_
                    refine st_skip rfl rfl rfl ?_
                    refine st_pop rfl rfl rfl rfl ?_
                    refine st_pop rfl rfl rfl rfl ?_
                    refine st_pop rfl rfl rfl rfl ?_
                    refine st_pop rfl rfl rfl rfl ?_
                    refine st_pop rfl rfl rfl rfl ?_
                    refine st_pop rfl rfl rfl rfl ?_
                    refine st_nil ?_
                    refine wp_bit 52 rfl fun b hb12 => ?_
                    cases b
                    · try simp only [decide_eq_true_eq, decide_eq_false_iff_not, Bool.not_eq_true', Bool.not_eq_false', Int.not_lt, Int.not_le] at hb12
                      refine wp_f rfl ?_
                      refine awp_skip ?_
                      refine ab_norm ?_
                      refine at_norm ?_
                      refine awp_region ?_
                      refine st_pop rfl rfl rfl rfl ?_
                      refine st_pop rfl rfl rfl rfl ?_
                      refine st_pop rfl rfl rfl rfl ?_
                      refine st_nil ?_
                      refine at_norm ?_
                      refine ⟨k + 1, ⟨by omega, ball_step hc (by simp [nameC, lowC]; omega) hall⟩, wk_frl (wk_cons rfl (wk_cons (wrap_succ (by omega)) wk_nil)), rfl, by omega⟩
                    · try simp only [decide_eq_true_eq, decide_eq_false_iff_not, Bool.not_eq_true', Bool.not_eq_false', Int.not_lt, Int.not_le] at hb12
                      refine wp_t rfl ?_
                      refine wp_reg ?_
                      refine st_pop rfl rfl rfl rfl ?_
                      refine st_nil ?_
                      refine awp_ret ?_
                      refine ab_ret ?_
                      refine at_ret ?_
                      refine at_ret ?_
                      refine ab_ret ?_
                      refine at_ret ?_
                      refine ret_ret rfl rfl ?_
                      refine wk_b ?_
                      first
                        | (have hb := ball_not (p := nameC) hc (by simp [nameC, lowC]; omega); simp [nameOk, hb]; done)
                        | (have hb := ball_of (p := nameC) (k := k) (by omega) hall; have hf : firstOk s = true := by (simp [firstOk, hc0, lowC]; omega)
                           simp [nameOk, hb, hf, *]; omega)
                        | (have hf : firstOk s = false := by (simp [firstOk, hc0, lowC]; omega)
                           simp [nameOk, hf]; done)
                        | (have hz : decide (1 ≤ s.size) = false := by (rw [decide_eq_false_iff_not]; omega)
                           simp [nameOk, hz]; done)
                        | (have hz : decide (s.size ≤ 16) = false := by (rw [decide_eq_false_iff_not]; omega)
                           simp [nameOk, hz]; done)
                        | (simp [nameOk, *]; done)
              · try simp only [decide_eq_true_eq, decide_eq_false_iff_not, Bool.not_eq_true', Bool.not_eq_false', Int.not_lt, Int.not_le] at hb7
                refine st_skip rfl rfl rfl ?_
                refine st_skip rfl rfl rfl ?_
                refine st_pop rfl rfl rfl rfl ?_
                refine st_pop rfl rfl rfl rfl ?_
                refine st_pop rfl rfl rfl rfl ?_
                refine st_pop rfl rfl rfl rfl ?_
                refine st_pop rfl rfl rfl rfl ?_
                refine st_bit 44 rfl fun b hb13 => ?_
                cases b
                · try simp only [decide_eq_true_eq, decide_eq_false_iff_not, Bool.not_eq_true', Bool.not_eq_false', Int.not_lt, Int.not_le] at hb13
                  refine st_pop rfl rfl rfl rfl ?_
                  refine st_pop rfl rfl rfl rfl ?_
                  refine st_pop rfl rfl rfl rfl ?_
                  refine st_pop rfl rfl rfl rfl ?_
                  refine st_pop rfl rfl rfl rfl ?_
                  refine st_bit 49 rfl fun b hb14 => ?_
                  cases b
                  · try simp only [decide_eq_true_eq, decide_eq_false_iff_not, Bool.not_eq_true', Bool.not_eq_false', Int.not_lt, Int.not_le] at hb14
                    refine st_skip rfl rfl rfl ?_
                    refine st_skip rfl rfl rfl ?_
                    refine st_pop rfl rfl rfl rfl ?_
                    refine st_nil ?_
                    refine wp_f rfl ?_
                    refine awp_skip ?_
                    refine ab_norm ?_
                    refine at_norm ?_
                    refine awp_region ?_
                    refine st_pop rfl rfl rfl rfl ?_
                    refine st_pop rfl rfl rfl rfl ?_
                    refine st_pop rfl rfl rfl rfl ?_
                    refine st_nil ?_
                    refine at_norm ?_
                    refine ⟨k + 1, ⟨by omega, ball_step hc (by simp [nameC, lowC]; omega) hall⟩, wk_frl (wk_cons rfl (wk_cons (wrap_succ (by omega)) wk_nil)), rfl, by omega⟩
                  · try simp only [decide_eq_true_eq, decide_eq_false_iff_not, Bool.not_eq_true', Bool.not_eq_false', Int.not_lt, Int.not_le] at hb14
                    refine st_pop rfl rfl rfl rfl ?_
                    refine st_pop rfl rfl rfl rfl ?_
                    refine st_pop rfl rfl rfl rfl ?_
                    refine st_nil ?_
                    refine wp_bit 52 rfl fun b hb15 => ?_
                    cases b
                    · try simp only [decide_eq_true_eq, decide_eq_false_iff_not, Bool.not_eq_true', Bool.not_eq_false', Int.not_lt, Int.not_le] at hb15
                      refine wp_f rfl ?_
                      refine awp_skip ?_
                      refine ab_norm ?_
                      refine at_norm ?_
                      refine awp_region ?_
                      refine st_pop rfl rfl rfl rfl ?_
                      refine st_pop rfl rfl rfl rfl ?_
                      refine st_pop rfl rfl rfl rfl ?_
                      refine st_nil ?_
                      refine at_norm ?_
                      refine ⟨k + 1, ⟨by omega, ball_step hc (by simp [nameC, lowC]; omega) hall⟩, wk_frl (wk_cons rfl (wk_cons (wrap_succ (by omega)) wk_nil)), rfl, by omega⟩
                    · try simp only [decide_eq_true_eq, decide_eq_false_iff_not, Bool.not_eq_true', Bool.not_eq_false', Int.not_lt, Int.not_le] at hb15
                      refine wp_t rfl ?_
                      refine wp_reg ?_
                      refine st_pop rfl rfl rfl rfl ?_
                      refine st_nil ?_
                      refine awp_ret ?_
                      refine ab_ret ?_
                      refine at_ret ?_
                      refine at_ret ?_
                      refine ab_ret ?_
                      refine at_ret ?_
                      refine ret_ret rfl rfl ?_
                      refine wk_b ?_
                      first
                        | (have hb := ball_not (p := nameC) hc (by simp [nameC, lowC]; omega); simp [nameOk, hb]; done)
                        | (have hb := ball_of (p := nameC) (k := k) (by omega) hall; have hf : firstOk s = true := by (simp [firstOk, hc0, lowC]; omega)
                           simp [nameOk, hb, hf, *]; omega)
                        | (have hf : firstOk s = false := by (simp [firstOk, hc0, lowC]; omega)
                           simp [nameOk, hf]; done)
                        | (have hz : decide (1 ≤ s.size) = false := by (rw [decide_eq_false_iff_not]; omega)
                           simp [nameOk, hz]; done)
                        | (have hz : decide (s.size ≤ 16) = false := by (rw [decide_eq_false_iff_not]; omega)
                           simp [nameOk, hz]; done)
                        | (simp [nameOk, *]; done)
                · try simp only [decide_eq_true_eq, decide_eq_false_iff_not, Bool.not_eq_true', Bool.not_eq_false', Int.not_lt, Int.not_le] at hb13
                  refine st_skip rfl rfl rfl ?_
                  refine st_skip rfl rfl rfl ?_
                  refine st_pop rfl rfl rfl rfl ?_
                  refine st_pop rfl rfl rfl rfl ?_
                  refine st_pop rfl rfl rfl rfl ?_
                  refine st_pop rfl rfl rfl rfl ?_
                  refine st_pop rfl rfl rfl rfl ?_
                  refine st_pop rfl rfl rfl rfl ?_
                  refine st_nil ?_
                  refine wp_bit 52 rfl fun b hb16 => ?_
                  cases b
                  · try simp only [decide_eq_true_eq, decide_eq_false_iff_not, Bool.not_eq_true', Bool.not_eq_false', Int.not_lt, Int.not_le] at hb16
                    refine wp_f rfl ?_
                    refine awp_skip ?_
                    refine ab_norm ?_
                    refine at_norm ?_
                    refine awp_region ?_
                    refine st_pop rfl rfl rfl rfl ?_
                    refine st_pop rfl rfl rfl rfl ?_
                    refine st_pop rfl rfl rfl rfl ?_
                    refine st_nil ?_
                    refine at_norm ?_
                    refine ⟨k + 1, ⟨by omega, ball_step hc (by simp [nameC, lowC]; omega) hall⟩, wk_frl (wk_cons rfl (wk_cons (wrap_succ (by omega)) wk_nil)), rfl, by omega⟩
                  · try simp only [decide_eq_true_eq, decide_eq_false_iff_not, Bool.not_eq_true', Bool.not_eq_false', Int.not_lt, Int.not_le] at hb16
                    refine wp_t rfl ?_
                    refine wp_reg ?_
                    refine st_pop rfl rfl rfl rfl ?_
                    refine st_nil ?_
                    refine awp_ret ?_
                    refine ab_ret ?_
                    refine at_ret ?_
                    refine at_ret ?_
                    refine ab_ret ?_
                    refine at_ret ?_
                    refine ret_ret rfl rfl ?_
                    refine wk_b ?_
                    first
                      | (have hb := ball_not (p := nameC) hc (by simp [nameC, lowC]; omega); simp [nameOk, hb]; done)
                      | (have hb := ball_of (p := nameC) (k := k) (by omega) hall; have hf : firstOk s = true := by (simp [firstOk, hc0, lowC]; omega)
                         simp [nameOk, hb, hf, *]; omega)
                      | (have hf : firstOk s = false := by (simp [firstOk, hc0, lowC]; omega)
                         simp [nameOk, hf]; done)
                      | (have hz : decide (1 ≤ s.size) = false := by (rw [decide_eq_false_iff_not]; omega)
                         simp [nameOk, hz]; done)
                      | (have hz : decide (s.size ≤ 16) = false := by (rw [decide_eq_false_iff_not]; omega)
                         simp [nameOk, hz]; done)
                      | (simp [nameOk, *]; done)
          · try simp only [decide_eq_true_eq, decide_eq_false_iff_not, Bool.not_eq_true', Bool.not_eq_false', Int.not_lt, Int.not_le] at hb5
            refine wp_t rfl ?_
            refine wp_reg ?_
            refine st_pop rfl rfl rfl rfl ?_
            refine st_nil ?_
            refine awp_ret ?_
            refine at_ret ?_
            refine ret_ret rfl rfl ?_
            refine wk_b ?_
            first
              | (have hb := ball_not (p := nameC) hc (by simp [nameC, lowC]; omega); simp [nameOk, hb]; done)
              | (have hb := ball_of (p := nameC) (k := k) (by omega) hall; have hf : firstOk s = true := by (simp [firstOk, hc0, lowC]; omega)
                 simp [nameOk, hb, hf, *]; omega)
              | (have hf : firstOk s = false := by (simp [firstOk, hc0, lowC]; omega)
                 simp [nameOk, hf]; done)
              | (have hz : decide (1 ≤ s.size) = false := by (rw [decide_eq_false_iff_not]; omega)
                 simp [nameOk, hz]; done)
              | (have hz : decide (s.size ≤ 16) = false := by (rw [decide_eq_false_iff_not]; omega)
                 simp [nameOk, hz]; done)
              | (simp [nameOk, *]; done)
        · try simp only [decide_eq_true_eq, decide_eq_false_iff_not, Bool.not_eq_true', Bool.not_eq_false', Int.not_lt, Int.not_le] at hb4
          refine st_skip rfl rfl rfl ?_
          refine st_skip rfl rfl rfl ?_
          refine st_pop rfl rfl rfl rfl ?_
          refine st_nil ?_
          refine wp_t rfl ?_
          refine wp_reg ?_
          refine st_pop rfl rfl rfl rfl ?_
          refine st_nil ?_
          refine awp_ret ?_
          refine at_ret ?_
          refine ret_ret rfl rfl ?_
          refine wk_b ?_
          first
            | (have hb := ball_not (p := nameC) hc (by simp [nameC, lowC]; omega); simp [nameOk, hb]; done)
            | (have hb := ball_of (p := nameC) (k := k) (by omega) hall; have hf : firstOk s = true := by (simp [firstOk, hc0, lowC]; omega)
               simp [nameOk, hb, hf, *]; omega)
            | (have hf : firstOk s = false := by (simp [firstOk, hc0, lowC]; omega)
               simp [nameOk, hf]; done)
            | (have hz : decide (1 ≤ s.size) = false := by (rw [decide_eq_false_iff_not]; omega)
               simp [nameOk, hz]; done)
            | (have hz : decide (s.size ≤ 16) = false := by (rw [decide_eq_false_iff_not]; omega)
               simp [nameOk, hz]; done)
            | (simp [nameOk, *]; done)
      · try simp only [decide_eq_true_eq, decide_eq_false_iff_not, Bool.not_eq_true', Bool.not_eq_false', Int.not_lt, Int.not_le] at hb3
        refine st_skip rfl rfl rfl ?_
        refine st_skip rfl rfl rfl ?_
        refine st_skip rfl rfl rfl ?_
        refine st_pop rfl rfl rfl rfl ?_
        refine st_pop rfl rfl rfl rfl ?_
        refine st_skip rfl rfl rfl ?_
        refine st_skip rfl rfl rfl ?_
        refine st_pop rfl rfl rfl rfl ?_
        refine st_nil ?_
        refine wp_t rfl ?_
        refine wp_reg ?_
        refine st_pop rfl rfl rfl rfl ?_
        refine st_nil ?_
        refine awp_ret ?_
        refine at_ret ?_
        refine ret_ret rfl rfl ?_
        refine wk_b ?_
        first
          | (have hb := ball_not (p := nameC) hc (by simp [nameC, lowC]; omega); simp [nameOk, hb]; done)
          | (have hb := ball_of (p := nameC) (k := k) (by omega) hall; have hf : firstOk s = true := by (simp [firstOk, hc0, lowC]; omega)
             simp [nameOk, hb, hf, *]; omega)
          | (have hf : firstOk s = false := by (simp [firstOk, hc0, lowC]; omega)
             simp [nameOk, hf]; done)
          | (have hz : decide (1 ≤ s.size) = false := by (rw [decide_eq_false_iff_not]; omega)
             simp [nameOk, hz]; done)
          | (have hz : decide (s.size ≤ 16) = false := by (rw [decide_eq_false_iff_not]; omega)
             simp [nameOk, hz]; done)
          | (simp [nameOk, *]; done)
    · try simp only [decide_eq_true_eq, decide_eq_false_iff_not, Bool.not_eq_true', Bool.not_eq_false', Int.not_lt, Int.not_le] at hb2
      refine st_skip rfl rfl rfl ?_
      refine st_skip rfl rfl rfl ?_
      refine st_skip rfl rfl rfl ?_
      refine st_pop rfl rfl rfl rfl ?_
      refine st_pop rfl rfl rfl rfl ?_
      refine st_skip rfl rfl rfl ?_
      refine st_skip rfl rfl rfl ?_
      refine st_skip rfl rfl rfl ?_
      refine st_pop rfl rfl rfl rfl ?_
      refine st_pop rfl rfl rfl rfl ?_
      refine st_skip rfl rfl rfl ?_
      refine st_skip rfl rfl rfl ?_
      refine st_pop rfl rfl rfl rfl ?_
      refine st_nil ?_
      refine wp_t rfl ?_
      refine wp_reg ?_
      refine st_pop rfl rfl rfl rfl ?_
      refine st_nil ?_
      refine awp_ret ?_
      refine at_ret ?_
      refine ret_ret rfl rfl ?_
      refine wk_b ?_
      first
        | (have hb := ball_not (p := nameC) hc (by simp [nameC, lowC]; omega); simp [nameOk, hb]; done)
        | (have hb := ball_of (p := nameC) (k := k) (by omega) hall; have hf : firstOk s = true := by (simp [firstOk, hc0, lowC]; omega)
           simp [nameOk, hb, hf, *]; omega)
        | (have hf : firstOk s = false := by (simp [firstOk, hc0, lowC]; omega)
           simp [nameOk, hf]; done)
        | (have hz : decide (1 ≤ s.size) = false := by (rw [decide_eq_false_iff_not]; omega)
           simp [nameOk, hz]; done)
        | (have hz : decide (s.size ≤ 16) = false := by (rw [decide_eq_false_iff_not]; omega)
           simp [nameOk, hz]; done)
        | (simp [nameOk, *]; done)
  · try simp only [decide_eq_true_eq, decide_eq_false_iff_not, Bool.not_eq_true', Bool.not_eq_false', Int.not_lt, Int.not_le] at hb1
    have hn0 := ba_empty.1 hb1
    refine st_skip rfl rfl rfl ?_
    refine st_skip rfl rfl rfl ?_
    refine st_skip rfl rfl rfl ?_
    refine st_pop rfl rfl rfl rfl ?_
    refine st_pop rfl rfl rfl rfl ?_
    refine st_skip rfl rfl rfl ?_
    refine st_skip rfl rfl rfl ?_
    refine st_skip rfl rfl rfl ?_
    refine st_pop rfl rfl rfl rfl ?_
    refine st_pop rfl rfl rfl rfl ?_
    refine st_skip rfl rfl rfl ?_
    refine st_skip rfl rfl rfl ?_
    refine st_skip rfl rfl rfl ?_
    refine st_pop rfl rfl rfl rfl ?_
    refine st_pop rfl rfl rfl rfl ?_
    refine st_skip rfl rfl rfl ?_
    refine st_skip rfl rfl rfl ?_
    refine st_pop rfl rfl rfl rfl ?_
    refine st_nil ?_
    refine wp_t rfl ?_
    refine wp_reg ?_
    refine st_pop rfl rfl rfl rfl ?_
    refine st_nil ?_
    refine awp_ret ?_
    refine at_ret ?_
    refine ret_ret rfl rfl ?_
    refine wk_b ?_
    first
      | (have hb := ball_not (p := nameC) hc (by simp [nameC, lowC]; omega); simp [nameOk, hb]; done)
      | (have hb := ball_of (p := nameC) (k := k) (by omega) hall; have hf : firstOk s = true := by (simp [firstOk, hc0, lowC]; omega)
         simp [nameOk, hb, hf, *]; omega)
      | (have hf : firstOk s = false := by (simp [firstOk, hc0, lowC]; omega)
         simp [nameOk, hf]; done)
      | (have hz : decide (1 ≤ s.size) = false := by (rw [decide_eq_false_iff_not]; omega)
         simp [nameOk, hz]; done)
      | (have hz : decide (s.size ≤ 16) = false := by (rw [decide_eq_false_iff_not]; omega)
         simp [nameOk, hz]; done)
      | (simp [nameOk, *]; done)
theorem text_c (s : ByteArray) (hs : s.size ≤ 9223372036854775807) : ∀ H, ACalls tt 20 [.s s] H (fun res_ H' => res_ = .b (textOk s) ∧ H' = H) := by
  refine body_calc (T := tt) Try.func20 rfl Try.ntmps20 rfl rfl (by rfl) (by rfl) ?_
  refine wp_reg ?_
  refine st_pop rfl rfl rfl rfl ?_
  refine st_nil ?_
  refine awp_seq ?_
  refine wp_reg ?_
  refine st_pop rfl rfl rfl rfl ?_
  refine st_nil ?_
  refine awp_block ?_
  refine wp_loop (α := Nat) (fun k => frl [(0, .s s), (3, .i .i64 (k : Nat))]) (fun _ => ⟨[], []⟩) (fun k => k ≤ s.size ∧ ∀ i c, i < k → s[i]? = some c → textC c = true) (fun k => s.size - k) 0 ⟨Nat.zero_le _, fun i c h => absurd h (Nat.not_lt_zero _)⟩ (wk_frl (wk_cons rfl (wk_cons rfl wk_nil))) rfl ?_
  rintro k ⟨hk, hall⟩
  refine awp_seq ?_
  refine wp_reg ?_
  refine st_pop rfl rfl rfl rfl ?_
  refine st_pop rfl rfl rfl rfl ?_
  refine st_pop rfl rfl rfl rfl ?_
  refine st_pop rfl rfl rfl rfl ?_
  refine st_nil ?_
  refine wp_bit 7 rfl fun b hb1 => ?_
  cases b
  · try simp only [decide_eq_true_eq, decide_eq_false_iff_not, Bool.not_eq_true', Bool.not_eq_false', Int.not_lt, Int.not_le] at hb1
    refine wp_f rfl ?_
    refine awp_exit ?_
    refine at_exit ?_
    refine at_exit ?_
    refine ab_hit ?_
    refine at_norm ?_
    refine wp_reg ?_
    refine st_pop rfl rfl rfl rfl ?_
    refine st_pop rfl rfl rfl rfl ?_
    refine st_pop rfl rfl rfl rfl ?_
    refine st_pop rfl rfl rfl rfl ?_
    refine st_nil ?_
    refine awp_ret ?_
    refine ret_ret rfl rfl ?_
    refine wk_b ?_
    first
      | (have hb := ball_not (p := textC) hc (by simp [textC]; omega); simp [textOk, hb]; done)
      | (have hb := ball_of (p := textC) (k := k) (by omega) hall; simp [textOk, hb]; omega)
  · try simp only [decide_eq_true_eq, decide_eq_false_iff_not, Bool.not_eq_true', Bool.not_eq_false', Int.not_lt, Int.not_le] at hb1
    obtain ⟨c, hc⟩ := ba_some (s := s) (i := k) (by omega)
    refine wp_t rfl ?_
    refine awp_skip ?_
    refine at_norm ?_
    refine awp_seq ?_
    refine awp_block ?_
    refine wp_reg ?_
    refine st_pop rfl rfl rfl rfl ?_
    refine st_pop rfl rfl rfl rfl ?_
    refine st_idxS (n := k) c rfl rfl rfl rfl rfl rfl rfl hc ?_
    refine st_pop rfl rfl rfl rfl ?_
    refine st_pop rfl rfl rfl rfl ?_
    refine st_bit 14 rfl fun b hb2 => ?_
    cases b
    · try simp only [decide_eq_true_eq, decide_eq_false_iff_not, Bool.not_eq_true', Bool.not_eq_false', Int.not_lt, Int.not_le] at hb2
      refine st_pop rfl rfl rfl rfl ?_
      refine st_pop rfl rfl rfl rfl ?_
      refine st_idxS (n := k) c rfl rfl rfl rfl rfl rfl rfl hc ?_
      refine st_pop rfl rfl rfl rfl ?_
      refine st_pop rfl rfl rfl rfl ?_
      refine st_nil ?_
      refine wp_bit 19 rfl fun b hb3 => ?_
      cases b
      · try simp only [decide_eq_true_eq, decide_eq_false_iff_not, Bool.not_eq_true', Bool.not_eq_false', Int.not_lt, Int.not_le] at hb3
        refine wp_f rfl ?_
        refine awp_skip ?_
        refine ab_norm ?_
        refine at_norm ?_
        refine awp_region ?_
        refine st_pop rfl rfl rfl rfl ?_
        refine st_pop rfl rfl rfl rfl ?_
        refine st_pop rfl rfl rfl rfl ?_
        refine st_nil ?_
        refine at_norm ?_
        refine ⟨k + 1, ⟨by omega, ball_step hc (by simp [textC]; omega) hall⟩, wk_frl (wk_cons rfl (wk_cons (wrap_succ (by omega)) wk_nil)), rfl, by omega⟩
      · try simp only [decide_eq_true_eq, decide_eq_false_iff_not, Bool.not_eq_true', Bool.not_eq_false', Int.not_lt, Int.not_le] at hb3
        refine wp_t rfl ?_
        refine wp_reg ?_
        refine st_pop rfl rfl rfl rfl ?_
        refine st_nil ?_
        refine awp_ret ?_
        refine ab_ret ?_
        refine at_ret ?_
        refine at_ret ?_
        refine ab_ret ?_
        refine at_ret ?_
        refine ret_ret rfl rfl ?_
        refine wk_b ?_
        first
          | (have hb := ball_not (p := textC) hc (by simp [textC]; omega); simp [textOk, hb]; done)
          | (have hb := ball_of (p := textC) (k := k) (by omega) hall; simp [textOk, hb]; omega)
    · try simp only [decide_eq_true_eq, decide_eq_false_iff_not, Bool.not_eq_true', Bool.not_eq_false', Int.not_lt, Int.not_le] at hb2
      refine st_skip rfl rfl rfl ?_
      refine st_skip rfl rfl rfl ?_
      refine st_skip rfl rfl rfl ?_
      refine st_skip rfl rfl rfl ?_
      refine st_pop rfl rfl rfl rfl ?_
      refine st_nil ?_
      refine wp_t rfl ?_
      refine wp_reg ?_
      refine st_pop rfl rfl rfl rfl ?_
      refine st_nil ?_
      refine awp_ret ?_
      refine ab_ret ?_
      refine at_ret ?_
      refine at_ret ?_
      refine ab_ret ?_
      refine at_ret ?_
      refine ret_ret rfl rfl ?_
      refine wk_b ?_
      first
        | (have hb := ball_not (p := textC) hc (by simp [textC]; omega); simp [textOk, hb]; done)
        | (have hb := ball_of (p := textC) (k := k) (by omega) hall; simp [textOk, hb]; omega)
theorem rate_c (x : Nat) (hx : x < 18446744073709551616) : ∀ H, ACalls tt 21 [.f x] H (fun res_ H' => res_ = .b (Fm.isRate x) ∧ H' = H) := by
  intro H
  have h : ∀ w, Calls Try.prog 21 #[.float .f64 x] w fun e w' => e = .returned (.bool (Fm.isRate x)) ∧ Below w.heap.size w w' := fun w => Am.Calls.mono' (rateRight_any x hx w) fun e w' hh => ⟨hh.1, hh.2 ▸ .refl _ _⟩
  exact acalls_lift (T := tt) (args := [.f x]) (r := .b (Fm.isRate x)) rfl rfl h H
theorem refRate_c (x : Nat) (hx : x < 18446744073709551616) : ∀ H, ACalls tt 45 [.f x] H (fun res_ H' => res_ = .b (Fm.isRate x) ∧ H' = H) := by
  intro H
  have h : ∀ w, Calls Try.prog 45 #[.float .f64 x] w fun e w' => e = .returned (.bool (Fm.isRate x)) ∧ Below w.heap.size w w' := fun w => Am.Calls.mono' (refRight_any x hx w) fun e w' hh => ⟨hh.1, hh.2⟩
  exact acalls_lift (T := tt) (args := [.f x]) (r := .b (Fm.isRate x)) rfl rfl h H
theorem valRight_c (v : Val) (hv : v.fit) : ∀ H, ACalls tt 10 [.agg v.av] H (fun res_ H' => res_ = .b (valRight v) ∧ H' = H) := by
  obtain ⟨hs, hx⟩ := hv
  refine body_calc (T := tt) Try.func10 rfl Try.ntmps10 rfl rfl (by rfl) (by rfl) ?_
  refine wp_reg ?_
  refine st_box rfl rfl rfl rfl rfl rfl rfl rfl rfl ?_
  refine st_pop rfl rfl rfl rfl ?_
  refine st_nil ?_
  refine wp_reg ?_
  refine st_pop rfl rfl rfl rfl ?_
  refine st_pop rfl rfl rfl rfl ?_
  refine st_pop rfl rfl rfl rfl ?_
  refine st_alloc rfl rfl rfl rfl rfl rfl rfl ?_
  refine st_store rfl rfl rfl rfl rfl rfl rfl rfl rfl rfl rfl rfl rfl ?_
  refine st_nil ?_
  refine awp_seq ?_
  refine wp_reg ?_
  refine st_pop rfl rfl rfl rfl ?_
  refine st_pop rfl rfl rfl rfl ?_
  refine st_nil ?_
  refine awp_block ?_
  refine wp_reg ?_
  refine st_pop rfl rfl rfl rfl ?_
  refine st_pop rfl rfl rfl rfl ?_
  refine st_nil ?_
  refine wp_bit 9 rfl fun b hb1 => ?_
  cases b
  · try simp only [decide_eq_true_eq, decide_eq_false_iff_not, Bool.not_eq_true', Bool.not_eq_false', Int.not_lt, Int.not_le] at hb1
    refine wp_f rfl ?_
    refine wp_reg ?_
    refine st_pop rfl rfl rfl rfl ?_
    refine st_pop rfl rfl rfl rfl ?_
    refine st_nil ?_
    refine wp_bit 14 rfl fun b hb2 => ?_
    cases b
    · try simp only [decide_eq_true_eq, decide_eq_false_iff_not, Bool.not_eq_true', Bool.not_eq_false', Int.not_lt, Int.not_le] at hb2
      refine wp_f rfl ?_
      refine wp_reg ?_
      refine st_pop rfl rfl rfl rfl ?_
      refine st_pop rfl rfl rfl rfl ?_
      refine st_nil ?_
      refine wp_bit 19 rfl fun b hb3 => ?_
      cases b
      · try simp only [decide_eq_true_eq, decide_eq_false_iff_not, Bool.not_eq_true', Bool.not_eq_false', Int.not_lt, Int.not_le] at hb3
        refine wp_f rfl ?_
        refine wp_reg ?_
        refine st_pop rfl rfl rfl rfl ?_
        refine st_pop rfl rfl rfl rfl ?_
        refine st_nil ?_
        refine wp_bit 24 rfl fun b hb4 => ?_
        cases b
        · try simp only [decide_eq_true_eq, decide_eq_false_iff_not, Bool.not_eq_true', Bool.not_eq_false', Int.not_lt, Int.not_le] at hb4
          refine wp_f rfl ?_
          refine wp_reg ?_
          refine st_pop rfl rfl rfl rfl ?_
          refine st_nil ?_
          refine awp_ret ?_
          refine ab_ret ?_
          refine at_ret ?_
          refine ret_ret rfl rfl ?_
          refine wk_b ?_
          first
            | (simp_all [valRight, onlyOk, fzero]; done)
            | (simp_all [valRight, onlyOk, fzero]; omega)
            | (cases hq : Fm.isRate v.rate <;> (try have hr := rate_self v.rate hq) <;> simp_all [valRight, onlyOk, fzero]; done)
        · try simp only [decide_eq_true_eq, decide_eq_false_iff_not, Bool.not_eq_true', Bool.not_eq_false', Int.not_lt, Int.not_le] at hb4
          refine wp_t rfl ?_
          refine awp_region ?_
          refine st_pop rfl rfl rfl rfl ?_
          refine st_pop rfl rfl rfl rfl ?_
          refine st_pop rfl rfl rfl rfl ?_
          refine st_store rfl rfl rfl rfl rfl rfl rfl rfl rfl rfl rfl rfl rfl ?_
          refine st_nil ?_
          refine ab_norm ?_
          refine at_norm ?_
          refine wp_reg ?_
          refine st_pop rfl rfl rfl rfl ?_
          refine st_pop rfl rfl rfl rfl ?_
          refine st_pop rfl rfl rfl rfl ?_
          refine st_pop rfl rfl rfl rfl ?_
          refine st_bit 32 rfl fun b hb5 => ?_
          cases b
          · try simp only [decide_eq_true_eq, decide_eq_false_iff_not, Bool.not_eq_true', Bool.not_eq_false', Int.not_lt, Int.not_le] at hb5
            refine st_skip rfl rfl rfl ?_
            refine st_skip rfl rfl rfl ?_
            refine st_skip rfl rfl rfl ?_
            refine st_pop rfl rfl rfl rfl ?_
            refine st_pop rfl rfl rfl rfl ?_
            refine st_skip rfl rfl rfl ?_
            refine st_skip rfl rfl rfl ?_
            refine st_skip rfl rfl rfl ?_
            refine st_skip rfl rfl rfl ?_
            refine st_skip rfl rfl rfl ?_
            refine st_skip rfl rfl rfl ?_
            refine st_skip rfl rfl rfl ?_
            refine st_skip rfl rfl rfl ?_
            refine st_pop rfl rfl rfl rfl ?_
            refine st_pop rfl rfl rfl rfl ?_
            refine st_nil ?_
            refine awp_ret ?_
            refine ret_ret rfl rfl ?_
            refine wk_b ?_
            first
              | (simp_all [valRight, onlyOk, fzero]; done)
              | (simp_all [valRight, onlyOk, fzero]; omega)
              | (cases hq : Fm.isRate v.rate <;> (try have hr := rate_self v.rate hq) <;> simp_all [valRight, onlyOk, fzero]; done)
          · try simp only [decide_eq_true_eq, decide_eq_false_iff_not, Bool.not_eq_true', Bool.not_eq_false', Int.not_lt, Int.not_le] at hb5
            refine st_pop rfl rfl rfl rfl ?_
            refine st_pop rfl rfl rfl rfl ?_
            refine st_calc (xs := [.tmp 34]) _ rfl rfl rfl rfl Try.func20 rfl rfl rfl (text_c _ (by first | assumption | omega) _) ?_
            refine st_pop rfl rfl rfl rfl ?_
            refine st_pop rfl rfl rfl rfl ?_
            refine st_bit 37 rfl fun b hb6 => ?_
            cases b
            · try simp only [decide_eq_true_eq, decide_eq_false_iff_not, Bool.not_eq_true', Bool.not_eq_false', Int.not_lt, Int.not_le] at hb6
              refine st_skip rfl rfl rfl ?_
              refine st_skip rfl rfl rfl ?_
              refine st_skip rfl rfl rfl ?_
              refine st_skip rfl rfl rfl ?_
              refine st_skip rfl rfl rfl ?_
              refine st_skip rfl rfl rfl ?_
              refine st_skip rfl rfl rfl ?_
              refine st_skip rfl rfl rfl ?_
              refine st_pop rfl rfl rfl rfl ?_
              refine st_pop rfl rfl rfl rfl ?_
              refine st_nil ?_
              refine awp_ret ?_
              refine ret_ret rfl rfl ?_
              refine wk_b ?_
              first
                | (simp_all [valRight, onlyOk, fzero]; done)
                | (simp_all [valRight, onlyOk, fzero]; omega)
                | (cases hq : Fm.isRate v.rate <;> (try have hr := rate_self v.rate hq) <;> simp_all [valRight, onlyOk, fzero]; done)
            · try simp only [decide_eq_true_eq, decide_eq_false_iff_not, Bool.not_eq_true', Bool.not_eq_false', Int.not_lt, Int.not_le] at hb6
              refine st_pop rfl rfl rfl rfl ?_
              refine st_pop rfl rfl rfl rfl ?_
              refine st_pop rfl rfl rfl rfl ?_
              refine st_pop rfl rfl rfl rfl ?_
              refine st_bit 41 rfl fun b hb7 => ?_
              cases b
              · try simp only [decide_eq_true_eq, decide_eq_false_iff_not, Bool.not_eq_true', Bool.not_eq_false', Int.not_lt, Int.not_le] at hb7
                refine st_pop rfl rfl rfl rfl ?_
                refine st_pop rfl rfl rfl rfl ?_
                refine st_calc (xs := [.tmp 43]) _ rfl rfl rfl rfl Try.func21 rfl rfl rfl (rate_c _ (by assumption) _) ?_
                refine st_pop rfl rfl rfl rfl ?_
                refine st_pop rfl rfl rfl rfl ?_
                refine st_pop rfl rfl rfl rfl ?_
                refine st_nil ?_
                refine awp_ret ?_
                refine ret_ret rfl rfl ?_
                refine wk_b ?_
                first
                  | (simp_all [valRight, onlyOk, fzero]; done)
                  | (simp_all [valRight, onlyOk, fzero]; omega)
                  | (cases hq : Fm.isRate v.rate <;> (try have hr := rate_self v.rate hq) <;> simp_all [valRight, onlyOk, fzero]; done)
              · try simp only [decide_eq_true_eq, decide_eq_false_iff_not, Bool.not_eq_true', Bool.not_eq_false', Int.not_lt, Int.not_le] at hb7
                refine st_skip rfl rfl rfl ?_
                refine st_skip rfl rfl rfl ?_
                refine st_skip rfl rfl rfl ?_
                refine st_pop rfl rfl rfl rfl ?_
                refine st_pop rfl rfl rfl rfl ?_
                refine st_pop rfl rfl rfl rfl ?_
                refine st_nil ?_
                refine awp_ret ?_
                refine ret_ret rfl rfl ?_
                refine wk_b ?_
                first
                  | (simp_all [valRight, onlyOk, fzero]; done)
                  | (simp_all [valRight, onlyOk, fzero]; omega)
                  | (cases hq : Fm.isRate v.rate <;> (try have hr := rate_self v.rate hq) <;> simp_all [valRight, onlyOk, fzero]; done)
      · try simp only [decide_eq_true_eq, decide_eq_false_iff_not, Bool.not_eq_true', Bool.not_eq_false', Int.not_lt, Int.not_le] at hb3
        refine wp_t rfl ?_
        refine awp_region ?_
        refine st_pop rfl rfl rfl rfl ?_
        refine st_pop rfl rfl rfl rfl ?_
        refine st_pop rfl rfl rfl rfl ?_
        refine st_store rfl rfl rfl rfl rfl rfl rfl rfl rfl rfl rfl rfl rfl ?_
        refine st_nil ?_
        refine ab_norm ?_
        refine at_norm ?_
        refine wp_reg ?_
        refine st_pop rfl rfl rfl rfl ?_
        refine st_pop rfl rfl rfl rfl ?_
        refine st_pop rfl rfl rfl rfl ?_
        refine st_pop rfl rfl rfl rfl ?_
        refine st_bit 32 rfl fun b hb8 => ?_
        cases b
        · try simp only [decide_eq_true_eq, decide_eq_false_iff_not, Bool.not_eq_true', Bool.not_eq_false', Int.not_lt, Int.not_le] at hb8
          refine st_skip rfl rfl rfl ?_
          refine st_skip rfl rfl rfl ?_
          refine st_skip rfl rfl rfl ?_
          refine st_pop rfl rfl rfl rfl ?_
          refine st_pop rfl rfl rfl rfl ?_
          refine st_skip rfl rfl rfl ?_
          refine st_skip rfl rfl rfl ?_
          refine st_skip rfl rfl rfl ?_
          refine st_skip rfl rfl rfl ?_
          refine st_skip rfl rfl rfl ?_
          refine st_skip rfl rfl rfl ?_
          refine st_skip rfl rfl rfl ?_
          refine st_skip rfl rfl rfl ?_
          refine st_pop rfl rfl rfl rfl ?_
          refine st_pop rfl rfl rfl rfl ?_
          refine st_nil ?_
          refine awp_ret ?_
          refine ret_ret rfl rfl ?_
          refine wk_b ?_
          first
            | (simp_all [valRight, onlyOk, fzero]; done)
            | (simp_all [valRight, onlyOk, fzero]; omega)
            | (cases hq : Fm.isRate v.rate <;> (try have hr := rate_self v.rate hq) <;> simp_all [valRight, onlyOk, fzero]; done)
        · try simp only [decide_eq_true_eq, decide_eq_false_iff_not, Bool.not_eq_true', Bool.not_eq_false', Int.not_lt, Int.not_le] at hb8
          refine st_pop rfl rfl rfl rfl ?_
          refine st_pop rfl rfl rfl rfl ?_
          refine st_calc (xs := [.tmp 34]) _ rfl rfl rfl rfl Try.func20 rfl rfl rfl (text_c _ (by first | assumption | omega) _) ?_
          refine st_pop rfl rfl rfl rfl ?_
          refine st_pop rfl rfl rfl rfl ?_
          refine st_bit 37 rfl fun b hb9 => ?_
          cases b
          · try simp only [decide_eq_true_eq, decide_eq_false_iff_not, Bool.not_eq_true', Bool.not_eq_false', Int.not_lt, Int.not_le] at hb9
            refine st_skip rfl rfl rfl ?_
            refine st_skip rfl rfl rfl ?_
            refine st_skip rfl rfl rfl ?_
            refine st_skip rfl rfl rfl ?_
            refine st_skip rfl rfl rfl ?_
            refine st_skip rfl rfl rfl ?_
            refine st_skip rfl rfl rfl ?_
            refine st_skip rfl rfl rfl ?_
            refine st_pop rfl rfl rfl rfl ?_
            refine st_pop rfl rfl rfl rfl ?_
            refine st_nil ?_
            refine awp_ret ?_
            refine ret_ret rfl rfl ?_
            refine wk_b ?_
            first
              | (simp_all [valRight, onlyOk, fzero]; done)
              | (simp_all [valRight, onlyOk, fzero]; omega)
              | (cases hq : Fm.isRate v.rate <;> (try have hr := rate_self v.rate hq) <;> simp_all [valRight, onlyOk, fzero]; done)
          · try simp only [decide_eq_true_eq, decide_eq_false_iff_not, Bool.not_eq_true', Bool.not_eq_false', Int.not_lt, Int.not_le] at hb9
            refine st_pop rfl rfl rfl rfl ?_
            refine st_pop rfl rfl rfl rfl ?_
            refine st_pop rfl rfl rfl rfl ?_
            refine st_pop rfl rfl rfl rfl ?_
            refine st_bit 41 rfl fun b hb10 => ?_
            cases b
            · try simp only [decide_eq_true_eq, decide_eq_false_iff_not, Bool.not_eq_true', Bool.not_eq_false', Int.not_lt, Int.not_le] at hb10
              refine st_pop rfl rfl rfl rfl ?_
              refine st_pop rfl rfl rfl rfl ?_
              refine st_calc (xs := [.tmp 43]) _ rfl rfl rfl rfl Try.func21 rfl rfl rfl (rate_c _ (by assumption) _) ?_
              refine st_pop rfl rfl rfl rfl ?_
              refine st_pop rfl rfl rfl rfl ?_
              refine st_pop rfl rfl rfl rfl ?_
              refine st_nil ?_
              refine awp_ret ?_
              refine ret_ret rfl rfl ?_
              refine wk_b ?_
              first
                | (simp_all [valRight, onlyOk, fzero]; done)
                | (simp_all [valRight, onlyOk, fzero]; omega)
                | (cases hq : Fm.isRate v.rate <;> (try have hr := rate_self v.rate hq) <;> simp_all [valRight, onlyOk, fzero]; done)
            · try simp only [decide_eq_true_eq, decide_eq_false_iff_not, Bool.not_eq_true', Bool.not_eq_false', Int.not_lt, Int.not_le] at hb10
              refine st_skip rfl rfl rfl ?_
              refine st_skip rfl rfl rfl ?_
              refine st_skip rfl rfl rfl ?_
              refine st_pop rfl rfl rfl rfl ?_
              refine st_pop rfl rfl rfl rfl ?_
              refine st_pop rfl rfl rfl rfl ?_
              refine st_nil ?_
              refine awp_ret ?_
              refine ret_ret rfl rfl ?_
              refine wk_b ?_
              first
                | (simp_all [valRight, onlyOk, fzero]; done)
                | (simp_all [valRight, onlyOk, fzero]; omega)
                | (cases hq : Fm.isRate v.rate <;> (try have hr := rate_self v.rate hq) <;> simp_all [valRight, onlyOk, fzero]; done)
    · try simp only [decide_eq_true_eq, decide_eq_false_iff_not, Bool.not_eq_true', Bool.not_eq_false', Int.not_lt, Int.not_le] at hb2
      refine wp_t rfl ?_
      refine awp_region ?_
      refine st_pop rfl rfl rfl rfl ?_
      refine st_pop rfl rfl rfl rfl ?_
      refine st_pop rfl rfl rfl rfl ?_
      refine st_store rfl rfl rfl rfl rfl rfl rfl rfl rfl rfl rfl rfl rfl ?_
      refine st_nil ?_
      refine ab_norm ?_
      refine at_norm ?_
      refine wp_reg ?_
      refine st_pop rfl rfl rfl rfl ?_
      refine st_pop rfl rfl rfl rfl ?_
      refine st_pop rfl rfl rfl rfl ?_
      refine st_pop rfl rfl rfl rfl ?_
      refine st_bit 32 rfl fun b hb11 => ?_
      cases b
      · try simp only [decide_eq_true_eq, decide_eq_false_iff_not, Bool.not_eq_true', Bool.not_eq_false', Int.not_lt, Int.not_le] at hb11
        refine st_skip rfl rfl rfl ?_
        refine st_skip rfl rfl rfl ?_
        refine st_skip rfl rfl rfl ?_
        refine st_pop rfl rfl rfl rfl ?_
        refine st_pop rfl rfl rfl rfl ?_
        refine st_skip rfl rfl rfl ?_
        refine st_skip rfl rfl rfl ?_
        refine st_skip rfl rfl rfl ?_
        refine st_skip rfl rfl rfl ?_
        refine st_skip rfl rfl rfl ?_
        refine st_skip rfl rfl rfl ?_
        refine st_skip rfl rfl rfl ?_
        refine st_skip rfl rfl rfl ?_
        refine st_pop rfl rfl rfl rfl ?_
        refine st_pop rfl rfl rfl rfl ?_
        refine st_nil ?_
        refine awp_ret ?_
        refine ret_ret rfl rfl ?_
        refine wk_b ?_
        first
          | (simp_all [valRight, onlyOk, fzero]; done)
          | (simp_all [valRight, onlyOk, fzero]; omega)
          | (cases hq : Fm.isRate v.rate <;> (try have hr := rate_self v.rate hq) <;> simp_all [valRight, onlyOk, fzero]; done)
      · try simp only [decide_eq_true_eq, decide_eq_false_iff_not, Bool.not_eq_true', Bool.not_eq_false', Int.not_lt, Int.not_le] at hb11
        refine st_pop rfl rfl rfl rfl ?_
        refine st_pop rfl rfl rfl rfl ?_
        refine st_calc (xs := [.tmp 34]) _ rfl rfl rfl rfl Try.func20 rfl rfl rfl (text_c _ (by first | assumption | omega) _) ?_
        refine st_pop rfl rfl rfl rfl ?_
        refine st_pop rfl rfl rfl rfl ?_
        refine st_bit 37 rfl fun b hb12 => ?_
        cases b
        · try simp only [decide_eq_true_eq, decide_eq_false_iff_not, Bool.not_eq_true', Bool.not_eq_false', Int.not_lt, Int.not_le] at hb12
          refine st_skip rfl rfl rfl ?_
          refine st_skip rfl rfl rfl ?_
          refine st_skip rfl rfl rfl ?_
          refine st_skip rfl rfl rfl ?_
          refine st_skip rfl rfl rfl ?_
          refine st_skip rfl rfl rfl ?_
          refine st_skip rfl rfl rfl ?_
          refine st_skip rfl rfl rfl ?_
          refine st_pop rfl rfl rfl rfl ?_
          refine st_pop rfl rfl rfl rfl ?_
          refine st_nil ?_
          refine awp_ret ?_
          refine ret_ret rfl rfl ?_
          refine wk_b ?_
          first
            | (simp_all [valRight, onlyOk, fzero]; done)
            | (simp_all [valRight, onlyOk, fzero]; omega)
            | (cases hq : Fm.isRate v.rate <;> (try have hr := rate_self v.rate hq) <;> simp_all [valRight, onlyOk, fzero]; done)
        · try simp only [decide_eq_true_eq, decide_eq_false_iff_not, Bool.not_eq_true', Bool.not_eq_false', Int.not_lt, Int.not_le] at hb12
          refine st_pop rfl rfl rfl rfl ?_
          refine st_pop rfl rfl rfl rfl ?_
          refine st_pop rfl rfl rfl rfl ?_
          refine st_pop rfl rfl rfl rfl ?_
          refine st_bit 41 rfl fun b hb13 => ?_
          cases b
          · try simp only [decide_eq_true_eq, decide_eq_false_iff_not, Bool.not_eq_true', Bool.not_eq_false', Int.not_lt, Int.not_le] at hb13
            refine st_pop rfl rfl rfl rfl ?_
            refine st_pop rfl rfl rfl rfl ?_
            refine st_calc (xs := [.tmp 43]) _ rfl rfl rfl rfl Try.func21 rfl rfl rfl (rate_c _ (by assumption) _) ?_
            refine st_pop rfl rfl rfl rfl ?_
            refine st_pop rfl rfl rfl rfl ?_
            refine st_pop rfl rfl rfl rfl ?_
            refine st_nil ?_
            refine awp_ret ?_
            refine ret_ret rfl rfl ?_
            refine wk_b ?_
            first
              | (simp_all [valRight, onlyOk, fzero]; done)
              | (simp_all [valRight, onlyOk, fzero]; omega)
              | (cases hq : Fm.isRate v.rate <;> (try have hr := rate_self v.rate hq) <;> simp_all [valRight, onlyOk, fzero]; done)
          · try simp only [decide_eq_true_eq, decide_eq_false_iff_not, Bool.not_eq_true', Bool.not_eq_false', Int.not_lt, Int.not_le] at hb13
            refine st_skip rfl rfl rfl ?_
            refine st_skip rfl rfl rfl ?_
            refine st_skip rfl rfl rfl ?_
            refine st_pop rfl rfl rfl rfl ?_
            refine st_pop rfl rfl rfl rfl ?_
            refine st_pop rfl rfl rfl rfl ?_
            refine st_nil ?_
            refine awp_ret ?_
            refine ret_ret rfl rfl ?_
            refine wk_b ?_
            first
              | (simp_all [valRight, onlyOk, fzero]; done)
              | (simp_all [valRight, onlyOk, fzero]; omega)
              | (cases hq : Fm.isRate v.rate <;> (try have hr := rate_self v.rate hq) <;> simp_all [valRight, onlyOk, fzero]; done)
  · try simp only [decide_eq_true_eq, decide_eq_false_iff_not, Bool.not_eq_true', Bool.not_eq_false', Int.not_lt, Int.not_le] at hb1
    refine wp_t rfl ?_
    refine awp_region ?_
    refine st_pop rfl rfl rfl rfl ?_
    refine st_pop rfl rfl rfl rfl ?_
    refine st_pop rfl rfl rfl rfl ?_
    refine st_store rfl rfl rfl rfl rfl rfl rfl rfl rfl rfl rfl rfl rfl ?_
    refine st_nil ?_
    refine ab_norm ?_
    refine at_norm ?_
    refine wp_reg ?_
    refine st_pop rfl rfl rfl rfl ?_
    refine st_pop rfl rfl rfl rfl ?_
    refine st_pop rfl rfl rfl rfl ?_
    refine st_pop rfl rfl rfl rfl ?_
    refine st_bit 32 rfl fun b hb14 => ?_
    cases b
    · try simp only [decide_eq_true_eq, decide_eq_false_iff_not, Bool.not_eq_true', Bool.not_eq_false', Int.not_lt, Int.not_le] at hb14
      refine st_skip rfl rfl rfl ?_
      refine st_skip rfl rfl rfl ?_
      refine st_skip rfl rfl rfl ?_
      refine st_pop rfl rfl rfl rfl ?_
      refine st_pop rfl rfl rfl rfl ?_
      refine st_skip rfl rfl rfl ?_
      refine st_skip rfl rfl rfl ?_
      refine st_skip rfl rfl rfl ?_
      refine st_skip rfl rfl rfl ?_
      refine st_skip rfl rfl rfl ?_
      refine st_skip rfl rfl rfl ?_
      refine st_skip rfl rfl rfl ?_
      refine st_skip rfl rfl rfl ?_
      refine st_pop rfl rfl rfl rfl ?_
      refine st_pop rfl rfl rfl rfl ?_
      refine st_nil ?_
      refine awp_ret ?_
      refine ret_ret rfl rfl ?_
      refine wk_b ?_
      first
        | (simp_all [valRight, onlyOk, fzero]; done)
        | (simp_all [valRight, onlyOk, fzero]; omega)
        | (cases hq : Fm.isRate v.rate <;> (try have hr := rate_self v.rate hq) <;> simp_all [valRight, onlyOk, fzero]; done)
    · try simp only [decide_eq_true_eq, decide_eq_false_iff_not, Bool.not_eq_true', Bool.not_eq_false', Int.not_lt, Int.not_le] at hb14
      refine st_pop rfl rfl rfl rfl ?_
      refine st_pop rfl rfl rfl rfl ?_
      refine st_calc (xs := [.tmp 34]) _ rfl rfl rfl rfl Try.func20 rfl rfl rfl (text_c _ (by first | assumption | omega) _) ?_
      refine st_pop rfl rfl rfl rfl ?_
      refine st_pop rfl rfl rfl rfl ?_
      refine st_bit 37 rfl fun b hb15 => ?_
      cases b
      · try simp only [decide_eq_true_eq, decide_eq_false_iff_not, Bool.not_eq_true', Bool.not_eq_false', Int.not_lt, Int.not_le] at hb15
        refine st_skip rfl rfl rfl ?_
        refine st_skip rfl rfl rfl ?_
        refine st_skip rfl rfl rfl ?_
        refine st_skip rfl rfl rfl ?_
        refine st_skip rfl rfl rfl ?_
        refine st_skip rfl rfl rfl ?_
        refine st_skip rfl rfl rfl ?_
        refine st_skip rfl rfl rfl ?_
        refine st_pop rfl rfl rfl rfl ?_
        refine st_pop rfl rfl rfl rfl ?_
        refine st_nil ?_
        refine awp_ret ?_
        refine ret_ret rfl rfl ?_
        refine wk_b ?_
        first
          | (simp_all [valRight, onlyOk, fzero]; done)
          | (simp_all [valRight, onlyOk, fzero]; omega)
          | (cases hq : Fm.isRate v.rate <;> (try have hr := rate_self v.rate hq) <;> simp_all [valRight, onlyOk, fzero]; done)
      · try simp only [decide_eq_true_eq, decide_eq_false_iff_not, Bool.not_eq_true', Bool.not_eq_false', Int.not_lt, Int.not_le] at hb15
        refine st_pop rfl rfl rfl rfl ?_
        refine st_pop rfl rfl rfl rfl ?_
        refine st_pop rfl rfl rfl rfl ?_
        refine st_pop rfl rfl rfl rfl ?_
        refine st_bit 41 rfl fun b hb16 => ?_
        cases b
        · try simp only [decide_eq_true_eq, decide_eq_false_iff_not, Bool.not_eq_true', Bool.not_eq_false', Int.not_lt, Int.not_le] at hb16
          refine st_pop rfl rfl rfl rfl ?_
          refine st_pop rfl rfl rfl rfl ?_
          refine st_calc (xs := [.tmp 43]) _ rfl rfl rfl rfl Try.func21 rfl rfl rfl (rate_c _ (by assumption) _) ?_
          refine st_pop rfl rfl rfl rfl ?_
          refine st_pop rfl rfl rfl rfl ?_
          refine st_pop rfl rfl rfl rfl ?_
          refine st_nil ?_
          refine awp_ret ?_
          refine ret_ret rfl rfl ?_
          refine wk_b ?_
          first
            | (simp_all [valRight, onlyOk, fzero]; done)
            | (simp_all [valRight, onlyOk, fzero]; omega)
            | (cases hq : Fm.isRate v.rate <;> (try have hr := rate_self v.rate hq) <;> simp_all [valRight, onlyOk, fzero]; done)
        · try simp only [decide_eq_true_eq, decide_eq_false_iff_not, Bool.not_eq_true', Bool.not_eq_false', Int.not_lt, Int.not_le] at hb16
          refine st_skip rfl rfl rfl ?_
          refine st_skip rfl rfl rfl ?_
          refine st_skip rfl rfl rfl ?_
          refine st_pop rfl rfl rfl rfl ?_
          refine st_pop rfl rfl rfl rfl ?_
          refine st_pop rfl rfl rfl rfl ?_
          refine st_nil ?_
          refine awp_ret ?_
          refine ret_ret rfl rfl ?_
          refine wk_b ?_
          first
            | (simp_all [valRight, onlyOk, fzero]; done)
            | (simp_all [valRight, onlyOk, fzero]; omega)
            | (cases hq : Fm.isRate v.rate <;> (try have hr := rate_self v.rate hq) <;> simp_all [valRight, onlyOk, fzero]; done)
theorem refOk_c (r : Ref) : ∀ H, ACalls tt 38 [.agg r.av] H (fun res_ H' => res_ = .b (refOk r) ∧ H' = H) := by
  refine body_calc (T := tt) Try.func38 rfl Try.ntmps38 rfl rfl (by rfl) (by rfl) ?_
  refine wp_reg ?_
  refine st_box rfl rfl rfl rfl rfl rfl rfl rfl rfl ?_
  refine st_pop rfl rfl rfl rfl ?_
  refine st_nil ?_
  refine wp_reg ?_
  refine st_pop rfl rfl rfl rfl ?_
  refine st_pop rfl rfl rfl rfl ?_
  refine st_calc (xs := [.tmp 4]) _ rfl rfl rfl rfl Try.func42 rfl rfl rfl (scope_c _ _) ?_
  refine st_pop rfl rfl rfl rfl ?_
  refine st_bit 6 rfl fun b hb1 => ?_
  cases b
  · try simp only [decide_eq_true_eq, decide_eq_false_iff_not, Bool.not_eq_true', Bool.not_eq_false', Int.not_lt, Int.not_le] at hb1
    refine st_skip rfl rfl rfl ?_
    refine st_skip rfl rfl rfl ?_
    refine st_skip rfl rfl rfl ?_
    refine st_pop rfl rfl rfl rfl ?_
    refine st_pop rfl rfl rfl rfl ?_
    refine st_nil ?_
    refine awp_ret ?_
    refine ret_ret rfl rfl ?_
    refine wk_b ?_; simp [refOk, *]
  · try simp only [decide_eq_true_eq, decide_eq_false_iff_not, Bool.not_eq_true', Bool.not_eq_false', Int.not_lt, Int.not_le] at hb1
    refine st_pop rfl rfl rfl rfl ?_
    refine st_pop rfl rfl rfl rfl ?_
    refine st_calc (xs := [.tmp 8]) _ rfl rfl rfl rfl Try.func41 rfl rfl rfl (name_c _ _) ?_
    refine st_pop rfl rfl rfl rfl ?_
    refine st_pop rfl rfl rfl rfl ?_
    refine st_nil ?_
    refine awp_ret ?_
    refine ret_ret rfl rfl ?_
    refine wk_b ?_; simp [refOk, *]
theorem below_c (a b : ByteArray) (ha : a.size ≤ 9223372036854775807) : ∀ H, ACalls tt 68 [.s a, .s b] H (fun res_ H' => res_ = .b (strLt a b) ∧ H' = H) := by
  refine body_calc (T := tt) Try.func68 rfl Try.ntmps68 rfl rfl (by rfl) (by rfl) ?_
  refine wp_reg ?_
  refine st_pop rfl rfl rfl rfl ?_
  refine st_nil ?_
  refine awp_seq ?_
  refine wp_reg ?_
  refine st_pop rfl rfl rfl rfl ?_
  refine st_nil ?_
  refine awp_block ?_
  refine wp_loop (α := Nat) (fun k => frl [(0, .s a), (1, .s b), (5, .i .i64 (k : Nat))]) (fun _ => ⟨[], []⟩) (fun k => k ≤ a.size ∧ ∀ i, i < k → a[i]? = b[i]?) (fun k => a.size - k) 0 ⟨Nat.zero_le _, fun i h => absurd h (Nat.not_lt_zero _)⟩ (wk_frl (wk_cons rfl (wk_cons rfl (wk_cons rfl wk_nil)))) rfl ?_
  rintro k ⟨hk, hall⟩
  refine awp_seq ?_
  refine wp_reg ?_
  refine st_pop rfl rfl rfl rfl ?_
  refine st_pop rfl rfl rfl rfl ?_
  refine st_pop rfl rfl rfl rfl ?_
  refine st_pop rfl rfl rfl rfl ?_
  refine st_pop rfl rfl rfl rfl ?_
  refine st_bit 10 rfl fun b hb1 => ?_
  cases b
  · try simp only [decide_eq_true_eq, decide_eq_false_iff_not, Bool.not_eq_true', Bool.not_eq_false', Int.not_lt, Int.not_le] at hb1
    refine st_skip rfl rfl rfl ?_
    refine st_skip rfl rfl rfl ?_
    refine st_skip rfl rfl rfl ?_
    refine st_skip rfl rfl rfl ?_
    refine st_pop rfl rfl rfl rfl ?_
    refine st_nil ?_
    refine wp_f rfl ?_
    refine awp_exit ?_
    refine at_exit ?_
    refine at_exit ?_
    refine ab_hit ?_
    refine at_norm ?_
    refine wp_reg ?_
    refine st_pop rfl rfl rfl rfl ?_
    refine st_pop rfl rfl rfl rfl ?_
    refine st_pop rfl rfl rfl rfl ?_
    refine st_pop rfl rfl rfl rfl ?_
    refine st_pop rfl rfl rfl rfl ?_
    refine st_pop rfl rfl rfl rfl ?_
    refine st_nil ?_
    refine awp_ret ?_
    refine ret_ret rfl rfl ?_
    refine wk_b ?_
    first
      | (rw [strLt_at hall hca hcb (by omega), Bool.eq_iff_iff]; simp; done)
      | (rw [strLt_end hall (by omega), Bool.eq_iff_iff]; simp; done)
  · try simp only [decide_eq_true_eq, decide_eq_false_iff_not, Bool.not_eq_true', Bool.not_eq_false', Int.not_lt, Int.not_le] at hb1
    refine st_pop rfl rfl rfl rfl ?_
    refine st_pop rfl rfl rfl rfl ?_
    refine st_pop rfl rfl rfl rfl ?_
    refine st_pop rfl rfl rfl rfl ?_
    refine st_pop rfl rfl rfl rfl ?_
    refine st_nil ?_
    refine wp_bit 15 rfl fun b hb2 => ?_
    cases b
    · try simp only [decide_eq_true_eq, decide_eq_false_iff_not, Bool.not_eq_true', Bool.not_eq_false', Int.not_lt, Int.not_le] at hb2
      refine wp_f rfl ?_
      refine awp_exit ?_
      refine at_exit ?_
      refine at_exit ?_
      refine ab_hit ?_
      refine at_norm ?_
      refine wp_reg ?_
      refine st_pop rfl rfl rfl rfl ?_
      refine st_pop rfl rfl rfl rfl ?_
      refine st_pop rfl rfl rfl rfl ?_
      refine st_pop rfl rfl rfl rfl ?_
      refine st_pop rfl rfl rfl rfl ?_
      refine st_pop rfl rfl rfl rfl ?_
      refine st_nil ?_
      refine awp_ret ?_
      refine ret_ret rfl rfl ?_
      refine wk_b ?_
      first
        | (rw [strLt_at hall hca hcb (by omega), Bool.eq_iff_iff]; simp; done)
        | (rw [strLt_end hall (by omega), Bool.eq_iff_iff]; simp; done)
    · try simp only [decide_eq_true_eq, decide_eq_false_iff_not, Bool.not_eq_true', Bool.not_eq_false', Int.not_lt, Int.not_le] at hb2
      obtain ⟨ca, hca⟩ := ba_some (s := a) (i := k) (by omega)
      obtain ⟨cb, hcb⟩ := ba_some (s := b) (i := k) (by omega)
      refine wp_t rfl ?_
      refine awp_skip ?_
      refine at_norm ?_
      refine awp_seq ?_
      refine awp_block ?_
      refine wp_regD (by kernel_rfl) ?_
      refine aq_pop rfl rfl rfl rfl ?_
      refine aq_pop rfl rfl rfl rfl ?_
      refine aq_idxS (n := k) ca rfl rfl rfl rfl rfl rfl rfl hca ?_
      refine aq_pop rfl rfl rfl rfl ?_
      refine aq_pop rfl rfl rfl rfl ?_
      refine aq_idxS (n := k) cb rfl rfl rfl rfl rfl rfl rfl hcb ?_
      refine aq_pop rfl rfl rfl rfl ?_
      refine aq_nil ?_
      refine wp_bit 24 rfl fun b hb3 => ?_
      cases b
      · try simp only [decide_eq_true_eq, decide_eq_false_iff_not, Bool.not_eq_true', Bool.not_eq_false', Int.not_lt, Int.not_le] at hb3
        refine wp_f rfl ?_
        refine awp_skip ?_
        refine ab_norm ?_
        refine at_norm ?_
        refine awp_region ?_
        refine st_pop rfl rfl rfl rfl ?_
        refine st_pop rfl rfl rfl rfl ?_
        refine st_pop rfl rfl rfl rfl ?_
        refine st_nil ?_
        refine at_norm ?_
        refine ⟨k + 1, ⟨by omega, same_step hall hca hcb (by omega)⟩, wk_frl (wk_cons rfl (wk_cons rfl (wk_cons (wrap_succ (by omega)) wk_nil))), rfl, by omega⟩
      · try simp only [decide_eq_true_eq, decide_eq_false_iff_not, Bool.not_eq_true', Bool.not_eq_false', Int.not_lt, Int.not_le] at hb3
        refine wp_t rfl ?_
        refine wp_regD (by kernel_rfl) ?_
        refine aq_pop rfl rfl rfl rfl ?_
        refine aq_pop rfl rfl rfl rfl ?_
        refine aq_idxS (n := k) ca rfl rfl rfl rfl rfl rfl rfl hca ?_
        refine aq_pop rfl rfl rfl rfl ?_
        refine aq_pop rfl rfl rfl rfl ?_
        refine aq_idxS (n := k) cb rfl rfl rfl rfl rfl rfl rfl hcb ?_
        refine aq_pop rfl rfl rfl rfl ?_
        refine aq_pop rfl rfl rfl rfl ?_
        refine aq_nil ?_
        refine awp_ret ?_
        refine ab_ret ?_
        refine at_ret ?_
        refine at_ret ?_
        refine ab_ret ?_
        refine at_ret ?_
        refine ret_ret rfl rfl ?_
        refine wk_b ?_
        first
          | (rw [strLt_at hall hca hcb (by omega), Bool.eq_iff_iff]; simp; done)
          | (rw [strLt_end hall (by omega), Bool.eq_iff_iff]; simp; done)
theorem refCelAhead_c (a b : Cel) (ha : a.fit) : ∀ H, ACalls tt 46 [.agg a.av, .agg b.av] H (fun res_ H' => res_ = .b (celLt a b) ∧ H' = H) := by
  obtain ⟨h1, h2⟩ := ha
  refine body_calc (T := tt) Try.func46 rfl Try.ntmps46 rfl rfl (by rfl) (by rfl) ?_
  refine wp_reg ?_
  refine st_box rfl rfl rfl rfl rfl rfl rfl rfl rfl ?_
  refine st_box rfl rfl rfl rfl rfl rfl rfl rfl rfl ?_
  refine st_pop rfl rfl rfl rfl ?_
  refine st_nil ?_
  refine awp_seq ?_
  refine wp_reg ?_
  refine st_pop rfl rfl rfl rfl ?_
  refine st_pop rfl rfl rfl rfl ?_
  refine st_pop rfl rfl rfl rfl ?_
  refine st_pop rfl rfl rfl rfl ?_
  refine st_pop rfl rfl rfl rfl ?_
  refine st_nil ?_
  refine wp_bit 9 rfl fun b hb1 => ?_
  cases b
  · try simp only [decide_eq_true_eq, decide_eq_false_iff_not, Bool.not_eq_true', Bool.not_eq_false', Int.not_lt, Int.not_le] at hb1
    refine wp_f rfl ?_
    refine awp_skip ?_
    refine at_norm ?_
    refine awp_seq ?_
    refine wp_reg ?_
    refine st_pop rfl rfl rfl rfl ?_
    refine st_pop rfl rfl rfl rfl ?_
    refine st_pop rfl rfl rfl rfl ?_
    refine st_pop rfl rfl rfl rfl ?_
    refine st_pop rfl rfl rfl rfl ?_
    refine st_nil ?_
    refine wp_bit 19 rfl fun b hb2 => ?_
    cases b
    · try simp only [decide_eq_true_eq, decide_eq_false_iff_not, Bool.not_eq_true', Bool.not_eq_false', Int.not_lt, Int.not_le] at hb2
      refine wp_f rfl ?_
      refine awp_skip ?_
      refine at_norm ?_
      refine wp_reg ?_
      refine st_pop rfl rfl rfl rfl ?_
      refine st_pop rfl rfl rfl rfl ?_
      refine st_pop rfl rfl rfl rfl ?_
      refine st_pop rfl rfl rfl rfl ?_
      refine st_calc (xs := [.tmp 26, .tmp 28]) _ rfl rfl rfl rfl Try.func68 rfl rfl rfl (below_c _ _ (by first | assumption | omega) _) ?_
      refine st_pop rfl rfl rfl rfl ?_
      refine st_nil ?_
      refine awp_ret ?_
      refine ret_ret rfl rfl ?_
      refine wk_b ?_; simp [celLt, *]
    · try simp only [decide_eq_true_eq, decide_eq_false_iff_not, Bool.not_eq_true', Bool.not_eq_false', Int.not_lt, Int.not_le] at hb2
      refine wp_t rfl ?_
      refine wp_reg ?_
      refine st_pop rfl rfl rfl rfl ?_
      refine st_pop rfl rfl rfl rfl ?_
      refine st_pop rfl rfl rfl rfl ?_
      refine st_pop rfl rfl rfl rfl ?_
      refine st_calc (xs := [.tmp 21, .tmp 23]) _ rfl rfl rfl rfl Try.func68 rfl rfl rfl (below_c _ _ (by first | assumption | omega) _) ?_
      refine st_pop rfl rfl rfl rfl ?_
      refine st_nil ?_
      refine awp_ret ?_
      refine at_ret ?_
      refine ret_ret rfl rfl ?_
      refine wk_b ?_; simp [celLt, *]
  · try simp only [decide_eq_true_eq, decide_eq_false_iff_not, Bool.not_eq_true', Bool.not_eq_false', Int.not_lt, Int.not_le] at hb1
    refine wp_t rfl ?_
    refine wp_reg ?_
    refine st_pop rfl rfl rfl rfl ?_
    refine st_pop rfl rfl rfl rfl ?_
    refine st_pop rfl rfl rfl rfl ?_
    refine st_pop rfl rfl rfl rfl ?_
    refine st_pop rfl rfl rfl rfl ?_
    refine st_pop rfl rfl rfl rfl ?_
    refine st_nil ?_
    refine awp_ret ?_
    refine at_ret ?_
    refine ret_ret rfl rfl ?_
    refine wk_b ?_; simp [celLt, *]
theorem refName_c (s : ByteArray) (hs : s.size ≤ 9223372036854775807) : ∀ H, ACalls tt 44 [.s s] H (fun res_ H' => res_ = .b (nameOk s) ∧ H' = H) := by
  refine body_calc (T := tt) Try.func44 rfl Try.ntmps44 rfl rfl (by rfl) (by rfl) ?_
  refine wp_reg ?_
  refine st_pop rfl rfl rfl rfl ?_
  refine st_nil ?_
  refine wp_reg ?_
  refine st_bslice (E := 9) (z := [.s noB]) [.const (.string ⟨#[116, 114, 117, 101]⟩), .const (.string ⟨#[102, 97, 108, 115, 101]⟩), .const (.string ⟨#[110, 111, 119]⟩), .const (.string ⟨#[98, 101, 103, 97, 110]⟩), .const (.string ⟨#[104, 97, 115]⟩), .const (.string ⟨#[108, 101, 110]⟩), .const (.string ⟨#[114, 97, 116, 101]⟩), .const (.string ⟨#[102, 108, 111, 111, 114]⟩), .const (.string ⟨#[109, 105, 110]⟩), .const (.string ⟨#[109, 97, 120]⟩)] rfl rfl rfl rfl rfl rfl rfl (by simp [ev, ofV, AV.sto, cellsOf, AV.flat]; rfl) rfl fun tk => ?_
  refine st_pop rfl rfl rfl rfl ?_
  refine st_nil ?_
  refine awp_seq ?_
  refine wp_reg ?_
  refine st_pop rfl rfl rfl rfl ?_
  refine st_nil ?_
  refine awp_block ?_
  refine wp_loop (α := Nat) (fun k => frl [(0, .s s), (3, .l (some tk) 9 wordsAV), (4, .i .i64 (k : Nat))]) (fun _ => ⟨[], [tk]⟩) (fun k => k ≤ 10 ∧ ∀ i w, i < k → words[i]? = some w → s ≠ w) (fun k => 10 - k) 0 ⟨Nat.zero_le _, fun i c h => absurd h (Nat.not_lt_zero _)⟩ (wk_frl (wk_cons rfl (wk_cons rfl (wk_cons rfl wk_nil)))) rfl ?_
  rintro k ⟨hk, hall⟩
  refine awp_seq ?_
  refine wp_reg ?_
  refine st_pop rfl rfl rfl rfl ?_
  refine st_pop rfl rfl rfl rfl ?_
  refine st_pop rfl rfl rfl rfl ?_
  refine st_pop rfl rfl rfl rfl ?_
  refine st_nil ?_
  refine wp_bit 12 rfl fun b hb1 => ?_
  cases b
  · try simp only [decide_eq_true_eq, decide_eq_false_iff_not, Bool.not_eq_true', Bool.not_eq_false', Int.not_lt, Int.not_le] at hb1
    have hres : reserved s = false := wend (by have := hb1; simp [wordsAV, words] at this; omega) hall
    refine wp_f rfl ?_
    refine awp_exit ?_
    refine at_exit ?_
    refine at_exit ?_
    refine ab_hit ?_
    refine at_norm ?_
    refine awp_seq ?_
    refine wp_reg ?_
    refine st_pop rfl rfl rfl rfl ?_
    refine st_nil ?_
    refine awp_block ?_
    refine wp_loop (α := Nat) (fun k => frl [(0, .s s), (5, .i .i64 (k : Nat))]) (fun _ => ⟨[], [tk]⟩) (fun k => k ≤ s.size ∧ ∀ i c, i < k → s[i]? = some c → nameAt i c = true) (fun k => s.size - k) 0 ⟨Nat.zero_le _, fun i c h => absurd h (Nat.not_lt_zero _)⟩ (wk_frl (wk_cons rfl (wk_cons rfl wk_nil))) rfl ?_
    rintro k ⟨hk, hall⟩
    refine awp_seq ?_
    refine wp_reg ?_
    refine st_pop rfl rfl rfl rfl ?_
    refine st_pop rfl rfl rfl rfl ?_
    refine st_pop rfl rfl rfl rfl ?_
    refine st_pop rfl rfl rfl rfl ?_
    refine st_nil ?_
    refine wp_bit 24 rfl fun b hb2 => ?_
    cases b
    · try simp only [decide_eq_true_eq, decide_eq_false_iff_not, Bool.not_eq_true', Bool.not_eq_false', Int.not_lt, Int.not_le] at hb2
      refine wp_f rfl ?_
      refine awp_exit ?_
      refine at_exit ?_
      refine at_exit ?_
      refine ab_hit ?_
      refine at_norm ?_
      refine wp_reg ?_
      refine st_pop rfl rfl rfl rfl ?_
      refine st_pop rfl rfl rfl rfl ?_
      refine st_pop rfl rfl rfl rfl ?_
      refine st_pop rfl rfl rfl rfl ?_
      refine st_bit 66 rfl fun b hb3 => ?_
      cases b
      · try simp only [decide_eq_true_eq, decide_eq_false_iff_not, Bool.not_eq_true', Bool.not_eq_false', Int.not_lt, Int.not_le] at hb3
        refine st_skip rfl rfl rfl ?_
        refine st_skip rfl rfl rfl ?_
        refine st_skip rfl rfl rfl ?_
        refine st_pop rfl rfl rfl rfl ?_
        refine st_pop rfl rfl rfl rfl ?_
        refine st_nil ?_
        refine awp_ret ?_
        refine ret_ret rfl rfl ?_
        refine wk_b ?_
        first
          | (have hr : reserved s = true := wyes hw (by assumption); simp [nameOk, hr]; done)
          | (rw [nameOk_no (nameNo hc (by simp [nameAt, lowC]; omega))])
          | (rw [nameOk_eq, nameYes (k := k) (by omega) hall, hres, Bool.eq_iff_iff]; simp; omega)
      · try simp only [decide_eq_true_eq, decide_eq_false_iff_not, Bool.not_eq_true', Bool.not_eq_false', Int.not_lt, Int.not_le] at hb3
        refine st_pop rfl rfl rfl rfl ?_
        refine st_pop rfl rfl rfl rfl ?_
        refine st_pop rfl rfl rfl rfl ?_
        refine st_pop rfl rfl rfl rfl ?_
        refine st_pop rfl rfl rfl rfl ?_
        refine st_nil ?_
        refine awp_ret ?_
        refine ret_ret rfl rfl ?_
        refine wk_b ?_
        first
          | (have hr : reserved s = true := wyes hw (by assumption); simp [nameOk, hr]; done)
          | (rw [nameOk_no (nameNo hc (by simp [nameAt, lowC]; omega))])
          | (rw [nameOk_eq, nameYes (k := k) (by omega) hall, hres, Bool.eq_iff_iff]; simp; omega)
    · try simp only [decide_eq_true_eq, decide_eq_false_iff_not, Bool.not_eq_true', Bool.not_eq_false', Int.not_lt, Int.not_le] at hb2
      obtain ⟨c, hc⟩ := ba_some (s := s) (i := k) (by omega)
      refine wp_t rfl ?_
      refine awp_skip ?_
      refine at_norm ?_
      refine awp_seq ?_
      refine awp_block ?_
      refine wp_reg ?_
      refine st_pop rfl rfl rfl rfl ?_
      refine st_pop rfl rfl rfl rfl ?_
      refine st_idxS (n := k) c rfl rfl rfl rfl rfl rfl rfl hc ?_
      refine st_pop rfl rfl rfl rfl ?_
      refine st_pop rfl rfl rfl rfl ?_
      refine st_bit 31 rfl fun b hb4 => ?_
      cases b
      · try simp only [decide_eq_true_eq, decide_eq_false_iff_not, Bool.not_eq_true', Bool.not_eq_false', Int.not_lt, Int.not_le] at hb4
        refine st_skip rfl rfl rfl ?_
        refine st_skip rfl rfl rfl ?_
        refine st_skip rfl rfl rfl ?_
        refine st_skip rfl rfl rfl ?_
        refine st_pop rfl rfl rfl rfl ?_
        refine st_pop rfl rfl rfl rfl ?_
        refine st_nil ?_
        refine wp_reg ?_
        refine st_pop rfl rfl rfl rfl ?_
        refine st_pop rfl rfl rfl rfl ?_
        refine st_pop rfl rfl rfl rfl ?_
        refine st_bit 39 rfl fun b hb5 => ?_
        cases b
        · try simp only [decide_eq_true_eq, decide_eq_false_iff_not, Bool.not_eq_true', Bool.not_eq_false', Int.not_lt, Int.not_le] at hb5
          refine st_skip rfl rfl rfl ?_
          refine st_skip rfl rfl rfl ?_
          refine st_skip rfl rfl rfl ?_
          refine st_skip rfl rfl rfl ?_
          refine st_skip rfl rfl rfl ?_
          refine st_skip rfl rfl rfl ?_
          refine st_skip rfl rfl rfl ?_
          refine st_skip rfl rfl rfl ?_
          refine st_skip rfl rfl rfl ?_
          refine st_skip rfl rfl rfl ?_
          refine st_skip rfl rfl rfl ?_
          refine st_skip rfl rfl rfl ?_
          refine st_skip rfl rfl rfl ?_
          refine st_skip rfl rfl rfl ?_
          refine st_skip rfl rfl rfl ?_
          refine st_skip rfl rfl rfl ?_
          refine st_pop rfl rfl rfl rfl ?_
          refine st_pop rfl rfl rfl rfl ?_
          refine st_nil ?_
          refine wp_reg ?_
          refine st_pop rfl rfl rfl rfl ?_
          refine st_pop rfl rfl rfl rfl ?_
          refine st_pop rfl rfl rfl rfl ?_
          refine st_pop rfl rfl rfl rfl ?_
          refine st_pop rfl rfl rfl rfl ?_
          refine st_pop rfl rfl rfl rfl ?_
          refine st_nil ?_
          refine wp_t rfl ?_
          refine wp_reg ?_
          refine st_pop rfl rfl rfl rfl ?_
          refine st_nil ?_
          refine awp_ret ?_
          refine ab_ret ?_
          refine at_ret ?_
          refine at_ret ?_
          refine ab_ret ?_
          refine at_ret ?_
          refine ret_ret rfl rfl ?_
          refine wk_b ?_
          first
            | (have hr : reserved s = true := wyes hw (by assumption); simp [nameOk, hr]; done)
            | (rw [nameOk_no (nameNo hc (by simp [nameAt, lowC]; omega))])
            | (rw [nameOk_eq, nameYes (k := k) (by omega) hall, hres, Bool.eq_iff_iff]; simp; omega)
        · try simp only [decide_eq_true_eq, decide_eq_false_iff_not, Bool.not_eq_true', Bool.not_eq_false', Int.not_lt, Int.not_le] at hb5
          refine st_pop rfl rfl rfl rfl ?_
          refine st_pop rfl rfl rfl rfl ?_
          refine st_idxS (n := k) c rfl rfl rfl rfl rfl rfl rfl hc ?_
          refine st_pop rfl rfl rfl rfl ?_
          refine st_pop rfl rfl rfl rfl ?_
          refine st_bit 44 rfl fun b hb6 => ?_
          cases b
          · try simp only [decide_eq_true_eq, decide_eq_false_iff_not, Bool.not_eq_true', Bool.not_eq_false', Int.not_lt, Int.not_le] at hb6
            refine st_pop rfl rfl rfl rfl ?_
            refine st_pop rfl rfl rfl rfl ?_
            refine st_idxS (n := k) c rfl rfl rfl rfl rfl rfl rfl hc ?_
            refine st_pop rfl rfl rfl rfl ?_
            refine st_pop rfl rfl rfl rfl ?_
            refine st_bit 49 rfl fun b hb7 => ?_
            cases b
            · try simp only [decide_eq_true_eq, decide_eq_false_iff_not, Bool.not_eq_true', Bool.not_eq_false', Int.not_lt, Int.not_le] at hb7
              refine st_skip rfl rfl rfl ?_
              refine st_skip rfl rfl rfl ?_
              refine st_skip rfl rfl rfl ?_
              refine st_skip rfl rfl rfl ?_
              refine st_pop rfl rfl rfl rfl ?_
              refine st_pop rfl rfl rfl rfl ?_
              refine st_pop rfl rfl rfl rfl ?_
              refine st_pop rfl rfl rfl rfl ?_
              refine st_nil ?_
              refine wp_reg ?_
              refine st_pop rfl rfl rfl rfl ?_
              refine st_pop rfl rfl rfl rfl ?_
              refine st_pop rfl rfl rfl rfl ?_
              refine st_pop rfl rfl rfl rfl ?_
              refine st_pop rfl rfl rfl rfl ?_
              refine st_pop rfl rfl rfl rfl ?_
              refine st_nil ?_
              refine wp_t rfl ?_
              refine wp_reg ?_
              refine st_pop rfl rfl rfl rfl ?_
              refine st_nil ?_
              refine awp_ret ?_
              refine ab_ret ?_
              refine at_ret ?_
              refine at_ret ?_
              refine ab_ret ?_
              refine at_ret ?_
              refine ret_ret rfl rfl ?_
              refine wk_b ?_
              first
                | (have hr : reserved s = true := wyes hw (by assumption); simp [nameOk, hr]; done)
                | (rw [nameOk_no (nameNo hc (by simp [nameAt, lowC]; omega))])
                | (rw [nameOk_eq, nameYes (k := k) (by omega) hall, hres, Bool.eq_iff_iff]; simp; omega)
            · try simp only [decide_eq_true_eq, decide_eq_false_iff_not, Bool.not_eq_true', Bool.not_eq_false', Int.not_lt, Int.not_le] at hb7
              refine st_pop rfl rfl rfl rfl ?_
              refine st_pop rfl rfl rfl rfl ?_
              refine st_idxS (n := k) c rfl rfl rfl rfl rfl rfl rfl hc ?_
              refine st_pop rfl rfl rfl rfl ?_
              refine st_pop rfl rfl rfl rfl ?_
              refine st_pop rfl rfl rfl rfl ?_
              refine st_pop rfl rfl rfl rfl ?_
              refine st_pop rfl rfl rfl rfl ?_
              refine st_nil ?_
              refine wp_reg ?_
              refine st_pop rfl rfl rfl rfl ?_
              refine st_pop rfl rfl rfl rfl ?_
              refine st_pop rfl rfl rfl rfl ?_
              refine st_pop rfl rfl rfl rfl ?_
              refine st_pop rfl rfl rfl rfl ?_
              refine st_pop rfl rfl rfl rfl ?_
              refine st_nil ?_
              refine wp_bit 62 rfl fun b hb8 => ?_
              cases b
              · try simp only [decide_eq_true_eq, decide_eq_false_iff_not, Bool.not_eq_true', Bool.not_eq_false', Int.not_lt, Int.not_le] at hb8
                refine wp_f rfl ?_
                refine awp_skip ?_
                refine ab_norm ?_
                refine at_norm ?_
                refine awp_region ?_
                refine st_pop rfl rfl rfl rfl ?_
                refine st_pop rfl rfl rfl rfl ?_
                refine st_pop rfl rfl rfl rfl ?_
                refine st_nil ?_
                refine at_norm ?_
                refine ⟨k + 1, ⟨by omega, nstep hc (by simp [nameAt, lowC]; omega) hall⟩, wk_frl (wk_cons rfl (wk_cons (wrap_succ (by omega)) wk_nil)), rfl, by omega⟩
              · try simp only [decide_eq_true_eq, decide_eq_false_iff_not, Bool.not_eq_true', Bool.not_eq_false', Int.not_lt, Int.not_le] at hb8
                refine wp_t rfl ?_
                refine wp_reg ?_
                refine st_pop rfl rfl rfl rfl ?_
                refine st_nil ?_
                refine awp_ret ?_
                refine ab_ret ?_
                refine at_ret ?_
                refine at_ret ?_
                refine ab_ret ?_
                refine at_ret ?_
                refine ret_ret rfl rfl ?_
                refine wk_b ?_
                first
                  | (have hr : reserved s = true := wyes hw (by assumption); simp [nameOk, hr]; done)
                  | (rw [nameOk_no (nameNo hc (by simp [nameAt, lowC]; omega))])
                  | (rw [nameOk_eq, nameYes (k := k) (by omega) hall, hres, Bool.eq_iff_iff]; simp; omega)
          · try simp only [decide_eq_true_eq, decide_eq_false_iff_not, Bool.not_eq_true', Bool.not_eq_false', Int.not_lt, Int.not_le] at hb6
            refine st_skip rfl rfl rfl ?_
            refine st_skip rfl rfl rfl ?_
            refine st_skip rfl rfl rfl ?_
            refine st_skip rfl rfl rfl ?_
            refine st_skip rfl rfl rfl ?_
            refine st_skip rfl rfl rfl ?_
            refine st_skip rfl rfl rfl ?_
            refine st_skip rfl rfl rfl ?_
            refine st_skip rfl rfl rfl ?_
            refine st_skip rfl rfl rfl ?_
            refine st_pop rfl rfl rfl rfl ?_
            refine st_pop rfl rfl rfl rfl ?_
            refine st_pop rfl rfl rfl rfl ?_
            refine st_nil ?_
            refine wp_reg ?_
            refine st_pop rfl rfl rfl rfl ?_
            refine st_pop rfl rfl rfl rfl ?_
            refine st_pop rfl rfl rfl rfl ?_
            refine st_pop rfl rfl rfl rfl ?_
            refine st_pop rfl rfl rfl rfl ?_
            refine st_pop rfl rfl rfl rfl ?_
            refine st_nil ?_
            refine wp_f rfl ?_
            refine awp_skip ?_
            refine ab_norm ?_
            refine at_norm ?_
            refine awp_region ?_
            refine st_pop rfl rfl rfl rfl ?_
            refine st_pop rfl rfl rfl rfl ?_
            refine st_pop rfl rfl rfl rfl ?_
            refine st_nil ?_
            refine at_norm ?_
            refine ⟨k + 1, ⟨by omega, nstep hc (by simp [nameAt, lowC]; omega) hall⟩, wk_frl (wk_cons rfl (wk_cons (wrap_succ (by omega)) wk_nil)), rfl, by omega⟩
      · try simp only [decide_eq_true_eq, decide_eq_false_iff_not, Bool.not_eq_true', Bool.not_eq_false', Int.not_lt, Int.not_le] at hb4
        refine st_pop rfl rfl rfl rfl ?_
        refine st_pop rfl rfl rfl rfl ?_
        refine st_idxS (n := k) c rfl rfl rfl rfl rfl rfl rfl hc ?_
        refine st_pop rfl rfl rfl rfl ?_
        refine st_pop rfl rfl rfl rfl ?_
        refine st_pop rfl rfl rfl rfl ?_
        refine st_nil ?_
        refine wp_reg ?_
        refine st_pop rfl rfl rfl rfl ?_
        refine st_pop rfl rfl rfl rfl ?_
        refine st_pop rfl rfl rfl rfl ?_
        refine st_bit 39 rfl fun b hb9 => ?_
        cases b
        · try simp only [decide_eq_true_eq, decide_eq_false_iff_not, Bool.not_eq_true', Bool.not_eq_false', Int.not_lt, Int.not_le] at hb9
          refine st_skip rfl rfl rfl ?_
          refine st_skip rfl rfl rfl ?_
          refine st_skip rfl rfl rfl ?_
          refine st_skip rfl rfl rfl ?_
          refine st_skip rfl rfl rfl ?_
          refine st_skip rfl rfl rfl ?_
          refine st_skip rfl rfl rfl ?_
          refine st_skip rfl rfl rfl ?_
          refine st_skip rfl rfl rfl ?_
          refine st_skip rfl rfl rfl ?_
          refine st_skip rfl rfl rfl ?_
          refine st_skip rfl rfl rfl ?_
          refine st_skip rfl rfl rfl ?_
          refine st_skip rfl rfl rfl ?_
          refine st_skip rfl rfl rfl ?_
          refine st_skip rfl rfl rfl ?_
          refine st_pop rfl rfl rfl rfl ?_
          refine st_pop rfl rfl rfl rfl ?_
          refine st_nil ?_
          refine wp_reg ?_
          refine st_pop rfl rfl rfl rfl ?_
          refine st_pop rfl rfl rfl rfl ?_
          refine st_pop rfl rfl rfl rfl ?_
          refine st_bit 59 rfl fun b hb10 => ?_
          cases b
          · try simp only [decide_eq_true_eq, decide_eq_false_iff_not, Bool.not_eq_true', Bool.not_eq_false', Int.not_lt, Int.not_le] at hb10
            refine st_skip rfl rfl rfl ?_
            refine st_skip rfl rfl rfl ?_
            refine st_pop rfl rfl rfl rfl ?_
            refine st_nil ?_
            refine wp_f rfl ?_
            refine awp_skip ?_
            refine ab_norm ?_
            refine at_norm ?_
            refine awp_region ?_
            refine st_pop rfl rfl rfl rfl ?_
            refine st_pop rfl rfl rfl rfl ?_
            refine st_pop rfl rfl rfl rfl ?_
            refine st_nil ?_
            refine at_norm ?_
            refine ⟨k + 1, ⟨by omega, nstep hc (by simp [nameAt, lowC]; omega) hall⟩, wk_frl (wk_cons rfl (wk_cons (wrap_succ (by omega)) wk_nil)), rfl, by omega⟩
          · try simp only [decide_eq_true_eq, decide_eq_false_iff_not, Bool.not_eq_true', Bool.not_eq_false', Int.not_lt, Int.not_le] at hb10
            refine st_pop rfl rfl rfl rfl ?_
            refine st_pop rfl rfl rfl rfl ?_
            refine st_pop rfl rfl rfl rfl ?_
            refine st_nil ?_
            refine wp_t rfl ?_
            refine wp_reg ?_
            refine st_pop rfl rfl rfl rfl ?_
            refine st_nil ?_
            refine awp_ret ?_
            refine ab_ret ?_
            refine at_ret ?_
            refine at_ret ?_
            refine ab_ret ?_
            refine at_ret ?_
            refine ret_ret rfl rfl ?_
            refine wk_b ?_
            first
              | (have hr : reserved s = true := wyes hw (by assumption); simp [nameOk, hr]; done)
              | (rw [nameOk_no (nameNo hc (by simp [nameAt, lowC]; omega))])
              | (rw [nameOk_eq, nameYes (k := k) (by omega) hall, hres, Bool.eq_iff_iff]; simp; omega)
        · try simp only [decide_eq_true_eq, decide_eq_false_iff_not, Bool.not_eq_true', Bool.not_eq_false', Int.not_lt, Int.not_le] at hb9
          refine st_pop rfl rfl rfl rfl ?_
          refine st_pop rfl rfl rfl rfl ?_
          refine st_idxS (n := k) c rfl rfl rfl rfl rfl rfl rfl hc ?_
          refine st_pop rfl rfl rfl rfl ?_
          refine st_pop rfl rfl rfl rfl ?_
          refine st_bit 44 rfl fun b hb11 => ?_
          cases b
          · try simp only [decide_eq_true_eq, decide_eq_false_iff_not, Bool.not_eq_true', Bool.not_eq_false', Int.not_lt, Int.not_le] at hb11
            refine st_pop rfl rfl rfl rfl ?_
            refine st_pop rfl rfl rfl rfl ?_
            refine st_idxS (n := k) c rfl rfl rfl rfl rfl rfl rfl hc ?_
            refine st_pop rfl rfl rfl rfl ?_
            refine st_pop rfl rfl rfl rfl ?_
            refine st_bit 49 rfl fun b hb12 => ?_
            cases b
            · try simp only [decide_eq_true_eq, decide_eq_false_iff_not, Bool.not_eq_true', Bool.not_eq_false', Int.not_lt, Int.not_le] at hb12
              refine st_skip rfl rfl rfl ?_
              refine st_skip rfl rfl rfl ?_
              refine st_skip rfl rfl rfl ?_
              refine st_skip rfl rfl rfl ?_
              refine st_pop rfl rfl rfl rfl ?_
              refine st_pop rfl rfl rfl rfl ?_
              refine st_pop rfl rfl rfl rfl ?_
              refine st_pop rfl rfl rfl rfl ?_
              refine st_nil ?_
              refine wp_reg ?_
              refine st_pop rfl rfl rfl rfl ?_
              refine st_pop rfl rfl rfl rfl ?_
              refine st_pop rfl rfl rfl rfl ?_
              refine st_bit 59 rfl fun b hb13 => ?_
              cases b
              · try simp only [decide_eq_true_eq, decide_eq_false_iff_not, Bool.not_eq_true', Bool.not_eq_false', Int.not_lt, Int.not_le] at hb13
                refine st_skip rfl rfl rfl ?_
                refine st_skip rfl rfl rfl ?_
                refine st_pop rfl rfl rfl rfl ?_
                refine st_nil ?_
                refine wp_f rfl ?_
                refine awp_skip ?_
                refine ab_norm ?_
                refine at_norm ?_
                refine awp_region ?_
                refine st_pop rfl rfl rfl rfl ?_
                refine st_pop rfl rfl rfl rfl ?_
                refine st_pop rfl rfl rfl rfl ?_
                refine st_nil ?_
                refine at_norm ?_
                refine ⟨k + 1, ⟨by omega, nstep hc (by simp [nameAt, lowC]; omega) hall⟩, wk_frl (wk_cons rfl (wk_cons (wrap_succ (by omega)) wk_nil)), rfl, by omega⟩
              · try simp only [decide_eq_true_eq, decide_eq_false_iff_not, Bool.not_eq_true', Bool.not_eq_false', Int.not_lt, Int.not_le] at hb13
                refine st_pop rfl rfl rfl rfl ?_
                refine st_pop rfl rfl rfl rfl ?_
                refine st_pop rfl rfl rfl rfl ?_
                refine st_nil ?_
                refine wp_t rfl ?_
                refine wp_reg ?_
                refine st_pop rfl rfl rfl rfl ?_
                refine st_nil ?_
                refine awp_ret ?_
                refine ab_ret ?_
                refine at_ret ?_
                refine at_ret ?_
                refine ab_ret ?_
                refine at_ret ?_
                refine ret_ret rfl rfl ?_
                refine wk_b ?_
                first
                  | (have hr : reserved s = true := wyes hw (by assumption); simp [nameOk, hr]; done)
                  | (rw [nameOk_no (nameNo hc (by simp [nameAt, lowC]; omega))])
                  | (rw [nameOk_eq, nameYes (k := k) (by omega) hall, hres, Bool.eq_iff_iff]; simp; omega)
            · try simp only [decide_eq_true_eq, decide_eq_false_iff_not, Bool.not_eq_true', Bool.not_eq_false', Int.not_lt, Int.not_le] at hb12
              refine st_pop rfl rfl rfl rfl ?_
              refine st_pop rfl rfl rfl rfl ?_
              refine st_idxS (n := k) c rfl rfl rfl rfl rfl rfl rfl hc ?_
              refine st_pop rfl rfl rfl rfl ?_
              refine st_pop rfl rfl rfl rfl ?_
              refine st_pop rfl rfl rfl rfl ?_
              refine st_pop rfl rfl rfl rfl ?_
              refine st_pop rfl rfl rfl rfl ?_
              refine st_nil ?_
              refine wp_reg ?_
              refine st_pop rfl rfl rfl rfl ?_
              refine st_pop rfl rfl rfl rfl ?_
              refine st_pop rfl rfl rfl rfl ?_
              refine st_bit 59 rfl fun b hb14 => ?_
              cases b
              · try simp only [decide_eq_true_eq, decide_eq_false_iff_not, Bool.not_eq_true', Bool.not_eq_false', Int.not_lt, Int.not_le] at hb14
                refine st_skip rfl rfl rfl ?_
                refine st_skip rfl rfl rfl ?_
                refine st_pop rfl rfl rfl rfl ?_
                refine st_nil ?_
                refine wp_f rfl ?_
                refine awp_skip ?_
                refine ab_norm ?_
                refine at_norm ?_
                refine awp_region ?_
                refine st_pop rfl rfl rfl rfl ?_
                refine st_pop rfl rfl rfl rfl ?_
                refine st_pop rfl rfl rfl rfl ?_
                refine st_nil ?_
                refine at_norm ?_
                refine ⟨k + 1, ⟨by omega, nstep hc (by simp [nameAt, lowC]; omega) hall⟩, wk_frl (wk_cons rfl (wk_cons (wrap_succ (by omega)) wk_nil)), rfl, by omega⟩
              · try simp only [decide_eq_true_eq, decide_eq_false_iff_not, Bool.not_eq_true', Bool.not_eq_false', Int.not_lt, Int.not_le] at hb14
                refine st_pop rfl rfl rfl rfl ?_
                refine st_pop rfl rfl rfl rfl ?_
                refine st_pop rfl rfl rfl rfl ?_
                refine st_nil ?_
                refine wp_bit 62 rfl fun b hb15 => ?_
                cases b
                · try simp only [decide_eq_true_eq, decide_eq_false_iff_not, Bool.not_eq_true', Bool.not_eq_false', Int.not_lt, Int.not_le] at hb15
                  refine wp_f rfl ?_
                  refine awp_skip ?_
                  refine ab_norm ?_
                  refine at_norm ?_
                  refine awp_region ?_
                  refine st_pop rfl rfl rfl rfl ?_
                  refine st_pop rfl rfl rfl rfl ?_
                  refine st_pop rfl rfl rfl rfl ?_
                  refine st_nil ?_
                  refine at_norm ?_
                  refine ⟨k + 1, ⟨by omega, nstep hc (by simp [nameAt, lowC]; omega) hall⟩, wk_frl (wk_cons rfl (wk_cons (wrap_succ (by omega)) wk_nil)), rfl, by omega⟩
                · try simp only [decide_eq_true_eq, decide_eq_false_iff_not, Bool.not_eq_true', Bool.not_eq_false', Int.not_lt, Int.not_le] at hb15
                  refine wp_t rfl ?_
                  refine wp_reg ?_
                  refine st_pop rfl rfl rfl rfl ?_
                  refine st_nil ?_
                  refine awp_ret ?_
                  refine ab_ret ?_
                  refine at_ret ?_
                  refine at_ret ?_
                  refine ab_ret ?_
                  refine at_ret ?_
                  refine ret_ret rfl rfl ?_
                  refine wk_b ?_
                  first
                    | (have hr : reserved s = true := wyes hw (by assumption); simp [nameOk, hr]; done)
                    | (rw [nameOk_no (nameNo hc (by simp [nameAt, lowC]; omega))])
                    | (rw [nameOk_eq, nameYes (k := k) (by omega) hall, hres, Bool.eq_iff_iff]; simp; omega)
          · try simp only [decide_eq_true_eq, decide_eq_false_iff_not, Bool.not_eq_true', Bool.not_eq_false', Int.not_lt, Int.not_le] at hb11
            refine st_skip rfl rfl rfl ?_
            refine st_skip rfl rfl rfl ?_
            refine st_skip rfl rfl rfl ?_
            refine st_skip rfl rfl rfl ?_
            refine st_skip rfl rfl rfl ?_
            refine st_skip rfl rfl rfl ?_
            refine st_skip rfl rfl rfl ?_
            refine st_skip rfl rfl rfl ?_
            refine st_skip rfl rfl rfl ?_
            refine st_skip rfl rfl rfl ?_
            refine st_pop rfl rfl rfl rfl ?_
            refine st_pop rfl rfl rfl rfl ?_
            refine st_pop rfl rfl rfl rfl ?_
            refine st_nil ?_
            refine wp_reg ?_
            refine st_pop rfl rfl rfl rfl ?_
            refine st_pop rfl rfl rfl rfl ?_
            refine st_pop rfl rfl rfl rfl ?_
            refine st_bit 59 rfl fun b hb16 => ?_
            cases b
            · try simp only [decide_eq_true_eq, decide_eq_false_iff_not, Bool.not_eq_true', Bool.not_eq_false', Int.not_lt, Int.not_le] at hb16
              refine st_skip rfl rfl rfl ?_
              refine st_skip rfl rfl rfl ?_
              refine st_pop rfl rfl rfl rfl ?_
              refine st_nil ?_
              refine wp_f rfl ?_
              refine awp_skip ?_
              refine ab_norm ?_
              refine at_norm ?_
              refine awp_region ?_
              refine st_pop rfl rfl rfl rfl ?_
              refine st_pop rfl rfl rfl rfl ?_
              refine st_pop rfl rfl rfl rfl ?_
              refine st_nil ?_
              refine at_norm ?_
              refine ⟨k + 1, ⟨by omega, nstep hc (by simp [nameAt, lowC]; omega) hall⟩, wk_frl (wk_cons rfl (wk_cons (wrap_succ (by omega)) wk_nil)), rfl, by omega⟩
            · try simp only [decide_eq_true_eq, decide_eq_false_iff_not, Bool.not_eq_true', Bool.not_eq_false', Int.not_lt, Int.not_le] at hb16
              refine st_pop rfl rfl rfl rfl ?_
              refine st_pop rfl rfl rfl rfl ?_
              refine st_pop rfl rfl rfl rfl ?_
              refine st_nil ?_
              refine wp_f rfl ?_
              refine awp_skip ?_
              refine ab_norm ?_
              refine at_norm ?_
              refine awp_region ?_
              refine st_pop rfl rfl rfl rfl ?_
              refine st_pop rfl rfl rfl rfl ?_
              refine st_pop rfl rfl rfl rfl ?_
              refine st_nil ?_
              refine at_norm ?_
              refine ⟨k + 1, ⟨by omega, nstep hc (by simp [nameAt, lowC]; omega) hall⟩, wk_frl (wk_cons rfl (wk_cons (wrap_succ (by omega)) wk_nil)), rfl, by omega⟩
  · try simp only [decide_eq_true_eq, decide_eq_false_iff_not, Bool.not_eq_true', Bool.not_eq_false', Int.not_lt, Int.not_le] at hb1
    have hk10 : k < 10 := (by have := hb1; simp [wordsAV, words] at this; omega)
    obtain ⟨w, hw⟩ : ∃ w, words[k]? = some w := ⟨_, List.getElem?_eq_getElem hk10⟩
    refine wp_t rfl ?_
    refine awp_skip ?_
    refine at_norm ?_
    refine awp_seq ?_
    refine awp_block ?_
    refine wp_reg ?_
    refine st_pop rfl rfl rfl rfl ?_
    refine st_pop rfl rfl rfl rfl ?_
    refine st_pop rfl rfl rfl rfl ?_
    refine st_idxA (n := k) [.s w] rfl rfl rfl rfl rfl rfl rfl rfl (by simp [wordsAV, hw]) ?_
    refine st_pop rfl rfl rfl rfl ?_
    refine st_pop rfl rfl rfl rfl ?_
    refine st_nil ?_
    refine wp_bit 20 rfl fun b hb17 => ?_
    cases b
    · try simp only [decide_eq_true_eq, decide_eq_false_iff_not, Bool.not_eq_true', Bool.not_eq_false', Int.not_lt, Int.not_le] at hb17
      refine wp_f rfl ?_
      refine awp_skip ?_
      refine ab_norm ?_
      refine at_norm ?_
      refine awp_region ?_
      refine st_pop rfl rfl rfl rfl ?_
      refine st_pop rfl rfl rfl rfl ?_
      refine st_pop rfl rfl rfl rfl ?_
      refine st_nil ?_
      refine at_norm ?_
      refine ⟨k + 1, ⟨by omega, wstep hw (by assumption) hall⟩, wk_frl (wk_cons rfl (wk_cons rfl (wk_cons (wrap_succ (by omega)) wk_nil))), rfl, by omega⟩
    · try simp only [decide_eq_true_eq, decide_eq_false_iff_not, Bool.not_eq_true', Bool.not_eq_false', Int.not_lt, Int.not_le] at hb17
      refine wp_t rfl ?_
      refine wp_reg ?_
      refine st_pop rfl rfl rfl rfl ?_
      refine st_nil ?_
      refine awp_ret ?_
      refine ab_ret ?_
      refine at_ret ?_
      refine at_ret ?_
      refine ab_ret ?_
      refine at_ret ?_
      refine ret_ret rfl rfl ?_
      refine wk_b ?_
      first
        | (have hr : reserved s = true := wyes hw (by assumption); simp [nameOk, hr]; done)
        | (rw [nameOk_no (nameNo hc (by simp [nameAt, lowC]; omega))])
        | (rw [nameOk_eq, nameYes (k := k) (by omega) hall, hres, Bool.eq_iff_iff]; simp; omega)
theorem refRef_c (r : Ref) (hr : r.fit) : ∀ H, ACalls tt 43 [.agg r.av] H (fun res_ H' => res_ = .b (refOk r) ∧ H' = H) := by
  refine body_calc (T := tt) Try.func43 rfl Try.ntmps43 rfl rfl (by rfl) (by rfl) ?_
  refine wp_reg ?_
  refine st_box rfl rfl rfl rfl rfl rfl rfl rfl rfl ?_
  refine st_pop rfl rfl rfl rfl ?_
  refine st_nil ?_
  refine wp_reg ?_
  refine st_pop rfl rfl rfl rfl ?_
  refine st_pop rfl rfl rfl rfl ?_
  refine st_calc (xs := [.tmp 5]) _ rfl rfl rfl rfl Try.func44 rfl rfl rfl (refName_c _ hr _) ?_
  refine st_pop rfl rfl rfl rfl ?_
  refine st_nil ?_
  refine wp_reg ?_
  refine st_pop rfl rfl rfl rfl ?_
  refine st_pop rfl rfl rfl rfl ?_
  refine st_bit 8 rfl fun b hb1 => ?_
  cases b
  · try simp only [decide_eq_true_eq, decide_eq_false_iff_not, Bool.not_eq_true', Bool.not_eq_false', Int.not_lt, Int.not_le] at hb1
    refine st_skip rfl rfl rfl ?_
    refine st_skip rfl rfl rfl ?_
    refine st_skip rfl rfl rfl ?_
    refine st_pop rfl rfl rfl rfl ?_
    refine st_pop rfl rfl rfl rfl ?_
    refine st_skip rfl rfl rfl ?_
    refine st_skip rfl rfl rfl ?_
    refine st_skip rfl rfl rfl ?_
    refine st_pop rfl rfl rfl rfl ?_
    refine st_pop rfl rfl rfl rfl ?_
    refine st_nil ?_
    refine awp_ret ?_
    refine ret_ret rfl rfl ?_
    refine wk_b ?_
    first
      | (simp [refOk, scopeB, *]; done)
      | (rw [Bool.eq_iff_iff]; simp [refOk, scopeB, *]; done)
      | (rw [Bool.eq_iff_iff]; simp [refOk, scopeB, *]; omega)
  · try simp only [decide_eq_true_eq, decide_eq_false_iff_not, Bool.not_eq_true', Bool.not_eq_false', Int.not_lt, Int.not_le] at hb1
    refine st_pop rfl rfl rfl rfl ?_
    refine st_pop rfl rfl rfl rfl ?_
    refine st_pop rfl rfl rfl rfl ?_
    refine st_pop rfl rfl rfl rfl ?_
    refine st_pop rfl rfl rfl rfl ?_
    refine st_bit 13 rfl fun b hb2 => ?_
    cases b
    · try simp only [decide_eq_true_eq, decide_eq_false_iff_not, Bool.not_eq_true', Bool.not_eq_false', Int.not_lt, Int.not_le] at hb2
      refine st_skip rfl rfl rfl ?_
      refine st_skip rfl rfl rfl ?_
      refine st_skip rfl rfl rfl ?_
      refine st_pop rfl rfl rfl rfl ?_
      refine st_pop rfl rfl rfl rfl ?_
      refine st_nil ?_
      refine awp_ret ?_
      refine ret_ret rfl rfl ?_
      refine wk_b ?_
      first
        | (simp [refOk, scopeB, *]; done)
        | (rw [Bool.eq_iff_iff]; simp [refOk, scopeB, *]; done)
        | (rw [Bool.eq_iff_iff]; simp [refOk, scopeB, *]; omega)
    · try simp only [decide_eq_true_eq, decide_eq_false_iff_not, Bool.not_eq_true', Bool.not_eq_false', Int.not_lt, Int.not_le] at hb2
      refine st_pop rfl rfl rfl rfl ?_
      refine st_pop rfl rfl rfl rfl ?_
      refine st_pop rfl rfl rfl rfl ?_
      refine st_pop rfl rfl rfl rfl ?_
      refine st_pop rfl rfl rfl rfl ?_
      refine st_nil ?_
      refine awp_ret ?_
      refine ret_ret rfl rfl ?_
      refine wk_b ?_
      first
        | (simp [refOk, scopeB, *]; done)
        | (rw [Bool.eq_iff_iff]; simp [refOk, scopeB, *]; done)
        | (rw [Bool.eq_iff_iff]; simp [refOk, scopeB, *]; omega)
theorem refValRight_c (v : Val) (hv : v.fit) : ∀ H, ACalls tt 28 [.agg v.av] H (fun res_ H' => res_ = .b (valRight v) ∧ H' = H) := by
  obtain ⟨hs, hx⟩ := hv
  refine body_calc (T := tt) Try.func28 rfl Try.ntmps28 rfl rfl (by rfl) (by rfl) ?_
  refine wp_reg ?_
  refine st_box rfl rfl rfl rfl rfl rfl rfl rfl rfl ?_
  refine st_pop rfl rfl rfl rfl ?_
  refine st_nil ?_
  refine awp_seq ?_
  refine awp_seq (wp_mid (Q' := MidQ (frl [(1, .ptr 0 0), (40, .b (!onlyOk v))]) ⟨[.cells v.av], []⟩) ?_ ?_)
  · refine awp_region ?_
    refine st_pop rfl rfl rfl rfl ?_
    refine st_pop rfl rfl rfl rfl ?_
    refine st_pop rfl rfl rfl rfl ?_
    refine st_pop rfl rfl rfl rfl ?_
    refine st_bit 7 rfl fun b hb1 => ?_
    cases b
    · try simp only [decide_eq_true_eq, decide_eq_false_iff_not, Bool.not_eq_true', Bool.not_eq_false', Int.not_lt, Int.not_le] at hb1
      refine st_skip rfl rfl rfl ?_
      refine st_skip rfl rfl rfl ?_
      refine st_skip rfl rfl rfl ?_
      refine st_pop rfl rfl rfl rfl ?_
      refine st_pop rfl rfl rfl rfl ?_
      refine st_pop rfl rfl rfl rfl ?_
      refine st_pop rfl rfl rfl rfl ?_
      refine st_pop rfl rfl rfl rfl ?_
      refine st_pop rfl rfl rfl rfl ?_
      refine st_bit 16 rfl fun b hb2 => ?_
      cases b
      · try simp only [decide_eq_true_eq, decide_eq_false_iff_not, Bool.not_eq_true', Bool.not_eq_false', Int.not_lt, Int.not_le] at hb2
        refine st_skip rfl rfl rfl ?_
        refine st_skip rfl rfl rfl ?_
        refine st_skip rfl rfl rfl ?_
        refine st_pop rfl rfl rfl rfl ?_
        refine st_pop rfl rfl rfl rfl ?_
        refine st_pop rfl rfl rfl rfl ?_
        refine st_pop rfl rfl rfl rfl ?_
        refine st_pop rfl rfl rfl rfl ?_
        refine st_pop rfl rfl rfl rfl ?_
        refine st_pop rfl rfl rfl rfl ?_
        refine st_bit 26 rfl fun b hb3 => ?_
        cases b
        · try simp only [decide_eq_true_eq, decide_eq_false_iff_not, Bool.not_eq_true', Bool.not_eq_false', Int.not_lt, Int.not_le] at hb3
          refine st_skip rfl rfl rfl ?_
          refine st_skip rfl rfl rfl ?_
          refine st_pop rfl rfl rfl rfl ?_
          refine st_pop rfl rfl rfl rfl ?_
          refine st_pop rfl rfl rfl rfl ?_
          refine st_pop rfl rfl rfl rfl ?_
          refine st_pop rfl rfl rfl rfl ?_
          refine st_pop rfl rfl rfl rfl ?_
          refine st_pop rfl rfl rfl rfl ?_
          refine st_bit 35 rfl fun b hb4 => ?_
          cases b
          · try simp only [decide_eq_true_eq, decide_eq_false_iff_not, Bool.not_eq_true', Bool.not_eq_false', Int.not_lt, Int.not_le] at hb4
            refine st_skip rfl rfl rfl ?_
            refine st_skip rfl rfl rfl ?_
            refine st_skip rfl rfl rfl ?_
            refine st_pop rfl rfl rfl rfl ?_
            refine st_pop rfl rfl rfl rfl ?_
            refine st_nil ?_
            exact ⟨rfl, wk_frl (wk_cons rfl (wk_cons (bq (by simp_all [onlyOk, fzero, bne])) wk_nil)), rfl⟩
          · try simp only [decide_eq_true_eq, decide_eq_false_iff_not, Bool.not_eq_true', Bool.not_eq_false', Int.not_lt, Int.not_le] at hb4
            refine st_pop rfl rfl rfl rfl ?_
            refine st_pop rfl rfl rfl rfl ?_
            refine st_pop rfl rfl rfl rfl ?_
            refine st_pop rfl rfl rfl rfl ?_
            refine st_pop rfl rfl rfl rfl ?_
            refine st_nil ?_
            exact ⟨rfl, wk_frl (wk_cons rfl (wk_cons (bq (by simp_all [onlyOk, fzero, bne])) wk_nil)), rfl⟩
        · try simp only [decide_eq_true_eq, decide_eq_false_iff_not, Bool.not_eq_true', Bool.not_eq_false', Int.not_lt, Int.not_le] at hb3
          refine st_pop rfl rfl rfl rfl ?_
          refine st_pop rfl rfl rfl rfl ?_
          refine st_pop rfl rfl rfl rfl ?_
          refine st_pop rfl rfl rfl rfl ?_
          refine st_pop rfl rfl rfl rfl ?_
          refine st_bit 31 rfl fun b hb5 => ?_
          cases b
          · try simp only [decide_eq_true_eq, decide_eq_false_iff_not, Bool.not_eq_true', Bool.not_eq_false', Int.not_lt, Int.not_le] at hb5
            refine st_pop rfl rfl rfl rfl ?_
            refine st_pop rfl rfl rfl rfl ?_
            refine st_pop rfl rfl rfl rfl ?_
            refine st_pop rfl rfl rfl rfl ?_
            refine st_bit 35 rfl fun b hb6 => ?_
            cases b
            · try simp only [decide_eq_true_eq, decide_eq_false_iff_not, Bool.not_eq_true', Bool.not_eq_false', Int.not_lt, Int.not_le] at hb6
              refine st_skip rfl rfl rfl ?_
              refine st_skip rfl rfl rfl ?_
              refine st_skip rfl rfl rfl ?_
              refine st_pop rfl rfl rfl rfl ?_
              refine st_pop rfl rfl rfl rfl ?_
              refine st_nil ?_
              exact ⟨rfl, wk_frl (wk_cons rfl (wk_cons (bq (by simp_all [onlyOk, fzero, bne])) wk_nil)), rfl⟩
            · try simp only [decide_eq_true_eq, decide_eq_false_iff_not, Bool.not_eq_true', Bool.not_eq_false', Int.not_lt, Int.not_le] at hb6
              refine st_pop rfl rfl rfl rfl ?_
              refine st_pop rfl rfl rfl rfl ?_
              refine st_pop rfl rfl rfl rfl ?_
              refine st_pop rfl rfl rfl rfl ?_
              refine st_pop rfl rfl rfl rfl ?_
              refine st_nil ?_
              exact ⟨rfl, wk_frl (wk_cons rfl (wk_cons (bq (by simp_all [onlyOk, fzero, bne])) wk_nil)), rfl⟩
          · try simp only [decide_eq_true_eq, decide_eq_false_iff_not, Bool.not_eq_true', Bool.not_eq_false', Int.not_lt, Int.not_le] at hb5
            refine st_skip rfl rfl rfl ?_
            refine st_skip rfl rfl rfl ?_
            refine st_skip rfl rfl rfl ?_
            refine st_skip rfl rfl rfl ?_
            refine st_skip rfl rfl rfl ?_
            refine st_skip rfl rfl rfl ?_
            refine st_skip rfl rfl rfl ?_
            refine st_skip rfl rfl rfl ?_
            refine st_pop rfl rfl rfl rfl ?_
            refine st_nil ?_
            exact ⟨rfl, wk_frl (wk_cons rfl (wk_cons (bq (by simp_all [onlyOk, fzero, bne])) wk_nil)), rfl⟩
      · try simp only [decide_eq_true_eq, decide_eq_false_iff_not, Bool.not_eq_true', Bool.not_eq_false', Int.not_lt, Int.not_le] at hb2
        refine st_pop rfl rfl rfl rfl ?_
        refine st_pop rfl rfl rfl rfl ?_
        refine st_pop rfl rfl rfl rfl ?_
        refine st_pop rfl rfl rfl rfl ?_
        refine st_pop rfl rfl rfl rfl ?_
        refine st_pop rfl rfl rfl rfl ?_
        refine st_bit 22 rfl fun b hb7 => ?_
        cases b
        · try simp only [decide_eq_true_eq, decide_eq_false_iff_not, Bool.not_eq_true', Bool.not_eq_false', Int.not_lt, Int.not_le] at hb7
          refine st_pop rfl rfl rfl rfl ?_
          refine st_pop rfl rfl rfl rfl ?_
          refine st_pop rfl rfl rfl rfl ?_
          refine st_pop rfl rfl rfl rfl ?_
          refine st_bit 26 rfl fun b hb8 => ?_
          cases b
          · try simp only [decide_eq_true_eq, decide_eq_false_iff_not, Bool.not_eq_true', Bool.not_eq_false', Int.not_lt, Int.not_le] at hb8
            refine st_skip rfl rfl rfl ?_
            refine st_skip rfl rfl rfl ?_
            refine st_pop rfl rfl rfl rfl ?_
            refine st_pop rfl rfl rfl rfl ?_
            refine st_pop rfl rfl rfl rfl ?_
            refine st_pop rfl rfl rfl rfl ?_
            refine st_pop rfl rfl rfl rfl ?_
            refine st_pop rfl rfl rfl rfl ?_
            refine st_pop rfl rfl rfl rfl ?_
            refine st_bit 35 rfl fun b hb9 => ?_
            cases b
            · try simp only [decide_eq_true_eq, decide_eq_false_iff_not, Bool.not_eq_true', Bool.not_eq_false', Int.not_lt, Int.not_le] at hb9
              refine st_skip rfl rfl rfl ?_
              refine st_skip rfl rfl rfl ?_
              refine st_skip rfl rfl rfl ?_
              refine st_pop rfl rfl rfl rfl ?_
              refine st_pop rfl rfl rfl rfl ?_
              refine st_nil ?_
              exact ⟨rfl, wk_frl (wk_cons rfl (wk_cons (bq (by simp_all [onlyOk, fzero, bne])) wk_nil)), rfl⟩
            · try simp only [decide_eq_true_eq, decide_eq_false_iff_not, Bool.not_eq_true', Bool.not_eq_false', Int.not_lt, Int.not_le] at hb9
              refine st_pop rfl rfl rfl rfl ?_
              refine st_pop rfl rfl rfl rfl ?_
              refine st_pop rfl rfl rfl rfl ?_
              refine st_pop rfl rfl rfl rfl ?_
              refine st_pop rfl rfl rfl rfl ?_
              refine st_nil ?_
              exact ⟨rfl, wk_frl (wk_cons rfl (wk_cons (bq (by simp_all [onlyOk, fzero, bne])) wk_nil)), rfl⟩
          · try simp only [decide_eq_true_eq, decide_eq_false_iff_not, Bool.not_eq_true', Bool.not_eq_false', Int.not_lt, Int.not_le] at hb8
            refine st_pop rfl rfl rfl rfl ?_
            refine st_pop rfl rfl rfl rfl ?_
            refine st_pop rfl rfl rfl rfl ?_
            refine st_pop rfl rfl rfl rfl ?_
            refine st_pop rfl rfl rfl rfl ?_
            refine st_bit 31 rfl fun b hb10 => ?_
            cases b
            · try simp only [decide_eq_true_eq, decide_eq_false_iff_not, Bool.not_eq_true', Bool.not_eq_false', Int.not_lt, Int.not_le] at hb10
              refine st_pop rfl rfl rfl rfl ?_
              refine st_pop rfl rfl rfl rfl ?_
              refine st_pop rfl rfl rfl rfl ?_
              refine st_pop rfl rfl rfl rfl ?_
              refine st_bit 35 rfl fun b hb11 => ?_
              cases b
              · try simp only [decide_eq_true_eq, decide_eq_false_iff_not, Bool.not_eq_true', Bool.not_eq_false', Int.not_lt, Int.not_le] at hb11
                refine st_skip rfl rfl rfl ?_
                refine st_skip rfl rfl rfl ?_
                refine st_skip rfl rfl rfl ?_
                refine st_pop rfl rfl rfl rfl ?_
                refine st_pop rfl rfl rfl rfl ?_
                refine st_nil ?_
                exact ⟨rfl, wk_frl (wk_cons rfl (wk_cons (bq (by simp_all [onlyOk, fzero, bne])) wk_nil)), rfl⟩
              · try simp only [decide_eq_true_eq, decide_eq_false_iff_not, Bool.not_eq_true', Bool.not_eq_false', Int.not_lt, Int.not_le] at hb11
                refine st_pop rfl rfl rfl rfl ?_
                refine st_pop rfl rfl rfl rfl ?_
                refine st_pop rfl rfl rfl rfl ?_
                refine st_pop rfl rfl rfl rfl ?_
                refine st_pop rfl rfl rfl rfl ?_
                refine st_nil ?_
                exact ⟨rfl, wk_frl (wk_cons rfl (wk_cons (bq (by simp_all [onlyOk, fzero, bne])) wk_nil)), rfl⟩
            · try simp only [decide_eq_true_eq, decide_eq_false_iff_not, Bool.not_eq_true', Bool.not_eq_false', Int.not_lt, Int.not_le] at hb10
              refine st_skip rfl rfl rfl ?_
              refine st_skip rfl rfl rfl ?_
              refine st_skip rfl rfl rfl ?_
              refine st_skip rfl rfl rfl ?_
              refine st_skip rfl rfl rfl ?_
              refine st_skip rfl rfl rfl ?_
              refine st_skip rfl rfl rfl ?_
              refine st_skip rfl rfl rfl ?_
              refine st_pop rfl rfl rfl rfl ?_
              refine st_nil ?_
              exact ⟨rfl, wk_frl (wk_cons rfl (wk_cons (bq (by simp_all [onlyOk, fzero, bne])) wk_nil)), rfl⟩
        · try simp only [decide_eq_true_eq, decide_eq_false_iff_not, Bool.not_eq_true', Bool.not_eq_false', Int.not_lt, Int.not_le] at hb7
          refine st_skip rfl rfl rfl ?_
          refine st_skip rfl rfl rfl ?_
          refine st_skip rfl rfl rfl ?_
          refine st_skip rfl rfl rfl ?_
          refine st_skip rfl rfl rfl ?_
          refine st_skip rfl rfl rfl ?_
          refine st_skip rfl rfl rfl ?_
          refine st_pop rfl rfl rfl rfl ?_
          refine st_pop rfl rfl rfl rfl ?_
          refine st_skip rfl rfl rfl ?_
          refine st_skip rfl rfl rfl ?_
          refine st_skip rfl rfl rfl ?_
          refine st_skip rfl rfl rfl ?_
          refine st_skip rfl rfl rfl ?_
          refine st_skip rfl rfl rfl ?_
          refine st_skip rfl rfl rfl ?_
          refine st_skip rfl rfl rfl ?_
          refine st_pop rfl rfl rfl rfl ?_
          refine st_nil ?_
          exact ⟨rfl, wk_frl (wk_cons rfl (wk_cons (bq (by simp_all [onlyOk, fzero, bne])) wk_nil)), rfl⟩
    · try simp only [decide_eq_true_eq, decide_eq_false_iff_not, Bool.not_eq_true', Bool.not_eq_false', Int.not_lt, Int.not_le] at hb1
      refine st_pop rfl rfl rfl rfl ?_
      refine st_pop rfl rfl rfl rfl ?_
      refine st_pop rfl rfl rfl rfl ?_
      refine st_pop rfl rfl rfl rfl ?_
      refine st_pop rfl rfl rfl rfl ?_
      refine st_bit 12 rfl fun b hb12 => ?_
      cases b
      · try simp only [decide_eq_true_eq, decide_eq_false_iff_not, Bool.not_eq_true', Bool.not_eq_false', Int.not_lt, Int.not_le] at hb12
        refine st_pop rfl rfl rfl rfl ?_
        refine st_pop rfl rfl rfl rfl ?_
        refine st_pop rfl rfl rfl rfl ?_
        refine st_pop rfl rfl rfl rfl ?_
        refine st_bit 16 rfl fun b hb13 => ?_
        cases b
        · try simp only [decide_eq_true_eq, decide_eq_false_iff_not, Bool.not_eq_true', Bool.not_eq_false', Int.not_lt, Int.not_le] at hb13
          refine st_skip rfl rfl rfl ?_
          refine st_skip rfl rfl rfl ?_
          refine st_skip rfl rfl rfl ?_
          refine st_pop rfl rfl rfl rfl ?_
          refine st_pop rfl rfl rfl rfl ?_
          refine st_pop rfl rfl rfl rfl ?_
          refine st_pop rfl rfl rfl rfl ?_
          refine st_pop rfl rfl rfl rfl ?_
          refine st_pop rfl rfl rfl rfl ?_
          refine st_pop rfl rfl rfl rfl ?_
          refine st_bit 26 rfl fun b hb14 => ?_
          cases b
          · try simp only [decide_eq_true_eq, decide_eq_false_iff_not, Bool.not_eq_true', Bool.not_eq_false', Int.not_lt, Int.not_le] at hb14
            refine st_skip rfl rfl rfl ?_
            refine st_skip rfl rfl rfl ?_
            refine st_pop rfl rfl rfl rfl ?_
            refine st_pop rfl rfl rfl rfl ?_
            refine st_pop rfl rfl rfl rfl ?_
            refine st_pop rfl rfl rfl rfl ?_
            refine st_pop rfl rfl rfl rfl ?_
            refine st_pop rfl rfl rfl rfl ?_
            refine st_pop rfl rfl rfl rfl ?_
            refine st_bit 35 rfl fun b hb15 => ?_
            cases b
            · try simp only [decide_eq_true_eq, decide_eq_false_iff_not, Bool.not_eq_true', Bool.not_eq_false', Int.not_lt, Int.not_le] at hb15
              refine st_skip rfl rfl rfl ?_
              refine st_skip rfl rfl rfl ?_
              refine st_skip rfl rfl rfl ?_
              refine st_pop rfl rfl rfl rfl ?_
              refine st_pop rfl rfl rfl rfl ?_
              refine st_nil ?_
              exact ⟨rfl, wk_frl (wk_cons rfl (wk_cons (bq (by simp_all [onlyOk, fzero, bne])) wk_nil)), rfl⟩
            · try simp only [decide_eq_true_eq, decide_eq_false_iff_not, Bool.not_eq_true', Bool.not_eq_false', Int.not_lt, Int.not_le] at hb15
              refine st_pop rfl rfl rfl rfl ?_
              refine st_pop rfl rfl rfl rfl ?_
              refine st_pop rfl rfl rfl rfl ?_
              refine st_pop rfl rfl rfl rfl ?_
              refine st_pop rfl rfl rfl rfl ?_
              refine st_nil ?_
              exact ⟨rfl, wk_frl (wk_cons rfl (wk_cons (bq (by simp_all [onlyOk, fzero, bne])) wk_nil)), rfl⟩
          · try simp only [decide_eq_true_eq, decide_eq_false_iff_not, Bool.not_eq_true', Bool.not_eq_false', Int.not_lt, Int.not_le] at hb14
            refine st_pop rfl rfl rfl rfl ?_
            refine st_pop rfl rfl rfl rfl ?_
            refine st_pop rfl rfl rfl rfl ?_
            refine st_pop rfl rfl rfl rfl ?_
            refine st_pop rfl rfl rfl rfl ?_
            refine st_bit 31 rfl fun b hb16 => ?_
            cases b
            · try simp only [decide_eq_true_eq, decide_eq_false_iff_not, Bool.not_eq_true', Bool.not_eq_false', Int.not_lt, Int.not_le] at hb16
              refine st_pop rfl rfl rfl rfl ?_
              refine st_pop rfl rfl rfl rfl ?_
              refine st_pop rfl rfl rfl rfl ?_
              refine st_pop rfl rfl rfl rfl ?_
              refine st_bit 35 rfl fun b hb17 => ?_
              cases b
              · try simp only [decide_eq_true_eq, decide_eq_false_iff_not, Bool.not_eq_true', Bool.not_eq_false', Int.not_lt, Int.not_le] at hb17
                refine st_skip rfl rfl rfl ?_
                refine st_skip rfl rfl rfl ?_
                refine st_skip rfl rfl rfl ?_
                refine st_pop rfl rfl rfl rfl ?_
                refine st_pop rfl rfl rfl rfl ?_
                refine st_nil ?_
                exact ⟨rfl, wk_frl (wk_cons rfl (wk_cons (bq (by simp_all [onlyOk, fzero, bne])) wk_nil)), rfl⟩
              · try simp only [decide_eq_true_eq, decide_eq_false_iff_not, Bool.not_eq_true', Bool.not_eq_false', Int.not_lt, Int.not_le] at hb17
                refine st_pop rfl rfl rfl rfl ?_
                refine st_pop rfl rfl rfl rfl ?_
                refine st_pop rfl rfl rfl rfl ?_
                refine st_pop rfl rfl rfl rfl ?_
                refine st_pop rfl rfl rfl rfl ?_
                refine st_nil ?_
                exact ⟨rfl, wk_frl (wk_cons rfl (wk_cons (bq (by simp_all [onlyOk, fzero, bne])) wk_nil)), rfl⟩
            · try simp only [decide_eq_true_eq, decide_eq_false_iff_not, Bool.not_eq_true', Bool.not_eq_false', Int.not_lt, Int.not_le] at hb16
              refine st_skip rfl rfl rfl ?_
              refine st_skip rfl rfl rfl ?_
              refine st_skip rfl rfl rfl ?_
              refine st_skip rfl rfl rfl ?_
              refine st_skip rfl rfl rfl ?_
              refine st_skip rfl rfl rfl ?_
              refine st_skip rfl rfl rfl ?_
              refine st_skip rfl rfl rfl ?_
              refine st_pop rfl rfl rfl rfl ?_
              refine st_nil ?_
              exact ⟨rfl, wk_frl (wk_cons rfl (wk_cons (bq (by simp_all [onlyOk, fzero, bne])) wk_nil)), rfl⟩
        · try simp only [decide_eq_true_eq, decide_eq_false_iff_not, Bool.not_eq_true', Bool.not_eq_false', Int.not_lt, Int.not_le] at hb13
          refine st_pop rfl rfl rfl rfl ?_
          refine st_pop rfl rfl rfl rfl ?_
          refine st_pop rfl rfl rfl rfl ?_
          refine st_pop rfl rfl rfl rfl ?_
          refine st_pop rfl rfl rfl rfl ?_
          refine st_pop rfl rfl rfl rfl ?_
          refine st_bit 22 rfl fun b hb18 => ?_
          cases b
          · try simp only [decide_eq_true_eq, decide_eq_false_iff_not, Bool.not_eq_true', Bool.not_eq_false', Int.not_lt, Int.not_le] at hb18
            refine st_pop rfl rfl rfl rfl ?_
            refine st_pop rfl rfl rfl rfl ?_
            refine st_pop rfl rfl rfl rfl ?_
            refine st_pop rfl rfl rfl rfl ?_
            refine st_bit 26 rfl fun b hb19 => ?_
            cases b
            · try simp only [decide_eq_true_eq, decide_eq_false_iff_not, Bool.not_eq_true', Bool.not_eq_false', Int.not_lt, Int.not_le] at hb19
              refine st_skip rfl rfl rfl ?_
              refine st_skip rfl rfl rfl ?_
              refine st_pop rfl rfl rfl rfl ?_
              refine st_pop rfl rfl rfl rfl ?_
              refine st_pop rfl rfl rfl rfl ?_
              refine st_pop rfl rfl rfl rfl ?_
              refine st_pop rfl rfl rfl rfl ?_
              refine st_pop rfl rfl rfl rfl ?_
              refine st_pop rfl rfl rfl rfl ?_
              refine st_bit 35 rfl fun b hb20 => ?_
              cases b
              · try simp only [decide_eq_true_eq, decide_eq_false_iff_not, Bool.not_eq_true', Bool.not_eq_false', Int.not_lt, Int.not_le] at hb20
                refine st_skip rfl rfl rfl ?_
                refine st_skip rfl rfl rfl ?_
                refine st_skip rfl rfl rfl ?_
                refine st_pop rfl rfl rfl rfl ?_
                refine st_pop rfl rfl rfl rfl ?_
                refine st_nil ?_
                exact ⟨rfl, wk_frl (wk_cons rfl (wk_cons (bq (by simp_all [onlyOk, fzero, bne])) wk_nil)), rfl⟩
              · try simp only [decide_eq_true_eq, decide_eq_false_iff_not, Bool.not_eq_true', Bool.not_eq_false', Int.not_lt, Int.not_le] at hb20
                refine st_pop rfl rfl rfl rfl ?_
                refine st_pop rfl rfl rfl rfl ?_
                refine st_pop rfl rfl rfl rfl ?_
                refine st_pop rfl rfl rfl rfl ?_
                refine st_pop rfl rfl rfl rfl ?_
                refine st_nil ?_
                exact ⟨rfl, wk_frl (wk_cons rfl (wk_cons (bq (by simp_all [onlyOk, fzero, bne])) wk_nil)), rfl⟩
            · try simp only [decide_eq_true_eq, decide_eq_false_iff_not, Bool.not_eq_true', Bool.not_eq_false', Int.not_lt, Int.not_le] at hb19
              refine st_pop rfl rfl rfl rfl ?_
              refine st_pop rfl rfl rfl rfl ?_
              refine st_pop rfl rfl rfl rfl ?_
              refine st_pop rfl rfl rfl rfl ?_
              refine st_pop rfl rfl rfl rfl ?_
              refine st_bit 31 rfl fun b hb21 => ?_
              cases b
              · try simp only [decide_eq_true_eq, decide_eq_false_iff_not, Bool.not_eq_true', Bool.not_eq_false', Int.not_lt, Int.not_le] at hb21
                refine st_pop rfl rfl rfl rfl ?_
                refine st_pop rfl rfl rfl rfl ?_
                refine st_pop rfl rfl rfl rfl ?_
                refine st_pop rfl rfl rfl rfl ?_
                refine st_bit 35 rfl fun b hb22 => ?_
                cases b
                · try simp only [decide_eq_true_eq, decide_eq_false_iff_not, Bool.not_eq_true', Bool.not_eq_false', Int.not_lt, Int.not_le] at hb22
                  refine st_skip rfl rfl rfl ?_
                  refine st_skip rfl rfl rfl ?_
                  refine st_skip rfl rfl rfl ?_
                  refine st_pop rfl rfl rfl rfl ?_
                  refine st_pop rfl rfl rfl rfl ?_
                  refine st_nil ?_
                  exact ⟨rfl, wk_frl (wk_cons rfl (wk_cons (bq (by simp_all [onlyOk, fzero, bne])) wk_nil)), rfl⟩
                · try simp only [decide_eq_true_eq, decide_eq_false_iff_not, Bool.not_eq_true', Bool.not_eq_false', Int.not_lt, Int.not_le] at hb22
                  refine st_pop rfl rfl rfl rfl ?_
                  refine st_pop rfl rfl rfl rfl ?_
                  refine st_pop rfl rfl rfl rfl ?_
                  refine st_pop rfl rfl rfl rfl ?_
                  refine st_pop rfl rfl rfl rfl ?_
                  refine st_nil ?_
                  exact ⟨rfl, wk_frl (wk_cons rfl (wk_cons (bq (by simp_all [onlyOk, fzero, bne])) wk_nil)), rfl⟩
              · try simp only [decide_eq_true_eq, decide_eq_false_iff_not, Bool.not_eq_true', Bool.not_eq_false', Int.not_lt, Int.not_le] at hb21
                refine st_skip rfl rfl rfl ?_
                refine st_skip rfl rfl rfl ?_
                refine st_skip rfl rfl rfl ?_
                refine st_skip rfl rfl rfl ?_
                refine st_skip rfl rfl rfl ?_
                refine st_skip rfl rfl rfl ?_
                refine st_skip rfl rfl rfl ?_
                refine st_skip rfl rfl rfl ?_
                refine st_pop rfl rfl rfl rfl ?_
                refine st_nil ?_
                exact ⟨rfl, wk_frl (wk_cons rfl (wk_cons (bq (by simp_all [onlyOk, fzero, bne])) wk_nil)), rfl⟩
          · try simp only [decide_eq_true_eq, decide_eq_false_iff_not, Bool.not_eq_true', Bool.not_eq_false', Int.not_lt, Int.not_le] at hb18
            refine st_skip rfl rfl rfl ?_
            refine st_skip rfl rfl rfl ?_
            refine st_skip rfl rfl rfl ?_
            refine st_skip rfl rfl rfl ?_
            refine st_skip rfl rfl rfl ?_
            refine st_skip rfl rfl rfl ?_
            refine st_skip rfl rfl rfl ?_
            refine st_pop rfl rfl rfl rfl ?_
            refine st_pop rfl rfl rfl rfl ?_
            refine st_skip rfl rfl rfl ?_
            refine st_skip rfl rfl rfl ?_
            refine st_skip rfl rfl rfl ?_
            refine st_skip rfl rfl rfl ?_
            refine st_skip rfl rfl rfl ?_
            refine st_skip rfl rfl rfl ?_
            refine st_skip rfl rfl rfl ?_
            refine st_skip rfl rfl rfl ?_
            refine st_pop rfl rfl rfl rfl ?_
            refine st_nil ?_
            exact ⟨rfl, wk_frl (wk_cons rfl (wk_cons (bq (by simp_all [onlyOk, fzero, bne])) wk_nil)), rfl⟩
      · try simp only [decide_eq_true_eq, decide_eq_false_iff_not, Bool.not_eq_true', Bool.not_eq_false', Int.not_lt, Int.not_le] at hb12
        refine st_skip rfl rfl rfl ?_
        refine st_skip rfl rfl rfl ?_
        refine st_skip rfl rfl rfl ?_
        refine st_skip rfl rfl rfl ?_
        refine st_skip rfl rfl rfl ?_
        refine st_skip rfl rfl rfl ?_
        refine st_skip rfl rfl rfl ?_
        refine st_skip rfl rfl rfl ?_
        refine st_pop rfl rfl rfl rfl ?_
        refine st_pop rfl rfl rfl rfl ?_
        refine st_skip rfl rfl rfl ?_
        refine st_skip rfl rfl rfl ?_
        refine st_skip rfl rfl rfl ?_
        refine st_skip rfl rfl rfl ?_
        refine st_skip rfl rfl rfl ?_
        refine st_skip rfl rfl rfl ?_
        refine st_skip rfl rfl rfl ?_
        refine st_pop rfl rfl rfl rfl ?_
        refine st_pop rfl rfl rfl rfl ?_
        refine st_skip rfl rfl rfl ?_
        refine st_skip rfl rfl rfl ?_
        refine st_skip rfl rfl rfl ?_
        refine st_skip rfl rfl rfl ?_
        refine st_skip rfl rfl rfl ?_
        refine st_skip rfl rfl rfl ?_
        refine st_skip rfl rfl rfl ?_
        refine st_skip rfl rfl rfl ?_
        refine st_pop rfl rfl rfl rfl ?_
        refine st_nil ?_
        exact ⟨rfl, wk_frl (wk_cons rfl (wk_cons (bq (by simp_all [onlyOk, fzero, bne])) wk_nil)), rfl⟩
  · refine mid_to rfl ?_
    refine wp_bit 40 rfl fun b hb23 => ?_
    cases b
    · try simp only [decide_eq_true_eq, decide_eq_false_iff_not, Bool.not_eq_true', Bool.not_eq_false', Int.not_lt, Int.not_le] at hb23
      have hon : onlyOk v = true := by simpa using hb23
      refine wp_f rfl ?_
      refine awp_skip ?_
      refine at_norm ?_
      refine awp_seq ?_
      refine wp_reg ?_
      refine st_pop rfl rfl rfl rfl ?_
      refine st_nil ?_
      refine awp_block ?_
      refine wp_loop (α := Nat) (fun k => frl [(1, .ptr 0 0), (3, .i .i64 (k : Nat))]) (fun _ => ⟨[.cells v.av], []⟩) (fun k => k ≤ v.text.size ∧ k ≤ 41 ∧ ∀ i c, i < k → v.text[i]? = some c → textC c = true) (fun k => v.text.size - k) 0 ⟨Nat.zero_le _, Nat.zero_le _, fun i c h => absurd h (Nat.not_lt_zero _)⟩ (wk_frl (wk_cons rfl (wk_cons rfl wk_nil))) rfl ?_
      rintro k ⟨hk, hk4, hall⟩
      refine awp_seq ?_
      refine wp_reg ?_
      refine st_pop rfl rfl rfl rfl ?_
      refine st_pop rfl rfl rfl rfl ?_
      refine st_pop rfl rfl rfl rfl ?_
      refine st_pop rfl rfl rfl rfl ?_
      refine st_pop rfl rfl rfl rfl ?_
      refine st_pop rfl rfl rfl rfl ?_
      refine st_bit 46 rfl fun b hb24 => ?_
      cases b
      · try simp only [decide_eq_true_eq, decide_eq_false_iff_not, Bool.not_eq_true', Bool.not_eq_false', Int.not_lt, Int.not_le] at hb24
        have hte : ballL textC v.text = true ∨ 40 < v.text.size := tend hall (by omega) (by omega)
        refine st_skip rfl rfl rfl ?_
        refine st_skip rfl rfl rfl ?_
        refine st_pop rfl rfl rfl rfl ?_
        refine st_nil ?_
        refine wp_f rfl ?_
        refine awp_exit ?_
        refine at_exit ?_
        refine at_exit ?_
        refine ab_hit ?_
        refine at_norm ?_
        refine awp_seq ?_
        refine wp_reg ?_
        refine st_pop rfl rfl rfl rfl ?_
        refine st_pop rfl rfl rfl rfl ?_
        refine st_pop rfl rfl rfl rfl ?_
        refine st_nil ?_
        refine wp_bit 66 rfl fun b hb25 => ?_
        cases b
        · try simp only [decide_eq_true_eq, decide_eq_false_iff_not, Bool.not_eq_true', Bool.not_eq_false', Int.not_lt, Int.not_le] at hb25
          have h4 := hb25
          refine wp_f rfl ?_
          refine awp_skip ?_
          refine at_norm ?_
          refine wp_reg ?_
          refine st_pop rfl rfl rfl rfl ?_
          refine st_pop rfl rfl rfl rfl ?_
          refine st_pop rfl rfl rfl rfl ?_
          refine st_pop rfl rfl rfl rfl ?_
          refine st_bit 73 rfl fun b hb26 => ?_
          cases b
          · try simp only [decide_eq_true_eq, decide_eq_false_iff_not, Bool.not_eq_true', Bool.not_eq_false', Int.not_lt, Int.not_le] at hb26
            refine st_skip rfl rfl rfl ?_
            refine st_skip rfl rfl rfl ?_
            refine st_skip rfl rfl rfl ?_
            refine st_pop rfl rfl rfl rfl ?_
            refine st_pop rfl rfl rfl rfl ?_
            refine st_skip rfl rfl rfl ?_
            refine st_skip rfl rfl rfl ?_
            refine st_skip rfl rfl rfl ?_
            refine st_skip rfl rfl rfl ?_
            refine st_pop rfl rfl rfl rfl ?_
            refine st_pop rfl rfl rfl rfl ?_
            refine st_nil ?_
            refine awp_ret ?_
            refine ret_ret rfl rfl ?_
            refine wk_b ?_
            first
              | (simp [valRight, hon]; done)
              | (have hb := ball_not (p := textC) hc (by simp [textC]; omega); simp [valRight, textOk, hb]; done)
              | (rw [right_rate hon h4])
              | (rw [right_text hon h4 hte, Bool.eq_iff_iff]; simp; omega)
          · try simp only [decide_eq_true_eq, decide_eq_false_iff_not, Bool.not_eq_true', Bool.not_eq_false', Int.not_lt, Int.not_le] at hb26
            refine st_pop rfl rfl rfl rfl ?_
            refine st_pop rfl rfl rfl rfl ?_
            refine st_pop rfl rfl rfl rfl ?_
            refine st_pop rfl rfl rfl rfl ?_
            refine st_pop rfl rfl rfl rfl ?_
            refine st_bit 78 rfl fun b hb27 => ?_
            cases b
            · try simp only [decide_eq_true_eq, decide_eq_false_iff_not, Bool.not_eq_true', Bool.not_eq_false', Int.not_lt, Int.not_le] at hb27
              refine st_skip rfl rfl rfl ?_
              refine st_skip rfl rfl rfl ?_
              refine st_skip rfl rfl rfl ?_
              refine st_skip rfl rfl rfl ?_
              refine st_pop rfl rfl rfl rfl ?_
              refine st_pop rfl rfl rfl rfl ?_
              refine st_nil ?_
              refine awp_ret ?_
              refine ret_ret rfl rfl ?_
              refine wk_b ?_
              first
                | (simp [valRight, hon]; done)
                | (have hb := ball_not (p := textC) hc (by simp [textC]; omega); simp [valRight, textOk, hb]; done)
                | (rw [right_rate hon h4])
                | (rw [right_text hon h4 hte, Bool.eq_iff_iff]; simp; omega)
            · try simp only [decide_eq_true_eq, decide_eq_false_iff_not, Bool.not_eq_true', Bool.not_eq_false', Int.not_lt, Int.not_le] at hb27
              refine st_pop rfl rfl rfl rfl ?_
              refine st_pop rfl rfl rfl rfl ?_
              refine st_pop rfl rfl rfl rfl ?_
              refine st_pop rfl rfl rfl rfl ?_
              refine st_pop rfl rfl rfl rfl ?_
              refine st_pop rfl rfl rfl rfl ?_
              refine st_nil ?_
              refine awp_ret ?_
              refine ret_ret rfl rfl ?_
              refine wk_b ?_
              first
                | (simp [valRight, hon]; done)
                | (have hb := ball_not (p := textC) hc (by simp [textC]; omega); simp [valRight, textOk, hb]; done)
                | (rw [right_rate hon h4])
                | (rw [right_text hon h4 hte, Bool.eq_iff_iff]; simp; omega)
        · try simp only [decide_eq_true_eq, decide_eq_false_iff_not, Bool.not_eq_true', Bool.not_eq_false', Int.not_lt, Int.not_le] at hb25
          have h4 := hb25
          refine wp_t rfl ?_
          refine wp_reg ?_
          refine st_pop rfl rfl rfl rfl ?_
          refine st_pop rfl rfl rfl rfl ?_
          refine st_calc (xs := [.tmp 68]) _ rfl rfl rfl rfl Try.func45 rfl rfl rfl (refRate_c _ (by assumption) _) ?_
          refine st_pop rfl rfl rfl rfl ?_
          refine st_nil ?_
          refine awp_ret ?_
          refine at_ret ?_
          refine ret_ret rfl rfl ?_
          refine wk_b ?_
          first
            | (simp [valRight, hon]; done)
            | (have hb := ball_not (p := textC) hc (by simp [textC]; omega); simp [valRight, textOk, hb]; done)
            | (rw [right_rate hon h4])
            | (rw [right_text hon h4 hte, Bool.eq_iff_iff]; simp; omega)
      · try simp only [decide_eq_true_eq, decide_eq_false_iff_not, Bool.not_eq_true', Bool.not_eq_false', Int.not_lt, Int.not_le] at hb24
        refine st_pop rfl rfl rfl rfl ?_
        refine st_pop rfl rfl rfl rfl ?_
        refine st_pop rfl rfl rfl rfl ?_
        refine st_nil ?_
        refine wp_bit 49 rfl fun b hb28 => ?_
        cases b
        · try simp only [decide_eq_true_eq, decide_eq_false_iff_not, Bool.not_eq_true', Bool.not_eq_false', Int.not_lt, Int.not_le] at hb28
          have hte : ballL textC v.text = true ∨ 40 < v.text.size := tend hall (by omega) (by omega)
          refine wp_f rfl ?_
          refine awp_exit ?_
          refine at_exit ?_
          refine at_exit ?_
          refine ab_hit ?_
          refine at_norm ?_
          refine awp_seq ?_
          refine wp_reg ?_
          refine st_pop rfl rfl rfl rfl ?_
          refine st_pop rfl rfl rfl rfl ?_
          refine st_pop rfl rfl rfl rfl ?_
          refine st_nil ?_
          refine wp_bit 66 rfl fun b hb29 => ?_
          cases b
          · try simp only [decide_eq_true_eq, decide_eq_false_iff_not, Bool.not_eq_true', Bool.not_eq_false', Int.not_lt, Int.not_le] at hb29
            have h4 := hb29
            refine wp_f rfl ?_
            refine awp_skip ?_
            refine at_norm ?_
            refine wp_reg ?_
            refine st_pop rfl rfl rfl rfl ?_
            refine st_pop rfl rfl rfl rfl ?_
            refine st_pop rfl rfl rfl rfl ?_
            refine st_pop rfl rfl rfl rfl ?_
            refine st_bit 73 rfl fun b hb30 => ?_
            cases b
            · try simp only [decide_eq_true_eq, decide_eq_false_iff_not, Bool.not_eq_true', Bool.not_eq_false', Int.not_lt, Int.not_le] at hb30
              refine st_skip rfl rfl rfl ?_
              refine st_skip rfl rfl rfl ?_
              refine st_skip rfl rfl rfl ?_
              refine st_pop rfl rfl rfl rfl ?_
              refine st_pop rfl rfl rfl rfl ?_
              refine st_skip rfl rfl rfl ?_
              refine st_skip rfl rfl rfl ?_
              refine st_skip rfl rfl rfl ?_
              refine st_skip rfl rfl rfl ?_
              refine st_pop rfl rfl rfl rfl ?_
              refine st_pop rfl rfl rfl rfl ?_
              refine st_nil ?_
              refine awp_ret ?_
              refine ret_ret rfl rfl ?_
              refine wk_b ?_
              first
                | (simp [valRight, hon]; done)
                | (have hb := ball_not (p := textC) hc (by simp [textC]; omega); simp [valRight, textOk, hb]; done)
                | (rw [right_rate hon h4])
                | (rw [right_text hon h4 hte, Bool.eq_iff_iff]; simp; omega)
            · try simp only [decide_eq_true_eq, decide_eq_false_iff_not, Bool.not_eq_true', Bool.not_eq_false', Int.not_lt, Int.not_le] at hb30
              refine st_pop rfl rfl rfl rfl ?_
              refine st_pop rfl rfl rfl rfl ?_
              refine st_pop rfl rfl rfl rfl ?_
              refine st_pop rfl rfl rfl rfl ?_
              refine st_pop rfl rfl rfl rfl ?_
              refine st_bit 78 rfl fun b hb31 => ?_
              cases b
              · try simp only [decide_eq_true_eq, decide_eq_false_iff_not, Bool.not_eq_true', Bool.not_eq_false', Int.not_lt, Int.not_le] at hb31
                refine st_skip rfl rfl rfl ?_
                refine st_skip rfl rfl rfl ?_
                refine st_skip rfl rfl rfl ?_
                refine st_skip rfl rfl rfl ?_
                refine st_pop rfl rfl rfl rfl ?_
                refine st_pop rfl rfl rfl rfl ?_
                refine st_nil ?_
                refine awp_ret ?_
                refine ret_ret rfl rfl ?_
                refine wk_b ?_
                first
                  | (simp [valRight, hon]; done)
                  | (have hb := ball_not (p := textC) hc (by simp [textC]; omega); simp [valRight, textOk, hb]; done)
                  | (rw [right_rate hon h4])
                  | (rw [right_text hon h4 hte, Bool.eq_iff_iff]; simp; omega)
              · try simp only [decide_eq_true_eq, decide_eq_false_iff_not, Bool.not_eq_true', Bool.not_eq_false', Int.not_lt, Int.not_le] at hb31
                refine st_pop rfl rfl rfl rfl ?_
                refine st_pop rfl rfl rfl rfl ?_
                refine st_pop rfl rfl rfl rfl ?_
                refine st_pop rfl rfl rfl rfl ?_
                refine st_pop rfl rfl rfl rfl ?_
                refine st_pop rfl rfl rfl rfl ?_
                refine st_nil ?_
                refine awp_ret ?_
                refine ret_ret rfl rfl ?_
                refine wk_b ?_
                first
                  | (simp [valRight, hon]; done)
                  | (have hb := ball_not (p := textC) hc (by simp [textC]; omega); simp [valRight, textOk, hb]; done)
                  | (rw [right_rate hon h4])
                  | (rw [right_text hon h4 hte, Bool.eq_iff_iff]; simp; omega)
          · try simp only [decide_eq_true_eq, decide_eq_false_iff_not, Bool.not_eq_true', Bool.not_eq_false', Int.not_lt, Int.not_le] at hb29
            have h4 := hb29
            refine wp_t rfl ?_
            refine wp_reg ?_
            refine st_pop rfl rfl rfl rfl ?_
            refine st_pop rfl rfl rfl rfl ?_
            refine st_calc (xs := [.tmp 68]) _ rfl rfl rfl rfl Try.func45 rfl rfl rfl (refRate_c _ (by assumption) _) ?_
            refine st_pop rfl rfl rfl rfl ?_
            refine st_nil ?_
            refine awp_ret ?_
            refine at_ret ?_
            refine ret_ret rfl rfl ?_
            refine wk_b ?_
            first
              | (simp [valRight, hon]; done)
              | (have hb := ball_not (p := textC) hc (by simp [textC]; omega); simp [valRight, textOk, hb]; done)
              | (rw [right_rate hon h4])
              | (rw [right_text hon h4 hte, Bool.eq_iff_iff]; simp; omega)
        · try simp only [decide_eq_true_eq, decide_eq_false_iff_not, Bool.not_eq_true', Bool.not_eq_false', Int.not_lt, Int.not_le] at hb28
          obtain ⟨c, hc⟩ := ba_some (s := v.text) (i := k) (by omega)
          refine wp_t rfl ?_
          refine awp_skip ?_
          refine at_norm ?_
          refine awp_seq ?_
          refine awp_block ?_
          refine wp_reg ?_
          refine st_pop rfl rfl rfl rfl ?_
          refine st_pop rfl rfl rfl rfl ?_
          refine st_pop rfl rfl rfl rfl ?_
          refine st_idxS (n := k) c rfl rfl rfl rfl rfl rfl rfl hc ?_
          refine st_pop rfl rfl rfl rfl ?_
          refine st_pop rfl rfl rfl rfl ?_
          refine st_bit 57 rfl fun b hb32 => ?_
          cases b
          · try simp only [decide_eq_true_eq, decide_eq_false_iff_not, Bool.not_eq_true', Bool.not_eq_false', Int.not_lt, Int.not_le] at hb32
            refine st_pop rfl rfl rfl rfl ?_
            refine st_pop rfl rfl rfl rfl ?_
            refine st_pop rfl rfl rfl rfl ?_
            refine st_idxS (n := k) c rfl rfl rfl rfl rfl rfl rfl hc ?_
            refine st_pop rfl rfl rfl rfl ?_
            refine st_pop rfl rfl rfl rfl ?_
            refine st_nil ?_
            refine wp_bit 63 rfl fun b hb33 => ?_
            cases b
            · try simp only [decide_eq_true_eq, decide_eq_false_iff_not, Bool.not_eq_true', Bool.not_eq_false', Int.not_lt, Int.not_le] at hb33
              refine wp_f rfl ?_
              refine awp_skip ?_
              refine ab_norm ?_
              refine at_norm ?_
              refine awp_region ?_
              refine st_pop rfl rfl rfl rfl ?_
              refine st_pop rfl rfl rfl rfl ?_
              refine st_pop rfl rfl rfl rfl ?_
              refine st_nil ?_
              refine at_norm ?_
              refine ⟨k + 1, ⟨by omega, by omega, ball_step hc (by simp [textC]; omega) hall⟩, wk_frl (wk_cons rfl (wk_cons (wrap_succ (by omega)) wk_nil)), rfl, by omega⟩
            · try simp only [decide_eq_true_eq, decide_eq_false_iff_not, Bool.not_eq_true', Bool.not_eq_false', Int.not_lt, Int.not_le] at hb33
              refine wp_t rfl ?_
              refine wp_reg ?_
              refine st_pop rfl rfl rfl rfl ?_
              refine st_nil ?_
              refine awp_ret ?_
              refine ab_ret ?_
              refine at_ret ?_
              refine at_ret ?_
              refine ab_ret ?_
              refine at_ret ?_
              refine ret_ret rfl rfl ?_
              refine wk_b ?_
              first
                | (simp [valRight, hon]; done)
                | (have hb := ball_not (p := textC) hc (by simp [textC]; omega); simp [valRight, textOk, hb]; done)
                | (rw [right_rate hon h4])
                | (rw [right_text hon h4 hte, Bool.eq_iff_iff]; simp; omega)
          · try simp only [decide_eq_true_eq, decide_eq_false_iff_not, Bool.not_eq_true', Bool.not_eq_false', Int.not_lt, Int.not_le] at hb32
            refine st_skip rfl rfl rfl ?_
            refine st_skip rfl rfl rfl ?_
            refine st_skip rfl rfl rfl ?_
            refine st_skip rfl rfl rfl ?_
            refine st_skip rfl rfl rfl ?_
            refine st_pop rfl rfl rfl rfl ?_
            refine st_nil ?_
            refine wp_t rfl ?_
            refine wp_reg ?_
            refine st_pop rfl rfl rfl rfl ?_
            refine st_nil ?_
            refine awp_ret ?_
            refine ab_ret ?_
            refine at_ret ?_
            refine at_ret ?_
            refine ab_ret ?_
            refine at_ret ?_
            refine ret_ret rfl rfl ?_
            refine wk_b ?_
            first
              | (simp [valRight, hon]; done)
              | (have hb := ball_not (p := textC) hc (by simp [textC]; omega); simp [valRight, textOk, hb]; done)
              | (rw [right_rate hon h4])
              | (rw [right_text hon h4 hte, Bool.eq_iff_iff]; simp; omega)
    · try simp only [decide_eq_true_eq, decide_eq_false_iff_not, Bool.not_eq_true', Bool.not_eq_false', Int.not_lt, Int.not_le] at hb23
      have hon : onlyOk v = false := by simpa using hb23
      refine wp_t rfl ?_
      refine wp_reg ?_
      refine st_pop rfl rfl rfl rfl ?_
      refine st_nil ?_
      refine awp_ret ?_
      refine at_ret ?_
      refine ret_ret rfl rfl ?_
      refine wk_b ?_
      first
        | (simp [valRight, hon]; done)
        | (have hb := ball_not (p := textC) hc (by simp [textC]; omega); simp [valRight, textOk, hb]; done)
        | (rw [right_rate hon h4])
        | (rw [right_text hon h4 hte, Bool.eq_iff_iff]; simp; omega)
end Go.Proofs.Ytlclgpiabjlpbaa.Am

