/- Walks: the statements of layer 9. -/
import Derived.Test.YtlclgpiabjlpbaaGreatC
import Derived.Test.YtlclgpiabjlpbaaGreatSg
import Derived.Test.YtlclgpiabjlpbaaGreatFl
namespace Go.Proofs.YtlclgpiabjlpbaaGreat.Am
open Go.RowKit
set_option linter.unusedVariables false
set_option linter.unusedSimpArgs false
set_option maxRecDepth 100000

theorem bits_c (v : Val) : ∀ H, ACalls tt 31 [.agg v.av] H (fun res_ H' => res_ = .i .u64 ((bitsP v : Nat) : Int) ∧ H' = H) := by
  refine body_calc (T := tt) Tryz.func31 rfl Tryz.ntmps31 rfl rfl (by rfl) (by rfl) ?_
  refine wp_reg ?_
  refine st_box rfl rfl rfl rfl rfl rfl rfl rfl rfl ?_
  refine st_pop rfl rfl rfl rfl ?_
  refine st_nil ?_
  refine awp_seq ?_
  refine wp_reg ?_
  refine st_pop rfl rfl rfl rfl ?_
  refine st_pop rfl rfl rfl rfl ?_
  refine st_pop rfl rfl rfl rfl ?_
  refine st_pop rfl rfl rfl rfl ?_
  refine st_bit 6 rfl fun b hb1 => ?_
  cases b
  · try simp only [decide_eq_true_eq, decide_eq_false_iff_not, Bool.not_eq_true', Bool.not_eq_false', Int.not_lt, Int.not_le] at hb1
    refine st_skip rfl rfl rfl ?_
    refine st_skip rfl rfl rfl ?_
    refine st_skip rfl rfl rfl ?_
    refine st_pop rfl rfl rfl rfl ?_
    refine st_nil ?_
    refine wp_f rfl ?_
    refine awp_skip ?_
    refine at_norm ?_
    refine wp_reg ?_
    refine st_pop rfl rfl rfl rfl ?_
    refine st_pop rfl rfl rfl rfl ?_
    refine st_extern [.f v.rate] (.i .u64 ((v.rate : Nat) : Int)) rfl rfl rfl rfl rfl rfl rfl (fun w => run_bits _ w) ?_
    refine st_pop rfl rfl rfl rfl ?_
    refine st_nil ?_
    refine awp_ret ?_
    refine ret_ret rfl rfl ?_
    refine wk_eq ?_
    unfold bitsP
    first
      | (rw [if_pos ⟨by assumption, by assumption⟩]; done)
      | (rw [if_neg (by simp_all [feq])]; done)
      | (rw [if_pos (by simp_all [feq])]; done)
      | (rw [if_pos (by simp_all [feq])]; rfl)
  · try simp only [decide_eq_true_eq, decide_eq_false_iff_not, Bool.not_eq_true', Bool.not_eq_false', Int.not_lt, Int.not_le] at hb1
    refine st_pop rfl rfl rfl rfl ?_
    refine st_pop rfl rfl rfl rfl ?_
    refine st_pop rfl rfl rfl rfl ?_
    refine st_pop rfl rfl rfl rfl ?_
    refine st_nil ?_
    refine wp_bit 10 rfl fun b hb2 => ?_
    cases b
    · try simp only [decide_eq_true_eq, decide_eq_false_iff_not, Bool.not_eq_true', Bool.not_eq_false', Int.not_lt, Int.not_le] at hb2
      refine wp_f rfl ?_
      refine awp_skip ?_
      refine at_norm ?_
      refine wp_reg ?_
      refine st_pop rfl rfl rfl rfl ?_
      refine st_pop rfl rfl rfl rfl ?_
      refine st_extern [.f v.rate] (.i .u64 ((v.rate : Nat) : Int)) rfl rfl rfl rfl rfl rfl rfl (fun w => run_bits _ w) ?_
      refine st_pop rfl rfl rfl rfl ?_
      refine st_nil ?_
      refine awp_ret ?_
      refine ret_ret rfl rfl ?_
      refine wk_eq ?_
      unfold bitsP
      first
        | (rw [if_pos ⟨by assumption, by assumption⟩]; done)
        | (rw [if_neg (by simp_all [feq])]; done)
        | (rw [if_pos (by simp_all [feq])]; done)
        | (rw [if_pos (by simp_all [feq])]; rfl)
    · try simp only [decide_eq_true_eq, decide_eq_false_iff_not, Bool.not_eq_true', Bool.not_eq_false', Int.not_lt, Int.not_le] at hb2
      refine wp_t rfl ?_
      refine wp_reg ?_
      refine st_pop rfl rfl rfl rfl ?_
      refine st_nil ?_
      refine awp_ret ?_
      refine at_ret ?_
      refine ret_ret rfl rfl ?_
      refine wk_eq ?_
      unfold bitsP
      first
        | (rw [if_pos ⟨by assumption, by assumption⟩]; done)
        | (rw [if_neg (by simp_all [feq])]; done)
        | (rw [if_pos (by simp_all [feq])]; done)
        | (rw [if_pos (by simp_all [feq])]; rfl)
theorem alike_c (a b : Val) : ∀ H, ACalls tt 17 [.agg a.av, .agg b.av] H (fun res_ H' => res_ = .b (alikeP a b) ∧ H' = H) := by
  refine body_calc (T := tt) Tryz.func17 rfl Tryz.ntmps17 rfl rfl (by rfl) (by rfl) ?_
  refine wp_reg ?_
  refine st_box rfl rfl rfl rfl rfl rfl rfl rfl rfl ?_
  refine st_box rfl rfl rfl rfl rfl rfl rfl rfl rfl ?_
  refine st_pop rfl rfl rfl rfl ?_
  refine st_nil ?_
  refine wp_reg ?_
  refine st_pop rfl rfl rfl rfl ?_
  refine st_calc (xs := [.tmp 7]) _ rfl rfl rfl rfl Tryz.func31 rfl rfl rfl (bits_c _ _) ?_
  refine st_pop rfl rfl rfl rfl ?_
  refine st_nil ?_
  refine wp_reg ?_
  refine st_pop rfl rfl rfl rfl ?_
  refine st_calc (xs := [.tmp 9]) _ rfl rfl rfl rfl Tryz.func31 rfl rfl rfl (bits_c _ _) ?_
  refine st_pop rfl rfl rfl rfl ?_
  refine st_nil ?_
  refine wp_reg ?_
  refine st_pop rfl rfl rfl rfl ?_
  refine st_pop rfl rfl rfl rfl ?_
  refine st_pop rfl rfl rfl rfl ?_
  refine st_pop rfl rfl rfl rfl ?_
  refine st_pop rfl rfl rfl rfl ?_
  refine st_pop rfl rfl rfl rfl ?_
  refine st_bit 16 rfl fun b hb1 => ?_
  cases b
  · try simp only [decide_eq_true_eq, decide_eq_false_iff_not, Bool.not_eq_true', Bool.not_eq_false', Int.not_lt, Int.not_le] at hb1
    refine st_skip rfl rfl rfl ?_
    refine st_skip rfl rfl rfl ?_
    refine st_skip rfl rfl rfl ?_
    refine st_skip rfl rfl rfl ?_
    refine st_skip rfl rfl rfl ?_
    refine st_pop rfl rfl rfl rfl ?_
    refine st_pop rfl rfl rfl rfl ?_
    refine st_skip rfl rfl rfl ?_
    refine st_skip rfl rfl rfl ?_
    refine st_skip rfl rfl rfl ?_
    refine st_skip rfl rfl rfl ?_
    refine st_skip rfl rfl rfl ?_
    refine st_pop rfl rfl rfl rfl ?_
    refine st_pop rfl rfl rfl rfl ?_
    refine st_skip rfl rfl rfl ?_
    refine st_skip rfl rfl rfl ?_
    refine st_skip rfl rfl rfl ?_
    refine st_skip rfl rfl rfl ?_
    refine st_skip rfl rfl rfl ?_
    refine st_pop rfl rfl rfl rfl ?_
    refine st_pop rfl rfl rfl rfl ?_
    refine st_skip rfl rfl rfl ?_
    refine st_skip rfl rfl rfl ?_
    refine st_skip rfl rfl rfl ?_
    refine st_pop rfl rfl rfl rfl ?_
    refine st_pop rfl rfl rfl rfl ?_
    refine st_nil ?_
    refine awp_ret ?_
    refine ret_ret rfl rfl ?_
    refine wk_b ?_
    first
      | (simp_all [alikeP]; done)
      | (simp only [alikeP]; rw [Bool.eq_iff_iff]; simp_all; omega)
      | (simp_all [alikeP]; omega)
  · try simp only [decide_eq_true_eq, decide_eq_false_iff_not, Bool.not_eq_true', Bool.not_eq_false', Int.not_lt, Int.not_le] at hb1
    refine st_pop rfl rfl rfl rfl ?_
    refine st_pop rfl rfl rfl rfl ?_
    refine st_pop rfl rfl rfl rfl ?_
    refine st_pop rfl rfl rfl rfl ?_
    refine st_pop rfl rfl rfl rfl ?_
    refine st_pop rfl rfl rfl rfl ?_
    refine st_pop rfl rfl rfl rfl ?_
    refine st_bit 23 rfl fun b hb2 => ?_
    cases b
    · try simp only [decide_eq_true_eq, decide_eq_false_iff_not, Bool.not_eq_true', Bool.not_eq_false', Int.not_lt, Int.not_le] at hb2
      refine st_skip rfl rfl rfl ?_
      refine st_skip rfl rfl rfl ?_
      refine st_skip rfl rfl rfl ?_
      refine st_skip rfl rfl rfl ?_
      refine st_skip rfl rfl rfl ?_
      refine st_pop rfl rfl rfl rfl ?_
      refine st_pop rfl rfl rfl rfl ?_
      refine st_skip rfl rfl rfl ?_
      refine st_skip rfl rfl rfl ?_
      refine st_skip rfl rfl rfl ?_
      refine st_skip rfl rfl rfl ?_
      refine st_skip rfl rfl rfl ?_
      refine st_pop rfl rfl rfl rfl ?_
      refine st_pop rfl rfl rfl rfl ?_
      refine st_skip rfl rfl rfl ?_
      refine st_skip rfl rfl rfl ?_
      refine st_skip rfl rfl rfl ?_
      refine st_pop rfl rfl rfl rfl ?_
      refine st_pop rfl rfl rfl rfl ?_
      refine st_nil ?_
      refine awp_ret ?_
      refine ret_ret rfl rfl ?_
      refine wk_b ?_
      first
        | (simp_all [alikeP]; done)
        | (simp only [alikeP]; rw [Bool.eq_iff_iff]; simp_all; omega)
        | (simp_all [alikeP]; omega)
    · try simp only [decide_eq_true_eq, decide_eq_false_iff_not, Bool.not_eq_true', Bool.not_eq_false', Int.not_lt, Int.not_le] at hb2
      refine st_pop rfl rfl rfl rfl ?_
      refine st_pop rfl rfl rfl rfl ?_
      refine st_pop rfl rfl rfl rfl ?_
      refine st_pop rfl rfl rfl rfl ?_
      refine st_pop rfl rfl rfl rfl ?_
      refine st_pop rfl rfl rfl rfl ?_
      refine st_pop rfl rfl rfl rfl ?_
      refine st_bit 30 rfl fun b hb3 => ?_
      cases b
      · try simp only [decide_eq_true_eq, decide_eq_false_iff_not, Bool.not_eq_true', Bool.not_eq_false', Int.not_lt, Int.not_le] at hb3
        refine st_skip rfl rfl rfl ?_
        refine st_skip rfl rfl rfl ?_
        refine st_skip rfl rfl rfl ?_
        refine st_skip rfl rfl rfl ?_
        refine st_skip rfl rfl rfl ?_
        refine st_pop rfl rfl rfl rfl ?_
        refine st_pop rfl rfl rfl rfl ?_
        refine st_skip rfl rfl rfl ?_
        refine st_skip rfl rfl rfl ?_
        refine st_skip rfl rfl rfl ?_
        refine st_pop rfl rfl rfl rfl ?_
        refine st_pop rfl rfl rfl rfl ?_
        refine st_nil ?_
        refine awp_ret ?_
        refine ret_ret rfl rfl ?_
        refine wk_b ?_
        first
          | (simp_all [alikeP]; done)
          | (simp only [alikeP]; rw [Bool.eq_iff_iff]; simp_all; omega)
          | (simp_all [alikeP]; omega)
      · try simp only [decide_eq_true_eq, decide_eq_false_iff_not, Bool.not_eq_true', Bool.not_eq_false', Int.not_lt, Int.not_le] at hb3
        refine st_pop rfl rfl rfl rfl ?_
        refine st_pop rfl rfl rfl rfl ?_
        refine st_pop rfl rfl rfl rfl ?_
        refine st_pop rfl rfl rfl rfl ?_
        refine st_pop rfl rfl rfl rfl ?_
        refine st_pop rfl rfl rfl rfl ?_
        refine st_pop rfl rfl rfl rfl ?_
        refine st_bit 37 rfl fun b hb4 => ?_
        cases b
        · try simp only [decide_eq_true_eq, decide_eq_false_iff_not, Bool.not_eq_true', Bool.not_eq_false', Int.not_lt, Int.not_le] at hb4
          refine st_skip rfl rfl rfl ?_
          refine st_skip rfl rfl rfl ?_
          refine st_skip rfl rfl rfl ?_
          refine st_pop rfl rfl rfl rfl ?_
          refine st_pop rfl rfl rfl rfl ?_
          refine st_nil ?_
          refine awp_ret ?_
          refine ret_ret rfl rfl ?_
          refine wk_b ?_
          first
            | (simp_all [alikeP]; done)
            | (simp only [alikeP]; rw [Bool.eq_iff_iff]; simp_all; omega)
            | (simp_all [alikeP]; omega)
        · try simp only [decide_eq_true_eq, decide_eq_false_iff_not, Bool.not_eq_true', Bool.not_eq_false', Int.not_lt, Int.not_le] at hb4
          refine st_pop rfl rfl rfl rfl ?_
          refine st_pop rfl rfl rfl rfl ?_
          refine st_pop rfl rfl rfl rfl ?_
          refine st_pop rfl rfl rfl rfl ?_
          refine st_pop rfl rfl rfl rfl ?_
          refine st_nil ?_
          refine awp_ret ?_
          refine ret_ret rfl rfl ?_
          refine wk_b ?_
          first
            | (simp_all [alikeP]; done)
            | (simp only [alikeP]; rw [Bool.eq_iff_iff]; simp_all; omega)
            | (simp_all [alikeP]; omega)
theorem alive_c  : ∀ H, ACalls tt 9 [] H (fun res_ H' => res_ = .b true ∧ H' = H) := by
  refine body_calc (T := tt) Tryz.func9 rfl Tryz.ntmps9 rfl rfl (by rfl) (by rfl) ?_
  refine wp_reg ?_
  refine st_pop rfl rfl rfl rfl ?_
  refine st_nil ?_
  refine wp_reg ?_
  refine st_calcW (xs := []) _ rfl rfl rfl rfl Tryz.func25 rfl rfl rfl (new_c _ 0 rfl) rfl ?_
  refine st_pop rfl rfl rfl rfl ?_
  refine st_nil ?_
  refine awp_seq ?_
  refine wp_reg ?_
  refine st_pop rfl rfl rfl rfl ?_
  refine st_pop rfl rfl rfl rfl ?_
  refine st_nil ?_
  refine wp_bit 11 rfl fun b hb1 => ?_
  cases b
  · try simp only [decide_eq_true_eq, decide_eq_false_iff_not, Bool.not_eq_true', Bool.not_eq_false', Int.not_lt, Int.not_le] at hb1
    refine wp_f rfl ?_
    refine awp_skip ?_
    refine at_norm ?_
    refine wp_reg ?_
    refine st_pop rfl rfl rfl rfl ?_
    refine st_alloc rfl rfl rfl rfl rfl rfl rfl ?_
    refine st_store rfl rfl rfl rfl rfl rfl rfl rfl rfl rfl rfl rfl rfl ?_
    refine st_nil ?_
    refine wp_reg ?_
    refine st_pop rfl rfl rfl rfl ?_
    refine st_pop rfl rfl rfl rfl ?_
    refine st_pop rfl rfl rfl rfl ?_
    refine st_calcW (xs := [.tmp 13, .tmp 14, .tmp 15]) _ rfl rfl rfl rfl Tryz.func23 rfl rfl rfl (set_c [] sto_nil ageC (wholeV 30) ⟨by decide, by decide⟩ _ 1 0 rfl rfl) rfl ?_
    refine st_nil ?_
    refine wp_reg ?_
    refine st_pop rfl rfl rfl rfl ?_
    refine st_pop rfl rfl rfl rfl ?_
    refine st_pop rfl rfl rfl rfl ?_
    refine st_pop rfl rfl rfl rfl ?_
    refine st_pop rfl rfl rfl rfl ?_
    refine st_bslice (E := 66) [.tmp 18, .tmp 20, .tmp 21] rfl rfl rfl rfl rfl rfl rfl (by simp [ev, upd, AV.sto, cellsOf, AV.flat]; rfl) rfl fun tk => ?_
    refine st_pop rfl rfl rfl rfl ?_
    refine st_alloc rfl rfl rfl rfl rfl rfl rfl ?_
    refine st_store rfl rfl rfl rfl rfl rfl rfl rfl rfl rfl rfl rfl rfl ?_
    refine st_nil ?_
    refine wp_reg ?_
    refine st_pop rfl rfl rfl rfl ?_
    refine st_alloc rfl rfl rfl rfl rfl rfl rfl ?_
    refine st_store rfl rfl rfl rfl rfl rfl rfl rfl rfl rfl rfl rfl rfl ?_
    refine st_nil ?_
    refine wp_reg ?_
    refine st_pop rfl rfl rfl rfl ?_
    refine st_pop rfl rfl rfl rfl ?_
    refine st_pop rfl rfl rfl rfl ?_
    refine st_calc (xs := [.tmp 26, .tmp 27, .tmp 28]) _ rfl rfl rfl rfl Tryz.func14 rfl rfl rfl (ACalls.args (value_c aliveN annX aliveS alive_sto ⟨by decide, by decide⟩ alive_nods (by decide) _ 1 0 rfl rfl) (.cons (.agg (.cons (.l _ _ _) .nil)) (.cons (.refl _) (.cons (.refl _) .nil)))) ?_
    refine st_pop rfl rfl rfl rfl ?_
    refine st_pop rfl rfl rfl rfl ?_
    refine st_pop rfl rfl rfl rfl ?_
    refine st_alloc rfl rfl rfl rfl rfl rfl rfl ?_
    refine st_store rfl rfl rfl rfl rfl rfl rfl rfl rfl rfl rfl rfl rfl ?_
    refine st_pop rfl rfl rfl rfl ?_
    refine st_nil ?_
    refine wp_reg ?_
    refine st_pop rfl rfl rfl rfl ?_
    refine st_pop rfl rfl rfl rfl ?_
    refine st_pop rfl rfl rfl rfl ?_
    refine st_calc (xs := [.tmp 33, .tmp 34, .tmp 35]) _ rfl rfl rfl rfl Tryz.func14 rfl rfl rfl (ACalls.args (value_c aliveN bobX aliveS alive_sto ⟨by decide, by decide⟩ alive_nods (by decide) _ 1 0 rfl rfl) (.cons (.agg (.cons (.l _ _ _) .nil)) (.cons (.refl _) (.cons (.refl _) .nil)))) ?_
    refine st_pop rfl rfl rfl rfl ?_
    refine st_pop rfl rfl rfl rfl ?_
    refine st_pop rfl rfl rfl rfl ?_
    refine st_alloc rfl rfl rfl rfl rfl rfl rfl ?_
    refine st_store rfl rfl rfl rfl rfl rfl rfl rfl rfl rfl rfl rfl rfl ?_
    refine st_pop rfl rfl rfl rfl ?_
    refine st_nil ?_
    refine wp_reg ?_
    refine st_pop rfl rfl rfl rfl ?_
    refine st_pop rfl rfl rfl rfl ?_
    refine st_pop rfl rfl rfl rfl ?_
    refine st_pop rfl rfl rfl rfl ?_
    refine st_bit 42 rfl fun b hb2 => ?_
    cases b
    · try simp only [decide_eq_true_eq, decide_eq_false_iff_not, Bool.not_eq_true', Bool.not_eq_false', Int.not_lt, Int.not_le] at hb2
      first | exact absurd hb2 (by rw [alive_ann]; decide) | exact absurd hb2 (by rw [alive_bob]; decide)
    · try simp only [decide_eq_true_eq, decide_eq_false_iff_not, Bool.not_eq_true', Bool.not_eq_false', Int.not_lt, Int.not_le] at hb2
      refine st_pop rfl rfl rfl rfl ?_
      refine st_pop rfl rfl rfl rfl ?_
      refine st_pop rfl rfl rfl rfl ?_
      refine st_pop rfl rfl rfl rfl ?_
      refine st_bit 46 rfl fun b hb3 => ?_
      cases b
      · try simp only [decide_eq_true_eq, decide_eq_false_iff_not, Bool.not_eq_true', Bool.not_eq_false', Int.not_lt, Int.not_le] at hb3
        first | exact absurd hb3 (by rw [alive_ann]; decide) | exact absurd hb3 (by rw [alive_bob]; decide)
      · try simp only [decide_eq_true_eq, decide_eq_false_iff_not, Bool.not_eq_true', Bool.not_eq_false', Int.not_lt, Int.not_le] at hb3
        refine st_pop rfl rfl rfl rfl ?_
        refine st_pop rfl rfl rfl rfl ?_
        refine st_pop rfl rfl rfl rfl ?_
        refine st_pop rfl rfl rfl rfl ?_
        refine st_pop rfl rfl rfl rfl ?_
        refine st_bit 51 rfl fun b hb4 => ?_
        cases b
        · try simp only [decide_eq_true_eq, decide_eq_false_iff_not, Bool.not_eq_true', Bool.not_eq_false', Int.not_lt, Int.not_le] at hb4
          first | exact absurd hb4 (by rw [alive_ann]; decide) | exact absurd hb4 (by rw [alive_bob]; decide)
        · try simp only [decide_eq_true_eq, decide_eq_false_iff_not, Bool.not_eq_true', Bool.not_eq_false', Int.not_lt, Int.not_le] at hb4
          refine st_pop rfl rfl rfl rfl ?_
          refine st_pop rfl rfl rfl rfl ?_
          refine st_pop rfl rfl rfl rfl ?_
          refine st_pop rfl rfl rfl rfl ?_
          refine st_bit 55 rfl fun b hb5 => ?_
          cases b
          · try simp only [decide_eq_true_eq, decide_eq_false_iff_not, Bool.not_eq_true', Bool.not_eq_false', Int.not_lt, Int.not_le] at hb5
            first | exact absurd hb5 (by rw [alive_ann]; decide) | exact absurd hb5 (by rw [alive_bob]; decide)
          · try simp only [decide_eq_true_eq, decide_eq_false_iff_not, Bool.not_eq_true', Bool.not_eq_false', Int.not_lt, Int.not_le] at hb5
            refine st_pop rfl rfl rfl rfl ?_
            refine st_pop rfl rfl rfl rfl ?_
            refine st_pop rfl rfl rfl rfl ?_
            refine st_calc (xs := [.tmp 56, .tmp 57, .tmp 58]) _ rfl rfl rfl rfl Tryz.func15 rfl rfl rfl (ACalls.args (holds_c aliveN annX aliveS alive_sto ⟨by decide, by decide⟩ alive_nods (by decide) _ 1 0 rfl rfl) (.cons (.agg (.cons (.l _ _ _) .nil)) (.cons (.refl _) (.cons (.refl _) .nil)))) ?_
            refine st_pop rfl rfl rfl rfl ?_
            refine st_pop rfl rfl rfl rfl ?_
            refine st_pop rfl rfl rfl rfl ?_
            refine st_nil ?_
            refine awp_ret ?_
            refine ret_ret rfl rfl ?_
            rw [alive_ann]; exact .refl _
  · try simp only [decide_eq_true_eq, decide_eq_false_iff_not, Bool.not_eq_true', Bool.not_eq_false', Int.not_lt, Int.not_le] at hb1
    cases hb1
theorem right_why {e : List Nod} (h : ¬ (if rightE e = true then ((truthV false, 0) : VW) else (zeroVal, 2)).2 = 2) : rightE e = true := by
  by_cases hr : rightE e = true
  · exact hr
  · rw [if_neg hr] at h; exact (h rfl).elim
theorem shift_len {p : Nat} {l : List Nod} : (shiftL p l).length = l.length := by simp [shiftL]
theorem truthE_c (t : Bool) : ∀ H, ACalls tt 12 [.b t] H (fun res_ H' => res_ = .agg [.l none 66 ((truthN t).map Nod.av)] ∧ H' = H) := by
  refine body_calc (T := tt) Tryz.func12 rfl Tryz.ntmps12 rfl rfl (by rfl) (by rfl) ?_
  refine wp_reg ?_
  refine st_alloc rfl rfl rfl rfl rfl rfl rfl ?_
  refine st_nil ?_
  refine wp_reg ?_
  refine st_pop rfl rfl rfl rfl ?_
  refine st_pop rfl rfl rfl rfl ?_
  refine st_pop rfl rfl rfl rfl ?_
  refine st_bslice (E := 66) [.tmp 5] rfl rfl rfl rfl rfl rfl rfl (by simp [ev, upd, AV.sto, cellsOf, AV.flat]; rfl) rfl fun tk => ?_
  refine st_pop rfl rfl rfl rfl ?_
  refine st_store rfl rfl rfl rfl rfl rfl rfl rfl rfl rfl rfl rfl rfl ?_
  refine st_nil ?_
  refine awp_ret ?_
  refine ret_ret rfl rfl ?_
  exact .agg (.cons (.l _ _ _) .nil)
theorem under_c (a : List Nod) (ha : a.length ≤ 100000000) (op : Int) : ∀ H, ACalls tt 16 [.agg [.l none 66 (a.map Nod.av)], .i .i64 op] H (fun res_ H' => res_ = .agg [.l none 66 ((underN a op).map Nod.av)] ∧ H' = H) := by
  refine body_calc (T := tt) Tryz.func16 rfl Tryz.ntmps16 rfl rfl (by simp [cleanL, clean, nods_clean]) (by simp [clean, cleanL, nods_clean]) ?_
  refine wp_reg ?_
  refine st_box rfl rfl rfl rfl rfl rfl rfl rfl rfl ?_
  refine st_alloc rfl rfl rfl rfl rfl rfl rfl ?_
  refine st_nil ?_
  refine wp_reg ?_
  refine st_bslice (E := 66) [] rfl rfl rfl rfl rfl rfl rfl (by simp) rfl fun tk => ?_
  refine st_pop rfl rfl rfl rfl ?_
  refine st_pop rfl rfl rfl rfl ?_
  refine st_append (xs := []) (ys := a.map Nod.av) rfl rfl rfl rfl rfl rfl rfl (.inr ⟨tk, rfl, List.mem_cons_self⟩) (.inr ⟨none, rfl⟩) (by simp only [List.length_append, List.length_map, List.length_take, List.length_cons, List.length_nil, shift_len]; show _ * 96 ≤ _; omega) (by simp only [List.length_append, List.length_map, List.length_take, List.length_cons, List.length_nil, shift_len]; show _ ≤ 9223372036854775807; omega) ?_
  rintro r0 ⟨bs2, ts1⟩ own1 hb2 -
  have hb2 : bs2 = _ := hb2
  subst hb2
  refine st_popx (r0) rfl rfl rfl rfl ?_
  refine st_nil ?_
  refine wp_reg ?_
  refine st_popx (r0) rfl rfl rfl rfl ?_
  refine st_pop rfl rfl rfl rfl ?_
  refine st_pop rfl rfl rfl rfl ?_
  refine st_pop rfl rfl rfl rfl ?_
  refine st_pop rfl rfl rfl rfl ?_
  refine st_val 14 (.i .i64 ((a.length : Nat) : Int)) rfl (by simp) ?_
  refine st_pop rfl rfl rfl rfl ?_
  refine st_val 15 (.i .i64 ((a.length : Int) - 1)) rfl (by rw [IntWalk.i64_in _ (by omega)]) ?_
  refine st_pop rfl rfl rfl rfl ?_
  refine st_bslice (E := 66) [.tmp 16] rfl rfl rfl rfl rfl rfl rfl (by simp [ev, upd, AV.sto, cellsOf, AV.flat]; rfl) rfl fun tk => ?_
  refine st_appendW (xs := [] ++ a.map Nod.av) (ys := [(opN op ((a.length : Int) - 1) 0).av]) rfl rfl rfl rfl rfl rfl rfl (own_more own1) (.inr ⟨some tk, rfl⟩) (by simp only [List.length_append, List.length_map, List.length_cons, List.length_nil]; show _ * 96 ≤ _; omega) (by simp only [List.length_append, List.length_map, List.length_cons, List.length_nil]; show _ ≤ 9223372036854775807; omega) ?_
  intro ts9
  refine st_pop rfl rfl rfl rfl ?_
  refine st_store rfl rfl rfl rfl rfl rfl rfl rfl rfl rfl rfl rfl rfl ?_
  refine st_nil ?_
  refine awp_ret ?_
  refine ret_ret rfl rfl ?_
  refine wk_agg ?_
  simp [underN]
theorem alen_own {H H' : AH} {r : AV} {xs : List (List AV)} {n : Nat} (h : IsOwn H r 66 xs) (hn : xs.length = n) : alen tt 22 r H' = some (.i .i64 ((n : Nat) : Int)) := by
  rcases h with ⟨rfl, rfl⟩ | ⟨t, rfl, _⟩ <;> subst hn <;> rfl
theorem sh1 {p : Nat} {n : Nod} (h : ¬ 6 ≤ n.op) : (shiftN p n).av = n.av := by
  unfold shiftN Nod.av; simp only; rw [if_neg h, if_neg (by omega)]
theorem sh2 {p : Nat} {n : Nod} (h : 6 ≤ n.op) (h2 : ¬ (8 ≤ n.op ∧ n.op ≤ 22)) : (shiftN p n).av = Nod.av { n with a := IntKind.i64.wrap (n.a + p) } := by
  unfold shiftN Nod.av; simp only; rw [if_pos h, if_neg h2]
theorem sh3 {p : Nat} {n : Nod} (h2 : 8 ≤ n.op ∧ n.op ≤ 22) : (shiftN p n).av = Nod.av { n with a := IntKind.i64.wrap (n.a + p), b := IntKind.i64.wrap (n.b + p) } := by
  unfold shiftN Nod.av; simp only; rw [if_pos (by omega), if_pos h2]
theorem both_c (a b : List Nod) (ha : a.length ≤ 100000000) (hb : b.length ≤ 100000000) (op : Int) : ∀ H, ACalls tt 11 [.agg [.l none 66 (a.map Nod.av)], .agg [.l none 66 (b.map Nod.av)], .i .i64 op] H (fun res_ H' => res_ = .agg [.l none 66 ((bothN a b op).map Nod.av)] ∧ H' = H) := by
  refine body_calc (T := tt) Tryz.func11 rfl Tryz.ntmps11 rfl rfl (by simp [cleanL, clean, nods_clean]) (by simp [clean, cleanL, nods_clean]) ?_
  refine wp_reg ?_
  refine st_box rfl rfl rfl rfl rfl rfl rfl rfl rfl ?_
  refine st_box rfl rfl rfl rfl rfl rfl rfl rfl rfl ?_
  refine st_alloc rfl rfl rfl rfl rfl rfl rfl ?_
  refine st_nil ?_
  refine wp_reg ?_
  refine st_bslice (E := 66) [] rfl rfl rfl rfl rfl rfl rfl (by simp) rfl fun tk => ?_
  refine st_pop rfl rfl rfl rfl ?_
  refine st_pop rfl rfl rfl rfl ?_
  refine st_append (xs := []) (ys := a.map Nod.av) rfl rfl rfl rfl rfl rfl rfl (.inr ⟨tk, rfl, List.mem_cons_self⟩) (.inr ⟨none, rfl⟩) (by simp only [List.length_append, List.length_map, List.length_take, List.length_cons, List.length_nil, shift_len]; show _ * 96 ≤ _; omega) (by simp only [List.length_append, List.length_map, List.length_take, List.length_cons, List.length_nil, shift_len]; show _ ≤ 9223372036854775807; omega) ?_
  rintro r0 ⟨bs2, ts1⟩ own1 hb2 -
  have hb2 : bs2 = _ := hb2
  subst hb2
  refine st_popx (r0) rfl rfl rfl rfl ?_
  refine st_nil ?_
  refine wp_reg ?_
  refine st_popx (r0) rfl rfl rfl rfl ?_
  refine st_popx (.i .i64 ((a.length : Nat) : Int)) rfl rfl rfl (alen_own own1 (by simp)) ?_
  refine st_pop rfl rfl rfl rfl ?_
  refine st_nil ?_
  refine awp_seq ?_
  refine wp_reg ?_
  refine st_pop rfl rfl rfl rfl ?_
  refine st_pop rfl rfl rfl rfl ?_
  refine st_pop rfl rfl rfl rfl ?_
  refine st_val 19 (.i .i64 ((b.length : Nat) : Int)) rfl (by simp) ?_
  refine st_pop rfl rfl rfl rfl ?_
  refine st_nil ?_
  refine awp_block ?_
  refine wp_loopD (α := Nat × AV × List Nat) (fun s => frl [(2, .i .i64 op), (3, .ptr 0 0), (4, .ptr 1 0), (6, .ptr 2 0), (7, s.2.1), (8, .i .i64 ((a.length : Nat) : Int)), (19, .i .i64 ((b.length : Nat) : Int)), (20, .i .i64 ((s.1 : Nat) : Int))]) (fun s => ⟨[.cells [.l none 66 (a.map Nod.av)], .cells [.l none 66 (b.map Nod.av)], .cells [.nil]], s.2.2⟩) 3 (fun s => s.1 ≤ b.length ∧ IsOwn ⟨[], s.2.2⟩ s.2.1 66 ((a ++ (shiftL a.length b).take s.1).map Nod.av)) (fun s => b.length - s.1) (0, r0, ts1) ⟨Nat.zero_le _, by show IsOwn ⟨[], ts1⟩ r0 _ _; have q : IsOwn ⟨[], ts1⟩ r0 _ _ := own1; simpa using q⟩ (wk_frl (wk_cons rfl (wk_cons rfl (wk_cons rfl (wk_cons rfl (wk_cons rfl (wk_cons rfl (wk_cons rfl (wk_cons rfl wk_nil))))))))) rfl (fun s => rfl) (fun s hs => bb_frl (by simp [bbL, bb, nods_bb, own_bb hs.2 (nods_bb 3 _)])) (fun s _ => by simp [bbH, bbB, bbL, bb, nods_bb]) ?_
  rintro ⟨k, o1, ts⟩ ⟨hk, hown⟩
  have hk : k ≤ b.length := hk
  have hown : IsOwn ⟨[], ts⟩ o1 66 ((a ++ (shiftL a.length b).take k).map Nod.av) := hown
  dsimp only
  refine wp_reg ?_
  refine st_pop rfl rfl rfl rfl ?_
  refine st_nil ?_
  refine awp_seq ?_
  refine wp_bit 21 rfl fun b hb1 => ?_
  cases b
  · try simp only [decide_eq_true_eq, decide_eq_false_iff_not, Bool.not_eq_true', Bool.not_eq_false', Int.not_lt, Int.not_le] at hb1
    refine wp_f rfl ?_
    refine awp_exit ?_
    refine at_exit ?_
    refine at_exit ?_
    refine ab_hit ?_
    refine at_norm ?_
    refine wp_reg ?_
    refine st_popx (o1) rfl rfl rfl rfl ?_
    refine st_pop rfl rfl rfl rfl ?_
    refine st_pop rfl rfl rfl rfl ?_
    refine st_pop rfl rfl rfl rfl ?_
    refine st_val 57 (.i .i64 ((a.length : Int) - 1)) rfl (by rw [IntWalk.i64_in _ (by omega)]) ?_
    refine st_popx (o1) rfl rfl rfl rfl ?_
    refine st_popx (.i .i64 (((a.length + b.length) : Nat) : Int)) rfl rfl rfl (alen_own hown (by simp only [List.length_map, List.length_append, List.length_take, shift_len]; omega)) ?_
    refine st_pop rfl rfl rfl rfl ?_
    refine st_val 60 (.i .i64 (((a.length + b.length : Nat) : Int) - 1)) rfl (by rw [IntWalk.i64_in _ (by omega)]) ?_
    refine st_pop rfl rfl rfl rfl ?_
    refine st_bslice (E := 66) [.tmp 61] rfl rfl rfl rfl rfl rfl rfl (by simp [ev, upd, AV.sto, cellsOf, AV.flat]; rfl) rfl fun tk => ?_
    refine st_appendW (xs := (a ++ (shiftL a.length b).take k).map Nod.av) (ys := [(opN op ((a.length : Int) - 1) (((a.length + b.length : Nat) : Int) - 1)).av]) rfl rfl rfl rfl rfl rfl rfl (own_more hown) (.inr ⟨some tk, rfl⟩) (by simp only [List.length_append, List.length_map, List.length_take, List.length_cons, List.length_nil, shift_len]; show _ * 96 ≤ _; omega) (by simp only [List.length_append, List.length_map, List.length_take, List.length_cons, List.length_nil, shift_len]; show _ ≤ 9223372036854775807; omega) ?_
    intro ts9
    refine st_pop rfl rfl rfl rfl ?_
    refine st_store rfl rfl rfl rfl rfl rfl rfl rfl rfl rfl rfl rfl rfl ?_
    refine st_nil ?_
    refine awp_ret ?_
    refine ret_ret rfl rfl ?_
    refine wk_agg ?_
    rw [List.take_of_length_le (by rw [shift_len]; omega)]
    simp [bothN]
  · try simp only [decide_eq_true_eq, decide_eq_false_iff_not, Bool.not_eq_true', Bool.not_eq_false', Int.not_lt, Int.not_le] at hb1
    obtain ⟨nd, hnd⟩ : ∃ nd, b[k]? = some nd := ⟨_, List.getElem?_eq_getElem (by omega)⟩
    have hsh : (shiftL a.length b)[k]? = some (shiftN a.length nd) := by simp [shiftL, hnd]
    refine wp_t rfl ?_
    refine awp_skip ?_
    refine at_norm ?_
    refine awp_seq ?_
    refine awp_block ?_
    refine wp_reg ?_
    refine st_pop rfl rfl rfl rfl ?_
    refine st_pop rfl rfl rfl rfl ?_
    refine st_nil ?_
    refine wp_reg ?_
    refine st_pop rfl rfl rfl rfl ?_
    refine st_pop rfl rfl rfl rfl ?_
    refine st_pop rfl rfl rfl rfl ?_
    refine st_idxA (n := k) nd.av rfl rfl rfl rfl rfl rfl rfl rfl (by simp [hnd]) ?_
    refine st_pop rfl rfl rfl rfl ?_
    refine st_alloc rfl rfl rfl rfl rfl rfl rfl ?_
    refine st_store rfl rfl rfl rfl rfl rfl rfl rfl rfl rfl rfl rfl rfl ?_
    refine st_nil ?_
    refine awp_seq ?_
    refine wp_reg ?_
    refine st_pop rfl rfl rfl rfl ?_
    refine st_pop rfl rfl rfl rfl ?_
    refine st_pop rfl rfl rfl rfl ?_
    refine st_nil ?_
    refine wp_bit 30 rfl fun b hb2 => ?_
    cases b
    · try simp only [decide_eq_true_eq, decide_eq_false_iff_not, Bool.not_eq_true', Bool.not_eq_false', Int.not_lt, Int.not_le] at hb2
      have h30 := hb2
      refine wp_f rfl ?_
      refine awp_skip ?_
      refine at_norm ?_
      refine awp_region ?_
      refine st_popx (o1) rfl rfl rfl rfl ?_
      refine st_pop rfl rfl rfl rfl ?_
      refine st_bslice (E := 66) [.tmp 50] rfl rfl rfl rfl rfl rfl rfl (by simp [ev, upd, AV.sto, cellsOf, AV.flat]; rfl) rfl fun tk => ?_
      refine st_append (xs := (a ++ (shiftL a.length b).take k).map Nod.av) (ys := [(shiftN a.length nd).av]) rfl rfl rfl rfl rfl rfl rfl (own_more hown) (.inr ⟨some tk, by rw [sh1 (by omega)]; rfl⟩) (by simp only [List.length_append, List.length_map, List.length_take, List.length_cons, List.length_nil, shift_len]; show _ * 96 ≤ _; omega) (by simp only [List.length_append, List.length_map, List.length_take, List.length_cons, List.length_nil, shift_len]; show _ ≤ 9223372036854775807; omega) ?_
      rintro r2 ⟨bs2, ts2⟩ own2 hb2 -
      have hb2 : bs2 = _ := hb2
      subst hb2
      refine st_popx (r2) rfl rfl rfl rfl ?_
      refine st_nil ?_
      refine ab_norm ?_
      refine at_norm ?_
      refine awp_region ?_
      refine st_pop rfl rfl rfl rfl ?_
      refine st_pop rfl rfl rfl rfl ?_
      refine st_nil ?_
      refine at_norm ?_
      refine ⟨(k + 1, r2, ts2), ⟨by dsimp only; omega, by dsimp only; rw [take_more hsh, ← List.append_assoc, List.map_append]; exact own2⟩, wk_frl (wk_cons rfl (wk_cons rfl (wk_cons rfl (wk_cons rfl (wk_cons rfl (wk_cons rfl (wk_cons rfl (wk_cons (wrap_succ (by omega)) wk_nil)))))))), ⟨_, rfl⟩, rfl, by dsimp only; omega⟩
    · try simp only [decide_eq_true_eq, decide_eq_false_iff_not, Bool.not_eq_true', Bool.not_eq_false', Int.not_lt, Int.not_le] at hb2
      have h30 := hb2
      refine wp_t rfl ?_
      refine wp_reg ?_
      refine st_pop rfl rfl rfl rfl ?_
      refine st_pop rfl rfl rfl rfl ?_
      refine st_pop rfl rfl rfl rfl ?_
      refine st_pop rfl rfl rfl rfl ?_
      refine st_pop rfl rfl rfl rfl ?_
      refine st_store rfl rfl rfl rfl rfl rfl rfl rfl rfl rfl rfl rfl rfl ?_
      refine st_nil ?_
      refine wp_reg ?_
      refine st_pop rfl rfl rfl rfl ?_
      refine st_pop rfl rfl rfl rfl ?_
      refine st_pop rfl rfl rfl rfl ?_
      refine st_pop rfl rfl rfl rfl ?_
      refine st_bit 39 rfl fun b hb3 => ?_
      cases b
      · try simp only [decide_eq_true_eq, decide_eq_false_iff_not, Bool.not_eq_true', Bool.not_eq_false', Int.not_lt, Int.not_le] at hb3
        refine st_skip rfl rfl rfl ?_
        refine st_skip rfl rfl rfl ?_
        refine st_skip rfl rfl rfl ?_
        refine st_pop rfl rfl rfl rfl ?_
        refine st_nil ?_
        refine wp_f rfl ?_
        refine awp_skip ?_
        refine at_norm ?_
        refine awp_region ?_
        refine st_popx (o1) rfl rfl rfl rfl ?_
        refine st_pop rfl rfl rfl rfl ?_
        refine st_bslice (E := 66) [.tmp 50] rfl rfl rfl rfl rfl rfl rfl (by simp [ev, upd, AV.sto, cellsOf, AV.flat]; rfl) rfl fun tk => ?_
        refine st_append (xs := (a ++ (shiftL a.length b).take k).map Nod.av) (ys := [(shiftN a.length nd).av]) rfl rfl rfl rfl rfl rfl rfl (own_more hown) (.inr ⟨some tk, by rw [sh2 (by omega) (by omega)]; rfl⟩) (by simp only [List.length_append, List.length_map, List.length_take, List.length_cons, List.length_nil, shift_len]; show _ * 96 ≤ _; omega) (by simp only [List.length_append, List.length_map, List.length_take, List.length_cons, List.length_nil, shift_len]; show _ ≤ 9223372036854775807; omega) ?_
        rintro r2 ⟨bs2, ts2⟩ own2 hb2 -
        have hb2 : bs2 = _ := hb2
        subst hb2
        refine st_popx (r2) rfl rfl rfl rfl ?_
        refine st_nil ?_
        refine ab_norm ?_
        refine at_norm ?_
        refine awp_region ?_
        refine st_pop rfl rfl rfl rfl ?_
        refine st_pop rfl rfl rfl rfl ?_
        refine st_nil ?_
        refine at_norm ?_
        refine ⟨(k + 1, r2, ts2), ⟨by dsimp only; omega, by dsimp only; rw [take_more hsh, ← List.append_assoc, List.map_append]; exact own2⟩, wk_frl (wk_cons rfl (wk_cons rfl (wk_cons rfl (wk_cons rfl (wk_cons rfl (wk_cons rfl (wk_cons rfl (wk_cons (wrap_succ (by omega)) wk_nil)))))))), ⟨_, rfl⟩, rfl, by dsimp only; omega⟩
      · try simp only [decide_eq_true_eq, decide_eq_false_iff_not, Bool.not_eq_true', Bool.not_eq_false', Int.not_lt, Int.not_le] at hb3
        refine st_pop rfl rfl rfl rfl ?_
        refine st_pop rfl rfl rfl rfl ?_
        refine st_pop rfl rfl rfl rfl ?_
        refine st_pop rfl rfl rfl rfl ?_
        refine st_nil ?_
        refine wp_bit 43 rfl fun b hb4 => ?_
        cases b
        · try simp only [decide_eq_true_eq, decide_eq_false_iff_not, Bool.not_eq_true', Bool.not_eq_false', Int.not_lt, Int.not_le] at hb4
          refine wp_f rfl ?_
          refine awp_skip ?_
          refine at_norm ?_
          refine awp_region ?_
          refine st_popx (o1) rfl rfl rfl rfl ?_
          refine st_pop rfl rfl rfl rfl ?_
          refine st_bslice (E := 66) [.tmp 50] rfl rfl rfl rfl rfl rfl rfl (by simp [ev, upd, AV.sto, cellsOf, AV.flat]; rfl) rfl fun tk => ?_
          refine st_append (xs := (a ++ (shiftL a.length b).take k).map Nod.av) (ys := [(shiftN a.length nd).av]) rfl rfl rfl rfl rfl rfl rfl (own_more hown) (.inr ⟨some tk, by rw [sh2 (by omega) (by omega)]; rfl⟩) (by simp only [List.length_append, List.length_map, List.length_take, List.length_cons, List.length_nil, shift_len]; show _ * 96 ≤ _; omega) (by simp only [List.length_append, List.length_map, List.length_take, List.length_cons, List.length_nil, shift_len]; show _ ≤ 9223372036854775807; omega) ?_
          rintro r2 ⟨bs2, ts2⟩ own2 hb2 -
          have hb2 : bs2 = _ := hb2
          subst hb2
          refine st_popx (r2) rfl rfl rfl rfl ?_
          refine st_nil ?_
          refine ab_norm ?_
          refine at_norm ?_
          refine awp_region ?_
          refine st_pop rfl rfl rfl rfl ?_
          refine st_pop rfl rfl rfl rfl ?_
          refine st_nil ?_
          refine at_norm ?_
          refine ⟨(k + 1, r2, ts2), ⟨by dsimp only; omega, by dsimp only; rw [take_more hsh, ← List.append_assoc, List.map_append]; exact own2⟩, wk_frl (wk_cons rfl (wk_cons rfl (wk_cons rfl (wk_cons rfl (wk_cons rfl (wk_cons rfl (wk_cons rfl (wk_cons (wrap_succ (by omega)) wk_nil)))))))), ⟨_, rfl⟩, rfl, by dsimp only; omega⟩
        · try simp only [decide_eq_true_eq, decide_eq_false_iff_not, Bool.not_eq_true', Bool.not_eq_false', Int.not_lt, Int.not_le] at hb4
          refine wp_t rfl ?_
          refine awp_region ?_
          refine st_pop rfl rfl rfl rfl ?_
          refine st_pop rfl rfl rfl rfl ?_
          refine st_pop rfl rfl rfl rfl ?_
          refine st_pop rfl rfl rfl rfl ?_
          refine st_pop rfl rfl rfl rfl ?_
          refine st_store rfl rfl rfl rfl rfl rfl rfl rfl rfl rfl rfl rfl rfl ?_
          refine st_nil ?_
          refine at_norm ?_
          refine awp_region ?_
          refine st_popx (o1) rfl rfl rfl rfl ?_
          refine st_pop rfl rfl rfl rfl ?_
          refine st_bslice (E := 66) [.tmp 50] rfl rfl rfl rfl rfl rfl rfl (by simp [ev, upd, AV.sto, cellsOf, AV.flat]; rfl) rfl fun tk => ?_
          refine st_append (xs := (a ++ (shiftL a.length b).take k).map Nod.av) (ys := [(shiftN a.length nd).av]) rfl rfl rfl rfl rfl rfl rfl (own_more hown) (.inr ⟨some tk, by rw [sh3 (by omega)]; rfl⟩) (by simp only [List.length_append, List.length_map, List.length_take, List.length_cons, List.length_nil, shift_len]; show _ * 96 ≤ _; omega) (by simp only [List.length_append, List.length_map, List.length_take, List.length_cons, List.length_nil, shift_len]; show _ ≤ 9223372036854775807; omega) ?_
          rintro r2 ⟨bs2, ts2⟩ own2 hb2 -
          have hb2 : bs2 = _ := hb2
          subst hb2
          refine st_popx (r2) rfl rfl rfl rfl ?_
          refine st_nil ?_
          refine ab_norm ?_
          refine at_norm ?_
          refine awp_region ?_
          refine st_pop rfl rfl rfl rfl ?_
          refine st_pop rfl rfl rfl rfl ?_
          refine st_nil ?_
          refine at_norm ?_
          refine ⟨(k + 1, r2, ts2), ⟨by dsimp only; omega, by dsimp only; rw [take_more hsh, ← List.append_assoc, List.map_append]; exact own2⟩, wk_frl (wk_cons rfl (wk_cons rfl (wk_cons rfl (wk_cons rfl (wk_cons rfl (wk_cons rfl (wk_cons rfl (wk_cons (wrap_succ (by omega)) wk_nil)))))))), ⟨_, rfl⟩, rfl, by dsimp only; omega⟩
theorem refAt7_c (r : Ref) (s o : ByteArray) : ∀ H, ACalls tt 74 [.agg r.av, .s s, .s o] H (fun res_ H' => res_ = .agg (atC r s o).av ∧ H' = H) := by
  refine body_calc (T := tt) Tryz.func74 rfl Tryz.ntmps74 rfl rfl (by rfl) (by rfl) ?_
  refine wp_reg ?_
  refine st_box rfl rfl rfl rfl rfl rfl rfl rfl rfl ?_
  refine st_alloc rfl rfl rfl rfl rfl rfl rfl ?_
  refine st_nil ?_
  refine wp_reg ?_
  refine st_pop rfl rfl rfl rfl ?_
  refine st_pop rfl rfl rfl rfl ?_
  refine st_pop rfl rfl rfl rfl ?_
  refine st_pop rfl rfl rfl rfl ?_
  refine st_pop rfl rfl rfl rfl ?_
  refine st_alloc rfl rfl rfl rfl rfl rfl rfl ?_
  refine st_store rfl rfl rfl rfl rfl rfl rfl rfl rfl rfl rfl rfl rfl ?_
  refine st_nil ?_
  refine awp_seq ?_
  refine wp_reg ?_
  refine st_pop rfl rfl rfl rfl ?_
  refine st_pop rfl rfl rfl rfl ?_
  refine st_nil ?_
  refine awp_block ?_
  refine wp_reg ?_
  refine st_pop rfl rfl rfl rfl ?_
  refine st_pop rfl rfl rfl rfl ?_
  refine st_nil ?_
  refine wp_bit 16 rfl fun b hb1 => ?_
  cases b
  · try simp only [decide_eq_true_eq, decide_eq_false_iff_not, Bool.not_eq_true', Bool.not_eq_false', Int.not_lt, Int.not_le] at hb1
    refine wp_f rfl ?_
    refine wp_reg ?_
    refine st_pop rfl rfl rfl rfl ?_
    refine st_pop rfl rfl rfl rfl ?_
    refine st_nil ?_
    refine wp_bit 20 rfl fun b hb2 => ?_
    cases b
    · try simp only [decide_eq_true_eq, decide_eq_false_iff_not, Bool.not_eq_true', Bool.not_eq_false', Int.not_lt, Int.not_le] at hb2
      refine wp_f rfl ?_
      refine wp_reg ?_
      refine st_pop rfl rfl rfl rfl ?_
      refine st_pop rfl rfl rfl rfl ?_
      refine st_nil ?_
      refine wp_bit 24 rfl fun b hb3 => ?_
      cases b
      · try simp only [decide_eq_true_eq, decide_eq_false_iff_not, Bool.not_eq_true', Bool.not_eq_false', Int.not_lt, Int.not_le] at hb3
        refine wp_f rfl ?_
        refine awp_region ?_
        refine st_pop rfl rfl rfl rfl ?_
        refine st_store rfl rfl rfl rfl rfl rfl rfl rfl rfl rfl rfl rfl rfl ?_
        refine st_nil ?_
        refine ab_norm ?_
        refine at_norm ?_
        refine wp_reg ?_
        refine st_pop rfl rfl rfl rfl ?_
        refine st_store rfl rfl rfl rfl rfl rfl rfl rfl rfl rfl rfl rfl rfl ?_
        refine st_nil ?_
        refine awp_ret ?_
        refine ret_ret rfl rfl ?_
        refine wk_agg ?_; simp_all [atC, Cel.av, cel0]
      · try simp only [decide_eq_true_eq, decide_eq_false_iff_not, Bool.not_eq_true', Bool.not_eq_false', Int.not_lt, Int.not_le] at hb3
        refine wp_t rfl ?_
        refine awp_region ?_
        refine st_pop rfl rfl rfl rfl ?_
        refine st_store rfl rfl rfl rfl rfl rfl rfl rfl rfl rfl rfl rfl rfl ?_
        refine st_nil ?_
        refine ab_norm ?_
        refine at_norm ?_
        refine wp_reg ?_
        refine st_pop rfl rfl rfl rfl ?_
        refine st_store rfl rfl rfl rfl rfl rfl rfl rfl rfl rfl rfl rfl rfl ?_
        refine st_nil ?_
        refine awp_ret ?_
        refine ret_ret rfl rfl ?_
        refine wk_agg ?_; simp_all [atC, Cel.av, cel0]
    · try simp only [decide_eq_true_eq, decide_eq_false_iff_not, Bool.not_eq_true', Bool.not_eq_false', Int.not_lt, Int.not_le] at hb2
      refine wp_t rfl ?_
      refine awp_region ?_
      refine st_pop rfl rfl rfl rfl ?_
      refine st_pop rfl rfl rfl rfl ?_
      refine st_store rfl rfl rfl rfl rfl rfl rfl rfl rfl rfl rfl rfl rfl ?_
      refine st_nil ?_
      refine ab_norm ?_
      refine at_norm ?_
      refine wp_reg ?_
      refine st_pop rfl rfl rfl rfl ?_
      refine st_store rfl rfl rfl rfl rfl rfl rfl rfl rfl rfl rfl rfl rfl ?_
      refine st_nil ?_
      refine awp_ret ?_
      refine ret_ret rfl rfl ?_
      refine wk_agg ?_; simp_all [atC, Cel.av, cel0]
  · try simp only [decide_eq_true_eq, decide_eq_false_iff_not, Bool.not_eq_true', Bool.not_eq_false', Int.not_lt, Int.not_le] at hb1
    refine wp_t rfl ?_
    refine awp_region ?_
    refine st_pop rfl rfl rfl rfl ?_
    refine st_pop rfl rfl rfl rfl ?_
    refine st_store rfl rfl rfl rfl rfl rfl rfl rfl rfl rfl rfl rfl rfl ?_
    refine st_nil ?_
    refine ab_norm ?_
    refine at_norm ?_
    refine wp_reg ?_
    refine st_pop rfl rfl rfl rfl ?_
    refine st_store rfl rfl rfl rfl rfl rfl rfl rfl rfl rfl rfl rfl rfl ?_
    refine st_nil ?_
    refine awp_ret ?_
    refine ret_ret rfl rfl ?_
    refine wk_agg ?_; simp_all [atC, Cel.av, cel0]
theorem refGet0_c (c : Cel) : ∀ H, ACalls tt 73 [.nil, .agg c.av] H (fun res_ H' => res_ = .tup [.agg zeroVal.av, .b false] ∧ H' = H) := by
  refine body_calc (T := tt) Tryz.func73 rfl Tryz.ntmps73 rfl rfl (by rfl) (by rfl) ?_
  refine wp_reg ?_
  refine st_box rfl rfl rfl rfl rfl rfl rfl rfl rfl ?_
  refine st_alloc rfl rfl rfl rfl rfl rfl rfl ?_
  refine st_pop rfl rfl rfl rfl ?_
  refine st_nil ?_
  refine awp_seq ?_
  refine wp_reg ?_
  refine st_pop rfl rfl rfl rfl ?_
  refine st_nil ?_
  refine awp_block ?_
  refine wp_loop (α := Nat) (fun k => frl [(0, .nil), (3, .ptr 0 0), (4, .ptr 1 0), (5, .b false), (6, .i .i64 ((k : Nat) : Int))]) (fun _ => ⟨[.cells c.av, .cells zeroVal.av], []⟩) (fun k => True) (fun k => 0) 0 trivial (wk_frl (wk_cons rfl (wk_cons rfl (wk_cons rfl (wk_cons rfl (wk_cons rfl wk_nil)))))) rfl ?_
  intro k _
  refine awp_seq ?_
  refine wp_reg ?_
  refine st_pop rfl rfl rfl rfl ?_
  refine st_pop rfl rfl rfl rfl ?_
  refine st_pop rfl rfl rfl rfl ?_
  refine st_pop rfl rfl rfl rfl ?_
  refine st_nil ?_
  refine wp_bit 10 rfl fun b hb1 => ?_
  cases b
  · try simp only [decide_eq_true_eq, decide_eq_false_iff_not, Bool.not_eq_true', Bool.not_eq_false', Int.not_lt, Int.not_le] at hb1
    refine wp_f rfl ?_
    refine awp_exit ?_
    refine at_exit ?_
    refine at_exit ?_
    refine ab_hit ?_
    refine at_norm ?_
    refine wp_reg ?_
    refine st_pop rfl rfl rfl rfl ?_
    refine st_store rfl rfl rfl rfl rfl rfl rfl rfl rfl rfl rfl rfl rfl ?_
    refine st_pop rfl rfl rfl rfl ?_
    refine st_nil ?_
    refine awp_ret ?_
    refine ret_ret rfl rfl ?_
    exact .refl _
  · try simp only [decide_eq_true_eq, decide_eq_false_iff_not, Bool.not_eq_true', Bool.not_eq_false', Int.not_lt, Int.not_le] at hb1
    omega
theorem refNone0_c (x : Scn) : ∀ H, ACalls tt 50 [.agg (boolN false).av, .nil, .agg [.s x.sub, .s x.obj, .i .i64 x.now, .i .i64 x.began]] H (fun res_ H' => res_ = vwAV (truthV false, 0) ∧ H' = H) := by
  refine body_calc (T := tt) Tryz.func50 rfl Tryz.ntmps50 rfl rfl (by rfl) (by rfl) ?_
  refine wp_reg ?_
  refine st_box rfl rfl rfl rfl rfl rfl rfl rfl rfl ?_
  refine st_box rfl rfl rfl rfl rfl rfl rfl rfl rfl ?_
  refine st_alloc rfl rfl rfl rfl rfl rfl rfl ?_
  refine st_pop rfl rfl rfl rfl ?_
  refine st_nil ?_
  refine wp_reg ?_
  refine st_pop rfl rfl rfl rfl ?_
  refine st_pop rfl rfl rfl rfl ?_
  refine st_pop rfl rfl rfl rfl ?_
  refine st_pop rfl rfl rfl rfl ?_
  refine st_pop rfl rfl rfl rfl ?_
  refine st_pop rfl rfl rfl rfl ?_
  refine st_pop rfl rfl rfl rfl ?_
  refine st_calc (xs := [.tmp 13, .tmp 15, .tmp 17]) _ rfl rfl rfl rfl Tryz.func74 rfl rfl rfl (refAt7_c ⟨0, noB⟩ x.sub x.obj _) ?_
  refine st_calc (xs := [.tmp 11, .tmp 18]) _ rfl rfl rfl rfl Tryz.func73 rfl rfl rfl (refGet0_c (atC ⟨0, noB⟩ x.sub x.obj) _) ?_
  refine st_pop rfl rfl rfl rfl ?_
  refine st_pop rfl rfl rfl rfl ?_
  refine st_pop rfl rfl rfl rfl ?_
  refine st_alloc rfl rfl rfl rfl rfl rfl rfl ?_
  refine st_store rfl rfl rfl rfl rfl rfl rfl rfl rfl rfl rfl rfl rfl ?_
  refine st_pop rfl rfl rfl rfl ?_
  refine st_nil ?_
  refine awp_seq ?_
  refine wp_reg ?_
  refine st_pop rfl rfl rfl rfl ?_
  refine st_pop rfl rfl rfl rfl ?_
  refine st_nil ?_
  refine awp_block ?_
  refine wp_reg ?_
  refine st_pop rfl rfl rfl rfl ?_
  refine st_pop rfl rfl rfl rfl ?_
  refine st_nil ?_
  refine wp_bit 24 rfl fun b hb1 => ?_
  cases b
  · try simp only [decide_eq_true_eq, decide_eq_false_iff_not, Bool.not_eq_true', Bool.not_eq_false', Int.not_lt, Int.not_le] at hb1
    first | (exact absurd hb1 (by decide)) | (exact (hb1 rfl).elim) | (exact absurd (show (8 : Int) = 9 from hb1) (by decide)) | (simp at hb1; done) | (simp [truthV] at hb1; done) | (simp [truthV, opN] at hb1; done)
  · try simp only [decide_eq_true_eq, decide_eq_false_iff_not, Bool.not_eq_true', Bool.not_eq_false', Int.not_lt, Int.not_le] at hb1
    refine wp_t rfl ?_
    refine wp_reg ?_
    refine st_pop rfl rfl rfl rfl ?_
    refine st_pop rfl rfl rfl rfl ?_
    refine st_store rfl rfl rfl rfl rfl rfl rfl rfl rfl rfl rfl rfl rfl ?_
    refine st_pop rfl rfl rfl rfl ?_
    refine st_nil ?_
    refine awp_ret ?_
    refine ab_ret ?_
    refine at_ret ?_
    refine ret_ret rfl rfl ?_
    exact .refl _
theorem refAtB_c (ns : List Nod) (h : ns[0]? = some (boolN false)) (x : Scn) : ∀ H, ACalls tt 28 [.l none 66 (ns.map Nod.av), .i .i64 0, .nil, .agg [.s x.sub, .s x.obj, .i .i64 x.now, .i .i64 x.began]] H (fun res_ H' => res_ = vwAV (truthV false, 0) ∧ H' = H) := by
  refine body_calc (T := tt) Tryz.func28 rfl Tryz.ntmps28 rfl rfl (by simp [cleanL, clean, nods_clean]) (by rfl) ?_
  refine wp_reg ?_
  refine st_box rfl rfl rfl rfl rfl rfl rfl rfl rfl ?_
  refine st_alloc rfl rfl rfl rfl rfl rfl rfl ?_
  refine st_pop rfl rfl rfl rfl ?_
  refine st_nil ?_
  refine wp_reg ?_
  refine st_pop rfl rfl rfl rfl ?_
  refine st_pop rfl rfl rfl rfl ?_
  refine st_idxA (n := 0) (boolN false).av rfl rfl rfl rfl rfl rfl rfl rfl (by simp [h]) ?_
  refine st_pop rfl rfl rfl rfl ?_
  refine st_alloc rfl rfl rfl rfl rfl rfl rfl ?_
  refine st_store rfl rfl rfl rfl rfl rfl rfl rfl rfl rfl rfl rfl rfl ?_
  refine st_nil ?_
  refine awp_seq ?_
  refine wp_reg ?_
  refine st_pop rfl rfl rfl rfl ?_
  refine st_pop rfl rfl rfl rfl ?_
  refine st_calc (xs := [.tmp 20]) _ rfl rfl rfl rfl Tryz.func49 rfl rfl rfl (refOperands_c 1 _) ?_
  refine st_pop rfl rfl rfl rfl ?_
  refine st_nil ?_
  refine wp_bit 22 rfl fun b hb1 => ?_
  cases b
  · try simp only [decide_eq_true_eq, decide_eq_false_iff_not, Bool.not_eq_true', Bool.not_eq_false', Int.not_lt, Int.not_le] at hb1
    first | (exact absurd hb1 (by decide)) | (exact (hb1 rfl).elim) | (exact absurd (show (8 : Int) = 9 from hb1) (by decide)) | (simp at hb1; done) | (simp [truthV] at hb1; done) | (simp [truthV, opN] at hb1; done)
  · try simp only [decide_eq_true_eq, decide_eq_false_iff_not, Bool.not_eq_true', Bool.not_eq_false', Int.not_lt, Int.not_le] at hb1
    refine wp_t rfl ?_
    refine wp_reg ?_
    refine st_pop rfl rfl rfl rfl ?_
    refine st_pop rfl rfl rfl rfl ?_
    refine st_pop rfl rfl rfl rfl ?_
    refine st_calc (xs := [.tmp 23, .tmp 24, .tmp 25]) _ rfl rfl rfl rfl Tryz.func50 rfl rfl rfl (refNone0_c x _) ?_
    refine st_pop rfl rfl rfl rfl ?_
    refine st_pop rfl rfl rfl rfl ?_
    refine st_store rfl rfl rfl rfl rfl rfl rfl rfl rfl rfl rfl rfl rfl ?_
    refine st_pop rfl rfl rfl rfl ?_
    refine st_nil ?_
    refine awp_ret ?_
    refine at_ret ?_
    refine ret_ret rfl rfl ?_
    exact .refl _
theorem refAtAnd_c (ns : List Nod) (i : Nat) (b : Int) (h : ns[0]? = some (boolN false)) (hi : ns[i]? = some (opN 8 0 b)) (x : Scn) : ∀ H, ACalls tt 28 [.l none 66 (ns.map Nod.av), .i .i64 ((i : Nat) : Int), .nil, .agg [.s x.sub, .s x.obj, .i .i64 x.now, .i .i64 x.began]] H (fun res_ H' => res_ = vwAV (truthV false, 0) ∧ H' = H) := by
  refine body_calc (T := tt) Tryz.func28 rfl Tryz.ntmps28 rfl rfl (by simp [cleanL, clean, nods_clean]) (by rfl) ?_
  refine wp_reg ?_
  refine st_box rfl rfl rfl rfl rfl rfl rfl rfl rfl ?_
  refine st_alloc rfl rfl rfl rfl rfl rfl rfl ?_
  refine st_pop rfl rfl rfl rfl ?_
  refine st_nil ?_
  refine wp_reg ?_
  refine st_pop rfl rfl rfl rfl ?_
  refine st_pop rfl rfl rfl rfl ?_
  refine st_idxA (n := i) (opN 8 0 b).av rfl rfl rfl rfl rfl rfl rfl rfl (by simp [hi]) ?_
  refine st_pop rfl rfl rfl rfl ?_
  refine st_alloc rfl rfl rfl rfl rfl rfl rfl ?_
  refine st_store rfl rfl rfl rfl rfl rfl rfl rfl rfl rfl rfl rfl rfl ?_
  refine st_nil ?_
  refine awp_seq ?_
  refine wp_reg ?_
  refine st_pop rfl rfl rfl rfl ?_
  refine st_pop rfl rfl rfl rfl ?_
  refine st_calc (xs := [.tmp 20]) _ rfl rfl rfl rfl Tryz.func49 rfl rfl rfl (refOperands_c 8 _) ?_
  refine st_pop rfl rfl rfl rfl ?_
  refine st_nil ?_
  refine wp_bit 22 rfl fun b hb1 => ?_
  cases b
  · try simp only [decide_eq_true_eq, decide_eq_false_iff_not, Bool.not_eq_true', Bool.not_eq_false', Int.not_lt, Int.not_le] at hb1
    refine wp_f rfl ?_
    refine awp_skip ?_
    refine at_norm ?_
    refine wp_reg ?_
    refine st_pop rfl rfl rfl rfl ?_
    refine st_pop rfl rfl rfl rfl ?_
    refine st_pop rfl rfl rfl rfl ?_
    refine st_pop rfl rfl rfl rfl ?_
    refine st_pop rfl rfl rfl rfl ?_
    refine st_calc (xs := [.tmp 30, .tmp 32, .tmp 33, .tmp 34]) _ rfl rfl rfl rfl Tryz.func28 rfl rfl rfl (refAtB_c ns h x _) ?_
    refine st_pop rfl rfl rfl rfl ?_
    refine st_pop rfl rfl rfl rfl ?_
    refine st_pop rfl rfl rfl rfl ?_
    refine st_alloc rfl rfl rfl rfl rfl rfl rfl ?_
    refine st_store rfl rfl rfl rfl rfl rfl rfl rfl rfl rfl rfl rfl rfl ?_
    refine st_pop rfl rfl rfl rfl ?_
    refine st_nil ?_
    refine awp_seq ?_
    refine wp_reg ?_
    refine st_pop rfl rfl rfl rfl ?_
    refine st_pop rfl rfl rfl rfl ?_
    refine st_nil ?_
    refine wp_bit 39 rfl fun b hb2 => ?_
    cases b
    · try simp only [decide_eq_true_eq, decide_eq_false_iff_not, Bool.not_eq_true', Bool.not_eq_false', Int.not_lt, Int.not_le] at hb2
      refine wp_f rfl ?_
      refine awp_skip ?_
      refine at_norm ?_
      refine awp_seq ?_
      refine wp_reg ?_
      refine st_pop rfl rfl rfl rfl ?_
      refine st_pop rfl rfl rfl rfl ?_
      refine st_calc (xs := [.tmp 43]) _ rfl rfl rfl rfl Tryz.func49 rfl rfl rfl (refOperands_c 8 _) ?_
      refine st_pop rfl rfl rfl rfl ?_
      refine st_nil ?_
      refine wp_bit 45 rfl fun b hb3 => ?_
      cases b
      · try simp only [decide_eq_true_eq, decide_eq_false_iff_not, Bool.not_eq_true', Bool.not_eq_false', Int.not_lt, Int.not_le] at hb3
        refine wp_f rfl ?_
        refine awp_skip ?_
        refine at_norm ?_
        refine wp_reg ?_
        refine st_pop rfl rfl rfl rfl ?_
        refine st_pop rfl rfl rfl rfl ?_
        refine st_pop rfl rfl rfl rfl ?_
        refine st_pop rfl rfl rfl rfl ?_
        refine st_bit 55 rfl fun b hb4 => ?_
        cases b
        · try simp only [decide_eq_true_eq, decide_eq_false_iff_not, Bool.not_eq_true', Bool.not_eq_false', Int.not_lt, Int.not_le] at hb4
          first | (exact absurd hb4 (by decide)) | (exact (hb4 rfl).elim) | (exact absurd (show (8 : Int) = 9 from hb4) (by decide)) | (simp at hb4; done) | (simp [truthV] at hb4; done) | (simp [truthV, opN] at hb4; done)
        · try simp only [decide_eq_true_eq, decide_eq_false_iff_not, Bool.not_eq_true', Bool.not_eq_false', Int.not_lt, Int.not_le] at hb4
          refine st_skip rfl rfl rfl ?_
          refine st_skip rfl rfl rfl ?_
          refine st_skip rfl rfl rfl ?_
          refine st_pop rfl rfl rfl rfl ?_
          refine st_pop rfl rfl rfl rfl ?_
          refine st_nil ?_
          refine awp_seq ?_
          refine wp_reg ?_
          refine st_pop rfl rfl rfl rfl ?_
          refine st_pop rfl rfl rfl rfl ?_
          refine st_pop rfl rfl rfl rfl ?_
          refine st_pop rfl rfl rfl rfl ?_
          refine st_pop rfl rfl rfl rfl ?_
          refine st_pop rfl rfl rfl rfl ?_
          refine st_nil ?_
          refine wp_bit 65 rfl fun b hb5 => ?_
          cases b
          · try simp only [decide_eq_true_eq, decide_eq_false_iff_not, Bool.not_eq_true', Bool.not_eq_false', Int.not_lt, Int.not_le] at hb5
            refine wp_f rfl ?_
            refine awp_skip ?_
            refine at_norm ?_
            refine awp_seq ?_
            refine wp_reg ?_
            refine st_pop rfl rfl rfl rfl ?_
            refine st_pop rfl rfl rfl rfl ?_
            refine st_pop rfl rfl rfl rfl ?_
            refine st_pop rfl rfl rfl rfl ?_
            refine st_pop rfl rfl rfl rfl ?_
            refine st_pop rfl rfl rfl rfl ?_
            refine st_pop rfl rfl rfl rfl ?_
            refine st_pop rfl rfl rfl rfl ?_
            refine st_pop rfl rfl rfl rfl ?_
            refine st_nil ?_
            refine wp_bit 75 rfl fun b hb6 => ?_
            cases b
            · try simp only [decide_eq_true_eq, decide_eq_false_iff_not, Bool.not_eq_true', Bool.not_eq_false', Int.not_lt, Int.not_le] at hb6
              first | (exact absurd hb6 (by decide)) | (exact (hb6 rfl).elim) | (exact absurd (show (8 : Int) = 9 from hb6) (by decide)) | (simp at hb6; done) | (simp [truthV] at hb6; done) | (simp [truthV, opN] at hb6; done)
            · try simp only [decide_eq_true_eq, decide_eq_false_iff_not, Bool.not_eq_true', Bool.not_eq_false', Int.not_lt, Int.not_le] at hb6
              refine wp_t rfl ?_
              refine wp_reg ?_
              refine st_pop rfl rfl rfl rfl ?_
              refine st_store rfl rfl rfl rfl rfl rfl rfl rfl rfl rfl rfl rfl rfl ?_
              refine st_pop rfl rfl rfl rfl ?_
              refine st_nil ?_
              refine awp_ret ?_
              refine at_ret ?_
              refine ret_ret rfl rfl ?_
              exact .refl _
          · try simp only [decide_eq_true_eq, decide_eq_false_iff_not, Bool.not_eq_true', Bool.not_eq_false', Int.not_lt, Int.not_le] at hb5
            first | (exact absurd hb5 (by decide)) | (exact (hb5 rfl).elim) | (exact absurd (show (8 : Int) = 9 from hb5) (by decide)) | (simp at hb5; done) | (simp [truthV] at hb5; done) | (simp [truthV, opN] at hb5; done)
      · try simp only [decide_eq_true_eq, decide_eq_false_iff_not, Bool.not_eq_true', Bool.not_eq_false', Int.not_lt, Int.not_le] at hb3
        first | (exact absurd hb3 (by decide)) | (exact (hb3 rfl).elim) | (exact absurd (show (8 : Int) = 9 from hb3) (by decide)) | (simp at hb3; done) | (simp [truthV] at hb3; done) | (simp [truthV, opN] at hb3; done)
    · try simp only [decide_eq_true_eq, decide_eq_false_iff_not, Bool.not_eq_true', Bool.not_eq_false', Int.not_lt, Int.not_le] at hb2
      first | (exact absurd hb2 (by decide)) | (exact (hb2 rfl).elim) | (exact absurd (show (8 : Int) = 9 from hb2) (by decide)) | (simp at hb2; done) | (simp [truthV] at hb2; done) | (simp [truthV, opN] at hb2; done)
  · try simp only [decide_eq_true_eq, decide_eq_false_iff_not, Bool.not_eq_true', Bool.not_eq_false', Int.not_lt, Int.not_le] at hb1
    first | (exact absurd hb1 (by decide)) | (exact (hb1 rfl).elim) | (exact absurd (show (8 : Int) = 9 from hb1) (by decide)) | (simp at hb1; done) | (simp [truthV] at hb1; done) | (simp [truthV, opN] at hb1; done)
theorem refValueF_c (e : List Nod) (he : ∀ n ∈ e, n.fit ∧ inI n.value.int) (hs : e.length ≤ 100000000) (x : Scn) : ∀ H, ACalls tt 13 [.agg [.l none 66 ((bothN (truthN false) e 8).map Nod.av)], .nil, .agg [.s x.sub, .s x.obj, .i .i64 x.now, .i .i64 x.began]] H (fun res_ H' => res_ = vwAV (if rightE (bothN (truthN false) e 8) = true then (truthV false, 0) else (zeroVal, 2)) ∧ H' = H) := by
  refine body_calc (T := tt) Tryz.func13 rfl Tryz.ntmps13 rfl rfl (by simp [cleanL, clean, nods_clean]) (by split <;> rfl) ?_
  refine wp_reg ?_
  refine st_box rfl rfl rfl rfl rfl rfl rfl rfl rfl ?_
  refine st_box rfl rfl rfl rfl rfl rfl rfl rfl rfl ?_
  refine st_alloc rfl rfl rfl rfl rfl rfl rfl ?_
  refine st_pop rfl rfl rfl rfl ?_
  refine st_nil ?_
  refine wp_reg ?_
  refine st_pop rfl rfl rfl rfl ?_
  refine st_calc (xs := [.tmp 9]) _ rfl rfl rfl rfl Tryz.func27 rfl rfl rfl (refRight_c (bothN (truthN false) e 8) (fun n hn => (both_fit (truth_fit false) he n hn).1) (by rw [both_len]; show _ + _ + 1 ≤ 9223372036854775807; simp only [truthN, List.length_cons, List.length_nil]; omega) _) ?_
  refine st_pop rfl rfl rfl rfl ?_
  refine st_nil ?_
  refine awp_seq ?_
  refine wp_reg ?_
  refine st_pop rfl rfl rfl rfl ?_
  refine st_pop rfl rfl rfl rfl ?_
  refine st_nil ?_
  refine wp_bit 12 rfl fun b hb1 => ?_
  cases b
  · try simp only [decide_eq_true_eq, decide_eq_false_iff_not, Bool.not_eq_true', Bool.not_eq_false', Int.not_lt, Int.not_le] at hb1
    have hr := hb1
    refine wp_f rfl ?_
    refine awp_skip ?_
    refine at_norm ?_
    refine wp_reg ?_
    refine st_pop rfl rfl rfl rfl ?_
    refine st_pop rfl rfl rfl rfl ?_
    refine st_pop rfl rfl rfl rfl ?_
    refine st_pop rfl rfl rfl rfl ?_
    refine st_pop rfl rfl rfl rfl ?_
    refine st_val 18 (.i .i64 (((e.length + 2) : Nat) : Int)) rfl (by simp only [List.length_map]; rw [both_len]; simp only [truthN, List.length_cons, List.length_nil]; congr 2; omega) ?_
    refine st_pop rfl rfl rfl rfl ?_
    refine st_val 19 (.i .i64 (((e.length + 1) : Nat) : Int)) rfl (by rw [IntWalk.i64_in _ (by omega)]; congr 1; omega) ?_
    refine st_pop rfl rfl rfl rfl ?_
    refine st_pop rfl rfl rfl rfl ?_
    refine st_calc (xs := [.tmp 15, .tmp 19, .tmp 20, .tmp 21]) _ rfl rfl rfl rfl Tryz.func28 rfl rfl rfl (refAtAnd_c (bothN (truthN false) e 8) (e.length + 1) _ (both_truth false e 8).1 (both_truth false e 8).2 x _) ?_
    refine st_pop rfl rfl rfl rfl ?_
    refine st_pop rfl rfl rfl rfl ?_
    refine st_store rfl rfl rfl rfl rfl rfl rfl rfl rfl rfl rfl rfl rfl ?_
    refine st_pop rfl rfl rfl rfl ?_
    refine st_nil ?_
    refine awp_ret ?_
    refine ret_ret rfl rfl ?_
    first
      | (rw [if_pos (by simpa using hr)]; exact .refl _)
      | (rw [if_neg (by simpa using hr)]; exact .refl _)
  · try simp only [decide_eq_true_eq, decide_eq_false_iff_not, Bool.not_eq_true', Bool.not_eq_false', Int.not_lt, Int.not_le] at hb1
    have hr := hb1
    refine wp_t rfl ?_
    refine wp_reg ?_
    refine st_pop rfl rfl rfl rfl ?_
    refine st_store rfl rfl rfl rfl rfl rfl rfl rfl rfl rfl rfl rfl rfl ?_
    refine st_pop rfl rfl rfl rfl ?_
    refine st_nil ?_
    refine awp_ret ?_
    refine at_ret ?_
    refine ret_ret rfl rfl ?_
    first
      | (rw [if_pos (by simpa using hr)]; exact .refl _)
      | (rw [if_neg (by simpa using hr)]; exact .refl _)
theorem evalShort_c (ns : List Nod) (hns : ∀ n ∈ ns, n.fit ∧ inI n.value.int) (hA : NodA ns) (hsz : ns.length ≤ 1048576) (l : List Att) (hl : ∀ a ∈ l, a.fit) (hsl : l.length ≤ 9223372036854775807) (x : Scn) (hx : inI x.now ∧ inI x.began) : ∀ H, ACalls tt 3 [.agg [.l none 66 (ns.map Nod.av)], .l none 68 (l.map Att.av), .agg [.s x.sub, .s x.obj, .i .i64 x.now, .i .i64 x.began]] H (fun res_ H' => res_ = .b true ∧ H' = H) := by
  have hS := stoK_ok hl l.length
  refine body_calc (T := tt) Tryz.func3 rfl Tryz.ntmps3 rfl rfl (by simp [cleanL, clean, atts_clean, nods_clean]) (by rfl) ?_
  refine wp_reg ?_
  refine st_box rfl rfl rfl rfl rfl rfl rfl rfl rfl ?_
  refine st_box rfl rfl rfl rfl rfl rfl rfl rfl rfl ?_
  refine st_pop rfl rfl rfl rfl ?_
  refine st_nil ?_
  refine awp_seq ?_
  refine wp_reg ?_
  refine st_calc (xs := []) _ rfl rfl rfl rfl Tryz.func9 rfl rfl rfl (alive_c _) ?_
  refine st_pop rfl rfl rfl rfl ?_
  refine st_nil ?_
  refine wp_bit 17 rfl fun b hb1 => ?_
  cases b
  · try simp only [decide_eq_true_eq, decide_eq_false_iff_not, Bool.not_eq_true', Bool.not_eq_false', Int.not_lt, Int.not_le] at hb1
    refine wp_f rfl ?_
    refine awp_skip ?_
    refine at_norm ?_
    refine wp_reg ?_
    refine st_pop rfl rfl rfl rfl ?_
    refine st_calcW (xs := [.tmp 19]) _ rfl rfl rfl rfl Tryz.func10 rfl rfl rfl (stored_c l hl hsl _ 2 rfl) rfl ?_
    refine st_pop rfl rfl rfl rfl ?_
    refine st_pop rfl rfl rfl rfl ?_
    refine st_pop rfl rfl rfl rfl ?_
    refine st_pop rfl rfl rfl rfl ?_
    refine st_pop rfl rfl rfl rfl ?_
    refine st_nil ?_
    refine wp_open [.op 4, .bar] (D := [0, 0, 3, 0, 15]) (by kernel_rfl) (by kernel_rfl) (by kernel_rfl) ?_
    refine ad_op rfl rfl ?_
    refine do_calc (xs := [_]) _ rfl rfl rfl rfl Tryz.func12 rfl rfl rfl (fun H_ => truthE_c false _) ?_
    refine do_pop rfl rfl rfl rfl rfl (by kernel_rfl) ?_
    refine do_calc (xs := [.tmp 23, .tmp 24, _]) _ rfl rfl rfl rfl Tryz.func11 rfl rfl rfl (fun H_ => both_c (truthN false) ns (by decide) (by omega) 8 _) ?_
    refine do_alloc rfl rfl rfl rfl rfl rfl rfl (by kernel_rfl) ?_
    refine do_nil ?_
    refine ad_bar ?_
    refine st_store rfl rfl rfl rfl rfl rfl rfl rfl rfl rfl rfl rfl rfl ?_
    refine st_nil ?_
    refine ad_nil ?_
    refine wp_open [.op 4, .bar] (D := [0, 0, 3, 0, 15]) (by kernel_rfl) (by kernel_rfl) (by kernel_rfl) ?_
    refine ad_op rfl rfl ?_
    refine do_calc (xs := [_]) _ rfl rfl rfl rfl Tryz.func12 rfl rfl rfl (fun H_ => truthE_c true _) ?_
    refine do_pop rfl rfl rfl rfl rfl (by kernel_rfl) ?_
    refine do_calc (xs := [.tmp 26, .tmp 27, _]) _ rfl rfl rfl rfl Tryz.func11 rfl rfl rfl (fun H_ => both_c (truthN true) ns (by decide) (by omega) 9 _) ?_
    refine do_alloc rfl rfl rfl rfl rfl rfl rfl (by kernel_rfl) ?_
    refine do_nil ?_
    refine ad_bar ?_
    refine st_store rfl rfl rfl rfl rfl rfl rfl rfl rfl rfl rfl rfl rfl ?_
    refine st_nil ?_
    refine ad_nil ?_
    refine wp_reg ?_
    refine st_pop rfl rfl rfl rfl ?_
    refine st_pop rfl rfl rfl rfl ?_
    refine st_calc (xs := [.tmp 30, _, .tmp 31]) _ rfl rfl rfl rfl Tryz.func13 rfl rfl rfl (refValueF_c ns hns (by omega) x _) ?_
    refine st_pop rfl rfl rfl rfl ?_
    refine st_pop rfl rfl rfl rfl ?_
    refine st_pop rfl rfl rfl rfl ?_
    refine st_alloc rfl rfl rfl rfl rfl rfl rfl ?_
    refine st_store rfl rfl rfl rfl rfl rfl rfl rfl rfl rfl rfl rfl rfl ?_
    refine st_pop rfl rfl rfl rfl ?_
    refine st_nil ?_
    refine awp_seq ?_
    refine wp_reg ?_
    refine st_pop rfl rfl rfl rfl ?_
    refine st_pop rfl rfl rfl rfl ?_
    refine st_nil ?_
    refine wp_bit 36 rfl fun b hb2 => ?_
    cases b
    · try simp only [decide_eq_true_eq, decide_eq_false_iff_not, Bool.not_eq_true', Bool.not_eq_false', Int.not_lt, Int.not_le] at hb2
      have hR : rightE (bothN (truthN false) ns 8) = true := right_why hb2
      have s1 := short_false (get := getS (stoK l l.length)) (x := x) hA hR
      have s2 := short_and (get := getS (stoK l l.length)) (x := x) hA hR
      have s3 := short_true (get := getS (stoK l l.length)) (x := x) hA hR
      refine wp_f rfl ?_
      refine awp_skip ?_
      refine at_norm ?_
      refine wp_reg ?_
      refine st_pop rfl rfl rfl rfl ?_
      refine st_pop rfl rfl rfl rfl ?_
      refine st_pop rfl rfl rfl rfl ?_
      refine st_calc (xs := [.tmp 38, .tmp 39, .tmp 40]) _ rfl rfl rfl rfl Tryz.func14 rfl rfl rfl (value_c ns x _ hS hx hns (by show _ ≤ 9223372036854775807; first | omega | (simp only [both_len, under_len, truthN, List.length_cons, List.length_nil]; omega)) _ 3 2 rfl rfl) ?_
      refine st_pop rfl rfl rfl rfl ?_
      refine st_pop rfl rfl rfl rfl ?_
      refine st_pop rfl rfl rfl rfl ?_
      refine st_alloc rfl rfl rfl rfl rfl rfl rfl ?_
      refine st_store rfl rfl rfl rfl rfl rfl rfl rfl rfl rfl rfl rfl rfl ?_
      refine st_pop rfl rfl rfl rfl ?_
      refine st_nil ?_
      refine wp_open [.op 5, .bar, .bar] (D := [0, 0, 3, 0, 0, 31, 63]) (by kernel_rfl) (by kernel_rfl) (by kernel_rfl) ?_
      refine ad_op rfl rfl ?_
      refine do_calc (xs := [_]) _ rfl rfl rfl rfl Tryz.func12 rfl rfl rfl (fun H_ => truthE_c true _) ?_
      refine do_pop rfl rfl rfl rfl rfl (by kernel_rfl) ?_
      refine do_calc (xs := [.tmp 44, .tmp 45, _]) _ rfl rfl rfl rfl Tryz.func11 rfl rfl rfl (fun H_ => both_c (truthN true) ns (by decide) (by omega) 8 _) ?_
      refine do_pop rfl rfl rfl rfl rfl (by kernel_rfl) ?_
      refine do_pop rfl rfl rfl rfl rfl (by kernel_rfl) ?_
      refine do_nil ?_
      refine ad_bar ?_
      refine st_calc (xs := [.tmp 46, .tmp 47, .tmp 48]) _ rfl rfl rfl rfl Tryz.func15 rfl rfl rfl (holds_c (bothN (truthN true) ns 8) x _ hS hx (both_fit (truth_fit true) hns) (by show _ ≤ 9223372036854775807; first | omega | (simp only [both_len, under_len, truthN, List.length_cons, List.length_nil]; omega)) _ 3 2 rfl rfl) ?_
      refine st_nil ?_
      refine ad_bar ?_
      refine st_pop rfl rfl rfl rfl ?_
      refine st_nil ?_
      refine ad_nil ?_
      refine wp_reg ?_
      refine st_pop rfl rfl rfl rfl ?_
      refine st_pop rfl rfl rfl rfl ?_
      refine st_pop rfl rfl rfl rfl ?_
      refine st_calc (xs := [.tmp 50, .tmp 51, .tmp 52]) _ rfl rfl rfl rfl Tryz.func15 rfl rfl rfl (holds_c (bothN (truthN false) ns 8) x _ hS hx (both_fit (truth_fit false) hns) (by show _ ≤ 9223372036854775807; first | omega | (simp only [both_len, under_len, truthN, List.length_cons, List.length_nil]; omega)) _ 3 2 rfl rfl) ?_
      refine st_pop rfl rfl rfl rfl ?_
      refine st_pop rfl rfl rfl rfl ?_
      refine st_bit 55 rfl fun b hb3 => ?_
      cases b
      · try simp only [decide_eq_true_eq, decide_eq_false_iff_not, Bool.not_eq_true', Bool.not_eq_false', Int.not_lt, Int.not_le] at hb3
        refine st_skip rfl rfl rfl ?_
        refine st_skip rfl rfl rfl ?_
        refine st_skip rfl rfl rfl ?_
        refine st_skip rfl rfl rfl ?_
        refine st_skip rfl rfl rfl ?_
        refine st_pop rfl rfl rfl rfl ?_
        refine st_pop rfl rfl rfl rfl ?_
        refine st_skip rfl rfl rfl ?_
        refine st_skip rfl rfl rfl ?_
        refine st_skip rfl rfl rfl ?_
        refine st_skip rfl rfl rfl ?_
        refine st_skip rfl rfl rfl ?_
        refine st_skip rfl rfl rfl ?_
        refine st_skip rfl rfl rfl ?_
        refine st_pop rfl rfl rfl rfl ?_
        refine st_pop rfl rfl rfl rfl ?_
        refine st_nil ?_
        refine awp_ret ?_
        refine ret_ret rfl rfl ?_
        refine wk_b ?_
        first
          | rfl
          | (simp_all; done)
          | (simp_all; omega)
          | grind
      · try simp only [decide_eq_true_eq, decide_eq_false_iff_not, Bool.not_eq_true', Bool.not_eq_false', Int.not_lt, Int.not_le] at hb3
        refine st_pop rfl rfl rfl rfl ?_
        refine st_pop rfl rfl rfl rfl ?_
        refine st_pop rfl rfl rfl rfl ?_
        refine st_calc (xs := [.tmp 56, .tmp 57, .tmp 58]) _ rfl rfl rfl rfl Tryz.func15 rfl rfl rfl (holds_c (bothN (truthN true) ns 9) x _ hS hx (both_fit (truth_fit true) hns) (by show _ ≤ 9223372036854775807; first | omega | (simp only [both_len, under_len, truthN, List.length_cons, List.length_nil]; omega)) _ 3 2 rfl rfl) ?_
        refine st_pop rfl rfl rfl rfl ?_
        refine st_pop rfl rfl rfl rfl ?_
        refine st_pop rfl rfl rfl rfl ?_
        refine st_bit 62 rfl fun b hb4 => ?_
        cases b
        · try simp only [decide_eq_true_eq, decide_eq_false_iff_not, Bool.not_eq_true', Bool.not_eq_false', Int.not_lt, Int.not_le] at hb4
          refine st_skip rfl rfl rfl ?_
          refine st_skip rfl rfl rfl ?_
          refine st_skip rfl rfl rfl ?_
          refine st_skip rfl rfl rfl ?_
          refine st_skip rfl rfl rfl ?_
          refine st_skip rfl rfl rfl ?_
          refine st_skip rfl rfl rfl ?_
          refine st_pop rfl rfl rfl rfl ?_
          refine st_pop rfl rfl rfl rfl ?_
          refine st_nil ?_
          refine awp_ret ?_
          refine ret_ret rfl rfl ?_
          refine wk_b ?_
          first
            | rfl
            | (simp_all; done)
            | (simp_all; omega)
            | grind
        · try simp only [decide_eq_true_eq, decide_eq_false_iff_not, Bool.not_eq_true', Bool.not_eq_false', Int.not_lt, Int.not_le] at hb4
          refine st_pop rfl rfl rfl rfl ?_
          refine st_pop rfl rfl rfl rfl ?_
          refine st_pop rfl rfl rfl rfl ?_
          refine st_bit 65 rfl fun b hb5 => ?_
          cases b
          · try simp only [decide_eq_true_eq, decide_eq_false_iff_not, Bool.not_eq_true', Bool.not_eq_false', Int.not_lt, Int.not_le] at hb5
            refine st_pop rfl rfl rfl rfl ?_
            refine st_pop rfl rfl rfl rfl ?_
            refine st_pop rfl rfl rfl rfl ?_
            refine st_pop rfl rfl rfl rfl ?_
            refine st_pop rfl rfl rfl rfl ?_
            refine st_pop rfl rfl rfl rfl ?_
            refine st_nil ?_
            refine awp_ret ?_
            refine ret_ret rfl rfl ?_
            refine wk_b ?_
            first
              | rfl
              | (simp_all; done)
              | (simp_all; omega)
              | grind
          · try simp only [decide_eq_true_eq, decide_eq_false_iff_not, Bool.not_eq_true', Bool.not_eq_false', Int.not_lt, Int.not_le] at hb5
            refine st_skip rfl rfl rfl ?_
            refine st_skip rfl rfl rfl ?_
            refine st_skip rfl rfl rfl ?_
            refine st_pop rfl rfl rfl rfl ?_
            refine st_pop rfl rfl rfl rfl ?_
            refine st_pop rfl rfl rfl rfl ?_
            refine st_nil ?_
            refine awp_ret ?_
            refine ret_ret rfl rfl ?_
            refine wk_b ?_
            first
              | rfl
              | (simp_all; done)
              | (simp_all; omega)
              | grind
    · try simp only [decide_eq_true_eq, decide_eq_false_iff_not, Bool.not_eq_true', Bool.not_eq_false', Int.not_lt, Int.not_le] at hb2
      refine wp_t rfl ?_
      refine wp_reg ?_
      refine st_pop rfl rfl rfl rfl ?_
      refine st_nil ?_
      refine awp_ret ?_
      refine at_ret ?_
      refine ret_ret rfl rfl ?_
      refine wk_b ?_
      first
        | rfl
        | (simp_all; done)
        | (simp_all; omega)
        | grind
  · try simp only [decide_eq_true_eq, decide_eq_false_iff_not, Bool.not_eq_true', Bool.not_eq_false', Int.not_lt, Int.not_le] at hb1
    cases hb1
theorem evalNots_c (ns : List Nod) (hns : ∀ n ∈ ns, n.fit ∧ inI n.value.int) (hA : NodA ns) (hsz : ns.length ≤ 1048576) (l : List Att) (hl : ∀ a ∈ l, a.fit) (hsl : l.length ≤ 9223372036854775807) (x : Scn) (hx : inI x.now ∧ inI x.began) : ∀ H, ACalls tt 5 [.agg [.l none 66 (ns.map Nod.av)], .l none 68 (l.map Att.av), .agg [.s x.sub, .s x.obj, .i .i64 x.now, .i .i64 x.began]] H (fun res_ H' => res_ = .b true ∧ H' = H) := by
  have hS := stoK_ok hl l.length
  refine body_calc (T := tt) Tryz.func5 rfl Tryz.ntmps5 rfl rfl (by simp [cleanL, clean, atts_clean, nods_clean]) (by rfl) ?_
  refine wp_reg ?_
  refine st_box rfl rfl rfl rfl rfl rfl rfl rfl rfl ?_
  refine st_box rfl rfl rfl rfl rfl rfl rfl rfl rfl ?_
  refine st_pop rfl rfl rfl rfl ?_
  refine st_nil ?_
  refine awp_seq ?_
  refine wp_reg ?_
  refine st_calc (xs := []) _ rfl rfl rfl rfl Tryz.func9 rfl rfl rfl (alive_c _) ?_
  refine st_pop rfl rfl rfl rfl ?_
  refine st_nil ?_
  refine wp_bit 16 rfl fun b hb1 => ?_
  cases b
  · try simp only [decide_eq_true_eq, decide_eq_false_iff_not, Bool.not_eq_true', Bool.not_eq_false', Int.not_lt, Int.not_le] at hb1
    refine wp_f rfl ?_
    refine awp_skip ?_
    refine at_norm ?_
    refine wp_reg ?_
    refine st_pop rfl rfl rfl rfl ?_
    refine st_calcW (xs := [.tmp 18]) _ rfl rfl rfl rfl Tryz.func10 rfl rfl rfl (stored_c l hl hsl _ 2 rfl) rfl ?_
    refine st_pop rfl rfl rfl rfl ?_
    refine st_pop rfl rfl rfl rfl ?_
    refine st_pop rfl rfl rfl rfl ?_
    refine st_pop rfl rfl rfl rfl ?_
    refine st_pop rfl rfl rfl rfl ?_
    refine st_nil ?_
    refine wp_reg ?_
    refine st_pop rfl rfl rfl rfl ?_
    refine st_calc (xs := [.tmp 22, _]) _ rfl rfl rfl rfl Tryz.func16 rfl rfl rfl (under_c ns (by omega) 6 _) ?_
    refine st_alloc rfl rfl rfl rfl rfl rfl rfl ?_
    refine st_store rfl rfl rfl rfl rfl rfl rfl rfl rfl rfl rfl rfl rfl ?_
    refine st_nil ?_
    refine wp_reg ?_
    refine st_pop rfl rfl rfl rfl ?_
    refine st_calc (xs := [.tmp 24, _]) _ rfl rfl rfl rfl Tryz.func16 rfl rfl rfl (under_c (underN ns 6) (by first | omega | (simp only [both_len, under_len, truthN, List.length_cons, List.length_nil]; omega)) 6 _) ?_
    refine st_alloc rfl rfl rfl rfl rfl rfl rfl ?_
    refine st_store rfl rfl rfl rfl rfl rfl rfl rfl rfl rfl rfl rfl rfl ?_
    refine st_nil ?_
    refine wp_open [.op 10, .bar] (D := [0, 0, 3, 0, 15, 31, 63, 63, 0, 383, 1023]) (by kernel_rfl) (by kernel_rfl) (by kernel_rfl) ?_
    refine ad_op rfl rfl ?_
    refine do_calc (xs := [_]) _ rfl rfl rfl rfl Tryz.func12 rfl rfl rfl (fun H_ => truthE_c false _) ?_
    refine do_pop rfl rfl rfl rfl rfl (by kernel_rfl) ?_
    refine do_calc (xs := [.tmp 27, .tmp 28, _]) _ rfl rfl rfl rfl Tryz.func11 rfl rfl rfl (fun H_ => both_c (truthN false) (underN (underN ns 6) 6) (by decide) (by first | omega | (simp only [both_len, under_len, truthN, List.length_cons, List.length_nil]; omega)) 8 _) ?_
    refine do_pop rfl rfl rfl rfl rfl (by kernel_rfl) ?_
    refine do_calc (xs := [.tmp 29, _, .tmp 30]) _ rfl rfl rfl rfl Tryz.func13 rfl rfl rfl (fun H_ => refValueF_c (underN (underN ns 6) 6) (under_fit (under_fit hns)) (by first | omega | (simp only [both_len, under_len, truthN, List.length_cons, List.length_nil]; omega)) x _) ?_
    refine do_pop rfl rfl rfl rfl rfl (by kernel_rfl) ?_
    refine do_pop rfl rfl rfl rfl rfl (by kernel_rfl) ?_
    refine do_pop rfl rfl rfl rfl rfl (by kernel_rfl) ?_
    refine do_alloc rfl rfl rfl rfl rfl rfl rfl (by kernel_rfl) ?_
    refine do_store rfl rfl rfl rfl rfl rfl rfl rfl rfl rfl rfl rfl rfl (by kernel_rfl) ?_
    refine do_nil ?_
    refine ad_bar ?_
    refine st_pop rfl rfl rfl rfl ?_
    refine st_nil ?_
    refine ad_nil ?_
    refine awp_seq ?_
    refine wp_reg ?_
    refine st_pop rfl rfl rfl rfl ?_
    refine st_pop rfl rfl rfl rfl ?_
    refine st_nil ?_
    refine wp_bit 35 rfl fun b hb2 => ?_
    cases b
    · try simp only [decide_eq_true_eq, decide_eq_false_iff_not, Bool.not_eq_true', Bool.not_eq_false', Int.not_lt, Int.not_le] at hb2
      have hR := right_why hb2
      have hA2 := under_A (op := 6) hA (by omega)
      have hA3 := under_A (op := 6) hA2 (by first | omega | (simp only [both_len, under_len, truthN, List.length_cons, List.length_nil]; omega))
      have r2 := (right_both (by decide) hA3 hR).2
      have r1 := right_under (by decide) r2
      have s1 := not_holds hS hx hns hA r1
      have s2 := not_holds hS hx (under_fit hns) hA2 r2
      refine wp_f rfl ?_
      refine awp_skip ?_
      refine at_norm ?_
      refine wp_reg ?_
      refine st_pop rfl rfl rfl rfl ?_
      refine st_pop rfl rfl rfl rfl ?_
      refine st_pop rfl rfl rfl rfl ?_
      refine st_calc (xs := [.tmp 36, .tmp 37, .tmp 38]) _ rfl rfl rfl rfl Tryz.func15 rfl rfl rfl (holds_c ns x _ hS hx (hns) (by show _ ≤ 9223372036854775807; first | omega | (simp only [both_len, under_len, truthN, List.length_cons, List.length_nil]; omega)) _ 3 2 rfl rfl) ?_
      refine st_pop rfl rfl rfl rfl ?_
      refine st_nil ?_
      refine wp_reg ?_
      refine st_pop rfl rfl rfl rfl ?_
      refine st_pop rfl rfl rfl rfl ?_
      refine st_pop rfl rfl rfl rfl ?_
      refine st_calc (xs := [.tmp 40, .tmp 41, .tmp 42]) _ rfl rfl rfl rfl Tryz.func15 rfl rfl rfl (holds_c (underN ns 6) x _ hS hx (under_fit hns) (by show _ ≤ 9223372036854775807; first | omega | (simp only [both_len, under_len, truthN, List.length_cons, List.length_nil]; omega)) _ 3 2 rfl rfl) ?_
      refine st_pop rfl rfl rfl rfl ?_
      refine st_nil ?_
      refine awp_seq ?_
      refine wp_reg ?_
      refine st_pop rfl rfl rfl rfl ?_
      refine st_pop rfl rfl rfl rfl ?_
      refine st_nil ?_
      refine wp_bit 45 rfl fun b hb3 => ?_
      cases b
      · try simp only [decide_eq_true_eq, decide_eq_false_iff_not, Bool.not_eq_true', Bool.not_eq_false', Int.not_lt, Int.not_le] at hb3
        refine wp_f rfl ?_
        refine awp_skip ?_
        refine at_norm ?_
        refine awp_seq ?_
        refine wp_reg ?_
        refine st_pop rfl rfl rfl rfl ?_
        refine st_pop rfl rfl rfl rfl ?_
        refine st_nil ?_
        refine wp_bit 56 rfl fun b hb4 => ?_
        cases b
        · try simp only [decide_eq_true_eq, decide_eq_false_iff_not, Bool.not_eq_true', Bool.not_eq_false', Int.not_lt, Int.not_le] at hb4
          refine wp_f rfl ?_
          refine awp_skip ?_
          refine at_norm ?_
          refine wp_reg ?_
          refine st_pop rfl rfl rfl rfl ?_
          refine st_pop rfl rfl rfl rfl ?_
          refine st_pop rfl rfl rfl rfl ?_
          refine st_pop rfl rfl rfl rfl ?_
          refine st_bit 69 rfl fun b hb5 => ?_
          cases b
          · try simp only [decide_eq_true_eq, decide_eq_false_iff_not, Bool.not_eq_true', Bool.not_eq_false', Int.not_lt, Int.not_le] at hb5
            refine st_skip rfl rfl rfl ?_
            refine st_skip rfl rfl rfl ?_
            refine st_skip rfl rfl rfl ?_
            refine st_skip rfl rfl rfl ?_
            refine st_skip rfl rfl rfl ?_
            refine st_skip rfl rfl rfl ?_
            refine st_pop rfl rfl rfl rfl ?_
            refine st_pop rfl rfl rfl rfl ?_
            refine st_nil ?_
            refine awp_ret ?_
            refine ret_ret rfl rfl ?_
            refine wk_b ?_
            first
              | rfl
              | (clear hS hx hns hl; simp_all; done)
              | (clear hS hx hns hl; simp_all; omega)
              | (clear hS hx hns hl; grind)
          · try simp only [decide_eq_true_eq, decide_eq_false_iff_not, Bool.not_eq_true', Bool.not_eq_false', Int.not_lt, Int.not_le] at hb5
            refine st_pop rfl rfl rfl rfl ?_
            refine st_pop rfl rfl rfl rfl ?_
            refine st_pop rfl rfl rfl rfl ?_
            refine st_calc (xs := [.tmp 70, .tmp 71, .tmp 72]) _ rfl rfl rfl rfl Tryz.func15 rfl rfl rfl (holds_c (underN (underN ns 6) 6) x _ hS hx (under_fit (under_fit hns)) (by show _ ≤ 9223372036854775807; first | omega | (simp only [both_len, under_len, truthN, List.length_cons, List.length_nil]; omega)) _ 3 2 rfl rfl) ?_
            refine st_pop rfl rfl rfl rfl ?_
            refine st_pop rfl rfl rfl rfl ?_
            refine st_pop rfl rfl rfl rfl ?_
            refine st_pop rfl rfl rfl rfl ?_
            refine st_nil ?_
            refine awp_ret ?_
            refine ret_ret rfl rfl ?_
            refine wk_b ?_
            first
              | rfl
              | (clear hS hx hns hl; simp_all; done)
              | (clear hS hx hns hl; simp_all; omega)
              | (clear hS hx hns hl; grind)
        · try simp only [decide_eq_true_eq, decide_eq_false_iff_not, Bool.not_eq_true', Bool.not_eq_false', Int.not_lt, Int.not_le] at hb4
          refine wp_t rfl ?_
          refine wp_reg ?_
          refine st_pop rfl rfl rfl rfl ?_
          refine st_pop rfl rfl rfl rfl ?_
          refine st_pop rfl rfl rfl rfl ?_
          refine st_bit 59 rfl fun b hb6 => ?_
          cases b
          · try simp only [decide_eq_true_eq, decide_eq_false_iff_not, Bool.not_eq_true', Bool.not_eq_false', Int.not_lt, Int.not_le] at hb6
            refine st_skip rfl rfl rfl ?_
            refine st_skip rfl rfl rfl ?_
            refine st_skip rfl rfl rfl ?_
            refine st_skip rfl rfl rfl ?_
            refine st_skip rfl rfl rfl ?_
            refine st_pop rfl rfl rfl rfl ?_
            refine st_pop rfl rfl rfl rfl ?_
            refine st_nil ?_
            refine awp_ret ?_
            refine at_ret ?_
            refine ret_ret rfl rfl ?_
            refine wk_b ?_
            first
              | rfl
              | (clear hS hx hns hl; simp_all; done)
              | (clear hS hx hns hl; simp_all; omega)
              | (clear hS hx hns hl; grind)
          · try simp only [decide_eq_true_eq, decide_eq_false_iff_not, Bool.not_eq_true', Bool.not_eq_false', Int.not_lt, Int.not_le] at hb6
            refine st_pop rfl rfl rfl rfl ?_
            refine st_pop rfl rfl rfl rfl ?_
            refine st_pop rfl rfl rfl rfl ?_
            refine st_calc (xs := [.tmp 60, .tmp 61, .tmp 62]) _ rfl rfl rfl rfl Tryz.func15 rfl rfl rfl (holds_c (underN (underN ns 6) 6) x _ hS hx (under_fit (under_fit hns)) (by show _ ≤ 9223372036854775807; first | omega | (simp only [both_len, under_len, truthN, List.length_cons, List.length_nil]; omega)) _ 3 2 rfl rfl) ?_
            refine st_pop rfl rfl rfl rfl ?_
            refine st_pop rfl rfl rfl rfl ?_
            refine st_pop rfl rfl rfl rfl ?_
            refine st_nil ?_
            refine awp_ret ?_
            refine at_ret ?_
            refine ret_ret rfl rfl ?_
            refine wk_b ?_
            first
              | rfl
              | (clear hS hx hns hl; simp_all; done)
              | (clear hS hx hns hl; simp_all; omega)
              | (clear hS hx hns hl; grind)
      · try simp only [decide_eq_true_eq, decide_eq_false_iff_not, Bool.not_eq_true', Bool.not_eq_false', Int.not_lt, Int.not_le] at hb3
        refine wp_t rfl ?_
        refine wp_reg ?_
        refine st_pop rfl rfl rfl rfl ?_
        refine st_pop rfl rfl rfl rfl ?_
        refine st_pop rfl rfl rfl rfl ?_
        refine st_bit 48 rfl fun b hb7 => ?_
        cases b
        · try simp only [decide_eq_true_eq, decide_eq_false_iff_not, Bool.not_eq_true', Bool.not_eq_false', Int.not_lt, Int.not_le] at hb7
          refine st_skip rfl rfl rfl ?_
          refine st_skip rfl rfl rfl ?_
          refine st_skip rfl rfl rfl ?_
          refine st_skip rfl rfl rfl ?_
          refine st_skip rfl rfl rfl ?_
          refine st_pop rfl rfl rfl rfl ?_
          refine st_pop rfl rfl rfl rfl ?_
          refine st_nil ?_
          refine awp_ret ?_
          refine at_ret ?_
          refine ret_ret rfl rfl ?_
          refine wk_b ?_
          first
            | rfl
            | (clear hS hx hns hl; simp_all; done)
            | (clear hS hx hns hl; simp_all; omega)
            | (clear hS hx hns hl; grind)
        · try simp only [decide_eq_true_eq, decide_eq_false_iff_not, Bool.not_eq_true', Bool.not_eq_false', Int.not_lt, Int.not_le] at hb7
          refine st_pop rfl rfl rfl rfl ?_
          refine st_pop rfl rfl rfl rfl ?_
          refine st_pop rfl rfl rfl rfl ?_
          refine st_calc (xs := [.tmp 49, .tmp 50, .tmp 51]) _ rfl rfl rfl rfl Tryz.func15 rfl rfl rfl (holds_c (underN (underN ns 6) 6) x _ hS hx (under_fit (under_fit hns)) (by show _ ≤ 9223372036854775807; first | omega | (simp only [both_len, under_len, truthN, List.length_cons, List.length_nil]; omega)) _ 3 2 rfl rfl) ?_
          refine st_pop rfl rfl rfl rfl ?_
          refine st_pop rfl rfl rfl rfl ?_
          refine st_pop rfl rfl rfl rfl ?_
          refine st_nil ?_
          refine awp_ret ?_
          refine at_ret ?_
          refine ret_ret rfl rfl ?_
          refine wk_b ?_
          first
            | rfl
            | (clear hS hx hns hl; simp_all; done)
            | (clear hS hx hns hl; simp_all; omega)
            | (clear hS hx hns hl; grind)
    · try simp only [decide_eq_true_eq, decide_eq_false_iff_not, Bool.not_eq_true', Bool.not_eq_false', Int.not_lt, Int.not_le] at hb2
      refine wp_t rfl ?_
      refine wp_reg ?_
      refine st_pop rfl rfl rfl rfl ?_
      refine st_nil ?_
      refine awp_ret ?_
      refine at_ret ?_
      refine ret_ret rfl rfl ?_
      refine wk_b ?_
      first
        | rfl
        | (clear hS hx hns hl; simp_all; done)
        | (clear hS hx hns hl; simp_all; omega)
        | (clear hS hx hns hl; grind)
  · try simp only [decide_eq_true_eq, decide_eq_false_iff_not, Bool.not_eq_true', Bool.not_eq_false', Int.not_lt, Int.not_le] at hb1
    cases hb1
theorem evalBoth_c (ns : List Nod) (hns : ∀ n ∈ ns, n.fit ∧ inI n.value.int) (hA : NodA ns) (hsz : ns.length ≤ 1048576) (l : List Att) (hl : ∀ a ∈ l, a.fit) (hsl : l.length ≤ 9223372036854775807) (x : Scn) (hx : inI x.now ∧ inI x.began) (c : Cel) (v : Val) (now : Int) (ms : List Nod) (hms : ∀ n ∈ ms, n.fit ∧ inI n.value.int) (hB : NodA ms) (hsm : ms.length ≤ 1048576) : ∀ H, ACalls tt 4 [.agg [.l none 66 (ns.map Nod.av), .l none 68 (l.map Att.av), .s x.sub, .s x.obj, .i .i64 x.now, .i .i64 x.began, .i .i64 c.scope, .s c.owner, .s c.name, .i .i64 v.kind, .i .i64 v.int, .s v.text, .b v.bool, .f v.rate, .i .i64 now], .agg [.l none 66 (ms.map Nod.av)]] H (fun res_ H' => res_ = .b true ∧ H' = H) := by
  have hS := stoK_ok hl l.length
  refine body_calc (T := tt) Tryz.func4 rfl Tryz.ntmps4 rfl rfl (by simp [cleanL, clean, atts_clean, nods_clean]) (by rfl) ?_
  refine wp_reg ?_
  refine st_box rfl rfl rfl rfl rfl rfl rfl rfl rfl ?_
  refine st_box rfl rfl rfl rfl rfl rfl rfl rfl rfl ?_
  refine st_pop rfl rfl rfl rfl ?_
  refine st_nil ?_
  refine awp_seq ?_
  refine wp_reg ?_
  refine st_calc (xs := []) _ rfl rfl rfl rfl Tryz.func9 rfl rfl rfl (alive_c _) ?_
  refine st_pop rfl rfl rfl rfl ?_
  refine st_nil ?_
  refine wp_bit 12 rfl fun b hb1 => ?_
  cases b
  · try simp only [decide_eq_true_eq, decide_eq_false_iff_not, Bool.not_eq_true', Bool.not_eq_false', Int.not_lt, Int.not_le] at hb1
    refine wp_f rfl ?_
    refine awp_skip ?_
    refine at_norm ?_
    refine wp_reg ?_
    refine st_pop rfl rfl rfl rfl ?_
    refine st_pop rfl rfl rfl rfl ?_
    refine st_calcW (xs := [.tmp 15]) _ rfl rfl rfl rfl Tryz.func10 rfl rfl rfl (stored_c l hl hsl _ 2 rfl) rfl ?_
    refine st_pop rfl rfl rfl rfl ?_
    refine st_pop rfl rfl rfl rfl ?_
    refine st_pop rfl rfl rfl rfl ?_
    refine st_pop rfl rfl rfl rfl ?_
    refine st_pop rfl rfl rfl rfl ?_
    refine st_nil ?_
    refine wp_reg ?_
    refine st_pop rfl rfl rfl rfl ?_
    refine st_pop rfl rfl rfl rfl ?_
    refine st_pop rfl rfl rfl rfl ?_
    refine st_calc (xs := [.tmp 20, .tmp 21, _]) _ rfl rfl rfl rfl Tryz.func11 rfl rfl rfl (both_c ns ms (by omega) (by omega) 8 _) ?_
    refine st_alloc rfl rfl rfl rfl rfl rfl rfl ?_
    refine st_store rfl rfl rfl rfl rfl rfl rfl rfl rfl rfl rfl rfl rfl ?_
    refine st_nil ?_
    refine wp_open [.op 11, .bar] (D := [0, 0, 3, 0, 8, 31, 63, 127, 127, 0, 767, 2047]) (by kernel_rfl) (by kernel_rfl) (by kernel_rfl) ?_
    refine ad_op rfl rfl ?_
    refine do_calc (xs := [_]) _ rfl rfl rfl rfl Tryz.func12 rfl rfl rfl (fun H_ => truthE_c false _) ?_
    refine do_pop rfl rfl rfl rfl rfl (by kernel_rfl) ?_
    refine do_calc (xs := [.tmp 24, .tmp 25, _]) _ rfl rfl rfl rfl Tryz.func11 rfl rfl rfl (fun H_ => both_c (truthN false) (bothN ns ms 8) (by decide) (by first | omega | (simp only [both_len, under_len, truthN, List.length_cons, List.length_nil]; omega)) 8 _) ?_
    refine do_pop rfl rfl rfl rfl rfl (by kernel_rfl) ?_
    refine do_pop rfl rfl rfl rfl rfl (by kernel_rfl) ?_
    refine do_calc (xs := [.tmp 26, _, .tmp 28]) _ rfl rfl rfl rfl Tryz.func13 rfl rfl rfl (fun H_ => refValueF_c (bothN ns ms 8) (both_fit hns hms) (by first | omega | (simp only [both_len, under_len, truthN, List.length_cons, List.length_nil]; omega)) x _) ?_
    refine do_pop rfl rfl rfl rfl rfl (by kernel_rfl) ?_
    refine do_pop rfl rfl rfl rfl rfl (by kernel_rfl) ?_
    refine do_pop rfl rfl rfl rfl rfl (by kernel_rfl) ?_
    refine do_alloc rfl rfl rfl rfl rfl rfl rfl (by kernel_rfl) ?_
    refine do_store rfl rfl rfl rfl rfl rfl rfl rfl rfl rfl rfl rfl rfl (by kernel_rfl) ?_
    refine do_nil ?_
    refine ad_bar ?_
    refine st_pop rfl rfl rfl rfl ?_
    refine st_nil ?_
    refine ad_nil ?_
    refine awp_seq ?_
    refine wp_reg ?_
    refine st_pop rfl rfl rfl rfl ?_
    refine st_pop rfl rfl rfl rfl ?_
    refine st_nil ?_
    refine wp_bit 33 rfl fun b hb2 => ?_
    cases b
    · try simp only [decide_eq_true_eq, decide_eq_false_iff_not, Bool.not_eq_true', Bool.not_eq_false', Int.not_lt, Int.not_le] at hb2
      have hR := right_why hb2
      have hA2 := both_A (op := 8) hA hB (by omega) (by omega)
      have r2 := (right_both (by decide) hA2 hR).2
      have s1 := both_holds (get := getS (stoK l l.length)) (x := x) hA hB r2
      refine wp_f rfl ?_
      refine awp_skip ?_
      refine at_norm ?_
      refine wp_reg ?_
      refine st_pop rfl rfl rfl rfl ?_
      refine st_pop rfl rfl rfl rfl ?_
      refine st_pop rfl rfl rfl rfl ?_
      refine st_pop rfl rfl rfl rfl ?_
      refine st_pop rfl rfl rfl rfl ?_
      refine st_calc (xs := [.tmp 35, .tmp 36, .tmp 38]) _ rfl rfl rfl rfl Tryz.func15 rfl rfl rfl (holds_c ns x _ hS hx (hns) (by show _ ≤ 9223372036854775807; first | omega | (simp only [both_len, under_len, truthN, List.length_cons, List.length_nil]; omega)) _ 3 2 rfl rfl) ?_
      refine st_pop rfl rfl rfl rfl ?_
      refine st_nil ?_
      refine awp_seq ?_
      refine wp_reg ?_
      refine st_pop rfl rfl rfl rfl ?_
      refine st_pop rfl rfl rfl rfl ?_
      refine st_nil ?_
      refine wp_bit 41 rfl fun b hb3 => ?_
      cases b
      · try simp only [decide_eq_true_eq, decide_eq_false_iff_not, Bool.not_eq_true', Bool.not_eq_false', Int.not_lt, Int.not_le] at hb3
        refine wp_f rfl ?_
        refine awp_skip ?_
        refine at_norm ?_
        refine wp_reg ?_
        refine st_pop rfl rfl rfl rfl ?_
        refine st_pop rfl rfl rfl rfl ?_
        refine st_pop rfl rfl rfl rfl ?_
        refine st_pop rfl rfl rfl rfl ?_
        refine st_calc (xs := [.tmp 47, .tmp 48, .tmp 50]) _ rfl rfl rfl rfl Tryz.func15 rfl rfl rfl (holds_c (bothN ns ms 8) x _ hS hx (both_fit hns hms) (by show _ ≤ 9223372036854775807; first | omega | (simp only [both_len, under_len, truthN, List.length_cons, List.length_nil]; omega)) _ 3 2 rfl rfl) ?_
        refine st_pop rfl rfl rfl rfl ?_
        refine st_pop rfl rfl rfl rfl ?_
        refine st_pop rfl rfl rfl rfl ?_
        refine st_nil ?_
        refine awp_ret ?_
        refine ret_ret rfl rfl ?_
        refine wk_b ?_
        first
          | rfl
          | (clear hS hx hns hl hms; simp_all; done)
          | (clear hS hx hns hl hms; grind)
      · try simp only [decide_eq_true_eq, decide_eq_false_iff_not, Bool.not_eq_true', Bool.not_eq_false', Int.not_lt, Int.not_le] at hb3
        refine wp_t rfl ?_
        refine awp_region ?_
        refine st_pop rfl rfl rfl rfl ?_
        refine st_pop rfl rfl rfl rfl ?_
        refine st_pop rfl rfl rfl rfl ?_
        refine st_pop rfl rfl rfl rfl ?_
        refine st_calc (xs := [.tmp 42, .tmp 43, .tmp 45]) _ rfl rfl rfl rfl Tryz.func15 rfl rfl rfl (holds_c ms x _ hS hx (hms) (by show _ ≤ 9223372036854775807; first | omega | (simp only [both_len, under_len, truthN, List.length_cons, List.length_nil]; omega)) _ 3 2 rfl rfl) ?_
        refine st_pop rfl rfl rfl rfl ?_
        refine st_nil ?_
        refine at_norm ?_
        refine wp_reg ?_
        refine st_pop rfl rfl rfl rfl ?_
        refine st_pop rfl rfl rfl rfl ?_
        refine st_pop rfl rfl rfl rfl ?_
        refine st_pop rfl rfl rfl rfl ?_
        refine st_calc (xs := [.tmp 47, .tmp 48, .tmp 50]) _ rfl rfl rfl rfl Tryz.func15 rfl rfl rfl (holds_c (bothN ns ms 8) x _ hS hx (both_fit hns hms) (by show _ ≤ 9223372036854775807; first | omega | (simp only [both_len, under_len, truthN, List.length_cons, List.length_nil]; omega)) _ 3 2 rfl rfl) ?_
        refine st_pop rfl rfl rfl rfl ?_
        refine st_pop rfl rfl rfl rfl ?_
        refine st_pop rfl rfl rfl rfl ?_
        refine st_nil ?_
        refine awp_ret ?_
        refine ret_ret rfl rfl ?_
        refine wk_b ?_
        first
          | rfl
          | (clear hS hx hns hl hms; simp_all; done)
          | (clear hS hx hns hl hms; grind)
    · try simp only [decide_eq_true_eq, decide_eq_false_iff_not, Bool.not_eq_true', Bool.not_eq_false', Int.not_lt, Int.not_le] at hb2
      refine wp_t rfl ?_
      refine wp_reg ?_
      refine st_pop rfl rfl rfl rfl ?_
      refine st_nil ?_
      refine awp_ret ?_
      refine at_ret ?_
      refine ret_ret rfl rfl ?_
      refine wk_b ?_
      first
        | rfl
        | (clear hS hx hns hl hms; simp_all; done)
        | (clear hS hx hns hl hms; grind)
  · try simp only [decide_eq_true_eq, decide_eq_false_iff_not, Bool.not_eq_true', Bool.not_eq_false', Int.not_lt, Int.not_le] at hb1
    cases hb1
end Go.Proofs.YtlclgpiabjlpbaaGreat.Am

