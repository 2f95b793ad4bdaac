/- Walks: the statements of layer 9. -/
import Derived.Test.YtlclgpiabjlpbaaC
import Derived.Test.YtlclgpiabjlpbaaLa
import Derived.Test.YtlclgpiabjlpbaaFl
namespace Go.Proofs.Ytlclgpiabjlpbaa.Am
open Go.RowKit
set_option linter.unusedVariables false
set_option linter.unusedSimpArgs false
set_option maxRecDepth 100000

theorem bits_c (v : Val) : ∀ H, ACalls tt 19 [.agg v.av] H (fun res_ H' => res_ = .i .u64 ((bitsP v : Nat) : Int) ∧ H' = H) := by
  refine body_calc (T := tt) Try.func19 rfl Try.ntmps19 rfl rfl (by rfl) (by rfl) ?_
  refine wp_reg ?_
  refine st_box rfl rfl rfl rfl rfl rfl rfl rfl rfl ?_
  refine st_pop rfl rfl rfl rfl ?_
  refine st_nil ?_
  refine awp_seq ?_
  refine wp_reg ?_
  refine st_pop rfl rfl rfl rfl ?_
  refine st_pop rfl rfl rfl rfl ?_
  refine st_pop rfl rfl rfl rfl ?_
  refine st_pop rfl rfl rfl rfl ?_
  refine st_bit 6 rfl fun b hb1 => ?_
  cases b
  · try simp only [decide_eq_true_eq, decide_eq_false_iff_not, Bool.not_eq_true', Bool.not_eq_false', Int.not_lt, Int.not_le] at hb1
    refine st_skip rfl rfl rfl ?_
    refine st_skip rfl rfl rfl ?_
    refine st_skip rfl rfl rfl ?_
    refine st_pop rfl rfl rfl rfl ?_
    refine st_nil ?_
    refine wp_f rfl ?_
    refine awp_skip ?_
    refine at_norm ?_
    refine wp_reg ?_
    refine st_pop rfl rfl rfl rfl ?_
    refine st_pop rfl rfl rfl rfl ?_
    refine st_extern [.f v.rate] (.i .u64 ((v.rate : Nat) : Int)) rfl rfl rfl rfl rfl rfl rfl (fun w => run_bits _ w) ?_
    refine st_pop rfl rfl rfl rfl ?_
    refine st_nil ?_
    refine awp_ret ?_
    refine ret_ret rfl rfl ?_
    refine wk_eq ?_
    unfold bitsP
    first
      | (rw [if_pos ⟨by assumption, by assumption⟩]; done)
      | (rw [if_neg (by simp_all [feq])]; done)
      | (rw [if_pos (by simp_all [feq])]; done)
      | (rw [if_pos (by simp_all [feq])]; rfl)
  · try simp only [decide_eq_true_eq, decide_eq_false_iff_not, Bool.not_eq_true', Bool.not_eq_false', Int.not_lt, Int.not_le] at hb1
    refine st_pop rfl rfl rfl rfl ?_
    refine st_pop rfl rfl rfl rfl ?_
    refine st_pop rfl rfl rfl rfl ?_
    refine st_pop rfl rfl rfl rfl ?_
    refine st_nil ?_
    refine wp_bit 10 rfl fun b hb2 => ?_
    cases b
    · try simp only [decide_eq_true_eq, decide_eq_false_iff_not, Bool.not_eq_true', Bool.not_eq_false', Int.not_lt, Int.not_le] at hb2
      refine wp_f rfl ?_
      refine awp_skip ?_
      refine at_norm ?_
      refine wp_reg ?_
      refine st_pop rfl rfl rfl rfl ?_
      refine st_pop rfl rfl rfl rfl ?_
      refine st_extern [.f v.rate] (.i .u64 ((v.rate : Nat) : Int)) rfl rfl rfl rfl rfl rfl rfl (fun w => run_bits _ w) ?_
      refine st_pop rfl rfl rfl rfl ?_
      refine st_nil ?_
      refine awp_ret ?_
      refine ret_ret rfl rfl ?_
      refine wk_eq ?_
      unfold bitsP
      first
        | (rw [if_pos ⟨by assumption, by assumption⟩]; done)
        | (rw [if_neg (by simp_all [feq])]; done)
        | (rw [if_pos (by simp_all [feq])]; done)
        | (rw [if_pos (by simp_all [feq])]; rfl)
    · try simp only [decide_eq_true_eq, decide_eq_false_iff_not, Bool.not_eq_true', Bool.not_eq_false', Int.not_lt, Int.not_le] at hb2
      refine wp_t rfl ?_
      refine wp_reg ?_
      refine st_pop rfl rfl rfl rfl ?_
      refine st_nil ?_
      refine awp_ret ?_
      refine at_ret ?_
      refine ret_ret rfl rfl ?_
      refine wk_eq ?_
      unfold bitsP
      first
        | (rw [if_pos ⟨by assumption, by assumption⟩]; done)
        | (rw [if_neg (by simp_all [feq])]; done)
        | (rw [if_pos (by simp_all [feq])]; done)
        | (rw [if_pos (by simp_all [feq])]; rfl)
theorem alike_c (a b : Val) : ∀ H, ACalls tt 9 [.agg a.av, .agg b.av] H (fun res_ H' => res_ = .b (alikeP a b) ∧ H' = H) := by
  refine body_calc (T := tt) Try.func9 rfl Try.ntmps9 rfl rfl (by rfl) (by rfl) ?_
  refine wp_reg ?_
  refine st_box rfl rfl rfl rfl rfl rfl rfl rfl rfl ?_
  refine st_box rfl rfl rfl rfl rfl rfl rfl rfl rfl ?_
  refine st_pop rfl rfl rfl rfl ?_
  refine st_nil ?_
  refine wp_reg ?_
  refine st_pop rfl rfl rfl rfl ?_
  refine st_calc (xs := [.tmp 7]) _ rfl rfl rfl rfl Try.func19 rfl rfl rfl (bits_c _ _) ?_
  refine st_pop rfl rfl rfl rfl ?_
  refine st_nil ?_
  refine wp_reg ?_
  refine st_pop rfl rfl rfl rfl ?_
  refine st_calc (xs := [.tmp 9]) _ rfl rfl rfl rfl Try.func19 rfl rfl rfl (bits_c _ _) ?_
  refine st_pop rfl rfl rfl rfl ?_
  refine st_nil ?_
  refine wp_reg ?_
  refine st_pop rfl rfl rfl rfl ?_
  refine st_pop rfl rfl rfl rfl ?_
  refine st_pop rfl rfl rfl rfl ?_
  refine st_pop rfl rfl rfl rfl ?_
  refine st_pop rfl rfl rfl rfl ?_
  refine st_pop rfl rfl rfl rfl ?_
  refine st_bit 16 rfl fun b hb1 => ?_
  cases b
  · try simp only [decide_eq_true_eq, decide_eq_false_iff_not, Bool.not_eq_true', Bool.not_eq_false', Int.not_lt, Int.not_le] at hb1
    refine st_skip rfl rfl rfl ?_
    refine st_skip rfl rfl rfl ?_
    refine st_skip rfl rfl rfl ?_
    refine st_skip rfl rfl rfl ?_
    refine st_skip rfl rfl rfl ?_
    refine st_pop rfl rfl rfl rfl ?_
    refine st_pop rfl rfl rfl rfl ?_
    refine st_skip rfl rfl rfl ?_
    refine st_skip rfl rfl rfl ?_
    refine st_skip rfl rfl rfl ?_
    refine st_skip rfl rfl rfl ?_
    refine st_skip rfl rfl rfl ?_
    refine st_pop rfl rfl rfl rfl ?_
    refine st_pop rfl rfl rfl rfl ?_
    refine st_skip rfl rfl rfl ?_
    refine st_skip rfl rfl rfl ?_
    refine st_skip rfl rfl rfl ?_
    refine st_skip rfl rfl rfl ?_
    refine st_skip rfl rfl rfl ?_
    refine st_pop rfl rfl rfl rfl ?_
    refine st_pop rfl rfl rfl rfl ?_
    refine st_skip rfl rfl rfl ?_
    refine st_skip rfl rfl rfl ?_
    refine st_skip rfl rfl rfl ?_
    refine st_pop rfl rfl rfl rfl ?_
    refine st_pop rfl rfl rfl rfl ?_
    refine st_nil ?_
    refine awp_ret ?_
    refine ret_ret rfl rfl ?_
    refine wk_b ?_
    first
      | (simp_all [alikeP]; done)
      | (simp only [alikeP]; rw [Bool.eq_iff_iff]; simp_all; omega)
      | (simp_all [alikeP]; omega)
  · try simp only [decide_eq_true_eq, decide_eq_false_iff_not, Bool.not_eq_true', Bool.not_eq_false', Int.not_lt, Int.not_le] at hb1
    refine st_pop rfl rfl rfl rfl ?_
    refine st_pop rfl rfl rfl rfl ?_
    refine st_pop rfl rfl rfl rfl ?_
    refine st_pop rfl rfl rfl rfl ?_
    refine st_pop rfl rfl rfl rfl ?_
    refine st_pop rfl rfl rfl rfl ?_
    refine st_pop rfl rfl rfl rfl ?_
    refine st_bit 23 rfl fun b hb2 => ?_
    cases b
    · try simp only [decide_eq_true_eq, decide_eq_false_iff_not, Bool.not_eq_true', Bool.not_eq_false', Int.not_lt, Int.not_le] at hb2
      refine st_skip rfl rfl rfl ?_
      refine st_skip rfl rfl rfl ?_
      refine st_skip rfl rfl rfl ?_
      refine st_skip rfl rfl rfl ?_
      refine st_skip rfl rfl rfl ?_
      refine st_pop rfl rfl rfl rfl ?_
      refine st_pop rfl rfl rfl rfl ?_
      refine st_skip rfl rfl rfl ?_
      refine st_skip rfl rfl rfl ?_
      refine st_skip rfl rfl rfl ?_
      refine st_skip rfl rfl rfl ?_
      refine st_skip rfl rfl rfl ?_
      refine st_pop rfl rfl rfl rfl ?_
      refine st_pop rfl rfl rfl rfl ?_
      refine st_skip rfl rfl rfl ?_
      refine st_skip rfl rfl rfl ?_
      refine st_skip rfl rfl rfl ?_
      refine st_pop rfl rfl rfl rfl ?_
      refine st_pop rfl rfl rfl rfl ?_
      refine st_nil ?_
      refine awp_ret ?_
      refine ret_ret rfl rfl ?_
      refine wk_b ?_
      first
        | (simp_all [alikeP]; done)
        | (simp only [alikeP]; rw [Bool.eq_iff_iff]; simp_all; omega)
        | (simp_all [alikeP]; omega)
    · try simp only [decide_eq_true_eq, decide_eq_false_iff_not, Bool.not_eq_true', Bool.not_eq_false', Int.not_lt, Int.not_le] at hb2
      refine st_pop rfl rfl rfl rfl ?_
      refine st_pop rfl rfl rfl rfl ?_
      refine st_pop rfl rfl rfl rfl ?_
      refine st_pop rfl rfl rfl rfl ?_
      refine st_pop rfl rfl rfl rfl ?_
      refine st_pop rfl rfl rfl rfl ?_
      refine st_pop rfl rfl rfl rfl ?_
      refine st_bit 30 rfl fun b hb3 => ?_
      cases b
      · try simp only [decide_eq_true_eq, decide_eq_false_iff_not, Bool.not_eq_true', Bool.not_eq_false', Int.not_lt, Int.not_le] at hb3
        refine st_skip rfl rfl rfl ?_
        refine st_skip rfl rfl rfl ?_
        refine st_skip rfl rfl rfl ?_
        refine st_skip rfl rfl rfl ?_
        refine st_skip rfl rfl rfl ?_
        refine st_pop rfl rfl rfl rfl ?_
        refine st_pop rfl rfl rfl rfl ?_
        refine st_skip rfl rfl rfl ?_
        refine st_skip rfl rfl rfl ?_
        refine st_skip rfl rfl rfl ?_
        refine st_pop rfl rfl rfl rfl ?_
        refine st_pop rfl rfl rfl rfl ?_
        refine st_nil ?_
        refine awp_ret ?_
        refine ret_ret rfl rfl ?_
        refine wk_b ?_
        first
          | (simp_all [alikeP]; done)
          | (simp only [alikeP]; rw [Bool.eq_iff_iff]; simp_all; omega)
          | (simp_all [alikeP]; omega)
      · try simp only [decide_eq_true_eq, decide_eq_false_iff_not, Bool.not_eq_true', Bool.not_eq_false', Int.not_lt, Int.not_le] at hb3
        refine st_pop rfl rfl rfl rfl ?_
        refine st_pop rfl rfl rfl rfl ?_
        refine st_pop rfl rfl rfl rfl ?_
        refine st_pop rfl rfl rfl rfl ?_
        refine st_pop rfl rfl rfl rfl ?_
        refine st_pop rfl rfl rfl rfl ?_
        refine st_pop rfl rfl rfl rfl ?_
        refine st_bit 37 rfl fun b hb4 => ?_
        cases b
        · try simp only [decide_eq_true_eq, decide_eq_false_iff_not, Bool.not_eq_true', Bool.not_eq_false', Int.not_lt, Int.not_le] at hb4
          refine st_skip rfl rfl rfl ?_
          refine st_skip rfl rfl rfl ?_
          refine st_skip rfl rfl rfl ?_
          refine st_pop rfl rfl rfl rfl ?_
          refine st_pop rfl rfl rfl rfl ?_
          refine st_nil ?_
          refine awp_ret ?_
          refine ret_ret rfl rfl ?_
          refine wk_b ?_
          first
            | (simp_all [alikeP]; done)
            | (simp only [alikeP]; rw [Bool.eq_iff_iff]; simp_all; omega)
            | (simp_all [alikeP]; omega)
        · try simp only [decide_eq_true_eq, decide_eq_false_iff_not, Bool.not_eq_true', Bool.not_eq_false', Int.not_lt, Int.not_le] at hb4
          refine st_pop rfl rfl rfl rfl ?_
          refine st_pop rfl rfl rfl rfl ?_
          refine st_pop rfl rfl rfl rfl ?_
          refine st_pop rfl rfl rfl rfl ?_
          refine st_pop rfl rfl rfl rfl ?_
          refine st_nil ?_
          refine awp_ret ?_
          refine ret_ret rfl rfl ?_
          refine wk_b ?_
          first
            | (simp_all [alikeP]; done)
            | (simp only [alikeP]; rw [Bool.eq_iff_iff]; simp_all; omega)
            | (simp_all [alikeP]; omega)
theorem alive_c  : ∀ H, ACalls tt 5 [] H (fun res_ H' => res_ = .b true ∧ H' = H) := by
  refine body_calc (T := tt) Try.func5 rfl Try.ntmps5 rfl rfl (by rfl) (by rfl) ?_
  refine wp_reg ?_
  refine st_pop rfl rfl rfl rfl ?_
  refine st_nil ?_
  refine wp_reg ?_
  refine st_calcW (xs := []) _ rfl rfl rfl rfl Try.func13 rfl rfl rfl (new_c _ 0 rfl) rfl ?_
  refine st_pop rfl rfl rfl rfl ?_
  refine st_nil ?_
  refine awp_seq ?_
  refine wp_reg ?_
  refine st_pop rfl rfl rfl rfl ?_
  refine st_pop rfl rfl rfl rfl ?_
  refine st_nil ?_
  refine wp_bit 11 rfl fun b hb1 => ?_
  cases b
  · try simp only [decide_eq_true_eq, decide_eq_false_iff_not, Bool.not_eq_true', Bool.not_eq_false', Int.not_lt, Int.not_le] at hb1
    refine wp_f rfl ?_
    refine awp_skip ?_
    refine at_norm ?_
    refine wp_reg ?_
    refine st_pop rfl rfl rfl rfl ?_
    refine st_alloc rfl rfl rfl rfl rfl rfl rfl ?_
    refine st_store rfl rfl rfl rfl rfl rfl rfl rfl rfl rfl rfl rfl rfl ?_
    refine st_nil ?_
    refine wp_reg ?_
    refine st_pop rfl rfl rfl rfl ?_
    refine st_pop rfl rfl rfl rfl ?_
    refine st_pop rfl rfl rfl rfl ?_
    refine st_calcW (xs := [.tmp 13, .tmp 14, .tmp 15]) _ rfl rfl rfl rfl Try.func15 rfl rfl rfl (set_c [] sto_nil ageC (wholeV 30) ⟨by decide, by decide⟩ _ 1 0 rfl rfl) rfl ?_
    refine st_nil ?_
    refine wp_reg ?_
    refine st_pop rfl rfl rfl rfl ?_
    refine st_pop rfl rfl rfl rfl ?_
    refine st_pop rfl rfl rfl rfl ?_
    refine st_pop rfl rfl rfl rfl ?_
    refine st_pop rfl rfl rfl rfl ?_
    refine st_bslice (E := 63) [.tmp 18, .tmp 20, .tmp 21] rfl rfl rfl rfl rfl rfl rfl (by simp [ev, upd, AV.sto, cellsOf, AV.flat]; rfl) rfl fun tk => ?_
    refine st_pop rfl rfl rfl rfl ?_
    refine st_alloc rfl rfl rfl rfl rfl rfl rfl ?_
    refine st_store rfl rfl rfl rfl rfl rfl rfl rfl rfl rfl rfl rfl rfl ?_
    refine st_nil ?_
    refine wp_reg ?_
    refine st_pop rfl rfl rfl rfl ?_
    refine st_alloc rfl rfl rfl rfl rfl rfl rfl ?_
    refine st_store rfl rfl rfl rfl rfl rfl rfl rfl rfl rfl rfl rfl rfl ?_
    refine st_nil ?_
    refine wp_reg ?_
    refine st_pop rfl rfl rfl rfl ?_
    refine st_pop rfl rfl rfl rfl ?_
    refine st_pop rfl rfl rfl rfl ?_
    refine st_calc (xs := [.tmp 26, .tmp 27, .tmp 28]) _ rfl rfl rfl rfl Try.func7 rfl rfl rfl (ACalls.args (value_c aliveN annX aliveS alive_sto ⟨by decide, by decide⟩ alive_nods (by decide) _ 1 0 rfl rfl) (.cons (.agg (.cons (.l _ _ _) .nil)) (.cons (.refl _) (.cons (.refl _) .nil)))) ?_
    refine st_pop rfl rfl rfl rfl ?_
    refine st_pop rfl rfl rfl rfl ?_
    refine st_pop rfl rfl rfl rfl ?_
    refine st_alloc rfl rfl rfl rfl rfl rfl rfl ?_
    refine st_store rfl rfl rfl rfl rfl rfl rfl rfl rfl rfl rfl rfl rfl ?_
    refine st_pop rfl rfl rfl rfl ?_
    refine st_nil ?_
    refine wp_reg ?_
    refine st_pop rfl rfl rfl rfl ?_
    refine st_pop rfl rfl rfl rfl ?_
    refine st_pop rfl rfl rfl rfl ?_
    refine st_calc (xs := [.tmp 33, .tmp 34, .tmp 35]) _ rfl rfl rfl rfl Try.func7 rfl rfl rfl (ACalls.args (value_c aliveN bobX aliveS alive_sto ⟨by decide, by decide⟩ alive_nods (by decide) _ 1 0 rfl rfl) (.cons (.agg (.cons (.l _ _ _) .nil)) (.cons (.refl _) (.cons (.refl _) .nil)))) ?_
    refine st_pop rfl rfl rfl rfl ?_
    refine st_pop rfl rfl rfl rfl ?_
    refine st_pop rfl rfl rfl rfl ?_
    refine st_alloc rfl rfl rfl rfl rfl rfl rfl ?_
    refine st_store rfl rfl rfl rfl rfl rfl rfl rfl rfl rfl rfl rfl rfl ?_
    refine st_pop rfl rfl rfl rfl ?_
    refine st_nil ?_
    refine wp_reg ?_
    refine st_pop rfl rfl rfl rfl ?_
    refine st_pop rfl rfl rfl rfl ?_
    refine st_pop rfl rfl rfl rfl ?_
    refine st_pop rfl rfl rfl rfl ?_
    refine st_bit 42 rfl fun b hb2 => ?_
    cases b
    · try simp only [decide_eq_true_eq, decide_eq_false_iff_not, Bool.not_eq_true', Bool.not_eq_false', Int.not_lt, Int.not_le] at hb2
      first | exact absurd hb2 (by rw [alive_ann]; decide) | exact absurd hb2 (by rw [alive_bob]; decide)
    · try simp only [decide_eq_true_eq, decide_eq_false_iff_not, Bool.not_eq_true', Bool.not_eq_false', Int.not_lt, Int.not_le] at hb2
      refine st_pop rfl rfl rfl rfl ?_
      refine st_pop rfl rfl rfl rfl ?_
      refine st_pop rfl rfl rfl rfl ?_
      refine st_pop rfl rfl rfl rfl ?_
      refine st_bit 46 rfl fun b hb3 => ?_
      cases b
      · try simp only [decide_eq_true_eq, decide_eq_false_iff_not, Bool.not_eq_true', Bool.not_eq_false', Int.not_lt, Int.not_le] at hb3
        first | exact absurd hb3 (by rw [alive_ann]; decide) | exact absurd hb3 (by rw [alive_bob]; decide)
      · try simp only [decide_eq_true_eq, decide_eq_false_iff_not, Bool.not_eq_true', Bool.not_eq_false', Int.not_lt, Int.not_le] at hb3
        refine st_pop rfl rfl rfl rfl ?_
        refine st_pop rfl rfl rfl rfl ?_
        refine st_pop rfl rfl rfl rfl ?_
        refine st_pop rfl rfl rfl rfl ?_
        refine st_pop rfl rfl rfl rfl ?_
        refine st_bit 51 rfl fun b hb4 => ?_
        cases b
        · try simp only [decide_eq_true_eq, decide_eq_false_iff_not, Bool.not_eq_true', Bool.not_eq_false', Int.not_lt, Int.not_le] at hb4
          first | exact absurd hb4 (by rw [alive_ann]; decide) | exact absurd hb4 (by rw [alive_bob]; decide)
        · try simp only [decide_eq_true_eq, decide_eq_false_iff_not, Bool.not_eq_true', Bool.not_eq_false', Int.not_lt, Int.not_le] at hb4
          refine st_pop rfl rfl rfl rfl ?_
          refine st_pop rfl rfl rfl rfl ?_
          refine st_pop rfl rfl rfl rfl ?_
          refine st_pop rfl rfl rfl rfl ?_
          refine st_bit 55 rfl fun b hb5 => ?_
          cases b
          · try simp only [decide_eq_true_eq, decide_eq_false_iff_not, Bool.not_eq_true', Bool.not_eq_false', Int.not_lt, Int.not_le] at hb5
            first | exact absurd hb5 (by rw [alive_ann]; decide) | exact absurd hb5 (by rw [alive_bob]; decide)
          · try simp only [decide_eq_true_eq, decide_eq_false_iff_not, Bool.not_eq_true', Bool.not_eq_false', Int.not_lt, Int.not_le] at hb5
            refine st_pop rfl rfl rfl rfl ?_
            refine st_pop rfl rfl rfl rfl ?_
            refine st_pop rfl rfl rfl rfl ?_
            refine st_calc (xs := [.tmp 56, .tmp 57, .tmp 58]) _ rfl rfl rfl rfl Try.func8 rfl rfl rfl (ACalls.args (holds_c aliveN annX aliveS alive_sto ⟨by decide, by decide⟩ alive_nods (by decide) _ 1 0 rfl rfl) (.cons (.agg (.cons (.l _ _ _) .nil)) (.cons (.refl _) (.cons (.refl _) .nil)))) ?_
            refine st_pop rfl rfl rfl rfl ?_
            refine st_pop rfl rfl rfl rfl ?_
            refine st_pop rfl rfl rfl rfl ?_
            refine st_nil ?_
            refine awp_ret ?_
            refine ret_ret rfl rfl ?_
            rw [alive_ann]; exact .refl _
  · try simp only [decide_eq_true_eq, decide_eq_false_iff_not, Bool.not_eq_true', Bool.not_eq_false', Int.not_lt, Int.not_le] at hb1
    cases hb1
theorem evalRight_c (ns : List Nod) (hns : ∀ n ∈ ns, n.fit ∧ inI n.value.int) (hsz : ns.length ≤ maxI) (l : List Att) (hl : ∀ a ∈ l, a.fit) (hsl : l.length ≤ 9223372036854775807) (x : Scn) (hx : inI x.now ∧ inI x.began) : ∀ H, ACalls tt 3 [.agg [.l none 63 (ns.map Nod.av)], .l none 56 (l.map Att.av), .agg [.s x.sub, .s x.obj, .i .i64 x.now, .i .i64 x.began]] H (fun res_ H' => res_ = .b true ∧ H' = H) := by
  have hS := stoK_ok hl l.length
  have hV := ok_evE (ns := ns) (x := x) hS hx hns
  refine body_calc (T := tt) Try.func3 rfl Try.ntmps3 rfl rfl (by simp [cleanL, clean, atts_clean, nods_clean]) (by rfl) ?_
  refine wp_reg ?_
  refine st_box rfl rfl rfl rfl rfl rfl rfl rfl rfl ?_
  refine st_box rfl rfl rfl rfl rfl rfl rfl rfl rfl ?_
  refine st_pop rfl rfl rfl rfl ?_
  refine st_nil ?_
  refine awp_seq ?_
  refine wp_reg ?_
  refine st_calc (xs := []) _ rfl rfl rfl rfl Try.func5 rfl rfl rfl (alive_c _) ?_
  refine st_pop rfl rfl rfl rfl ?_
  refine st_nil ?_
  refine wp_bit 13 rfl fun b hb1 => ?_
  cases b
  · try simp only [decide_eq_true_eq, decide_eq_false_iff_not, Bool.not_eq_true', Bool.not_eq_false', Int.not_lt, Int.not_le] at hb1
    refine wp_f rfl ?_
    refine awp_skip ?_
    refine at_norm ?_
    refine wp_reg ?_
    refine st_pop rfl rfl rfl rfl ?_
    refine st_calcW (xs := [.tmp 15]) _ rfl rfl rfl rfl Try.func6 rfl rfl rfl (stored_c l hl hsl _ 2 rfl) rfl ?_
    refine st_pop rfl rfl rfl rfl ?_
    refine st_pop rfl rfl rfl rfl ?_
    refine st_pop rfl rfl rfl rfl ?_
    refine st_pop rfl rfl rfl rfl ?_
    refine st_pop rfl rfl rfl rfl ?_
    refine st_nil ?_
    refine wp_reg ?_
    refine st_pop rfl rfl rfl rfl ?_
    refine st_pop rfl rfl rfl rfl ?_
    refine st_pop rfl rfl rfl rfl ?_
    refine st_calc (xs := [.tmp 20, .tmp 21, .tmp 22]) _ rfl rfl rfl rfl Try.func7 rfl rfl rfl (value_c ns x _ hS hx hns hsz _ 3 2 rfl rfl) ?_
    refine st_pop rfl rfl rfl rfl ?_
    refine st_pop rfl rfl rfl rfl ?_
    refine st_pop rfl rfl rfl rfl ?_
    refine st_alloc rfl rfl rfl rfl rfl rfl rfl ?_
    refine st_store rfl rfl rfl rfl rfl rfl rfl rfl rfl rfl rfl rfl rfl ?_
    refine st_pop rfl rfl rfl rfl ?_
    refine st_nil ?_
    refine wp_reg ?_
    refine st_pop rfl rfl rfl rfl ?_
    refine st_pop rfl rfl rfl rfl ?_
    refine st_pop rfl rfl rfl rfl ?_
    refine st_calc (xs := [.tmp 26, .tmp 27, .tmp 28]) _ rfl rfl rfl rfl Try.func8 rfl rfl rfl (holds_c ns x _ hS hx hns hsz _ 3 2 rfl rfl) ?_
    refine st_pop rfl rfl rfl rfl ?_
    refine st_nil ?_
    refine awp_seq ?_
    refine wp_reg ?_
    refine st_pop rfl rfl rfl rfl ?_
    refine st_pop rfl rfl rfl rfl ?_
    refine st_nil ?_
    refine wp_bit 31 rfl fun b hb2 => ?_
    cases b
    · try simp only [decide_eq_true_eq, decide_eq_false_iff_not, Bool.not_eq_true', Bool.not_eq_false', Int.not_lt, Int.not_le] at hb2
      refine wp_f rfl ?_
      refine awp_skip ?_
      refine at_norm ?_
      refine awp_seq ?_
      refine wp_reg ?_
      refine st_pop rfl rfl rfl rfl ?_
      refine st_pop rfl rfl rfl rfl ?_
      refine st_pop rfl rfl rfl rfl ?_
      refine st_nil ?_
      refine wp_bit 58 rfl fun b hb3 => ?_
      cases b
      · try simp only [decide_eq_true_eq, decide_eq_false_iff_not, Bool.not_eq_true', Bool.not_eq_false', Int.not_lt, Int.not_le] at hb3
        refine wp_f rfl ?_
        refine awp_skip ?_
        refine at_norm ?_
        refine wp_reg ?_
        refine st_pop rfl rfl rfl rfl ?_
        refine st_calc (xs := [.tmp 65]) _ rfl rfl rfl rfl Try.func10 rfl rfl rfl (valRight_c _ hV.fit _) ?_
        refine st_pop rfl rfl rfl rfl ?_
        refine st_bit 67 rfl fun b hb4 => ?_
        cases b
        · try simp only [decide_eq_true_eq, decide_eq_false_iff_not, Bool.not_eq_true', Bool.not_eq_false', Int.not_lt, Int.not_le] at hb4
          refine st_skip rfl rfl rfl ?_
          refine st_skip rfl rfl rfl ?_
          refine st_skip rfl rfl rfl ?_
          refine st_skip rfl rfl rfl ?_
          refine st_skip rfl rfl rfl ?_
          refine st_pop rfl rfl rfl rfl ?_
          refine st_pop rfl rfl rfl rfl ?_
          refine st_skip rfl rfl rfl ?_
          refine st_skip rfl rfl rfl ?_
          refine st_skip rfl rfl rfl ?_
          refine st_skip rfl rfl rfl ?_
          refine st_skip rfl rfl rfl ?_
          refine st_skip rfl rfl rfl ?_
          refine st_pop rfl rfl rfl rfl ?_
          refine st_pop rfl rfl rfl rfl ?_
          refine st_nil ?_
          refine awp_ret ?_
          refine ret_ret rfl rfl ?_
          refine wk_b ?_
          generalize evE ns (getS (stoK l l.length)) x = p at *
          obtain ⟨v, why⟩ := p
          clear hS hns hl
          first
            | rfl
            | (rcases hV with ⟨h0, hg⟩ | ⟨h1, hw⟩
               · have hr := hg.right
                 simp only at h0 hr
                 subst h0
                 cases hb : v.bool <;> simp_all [holdsP]
               · simp only at h1 hw
                 subst h1
                 first | exact alike_self _ | (simp_all [holdsP, zeroVal]; done) | (simp_all [holdsP, zeroVal]; omega) | (exfalso; omega))
        · try simp only [decide_eq_true_eq, decide_eq_false_iff_not, Bool.not_eq_true', Bool.not_eq_false', Int.not_lt, Int.not_le] at hb4
          refine st_pop rfl rfl rfl rfl ?_
          refine st_pop rfl rfl rfl rfl ?_
          refine st_pop rfl rfl rfl rfl ?_
          refine st_pop rfl rfl rfl rfl ?_
          refine st_pop rfl rfl rfl rfl ?_
          refine st_pop rfl rfl rfl rfl ?_
          refine st_pop rfl rfl rfl rfl ?_
          refine st_bit 74 rfl fun b hb5 => ?_
          cases b
          · try simp only [decide_eq_true_eq, decide_eq_false_iff_not, Bool.not_eq_true', Bool.not_eq_false', Int.not_lt, Int.not_le] at hb5
            refine st_skip rfl rfl rfl ?_
            refine st_skip rfl rfl rfl ?_
            refine st_skip rfl rfl rfl ?_
            refine st_skip rfl rfl rfl ?_
            refine st_skip rfl rfl rfl ?_
            refine st_skip rfl rfl rfl ?_
            refine st_pop rfl rfl rfl rfl ?_
            refine st_pop rfl rfl rfl rfl ?_
            refine st_nil ?_
            refine awp_ret ?_
            refine ret_ret rfl rfl ?_
            refine wk_b ?_
            generalize evE ns (getS (stoK l l.length)) x = p at *
            obtain ⟨v, why⟩ := p
            clear hS hns hl
            first
              | rfl
              | (rcases hV with ⟨h0, hg⟩ | ⟨h1, hw⟩
                 · have hr := hg.right
                   simp only at h0 hr
                   subst h0
                   cases hb : v.bool <;> simp_all [holdsP]
                 · simp only at h1 hw
                   subst h1
                   first | exact alike_self _ | (simp_all [holdsP, zeroVal]; done) | (simp_all [holdsP, zeroVal]; omega) | (exfalso; omega))
          · try simp only [decide_eq_true_eq, decide_eq_false_iff_not, Bool.not_eq_true', Bool.not_eq_false', Int.not_lt, Int.not_le] at hb5
            refine st_pop rfl rfl rfl rfl ?_
            refine st_pop rfl rfl rfl rfl ?_
            refine st_pop rfl rfl rfl rfl ?_
            refine st_pop rfl rfl rfl rfl ?_
            refine st_pop rfl rfl rfl rfl ?_
            refine st_pop rfl rfl rfl rfl ?_
            refine st_pop rfl rfl rfl rfl ?_
            refine st_pop rfl rfl rfl rfl ?_
            refine st_nil ?_
            refine awp_ret ?_
            refine ret_ret rfl rfl ?_
            refine wk_b ?_
            generalize evE ns (getS (stoK l l.length)) x = p at *
            obtain ⟨v, why⟩ := p
            clear hS hns hl
            first
              | rfl
              | (rcases hV with ⟨h0, hg⟩ | ⟨h1, hw⟩
                 · have hr := hg.right
                   simp only at h0 hr
                   subst h0
                   cases hb : v.bool <;> simp_all [holdsP]
                 · simp only at h1 hw
                   subst h1
                   first | exact alike_self _ | (simp_all [holdsP, zeroVal]; done) | (simp_all [holdsP, zeroVal]; omega) | (exfalso; omega))
      · try simp only [decide_eq_true_eq, decide_eq_false_iff_not, Bool.not_eq_true', Bool.not_eq_false', Int.not_lt, Int.not_le] at hb3
        refine wp_t rfl ?_
        refine wp_reg ?_
        refine st_pop rfl rfl rfl rfl ?_
        refine st_calc (xs := [.tmp 59]) _ rfl rfl rfl rfl Try.func10 rfl rfl rfl (valRight_c _ hV.fit _) ?_
        refine st_pop rfl rfl rfl rfl ?_
        refine st_bit 61 rfl fun b hb6 => ?_
        cases b
        · try simp only [decide_eq_true_eq, decide_eq_false_iff_not, Bool.not_eq_true', Bool.not_eq_false', Int.not_lt, Int.not_le] at hb6
          refine st_skip rfl rfl rfl ?_
          refine st_skip rfl rfl rfl ?_
          refine st_pop rfl rfl rfl rfl ?_
          refine st_pop rfl rfl rfl rfl ?_
          refine st_nil ?_
          refine awp_ret ?_
          refine at_ret ?_
          refine ret_ret rfl rfl ?_
          refine wk_b ?_
          generalize evE ns (getS (stoK l l.length)) x = p at *
          obtain ⟨v, why⟩ := p
          clear hS hns hl
          first
            | rfl
            | (rcases hV with ⟨h0, hg⟩ | ⟨h1, hw⟩
               · have hr := hg.right
                 simp only at h0 hr
                 subst h0
                 cases hb : v.bool <;> simp_all [holdsP]
               · simp only at h1 hw
                 subst h1
                 first | exact alike_self _ | (simp_all [holdsP, zeroVal]; done) | (simp_all [holdsP, zeroVal]; omega) | (exfalso; omega))
        · try simp only [decide_eq_true_eq, decide_eq_false_iff_not, Bool.not_eq_true', Bool.not_eq_false', Int.not_lt, Int.not_le] at hb6
          refine st_pop rfl rfl rfl rfl ?_
          refine st_pop rfl rfl rfl rfl ?_
          refine st_pop rfl rfl rfl rfl ?_
          refine st_pop rfl rfl rfl rfl ?_
          refine st_nil ?_
          refine awp_ret ?_
          refine at_ret ?_
          refine ret_ret rfl rfl ?_
          refine wk_b ?_
          generalize evE ns (getS (stoK l l.length)) x = p at *
          obtain ⟨v, why⟩ := p
          clear hS hns hl
          first
            | rfl
            | (rcases hV with ⟨h0, hg⟩ | ⟨h1, hw⟩
               · have hr := hg.right
                 simp only at h0 hr
                 subst h0
                 cases hb : v.bool <;> simp_all [holdsP]
               · simp only at h1 hw
                 subst h1
                 first | exact alike_self _ | (simp_all [holdsP, zeroVal]; done) | (simp_all [holdsP, zeroVal]; omega) | (exfalso; omega))
    · try simp only [decide_eq_true_eq, decide_eq_false_iff_not, Bool.not_eq_true', Bool.not_eq_false', Int.not_lt, Int.not_le] at hb2
      refine wp_t rfl ?_
      refine wp_reg ?_
      refine st_pop rfl rfl rfl rfl ?_
      refine st_pop rfl rfl rfl rfl ?_
      refine st_pop rfl rfl rfl rfl ?_
      refine st_bit 34 rfl fun b hb7 => ?_
      cases b
      · try simp only [decide_eq_true_eq, decide_eq_false_iff_not, Bool.not_eq_true', Bool.not_eq_false', Int.not_lt, Int.not_le] at hb7
        refine st_skip rfl rfl rfl ?_
        refine st_skip rfl rfl rfl ?_
        refine st_pop rfl rfl rfl rfl ?_
        refine st_pop rfl rfl rfl rfl ?_
        refine st_skip rfl rfl rfl ?_
        refine st_skip rfl rfl rfl ?_
        refine st_pop rfl rfl rfl rfl ?_
        refine st_pop rfl rfl rfl rfl ?_
        refine st_skip rfl rfl rfl ?_
        refine st_skip rfl rfl rfl ?_
        refine st_pop rfl rfl rfl rfl ?_
        refine st_pop rfl rfl rfl rfl ?_
        refine st_skip rfl rfl rfl ?_
        refine st_skip rfl rfl rfl ?_
        refine st_skip rfl rfl rfl ?_
        refine st_pop rfl rfl rfl rfl ?_
        refine st_pop rfl rfl rfl rfl ?_
        refine st_skip rfl rfl rfl ?_
        refine st_skip rfl rfl rfl ?_
        refine st_skip rfl rfl rfl ?_
        refine st_pop rfl rfl rfl rfl ?_
        refine st_pop rfl rfl rfl rfl ?_
        refine st_nil ?_
        refine awp_ret ?_
        refine at_ret ?_
        refine ret_ret rfl rfl ?_
        refine wk_b ?_
        generalize evE ns (getS (stoK l l.length)) x = p at *
        obtain ⟨v, why⟩ := p
        clear hS hns hl
        first
          | rfl
          | (rcases hV with ⟨h0, hg⟩ | ⟨h1, hw⟩
             · have hr := hg.right
               simp only at h0 hr
               subst h0
               cases hb : v.bool <;> simp_all [holdsP]
             · simp only at h1 hw
               subst h1
               first | exact alike_self _ | (simp_all [holdsP, zeroVal]; done) | (simp_all [holdsP, zeroVal]; omega) | (exfalso; omega))
      · try simp only [decide_eq_true_eq, decide_eq_false_iff_not, Bool.not_eq_true', Bool.not_eq_false', Int.not_lt, Int.not_le] at hb7
        refine st_pop rfl rfl rfl rfl ?_
        refine st_pop rfl rfl rfl rfl ?_
        refine st_pop rfl rfl rfl rfl ?_
        refine st_pop rfl rfl rfl rfl ?_
        refine st_bit 38 rfl fun b hb8 => ?_
        cases b
        · try simp only [decide_eq_true_eq, decide_eq_false_iff_not, Bool.not_eq_true', Bool.not_eq_false', Int.not_lt, Int.not_le] at hb8
          refine st_skip rfl rfl rfl ?_
          refine st_skip rfl rfl rfl ?_
          refine st_pop rfl rfl rfl rfl ?_
          refine st_pop rfl rfl rfl rfl ?_
          refine st_skip rfl rfl rfl ?_
          refine st_skip rfl rfl rfl ?_
          refine st_pop rfl rfl rfl rfl ?_
          refine st_pop rfl rfl rfl rfl ?_
          refine st_skip rfl rfl rfl ?_
          refine st_skip rfl rfl rfl ?_
          refine st_skip rfl rfl rfl ?_
          refine st_pop rfl rfl rfl rfl ?_
          refine st_pop rfl rfl rfl rfl ?_
          refine st_skip rfl rfl rfl ?_
          refine st_skip rfl rfl rfl ?_
          refine st_skip rfl rfl rfl ?_
          refine st_pop rfl rfl rfl rfl ?_
          refine st_pop rfl rfl rfl rfl ?_
          refine st_nil ?_
          refine awp_ret ?_
          refine at_ret ?_
          refine ret_ret rfl rfl ?_
          refine wk_b ?_
          generalize evE ns (getS (stoK l l.length)) x = p at *
          obtain ⟨v, why⟩ := p
          clear hS hns hl
          first
            | rfl
            | (rcases hV with ⟨h0, hg⟩ | ⟨h1, hw⟩
               · have hr := hg.right
                 simp only at h0 hr
                 subst h0
                 cases hb : v.bool <;> simp_all [holdsP]
               · simp only at h1 hw
                 subst h1
                 first | exact alike_self _ | (simp_all [holdsP, zeroVal]; done) | (simp_all [holdsP, zeroVal]; omega) | (exfalso; omega))
        · try simp only [decide_eq_true_eq, decide_eq_false_iff_not, Bool.not_eq_true', Bool.not_eq_false', Int.not_lt, Int.not_le] at hb8
          refine st_pop rfl rfl rfl rfl ?_
          refine st_pop rfl rfl rfl rfl ?_
          refine st_pop rfl rfl rfl rfl ?_
          refine st_pop rfl rfl rfl rfl ?_
          refine st_bit 42 rfl fun b hb9 => ?_
          cases b
          · try simp only [decide_eq_true_eq, decide_eq_false_iff_not, Bool.not_eq_true', Bool.not_eq_false', Int.not_lt, Int.not_le] at hb9
            refine st_skip rfl rfl rfl ?_
            refine st_skip rfl rfl rfl ?_
            refine st_pop rfl rfl rfl rfl ?_
            refine st_pop rfl rfl rfl rfl ?_
            refine st_skip rfl rfl rfl ?_
            refine st_skip rfl rfl rfl ?_
            refine st_skip rfl rfl rfl ?_
            refine st_pop rfl rfl rfl rfl ?_
            refine st_pop rfl rfl rfl rfl ?_
            refine st_skip rfl rfl rfl ?_
            refine st_skip rfl rfl rfl ?_
            refine st_skip rfl rfl rfl ?_
            refine st_pop rfl rfl rfl rfl ?_
            refine st_pop rfl rfl rfl rfl ?_
            refine st_nil ?_
            refine awp_ret ?_
            refine at_ret ?_
            refine ret_ret rfl rfl ?_
            refine wk_b ?_
            generalize evE ns (getS (stoK l l.length)) x = p at *
            obtain ⟨v, why⟩ := p
            clear hS hns hl
            first
              | rfl
              | (rcases hV with ⟨h0, hg⟩ | ⟨h1, hw⟩
                 · have hr := hg.right
                   simp only at h0 hr
                   subst h0
                   cases hb : v.bool <;> simp_all [holdsP]
                 · simp only at h1 hw
                   subst h1
                   first | exact alike_self _ | (simp_all [holdsP, zeroVal]; done) | (simp_all [holdsP, zeroVal]; omega) | (exfalso; omega))
          · try simp only [decide_eq_true_eq, decide_eq_false_iff_not, Bool.not_eq_true', Bool.not_eq_false', Int.not_lt, Int.not_le] at hb9
            refine st_pop rfl rfl rfl rfl ?_
            refine st_pop rfl rfl rfl rfl ?_
            refine st_pop rfl rfl rfl rfl ?_
            refine st_pop rfl rfl rfl rfl ?_
            refine st_bit 46 rfl fun b hb10 => ?_
            cases b
            · try simp only [decide_eq_true_eq, decide_eq_false_iff_not, Bool.not_eq_true', Bool.not_eq_false', Int.not_lt, Int.not_le] at hb10
              refine st_skip rfl rfl rfl ?_
              refine st_skip rfl rfl rfl ?_
              refine st_skip rfl rfl rfl ?_
              refine st_pop rfl rfl rfl rfl ?_
              refine st_pop rfl rfl rfl rfl ?_
              refine st_skip rfl rfl rfl ?_
              refine st_skip rfl rfl rfl ?_
              refine st_skip rfl rfl rfl ?_
              refine st_pop rfl rfl rfl rfl ?_
              refine st_pop rfl rfl rfl rfl ?_
              refine st_nil ?_
              refine awp_ret ?_
              refine at_ret ?_
              refine ret_ret rfl rfl ?_
              refine wk_b ?_
              generalize evE ns (getS (stoK l l.length)) x = p at *
              obtain ⟨v, why⟩ := p
              clear hS hns hl
              first
                | rfl
                | (rcases hV with ⟨h0, hg⟩ | ⟨h1, hw⟩
                   · have hr := hg.right
                     simp only at h0 hr
                     subst h0
                     cases hb : v.bool <;> simp_all [holdsP]
                   · simp only at h1 hw
                     subst h1
                     first | exact alike_self _ | (simp_all [holdsP, zeroVal]; done) | (simp_all [holdsP, zeroVal]; omega) | (exfalso; omega))
            · try simp only [decide_eq_true_eq, decide_eq_false_iff_not, Bool.not_eq_true', Bool.not_eq_false', Int.not_lt, Int.not_le] at hb10
              refine st_pop rfl rfl rfl rfl ?_
              refine st_pop rfl rfl rfl rfl ?_
              refine st_pop rfl rfl rfl rfl ?_
              refine st_pop rfl rfl rfl rfl ?_
              refine st_pop rfl rfl rfl rfl ?_
              refine st_bit 51 rfl fun b hb11 => ?_
              cases b
              · try simp only [decide_eq_true_eq, decide_eq_false_iff_not, Bool.not_eq_true', Bool.not_eq_false', Int.not_lt, Int.not_le] at hb11
                refine st_skip rfl rfl rfl ?_
                refine st_skip rfl rfl rfl ?_
                refine st_skip rfl rfl rfl ?_
                refine st_pop rfl rfl rfl rfl ?_
                refine st_pop rfl rfl rfl rfl ?_
                refine st_nil ?_
                refine awp_ret ?_
                refine at_ret ?_
                refine ret_ret rfl rfl ?_
                refine wk_b ?_
                generalize evE ns (getS (stoK l l.length)) x = p at *
                obtain ⟨v, why⟩ := p
                clear hS hns hl
                first
                  | rfl
                  | (rcases hV with ⟨h0, hg⟩ | ⟨h1, hw⟩
                     · have hr := hg.right
                       simp only at h0 hr
                       subst h0
                       cases hb : v.bool <;> simp_all [holdsP]
                     · simp only at h1 hw
                       subst h1
                       first | exact alike_self _ | (simp_all [holdsP, zeroVal]; done) | (simp_all [holdsP, zeroVal]; omega) | (exfalso; omega))
              · try simp only [decide_eq_true_eq, decide_eq_false_iff_not, Bool.not_eq_true', Bool.not_eq_false', Int.not_lt, Int.not_le] at hb11
                refine st_pop rfl rfl rfl rfl ?_
                refine st_pop rfl rfl rfl rfl ?_
                refine st_calc (xs := [.tmp 52, .tmp 53]) _ rfl rfl rfl rfl Try.func9 rfl rfl rfl (alike_c _ zeroVal _) ?_
                refine st_pop rfl rfl rfl rfl ?_
                refine st_pop rfl rfl rfl rfl ?_
                refine st_nil ?_
                refine awp_ret ?_
                refine at_ret ?_
                refine ret_ret rfl rfl ?_
                refine wk_b ?_
                generalize evE ns (getS (stoK l l.length)) x = p at *
                obtain ⟨v, why⟩ := p
                clear hS hns hl
                first
                  | rfl
                  | (rcases hV with ⟨h0, hg⟩ | ⟨h1, hw⟩
                     · have hr := hg.right
                       simp only at h0 hr
                       subst h0
                       cases hb : v.bool <;> simp_all [holdsP]
                     · simp only at h1 hw
                       subst h1
                       first | exact alike_self _ | (simp_all [holdsP, zeroVal]; done) | (simp_all [holdsP, zeroVal]; omega) | (exfalso; omega))
  · try simp only [decide_eq_true_eq, decide_eq_false_iff_not, Bool.not_eq_true', Bool.not_eq_false', Int.not_lt, Int.not_le] at hb1
    cases hb1
end Go.Proofs.Ytlclgpiabjlpbaa.Am

