/- Walks: package syntax: operands, plain, shape, Right; the reference's layer 5: Operands, node, first, Depth, Right. -/
import Derived.Test.YtlclgpiabjlpbaaSy
import Derived.Test.YtlclgpiabjlpbaaV
namespace Go.Proofs.Ytlclgpiabjlpbaa.Am
open Go.RowKit
set_option linter.unusedVariables false
set_option linter.unusedSimpArgs false
set_option maxRecDepth 100000

theorem operands_c (n : Int) : ∀ H, ACalls tt 47 [.i .i64 n] H (fun res_ H' => res_ = .i .i64 (operands n) ∧ H' = H) := by
  refine body_calc (T := tt) Try.func47 rfl Try.ntmps47 rfl rfl (by rfl) (by rfl) ?_
  refine wp_reg ?_
  refine st_pop rfl rfl rfl rfl ?_
  refine st_nil ?_
  refine awp_seq ?_
  refine awp_block ?_
  refine wp_reg ?_
  refine st_pop rfl rfl rfl rfl ?_
  refine st_pop rfl rfl rfl rfl ?_
  refine st_pop rfl rfl rfl rfl ?_
  refine st_bit 6 rfl fun b hb1 => ?_
  cases b
  · try simp only [decide_eq_true_eq, decide_eq_false_iff_not, Bool.not_eq_true', Bool.not_eq_false', Int.not_lt, Int.not_le] at hb1
    refine st_pop rfl rfl rfl rfl ?_
    refine st_pop rfl rfl rfl rfl ?_
    refine st_pop rfl rfl rfl rfl ?_
    refine st_pop rfl rfl rfl rfl ?_
    refine st_nil ?_
    refine wp_bit 3 rfl fun b hb2 => ?_
    cases b
    · try simp only [decide_eq_true_eq, decide_eq_false_iff_not, Bool.not_eq_true', Bool.not_eq_false', Int.not_lt, Int.not_le] at hb2
      refine wp_f rfl ?_
      refine wp_reg ?_
      refine st_pop rfl rfl rfl rfl ?_
      refine st_pop rfl rfl rfl rfl ?_
      refine st_pop rfl rfl rfl rfl ?_
      refine st_nil ?_
      refine wp_bit 10 rfl fun b hb3 => ?_
      cases b
      · try simp only [decide_eq_true_eq, decide_eq_false_iff_not, Bool.not_eq_true', Bool.not_eq_false', Int.not_lt, Int.not_le] at hb3
        refine wp_f rfl ?_
        refine wp_reg ?_
        refine st_pop rfl rfl rfl rfl ?_
        refine st_pop rfl rfl rfl rfl ?_
        refine st_pop rfl rfl rfl rfl ?_
        refine st_bit 16 rfl fun b hb4 => ?_
        cases b
        · try simp only [decide_eq_true_eq, decide_eq_false_iff_not, Bool.not_eq_true', Bool.not_eq_false', Int.not_lt, Int.not_le] at hb4
          refine st_pop rfl rfl rfl rfl ?_
          refine st_pop rfl rfl rfl rfl ?_
          refine st_pop rfl rfl rfl rfl ?_
          refine st_pop rfl rfl rfl rfl ?_
          refine st_nil ?_
          refine wp_bit 13 rfl fun b hb5 => ?_
          cases b
          · try simp only [decide_eq_true_eq, decide_eq_false_iff_not, Bool.not_eq_true', Bool.not_eq_false', Int.not_lt, Int.not_le] at hb5
            refine wp_f rfl ?_
            refine awp_skip ?_
            refine ab_norm ?_
            refine at_norm ?_
            refine wp_reg ?_
            refine st_pop rfl rfl rfl rfl ?_
            refine st_nil ?_
            refine awp_ret ?_
            refine ret_ret rfl rfl ?_
            refine wk_i ?_; unfold operands; (repeat' split) <;> omega
          · try simp only [decide_eq_true_eq, decide_eq_false_iff_not, Bool.not_eq_true', Bool.not_eq_false', Int.not_lt, Int.not_le] at hb5
            refine wp_t rfl ?_
            refine wp_reg ?_
            refine st_pop rfl rfl rfl rfl ?_
            refine st_nil ?_
            refine awp_ret ?_
            refine ab_ret ?_
            refine at_ret ?_
            refine ret_ret rfl rfl ?_
            refine wk_i ?_; unfold operands; (repeat' split) <;> omega
        · try simp only [decide_eq_true_eq, decide_eq_false_iff_not, Bool.not_eq_true', Bool.not_eq_false', Int.not_lt, Int.not_le] at hb4
          refine st_skip rfl rfl rfl ?_
          refine st_skip rfl rfl rfl ?_
          refine st_pop rfl rfl rfl rfl ?_
          refine st_pop rfl rfl rfl rfl ?_
          refine st_nil ?_
          refine wp_t rfl ?_
          refine wp_reg ?_
          refine st_pop rfl rfl rfl rfl ?_
          refine st_nil ?_
          refine awp_ret ?_
          refine ab_ret ?_
          refine at_ret ?_
          refine ret_ret rfl rfl ?_
          refine wk_i ?_; unfold operands; (repeat' split) <;> omega
      · try simp only [decide_eq_true_eq, decide_eq_false_iff_not, Bool.not_eq_true', Bool.not_eq_false', Int.not_lt, Int.not_le] at hb3
        refine wp_t rfl ?_
        refine wp_reg ?_
        refine st_pop rfl rfl rfl rfl ?_
        refine st_nil ?_
        refine awp_ret ?_
        refine ab_ret ?_
        refine at_ret ?_
        refine ret_ret rfl rfl ?_
        refine wk_i ?_; unfold operands; (repeat' split) <;> omega
    · try simp only [decide_eq_true_eq, decide_eq_false_iff_not, Bool.not_eq_true', Bool.not_eq_false', Int.not_lt, Int.not_le] at hb2
      refine wp_t rfl ?_
      refine wp_reg ?_
      refine st_pop rfl rfl rfl rfl ?_
      refine st_nil ?_
      refine awp_ret ?_
      refine ab_ret ?_
      refine at_ret ?_
      refine ret_ret rfl rfl ?_
      refine wk_i ?_; unfold operands; (repeat' split) <;> omega
  · try simp only [decide_eq_true_eq, decide_eq_false_iff_not, Bool.not_eq_true', Bool.not_eq_false', Int.not_lt, Int.not_le] at hb1
    refine st_skip rfl rfl rfl ?_
    refine st_skip rfl rfl rfl ?_
    refine st_pop rfl rfl rfl rfl ?_
    refine st_pop rfl rfl rfl rfl ?_
    refine st_nil ?_
    refine wp_t rfl ?_
    refine wp_reg ?_
    refine st_pop rfl rfl rfl rfl ?_
    refine st_nil ?_
    refine awp_ret ?_
    refine ab_ret ?_
    refine at_ret ?_
    refine ret_ret rfl rfl ?_
    refine wk_i ?_; unfold operands; (repeat' split) <;> omega
theorem literal_c (v : Val) (hv : v.fit) : ∀ H, ACalls tt 69 [.agg v.av] H (fun res_ H' => res_ = .b (literalOk v) ∧ H' = H) := by
  refine body_calc (T := tt) Try.func69 rfl Try.ntmps69 rfl rfl (by rfl) (by rfl) ?_
  refine wp_reg ?_
  refine st_box rfl rfl rfl rfl rfl rfl rfl rfl rfl ?_
  refine st_pop rfl rfl rfl rfl ?_
  refine st_nil ?_
  refine wp_reg ?_
  refine st_pop rfl rfl rfl rfl ?_
  refine st_calc (xs := [.tmp 3]) _ rfl rfl rfl rfl Try.func10 rfl rfl rfl (valRight_c v hv _) ?_
  refine st_pop rfl rfl rfl rfl ?_
  refine st_bit 5 rfl fun b hb1 => ?_
  cases b
  · try simp only [decide_eq_true_eq, decide_eq_false_iff_not, Bool.not_eq_true', Bool.not_eq_false', Int.not_lt, Int.not_le] at hb1
    refine st_skip rfl rfl rfl ?_
    refine st_skip rfl rfl rfl ?_
    refine st_skip rfl rfl rfl ?_
    refine st_pop rfl rfl rfl rfl ?_
    refine st_pop rfl rfl rfl rfl ?_
    refine st_skip rfl rfl rfl ?_
    refine st_skip rfl rfl rfl ?_
    refine st_skip rfl rfl rfl ?_
    refine st_pop rfl rfl rfl rfl ?_
    refine st_pop rfl rfl rfl rfl ?_
    refine st_nil ?_
    refine awp_ret ?_
    refine ret_ret rfl rfl ?_
    refine wk_b ?_; simp_all [literalOk, fge0] <;> omega
  · try simp only [decide_eq_true_eq, decide_eq_false_iff_not, Bool.not_eq_true', Bool.not_eq_false', Int.not_lt, Int.not_le] at hb1
    refine st_pop rfl rfl rfl rfl ?_
    refine st_pop rfl rfl rfl rfl ?_
    refine st_pop rfl rfl rfl rfl ?_
    refine st_pop rfl rfl rfl rfl ?_
    refine st_pop rfl rfl rfl rfl ?_
    refine st_bit 10 rfl fun b hb2 => ?_
    cases b
    · try simp only [decide_eq_true_eq, decide_eq_false_iff_not, Bool.not_eq_true', Bool.not_eq_false', Int.not_lt, Int.not_le] at hb2
      refine st_skip rfl rfl rfl ?_
      refine st_skip rfl rfl rfl ?_
      refine st_skip rfl rfl rfl ?_
      refine st_pop rfl rfl rfl rfl ?_
      refine st_pop rfl rfl rfl rfl ?_
      refine st_nil ?_
      refine awp_ret ?_
      refine ret_ret rfl rfl ?_
      refine wk_b ?_; simp_all [literalOk, fge0] <;> omega
    · try simp only [decide_eq_true_eq, decide_eq_false_iff_not, Bool.not_eq_true', Bool.not_eq_false', Int.not_lt, Int.not_le] at hb2
      refine st_pop rfl rfl rfl rfl ?_
      refine st_pop rfl rfl rfl rfl ?_
      refine st_pop rfl rfl rfl rfl ?_
      refine st_pop rfl rfl rfl rfl ?_
      refine st_pop rfl rfl rfl rfl ?_
      refine st_nil ?_
      refine awp_ret ?_
      refine ret_ret rfl rfl ?_
      refine wk_b ?_; simp_all [literalOk, fge0] <;> omega
theorem plain_c (n : Nod) (hn : n.fit) : ∀ H, ACalls tt 48 [.agg n.av] H (fun res_ H' => res_ = .b (plainOk n) ∧ H' = H) := by
  refine body_calc (T := tt) Try.func48 rfl Try.ntmps48 rfl rfl (by rfl) (by rfl) ?_
  refine wp_reg ?_
  refine st_box rfl rfl rfl rfl rfl rfl rfl rfl rfl ?_
  refine st_pop rfl rfl rfl rfl ?_
  refine st_nil ?_
  refine wp_reg ?_
  refine st_pop rfl rfl rfl rfl ?_
  refine st_pop rfl rfl rfl rfl ?_
  refine st_pop rfl rfl rfl rfl ?_
  refine st_pop rfl rfl rfl rfl ?_
  refine st_pop rfl rfl rfl rfl ?_
  refine st_pop rfl rfl rfl rfl ?_
  refine st_pop rfl rfl rfl rfl ?_
  refine st_alloc rfl rfl rfl rfl rfl rfl rfl ?_
  refine st_store rfl rfl rfl rfl rfl rfl rfl rfl rfl rfl rfl rfl rfl ?_
  refine st_nil ?_
  refine awp_seq ?_
  refine wp_reg ?_
  refine st_pop rfl rfl rfl rfl ?_
  refine st_pop rfl rfl rfl rfl ?_
  refine st_nil ?_
  refine awp_block ?_
  refine wp_reg ?_
  refine st_pop rfl rfl rfl rfl ?_
  refine st_pop rfl rfl rfl rfl ?_
  refine st_nil ?_
  refine wp_bit 13 rfl fun b hb1 => ?_
  cases b
  · try simp only [decide_eq_true_eq, decide_eq_false_iff_not, Bool.not_eq_true', Bool.not_eq_false', Int.not_lt, Int.not_le] at hb1
    refine wp_f rfl ?_
    refine awp_seq ?_
    refine wp_reg ?_
    refine st_pop rfl rfl rfl rfl ?_
    refine st_pop rfl rfl rfl rfl ?_
    refine st_nil ?_
    refine wp_bit 26 rfl fun b hb2 => ?_
    cases b
    · try simp only [decide_eq_true_eq, decide_eq_false_iff_not, Bool.not_eq_true', Bool.not_eq_false', Int.not_lt, Int.not_le] at hb2
      refine wp_f rfl ?_
      refine awp_region ?_
      refine st_pop rfl rfl rfl rfl ?_
      refine st_pop rfl rfl rfl rfl ?_
      refine st_nil ?_
      refine at_norm ?_
      refine wp_bit 26 rfl fun b hb3 => ?_
      cases b
      · try simp only [decide_eq_true_eq, decide_eq_false_iff_not, Bool.not_eq_true', Bool.not_eq_false', Int.not_lt, Int.not_le] at hb3
        refine wp_f rfl ?_
        refine awp_skip ?_
        refine ab_norm ?_
        refine at_norm ?_
        refine wp_reg ?_
        refine st_pop rfl rfl rfl rfl ?_
        refine st_pop rfl rfl rfl rfl ?_
        refine st_pop rfl rfl rfl rfl ?_
        refine st_pop rfl rfl rfl rfl ?_
        refine st_nil ?_
        refine awp_ret ?_
        refine ret_ret rfl rfl ?_
        refine wk_b ?_
        first
          | (simp_all [plainOk, refZero, valZero, fzero]; done)
          | (rw [Bool.eq_iff_iff]; simp_all [plainOk, refZero, valZero, fzero, and_assoc]; done)
          | (cases hq : valRight n.value <;> (try have hr := valRight_self hq) <;> simp_all [plainOk, refZero, valZero, fzero, literalOk]; done)
      · try simp only [decide_eq_true_eq, decide_eq_false_iff_not, Bool.not_eq_true', Bool.not_eq_false', Int.not_lt, Int.not_le] at hb3
        refine wp_t rfl ?_
        refine wp_reg ?_
        refine st_pop rfl rfl rfl rfl ?_
        refine st_pop rfl rfl rfl rfl ?_
        refine st_pop rfl rfl rfl rfl ?_
        refine st_store rfl rfl rfl rfl rfl rfl rfl rfl rfl rfl rfl rfl rfl ?_
        refine st_nil ?_
        refine wp_reg ?_
        refine st_pop rfl rfl rfl rfl ?_
        refine st_pop rfl rfl rfl rfl ?_
        refine st_pop rfl rfl rfl rfl ?_
        refine st_pop rfl rfl rfl rfl ?_
        refine st_bit 35 rfl fun b hb4 => ?_
        cases b
        · try simp only [decide_eq_true_eq, decide_eq_false_iff_not, Bool.not_eq_true', Bool.not_eq_false', Int.not_lt, Int.not_le] at hb4
          refine st_skip rfl rfl rfl ?_
          refine st_skip rfl rfl rfl ?_
          refine st_skip rfl rfl rfl ?_
          refine st_pop rfl rfl rfl rfl ?_
          refine st_pop rfl rfl rfl rfl ?_
          refine st_nil ?_
          refine awp_ret ?_
          refine ab_ret ?_
          refine at_ret ?_
          refine ret_ret rfl rfl ?_
          refine wk_b ?_
          first
            | (simp_all [plainOk, refZero, valZero, fzero]; done)
            | (rw [Bool.eq_iff_iff]; simp_all [plainOk, refZero, valZero, fzero, and_assoc]; done)
            | (cases hq : valRight n.value <;> (try have hr := valRight_self hq) <;> simp_all [plainOk, refZero, valZero, fzero, literalOk]; done)
        · try simp only [decide_eq_true_eq, decide_eq_false_iff_not, Bool.not_eq_true', Bool.not_eq_false', Int.not_lt, Int.not_le] at hb4
          refine st_pop rfl rfl rfl rfl ?_
          refine st_pop rfl rfl rfl rfl ?_
          refine st_calc (xs := [.tmp 37]) _ rfl rfl rfl rfl Try.func38 rfl rfl rfl (refOk_c n.ref _) ?_
          refine st_pop rfl rfl rfl rfl ?_
          refine st_pop rfl rfl rfl rfl ?_
          refine st_nil ?_
          refine awp_ret ?_
          refine ab_ret ?_
          refine at_ret ?_
          refine ret_ret rfl rfl ?_
          refine wk_b ?_
          first
            | (simp_all [plainOk, refZero, valZero, fzero]; done)
            | (rw [Bool.eq_iff_iff]; simp_all [plainOk, refZero, valZero, fzero, and_assoc]; done)
            | (cases hq : valRight n.value <;> (try have hr := valRight_self hq) <;> simp_all [plainOk, refZero, valZero, fzero, literalOk]; done)
    · try simp only [decide_eq_true_eq, decide_eq_false_iff_not, Bool.not_eq_true', Bool.not_eq_false', Int.not_lt, Int.not_le] at hb2
      refine wp_t rfl ?_
      refine awp_skip ?_
      refine at_norm ?_
      refine wp_t rfl ?_
      refine wp_reg ?_
      refine st_pop rfl rfl rfl rfl ?_
      refine st_pop rfl rfl rfl rfl ?_
      refine st_pop rfl rfl rfl rfl ?_
      refine st_store rfl rfl rfl rfl rfl rfl rfl rfl rfl rfl rfl rfl rfl ?_
      refine st_nil ?_
      refine wp_reg ?_
      refine st_pop rfl rfl rfl rfl ?_
      refine st_pop rfl rfl rfl rfl ?_
      refine st_pop rfl rfl rfl rfl ?_
      refine st_pop rfl rfl rfl rfl ?_
      refine st_bit 35 rfl fun b hb5 => ?_
      cases b
      · try simp only [decide_eq_true_eq, decide_eq_false_iff_not, Bool.not_eq_true', Bool.not_eq_false', Int.not_lt, Int.not_le] at hb5
        refine st_skip rfl rfl rfl ?_
        refine st_skip rfl rfl rfl ?_
        refine st_skip rfl rfl rfl ?_
        refine st_pop rfl rfl rfl rfl ?_
        refine st_pop rfl rfl rfl rfl ?_
        refine st_nil ?_
        refine awp_ret ?_
        refine ab_ret ?_
        refine at_ret ?_
        refine ret_ret rfl rfl ?_
        refine wk_b ?_
        first
          | (simp_all [plainOk, refZero, valZero, fzero]; done)
          | (rw [Bool.eq_iff_iff]; simp_all [plainOk, refZero, valZero, fzero, and_assoc]; done)
          | (cases hq : valRight n.value <;> (try have hr := valRight_self hq) <;> simp_all [plainOk, refZero, valZero, fzero, literalOk]; done)
      · try simp only [decide_eq_true_eq, decide_eq_false_iff_not, Bool.not_eq_true', Bool.not_eq_false', Int.not_lt, Int.not_le] at hb5
        refine st_pop rfl rfl rfl rfl ?_
        refine st_pop rfl rfl rfl rfl ?_
        refine st_calc (xs := [.tmp 37]) _ rfl rfl rfl rfl Try.func38 rfl rfl rfl (refOk_c n.ref _) ?_
        refine st_pop rfl rfl rfl rfl ?_
        refine st_pop rfl rfl rfl rfl ?_
        refine st_nil ?_
        refine awp_ret ?_
        refine ab_ret ?_
        refine at_ret ?_
        refine ret_ret rfl rfl ?_
        refine wk_b ?_
        first
          | (simp_all [plainOk, refZero, valZero, fzero]; done)
          | (rw [Bool.eq_iff_iff]; simp_all [plainOk, refZero, valZero, fzero, and_assoc]; done)
          | (cases hq : valRight n.value <;> (try have hr := valRight_self hq) <;> simp_all [plainOk, refZero, valZero, fzero, literalOk]; done)
  · try simp only [decide_eq_true_eq, decide_eq_false_iff_not, Bool.not_eq_true', Bool.not_eq_false', Int.not_lt, Int.not_le] at hb1
    refine wp_t rfl ?_
    refine wp_reg ?_
    refine st_pop rfl rfl rfl rfl ?_
    refine st_pop rfl rfl rfl rfl ?_
    refine st_pop rfl rfl rfl rfl ?_
    refine st_store rfl rfl rfl rfl rfl rfl rfl rfl rfl rfl rfl rfl rfl ?_
    refine st_nil ?_
    refine wp_reg ?_
    refine st_pop rfl rfl rfl rfl ?_
    refine st_pop rfl rfl rfl rfl ?_
    refine st_pop rfl rfl rfl rfl ?_
    refine st_pop rfl rfl rfl rfl ?_
    refine st_bit 21 rfl fun b hb6 => ?_
    cases b
    · try simp only [decide_eq_true_eq, decide_eq_false_iff_not, Bool.not_eq_true', Bool.not_eq_false', Int.not_lt, Int.not_le] at hb6
      refine st_skip rfl rfl rfl ?_
      refine st_skip rfl rfl rfl ?_
      refine st_skip rfl rfl rfl ?_
      refine st_pop rfl rfl rfl rfl ?_
      refine st_pop rfl rfl rfl rfl ?_
      refine st_nil ?_
      refine awp_ret ?_
      refine ab_ret ?_
      refine at_ret ?_
      refine ret_ret rfl rfl ?_
      refine wk_b ?_
      first
        | (simp_all [plainOk, refZero, valZero, fzero]; done)
        | (rw [Bool.eq_iff_iff]; simp_all [plainOk, refZero, valZero, fzero, and_assoc]; done)
        | (cases hq : valRight n.value <;> (try have hr := valRight_self hq) <;> simp_all [plainOk, refZero, valZero, fzero, literalOk]; done)
    · try simp only [decide_eq_true_eq, decide_eq_false_iff_not, Bool.not_eq_true', Bool.not_eq_false', Int.not_lt, Int.not_le] at hb6
      refine st_pop rfl rfl rfl rfl ?_
      refine st_pop rfl rfl rfl rfl ?_
      refine st_calc (xs := [.tmp 23]) _ rfl rfl rfl rfl Try.func69 rfl rfl rfl (literal_c n.value hn.1 _) ?_
      refine st_pop rfl rfl rfl rfl ?_
      refine st_pop rfl rfl rfl rfl ?_
      refine st_nil ?_
      refine awp_ret ?_
      refine ab_ret ?_
      refine at_ret ?_
      refine ret_ret rfl rfl ?_
      refine wk_b ?_
      first
        | (simp_all [plainOk, refZero, valZero, fzero]; done)
        | (rw [Bool.eq_iff_iff]; simp_all [plainOk, refZero, valZero, fzero, and_assoc]; done)
        | (cases hq : valRight n.value <;> (try have hr := valRight_self hq) <;> simp_all [plainOk, refZero, valZero, fzero, literalOk]; done)
theorem shape_leaf {ns : List Nod} {fs ds : List Nat} {H : AH} (hi : ShInv ns (fs, ds)) (hk : ns.length ≤ fs.length) (h0 : H.bs[0]? = some (.cells (rowC fs ns.length))) (h1 : H.bs[1]? = some (.cells (rowC ds ns.length))) : FZ tt H (.tup [.arr 0 ns.length 3, .arr 1 ns.length 3, .b true]) (shapeAV ns) := by
  have hl : fs.length = ns.length := Nat.le_antisymm hi.hk hk
  have hl2 : ds.length = ns.length := by rw [← hl]; exact hi.hl.symm
  rw [shape_some (hi.done hk)]
  refine .tup (.cons (.arr h0 ⟨[], by rw [List.append_nil, ← hl, rowC_full]; rfl⟩ (fun e he => ?_) (by decide) (by simp [numsAV, hl])) (.cons (.arr h1 ⟨[], by rw [List.append_nil, ← hl2, rowC_full]; rfl⟩ (fun e he => ?_) (by decide) (by simp [numsAV, hl2])) (.cons (.refl _) .nil)))
  all_goals (obtain ⟨x, _, rfl⟩ := List.mem_map.1 he; rfl)
theorem shape_c (ns : List Nod) (hns : ∀ n ∈ ns, n.fit) (hn : ns.length ≤ 64) : ∀ H, ACalls tt 32 [.l none 63 (ns.map Nod.av)] H (fun res_ H' => res_ = shapeAV ns ∧ H' = H) := by
  refine body_calcZ (T := tt) Try.func32 rfl Try.ntmps32 rfl rfl (by simp [cleanL, clean, nods_clean]) (shapeAV_clean ns) ?_
  refine wp_reg ?_
  refine st_pop rfl rfl rfl rfl ?_
  refine st_pop rfl rfl rfl rfl ?_
  refine st_pop rfl rfl rfl rfl ?_
  refine st_nil ?_
  refine wp_reg ?_
  refine st_pop rfl rfl rfl rfl ?_
  refine st_pop rfl rfl rfl rfl ?_
  refine st_val 12 (.i .i64 ((ns.length : Nat) : Int)) rfl (by simp) ?_
  refine st_make (n := ns.length) (z := .i .i64 0) rfl rfl rfl rfl rfl rfl rfl rfl (by show 8 * ns.length ≤ _; omega) (by omega) ?_
  refine st_pop rfl rfl rfl rfl ?_
  refine st_nil ?_
  refine wp_reg ?_
  refine st_pop rfl rfl rfl rfl ?_
  refine st_pop rfl rfl rfl rfl ?_
  refine st_val 15 (.i .i64 ((ns.length : Nat) : Int)) rfl (by simp) ?_
  refine st_make (n := ns.length) (z := .i .i64 0) rfl rfl rfl rfl rfl rfl rfl rfl (by show 8 * ns.length ≤ _; omega) (by omega) ?_
  refine st_pop rfl rfl rfl rfl ?_
  refine st_nil ?_
  refine awp_seq ?_
  refine wp_reg ?_
  refine st_pop rfl rfl rfl rfl ?_
  refine st_pop rfl rfl rfl rfl ?_
  refine st_val 18 (.i .i64 ((ns.length : Nat) : Int)) rfl (by simp) ?_
  refine st_pop rfl rfl rfl rfl ?_
  refine st_nil ?_
  refine awp_block ?_
  refine wp_loopD (α := List Nat × List Nat) (fun a => frl [(5, .arr 0 ns.length 3), (6, .arr 1 ns.length 3), (17, .l none 63 (ns.map Nod.av)), (18, .i .i64 ((ns.length : Nat) : Int)), (19, .i .i64 ((a.1.length : Nat) : Int))]) (fun a => ⟨[.cells (rowC a.1 ns.length), .cells (rowC a.2 ns.length)], []⟩) 2 (ShInv ns) (fun a => ns.length - a.1.length) ([], []) (ShInv.init ns) (wk_frl (wk_cons rfl (wk_cons rfl (wk_cons rfl (wk_cons rfl (wk_cons rfl wk_nil)))))) (by simp [rowC_zero]) (fun a => rfl) (fun a _ => bb_frl (by simp [bbL, bb, nods_bb])) (fun a _ => by simp [bbH, bbB, rowC_bb]) ?_
  rintro ⟨fs, ds⟩ hi
  have hl : fs.length = ds.length := hi.hl
  have hk : fs.length ≤ ns.length := hi.hk
  dsimp only
  refine wp_reg ?_
  refine st_pop rfl rfl rfl rfl ?_
  refine st_nil ?_
  refine awp_seq ?_
  refine wp_bit 20 rfl fun b hb1 => ?_
  cases b
  · try simp only [decide_eq_true_eq, decide_eq_false_iff_not, Bool.not_eq_true', Bool.not_eq_false', Int.not_lt, Int.not_le] at hb1
    refine wp_f rfl ?_
    refine awp_exit ?_
    refine at_exit ?_
    refine at_exit ?_
    refine ab_hit ?_
    refine at_norm ?_
    refine wp_reg ?_
    refine st_pop rfl rfl rfl rfl ?_
    refine st_pop rfl rfl rfl rfl ?_
    refine st_pop rfl rfl rfl rfl ?_
    refine st_pop rfl rfl rfl rfl ?_
    refine st_pop rfl rfl rfl rfl ?_
    refine st_nil ?_
    refine awp_ret ?_
    refine ret_ret rfl rfl ?_
    exact shape_leaf hi (by omega) rfl rfl
  · try simp only [decide_eq_true_eq, decide_eq_false_iff_not, Bool.not_eq_true', Bool.not_eq_false', Int.not_lt, Int.not_le] at hb1
    obtain ⟨nd, hnd⟩ : ∃ nd, ns[fs.length]? = some nd := ⟨_, List.getElem?_eq_getElem (by omega)⟩
    have hfit := hns nd (List.mem_of_getElem? hnd)
    refine wp_t rfl ?_
    refine awp_skip ?_
    refine at_norm ?_
    refine awp_seq ?_
    refine awp_block ?_
    refine wp_reg ?_
    refine st_pop rfl rfl rfl rfl ?_
    refine st_idxA (n := fs.length) nd.av rfl rfl rfl rfl rfl rfl rfl rfl (by simp [hnd]) ?_
    refine st_pop rfl rfl rfl rfl ?_
    refine st_alloc rfl rfl rfl rfl rfl rfl rfl ?_
    refine st_pop rfl rfl rfl rfl ?_
    refine st_store rfl rfl rfl rfl rfl rfl rfl rfl rfl rfl rfl rfl rfl ?_
    refine st_nil ?_
    refine wp_reg ?_
    refine st_pop rfl rfl rfl rfl ?_
    refine st_pop rfl rfl rfl rfl ?_
    refine st_pop rfl rfl rfl rfl ?_
    refine st_pop rfl rfl rfl rfl ?_
    refine st_pop rfl rfl rfl rfl ?_
    refine st_idxR (n := fs.length) rfl rfl rfl rfl rfl rfl rfl rfl rfl (by omega) ?_
    refine st_storeR (rowC (fs ++ [fs.length]) ns.length) rfl rfl rfl rfl rfl rfl rfl rfl rfl (by rw [rowC_len (by first | omega | (simp; omega))]; omega) (rowC_push (by omega)) rfl ?_
    refine st_idxR (n := fs.length) rfl rfl rfl rfl rfl rfl rfl rfl rfl (by omega) ?_
    refine st_storeR (rowC (ds ++ [1]) ns.length) rfl rfl rfl rfl rfl rfl rfl rfl rfl (by rw [rowC_len (by first | omega | (simp; omega))]; omega) (by rw [hl]; exact rowC_push (by omega)) rfl ?_
    refine st_nil ?_
    refine wp_reg ?_
    refine st_pop rfl rfl rfl rfl ?_
    refine st_pop rfl rfl rfl rfl ?_
    refine st_nil ?_
    refine awp_seq ?_
    refine wp_reg ?_
    refine st_pop rfl rfl rfl rfl ?_
    refine st_pop rfl rfl rfl rfl ?_
    refine st_calc (xs := [.tmp 32]) _ rfl rfl rfl rfl Try.func47 rfl rfl rfl (operands_c _ _) ?_
    refine st_nil ?_
    refine awp_block ?_
    refine wp_reg ?_
    refine st_pop rfl rfl rfl rfl ?_
    refine st_pop rfl rfl rfl rfl ?_
    refine st_nil ?_
    refine wp_bit 34 rfl fun b hb2 => ?_
    cases b
    · try simp only [decide_eq_true_eq, decide_eq_false_iff_not, Bool.not_eq_true', Bool.not_eq_false', Int.not_lt, Int.not_le] at hb2
      refine wp_f rfl ?_
      refine wp_reg ?_
      refine st_pop rfl rfl rfl rfl ?_
      refine st_pop rfl rfl rfl rfl ?_
      refine st_nil ?_
      refine wp_bit 36 rfl fun b hb3 => ?_
      cases b
      · try simp only [decide_eq_true_eq, decide_eq_false_iff_not, Bool.not_eq_true', Bool.not_eq_false', Int.not_lt, Int.not_le] at hb3
        refine wp_f rfl ?_
        refine wp_reg ?_
        refine st_pop rfl rfl rfl rfl ?_
        refine st_pop rfl rfl rfl rfl ?_
        refine st_nil ?_
        refine wp_bit 57 rfl fun b hb4 => ?_
        cases b
        · try simp only [decide_eq_true_eq, decide_eq_false_iff_not, Bool.not_eq_true', Bool.not_eq_false', Int.not_lt, Int.not_le] at hb4
          refine wp_f rfl ?_
          refine awp_skip ?_
          refine ab_norm ?_
          refine at_norm ?_
          refine wp_reg ?_
          refine st_pop rfl rfl rfl rfl ?_
          refine st_pop rfl rfl rfl rfl ?_
          refine st_pop rfl rfl rfl rfl ?_
          refine st_pop rfl rfl rfl rfl ?_
          refine st_pop rfl rfl rfl rfl ?_
          refine st_bit 101 rfl fun b hb5 => ?_
          cases b
          · try simp only [decide_eq_true_eq, decide_eq_false_iff_not, Bool.not_eq_true', Bool.not_eq_false', Int.not_lt, Int.not_le] at hb5
            refine st_pop rfl rfl rfl rfl ?_
            refine st_pop rfl rfl rfl rfl ?_
            refine st_pop rfl rfl rfl rfl ?_
            refine st_pop rfl rfl rfl rfl ?_
            refine st_pop rfl rfl rfl rfl ?_
            refine st_pop rfl rfl rfl rfl ?_
            refine st_bit 107 rfl fun b hb6 => ?_
            cases b
            · try simp only [decide_eq_true_eq, decide_eq_false_iff_not, Bool.not_eq_true', Bool.not_eq_false', Int.not_lt, Int.not_le] at hb6
              refine st_pop rfl rfl rfl rfl ?_
              refine st_calc (xs := [.tmp 108]) _ rfl rfl rfl rfl Try.func48 rfl rfl rfl (plain_c nd hfit _) ?_
              refine st_pop rfl rfl rfl rfl ?_
              refine st_pop rfl rfl rfl rfl ?_
              refine st_nil ?_
              refine wp_bit 111 rfl fun b hb7 => ?_
              cases b
              · try simp only [decide_eq_true_eq, decide_eq_false_iff_not, Bool.not_eq_true', Bool.not_eq_false', Int.not_lt, Int.not_le] at hb7
                refine wp_f rfl ?_
                refine awp_skip ?_
                refine ab_norm ?_
                refine at_norm ?_
                refine awp_region ?_
                refine st_pop rfl rfl rfl rfl ?_
                refine st_val 112 (.i .i64 ((fs.length + 1 : Nat) : Int)) rfl (wrap_succ (by omega)) ?_
                refine st_pop rfl rfl rfl rfl ?_
                refine st_nil ?_
                refine at_norm ?_
                refine ⟨(fs ++ [fs.length], ds ++ [1]), hi.step hnd (by first | exact step_zero (by assumption) (by assumption) (by assumption) (by assumption) (by omega) (by omega) | exact step_one (by assumption) (by assumption) (by omega) hf hd (by omega) (by omega) | exact step_two (by assumption) (by assumption) (by omega) hf1 (by omega) hf hd1 hd2 (by omega) (by omega)) (by omega) (by omega), wk_frl (wk_cons rfl (wk_cons rfl (wk_cons rfl (wk_cons rfl (wk_cons (by show AV.i .i64 _ = _; simp) wk_nil))))), ⟨_, rfl⟩, rfl, by simp; omega⟩
              · try simp only [decide_eq_true_eq, decide_eq_false_iff_not, Bool.not_eq_true', Bool.not_eq_false', Int.not_lt, Int.not_le] at hb7
                refine wp_t rfl ?_
                refine wp_reg ?_
                refine st_pop rfl rfl rfl rfl ?_
                refine st_pop rfl rfl rfl rfl ?_
                refine st_pop rfl rfl rfl rfl ?_
                refine st_nil ?_
                refine awp_ret ?_
                refine ab_ret ?_
                refine at_ret ?_
                refine at_ret ?_
                refine ab_ret ?_
                refine at_ret ?_
                refine ret_ret rfl rfl ?_
                rw [shape_none (hi.fail hnd (by first | exact no_plain (by assumption) | exact no_op (by assumption) | exact no_zero (by assumption) (by assumption) (by assumption) (by omega) | exact no_one (by assumption) (by omega) | exact no_two (by assumption) (.inl (by omega)) | exact no_two (by assumption) (.inr ⟨f1, hf1, by omega⟩)))]
                exact .tup (.cons (.nil _) (.cons (.nil _) (.cons (.refl _) .nil)))
            · try simp only [decide_eq_true_eq, decide_eq_false_iff_not, Bool.not_eq_true', Bool.not_eq_false', Int.not_lt, Int.not_le] at hb6
              refine st_skip rfl rfl rfl ?_
              refine st_skip rfl rfl rfl ?_
              refine st_skip rfl rfl rfl ?_
              refine st_pop rfl rfl rfl rfl ?_
              refine st_nil ?_
              refine wp_t rfl ?_
              refine wp_reg ?_
              refine st_pop rfl rfl rfl rfl ?_
              refine st_pop rfl rfl rfl rfl ?_
              refine st_pop rfl rfl rfl rfl ?_
              refine st_nil ?_
              refine awp_ret ?_
              refine ab_ret ?_
              refine at_ret ?_
              refine at_ret ?_
              refine ab_ret ?_
              refine at_ret ?_
              refine ret_ret rfl rfl ?_
              rw [shape_none (hi.fail hnd (by first | exact no_plain (by assumption) | exact no_op (by assumption) | exact no_zero (by assumption) (by assumption) (by assumption) (by omega) | exact no_one (by assumption) (by omega) | exact no_two (by assumption) (.inl (by omega)) | exact no_two (by assumption) (.inr ⟨f1, hf1, by omega⟩)))]
              exact .tup (.cons (.nil _) (.cons (.nil _) (.cons (.refl _) .nil)))
          · try simp only [decide_eq_true_eq, decide_eq_false_iff_not, Bool.not_eq_true', Bool.not_eq_false', Int.not_lt, Int.not_le] at hb5
            refine st_skip rfl rfl rfl ?_
            refine st_skip rfl rfl rfl ?_
            refine st_skip rfl rfl rfl ?_
            refine st_skip rfl rfl rfl ?_
            refine st_pop rfl rfl rfl rfl ?_
            refine st_pop rfl rfl rfl rfl ?_
            refine st_skip rfl rfl rfl ?_
            refine st_skip rfl rfl rfl ?_
            refine st_skip rfl rfl rfl ?_
            refine st_pop rfl rfl rfl rfl ?_
            refine st_nil ?_
            refine wp_t rfl ?_
            refine wp_reg ?_
            refine st_pop rfl rfl rfl rfl ?_
            refine st_pop rfl rfl rfl rfl ?_
            refine st_pop rfl rfl rfl rfl ?_
            refine st_nil ?_
            refine awp_ret ?_
            refine ab_ret ?_
            refine at_ret ?_
            refine at_ret ?_
            refine ab_ret ?_
            refine at_ret ?_
            refine ret_ret rfl rfl ?_
            rw [shape_none (hi.fail hnd (by first | exact no_plain (by assumption) | exact no_op (by assumption) | exact no_zero (by assumption) (by assumption) (by assumption) (by omega) | exact no_one (by assumption) (by omega) | exact no_two (by assumption) (.inl (by omega)) | exact no_two (by assumption) (.inr ⟨f1, hf1, by omega⟩)))]
            exact .tup (.cons (.nil _) (.cons (.nil _) (.cons (.refl _) .nil)))
        · try simp only [decide_eq_true_eq, decide_eq_false_iff_not, Bool.not_eq_true', Bool.not_eq_false', Int.not_lt, Int.not_le] at hb4
          refine wp_t rfl ?_
          refine awp_seq ?_
          refine wp_reg ?_
          refine st_pop rfl rfl rfl rfl ?_
          refine st_pop rfl rfl rfl rfl ?_
          refine st_pop rfl rfl rfl rfl ?_
          refine st_bit 61 rfl fun b hb8 => ?_
          cases b
          · try simp only [decide_eq_true_eq, decide_eq_false_iff_not, Bool.not_eq_true', Bool.not_eq_false', Int.not_lt, Int.not_le] at hb8
            obtain ⟨f1, hf1⟩ : ∃ f, fs[fs.length - 1]? = some f := ⟨_, List.getElem?_eq_getElem (by omega)⟩
            obtain ⟨d2, hd2⟩ : ∃ d, ds[fs.length - 1]? = some d := ⟨_, List.getElem?_eq_getElem (by omega)⟩
            have hfb1 := hi.hf _ _ hf1
            have hdb2 := hi.hd _ _ hd2
            refine st_pop rfl rfl rfl rfl ?_
            refine st_pop rfl rfl rfl rfl ?_
            refine st_pop rfl rfl rfl rfl ?_
            refine st_val 64 (.i .i64 ((fs.length - 1 : Nat) : Int)) rfl (wrap_pred (by omega) (by omega)) ?_
            refine st_idxR (n := fs.length - 1) rfl rfl rfl rfl rfl rfl rfl rfl rfl (by omega) ?_
            refine st_loadR (.i .i64 ((f1 : Nat) : Int)) rfl rfl rfl rfl rfl rfl rfl (rowC_get (get_app hf1)) ?_
            refine st_pop rfl rfl rfl rfl ?_
            refine st_pop rfl rfl rfl rfl ?_
            refine st_nil ?_
            refine wp_bit 68 rfl fun b hb9 => ?_
            cases b
            · try simp only [decide_eq_true_eq, decide_eq_false_iff_not, Bool.not_eq_true', Bool.not_eq_false', Int.not_lt, Int.not_le] at hb9
              obtain ⟨f, hf⟩ : ∃ f, fs[f1 - 1]? = some f := ⟨_, List.getElem?_eq_getElem (by omega)⟩
              obtain ⟨d1, hd1⟩ : ∃ d, ds[f1 - 1]? = some d := ⟨_, List.getElem?_eq_getElem (by omega)⟩
              have hfb := hi.hf _ _ hf
              have hdb1 := hi.hd _ _ hd1
              refine wp_f rfl ?_
              refine awp_skip ?_
              refine at_norm ?_
              refine wp_reg ?_
              refine st_pop rfl rfl rfl rfl ?_
              refine st_pop rfl rfl rfl rfl ?_
              refine st_pop rfl rfl rfl rfl ?_
              refine st_val 71 (.i .i64 ((fs.length - 1 : Nat) : Int)) rfl (wrap_pred (by omega) (by omega)) ?_
              refine st_idxR (n := fs.length - 1) rfl rfl rfl rfl rfl rfl rfl rfl rfl (by omega) ?_
              refine st_loadR (.i .i64 ((f1 : Nat) : Int)) rfl rfl rfl rfl rfl rfl rfl (rowC_get (get_app hf1)) ?_
              refine st_pop rfl rfl rfl rfl ?_
              refine st_val 74 (.i .i64 ((f1 - 1 : Nat) : Int)) rfl (wrap_pred (by omega) (by omega)) ?_
              refine st_pop rfl rfl rfl rfl ?_
              refine st_pop rfl rfl rfl rfl ?_
              refine st_val 76 (.i .i64 ((fs.length - 1 : Nat) : Int)) rfl (wrap_pred (by omega) (by omega)) ?_
              refine st_pop rfl rfl rfl rfl ?_
              refine st_pop rfl rfl rfl rfl ?_
              refine st_nil ?_
              refine awp_mix [.arr 0 ns.length 3, .i .i64 ((fs.length : Nat) : Int), .arr 1 ns.length 3, .i .i64 ((fs.length : Nat) : Int), .arr 0 ns.length 3, .i .i64 ((f1 - 1 : Nat) : Int), .ptr 0 (f1 - 1), .i .i64 ((f : Nat) : Int), .arr 1 ns.length 3, .i .i64 ((f1 - 1 : Nat) : Int), .ptr 1 (f1 - 1), .i .i64 ((d1 : Nat) : Int), .arr 1 ns.length 3, .i .i64 ((fs.length - 1 : Nat) : Int), .ptr 1 (fs.length - 1), .i .i64 ((d2 : Nat) : Int), .i .i64 ((max d1 d2 : Nat) : Int), .i .i64 ((max d1 d2 + 1 : Nat) : Int), .ptr 0 fs.length, .u, .ptr 1 fs.length, .u] (fun S => cond (S 21) (⟨[.cells (rowC (fs ++ [f]) ns.length), .cells (rowC (ds ++ [max d1 d2 + 1]) ns.length), .cells [.i .i64 nd.op, .i .i64 nd.value.kind, .i .i64 nd.value.int, .s nd.value.text, .b nd.value.bool, .f nd.value.rate, .i .i64 nd.ref.scope, .s nd.ref.name, .i .i64 nd.a, .i .i64 nd.b]], []⟩) (cond (S 19) (⟨[.cells (rowC (fs ++ [f]) ns.length), .cells (rowC (ds ++ [1]) ns.length), .cells [.i .i64 nd.op, .i .i64 nd.value.kind, .i .i64 nd.value.int, .s nd.value.text, .b nd.value.bool, .f nd.value.rate, .i .i64 nd.ref.scope, .s nd.ref.name, .i .i64 nd.a, .i .i64 nd.b]], []⟩) (⟨[.cells (rowC (fs ++ [fs.length]) ns.length), .cells (rowC (ds ++ [1]) ns.length), .cells [.i .i64 nd.op, .i .i64 nd.value.kind, .i .i64 nd.value.int, .s nd.value.text, .b nd.value.bool, .f nd.value.rate, .i .i64 nd.ref.scope, .s nd.ref.name, .i .i64 nd.a, .i .i64 nd.b]], []⟩))) (by kernel_rfl) rfl (fun S S' h => by simp only [h 19 (by decide), h 21 (by decide)]) rfl (allP0 ⟨?_, ?_, ?_, ?_, ?_, ?_, ?_, ?_, ?_, ?_, ?_, ?_, ?_, ?_, ?_, ?_, ?_, ?_, ?_, ?_, ?_, ?_, trivial⟩) ?_
              · intro S hSi hcl hdep
                refine aop_wk (F := frl [(5, .arr 0 ns.length 3)]) (wk_frl (wk_cons (frS_ext rfl rfl) (wk_nil))) (aop_pop (r := .arr 0 ns.length 3) (rfl) ⟨fun d hd => (by cases hd; rfl), ?_⟩)
                simp only [show setS S 0 19 = S 19 from setS_ne rfl, show setS S 0 21 = S 21 from setS_ne rfl]
              · intro S hSi hcl hdep
                refine aop_wk (F := frl [(7, .i .i64 ((fs.length : Nat) : Int))]) (wk_frl (wk_cons (frS_ext rfl rfl) (wk_nil))) (aop_pop (r := .i .i64 ((fs.length : Nat) : Int)) (rfl) ⟨fun d hd => (by cases hd; rfl), ?_⟩)
                simp only [show setS S 1 19 = S 19 from setS_ne rfl, show setS S 1 21 = S 21 from setS_ne rfl]
              · intro S hSi hcl hdep
                refine aop_wk (F := frl [(6, .arr 1 ns.length 3)]) (wk_frl (wk_cons (frS_ext rfl rfl) (wk_nil))) (aop_pop (r := .arr 1 ns.length 3) (rfl) ⟨fun d hd => (by cases hd; rfl), ?_⟩)
                simp only [show setS S 2 19 = S 19 from setS_ne rfl, show setS S 2 21 = S 21 from setS_ne rfl]
              · intro S hSi hcl hdep
                refine aop_wk (F := frl [(7, .i .i64 ((fs.length : Nat) : Int))]) (wk_frl (wk_cons (frS_ext rfl rfl) (wk_nil))) (aop_pop (r := .i .i64 ((fs.length : Nat) : Int)) (rfl) ⟨fun d hd => (by cases hd; rfl), ?_⟩)
                simp only [show setS S 3 19 = S 19 from setS_ne rfl, show setS S 3 21 = S 21 from setS_ne rfl]
              · intro S hSi hcl hdep
                refine aop_wk (F := frl [(5, .arr 0 ns.length 3)]) (wk_frl (wk_cons (frS_ext rfl rfl) (wk_nil))) (aop_pop (r := .arr 0 ns.length 3) (rfl) ⟨fun d hd => (by cases hd; rfl), ?_⟩)
                simp only [show setS S 4 19 = S 19 from setS_ne rfl, show setS S 4 21 = S 21 from setS_ne rfl]
              · intro S hSi hcl hdep
                refine aop_wk (F := frl [(9, .i .i64 ((f1 - 1 : Nat) : Int))]) (wk_frl (wk_cons (frS_ext rfl rfl) (wk_nil))) (aop_pop (r := .i .i64 ((f1 - 1 : Nat) : Int)) (rfl) ⟨fun d hd => (by cases hd; rfl), ?_⟩)
                simp only [show setS S 5 19 = S 19 from setS_ne rfl, show setS S 5 21 = S 21 from setS_ne rfl]
              · intro S hSi hcl hdep
                have h4 : S 4 = true := hdep ⟨4, .data⟩ (by simp) rfl
                have h5 : S 5 = true := hdep ⟨5, .data⟩ (by simp) rfl
                refine aop_wk (F := frl [(81, .arr 0 ns.length 3), (82, .i .i64 ((f1 - 1 : Nat) : Int))]) (wk_frl (wk_cons (frS_get rfl h4 rfl) (wk_cons (frS_get rfl h5 rfl) (wk_nil)))) (aop_pop (r := .ptr 0 (f1 - 1)) (pop_idxR rfl rfl rfl rfl rfl (by omega)) ⟨fun d hd => (by cases hd; rfl), ?_⟩)
                simp only [show setS S 6 19 = S 19 from setS_ne rfl, show setS S 6 21 = S 21 from setS_ne rfl]
              · intro S hSi hcl hdep
                have h6 : S 6 = true := hdep ⟨6, .data⟩ (by simp) rfl
                have hs19 : S 19 = false := by
                    cases hh : S 19 with
                    | false => rfl
                    | true => exact absurd (hcl 19 _ rfl hh ⟨7, .data⟩ (by simp) rfl) (by simp [hSi])
                have hs21 : S 21 = false := by
                    cases hh : S 21 with
                    | false => rfl
                    | true => exact absurd (hcl 21 _ rfl hh ⟨7, .phase⟩ (by simp) rfl) (by simp [hSi])
                simp only [hs19, hs21, cond_true, cond_false]
                refine aop_wk (F := frl [(83, .ptr 0 (f1 - 1))]) (wk_frl (wk_cons (frS_get rfl h6 rfl) (wk_nil))) (aop_pop (r := .i .i64 ((f : Nat) : Int)) (pop_loadR rfl rfl rfl (rowC_get (get_app hf))) ⟨fun d hd => (by cases hd; rfl), ?_⟩)
                simp only [show setS S 7 19 = S 19 from setS_ne rfl, hs19, show setS S 7 21 = S 21 from setS_ne rfl, hs21, cond_true, cond_false]
              · intro S hSi hcl hdep
                refine aop_wk (F := frl [(6, .arr 1 ns.length 3)]) (wk_frl (wk_cons (frS_ext rfl rfl) (wk_nil))) (aop_pop (r := .arr 1 ns.length 3) (rfl) ⟨fun d hd => (by cases hd; rfl), ?_⟩)
                simp only [show setS S 8 19 = S 19 from setS_ne rfl, show setS S 8 21 = S 21 from setS_ne rfl]
              · intro S hSi hcl hdep
                refine aop_wk (F := frl [(9, .i .i64 ((f1 - 1 : Nat) : Int))]) (wk_frl (wk_cons (frS_ext rfl rfl) (wk_nil))) (aop_pop (r := .i .i64 ((f1 - 1 : Nat) : Int)) (rfl) ⟨fun d hd => (by cases hd; rfl), ?_⟩)
                simp only [show setS S 9 19 = S 19 from setS_ne rfl, show setS S 9 21 = S 21 from setS_ne rfl]
              · intro S hSi hcl hdep
                have h8 : S 8 = true := hdep ⟨8, .data⟩ (by simp) rfl
                have h9 : S 9 = true := hdep ⟨9, .data⟩ (by simp) rfl
                refine aop_wk (F := frl [(85, .arr 1 ns.length 3), (86, .i .i64 ((f1 - 1 : Nat) : Int))]) (wk_frl (wk_cons (frS_get rfl h8 rfl) (wk_cons (frS_get rfl h9 rfl) (wk_nil)))) (aop_pop (r := .ptr 1 (f1 - 1)) (pop_idxR rfl rfl rfl rfl rfl (by omega)) ⟨fun d hd => (by cases hd; rfl), ?_⟩)
                simp only [show setS S 10 19 = S 19 from setS_ne rfl, show setS S 10 21 = S 21 from setS_ne rfl]
              · intro S hSi hcl hdep
                have h10 : S 10 = true := hdep ⟨10, .data⟩ (by simp) rfl
                have hs19 : S 19 = false := by
                    cases hh : S 19 with
                    | false => rfl
                    | true => exact absurd (hcl 19 _ rfl hh ⟨11, .phase⟩ (by simp) rfl) (by simp [hSi])
                have hs21 : S 21 = false := by
                    cases hh : S 21 with
                    | false => rfl
                    | true => exact absurd (hcl 21 _ rfl hh ⟨11, .phase⟩ (by simp) rfl) (by simp [hSi])
                simp only [hs19, hs21, cond_true, cond_false]
                refine aop_wk (F := frl [(87, .ptr 1 (f1 - 1))]) (wk_frl (wk_cons (frS_get rfl h10 rfl) (wk_nil))) (aop_pop (r := .i .i64 ((d1 : Nat) : Int)) (pop_loadR rfl rfl rfl (rowC_get (get_app hd1))) ⟨fun d hd => (by cases hd; rfl), ?_⟩)
                simp only [show setS S 11 19 = S 19 from setS_ne rfl, hs19, show setS S 11 21 = S 21 from setS_ne rfl, hs21, cond_true, cond_false]
              · intro S hSi hcl hdep
                refine aop_wk (F := frl [(6, .arr 1 ns.length 3)]) (wk_frl (wk_cons (frS_ext rfl rfl) (wk_nil))) (aop_pop (r := .arr 1 ns.length 3) (rfl) ⟨fun d hd => (by cases hd; rfl), ?_⟩)
                simp only [show setS S 12 19 = S 19 from setS_ne rfl, show setS S 12 21 = S 21 from setS_ne rfl]
              · intro S hSi hcl hdep
                refine aop_wk (F := frl [(10, .i .i64 ((fs.length - 1 : Nat) : Int))]) (wk_frl (wk_cons (frS_ext rfl rfl) (wk_nil))) (aop_pop (r := .i .i64 ((fs.length - 1 : Nat) : Int)) (rfl) ⟨fun d hd => (by cases hd; rfl), ?_⟩)
                simp only [show setS S 13 19 = S 19 from setS_ne rfl, show setS S 13 21 = S 21 from setS_ne rfl]
              · intro S hSi hcl hdep
                have h12 : S 12 = true := hdep ⟨12, .data⟩ (by simp) rfl
                have h13 : S 13 = true := hdep ⟨13, .data⟩ (by simp) rfl
                refine aop_wk (F := frl [(89, .arr 1 ns.length 3), (90, .i .i64 ((fs.length - 1 : Nat) : Int))]) (wk_frl (wk_cons (frS_get rfl h12 rfl) (wk_cons (frS_get rfl h13 rfl) (wk_nil)))) (aop_pop (r := .ptr 1 (fs.length - 1)) (pop_idxR rfl rfl rfl rfl rfl (by omega)) ⟨fun d hd => (by cases hd; rfl), ?_⟩)
                simp only [show setS S 14 19 = S 19 from setS_ne rfl, show setS S 14 21 = S 21 from setS_ne rfl]
              · intro S hSi hcl hdep
                have h14 : S 14 = true := hdep ⟨14, .data⟩ (by simp) rfl
                have hs19 : S 19 = false := by
                    cases hh : S 19 with
                    | false => rfl
                    | true => exact absurd (hcl 19 _ rfl hh ⟨15, .phase⟩ (by simp) rfl) (by simp [hSi])
                have hs21 : S 21 = false := by
                    cases hh : S 21 with
                    | false => rfl
                    | true => exact absurd (hcl 21 _ rfl hh ⟨15, .phase⟩ (by simp) rfl) (by simp [hSi])
                simp only [hs19, hs21, cond_true, cond_false]
                refine aop_wk (F := frl [(91, .ptr 1 (fs.length - 1))]) (wk_frl (wk_cons (frS_get rfl h14 rfl) (wk_nil))) (aop_pop (r := .i .i64 ((d2 : Nat) : Int)) (pop_loadR rfl rfl rfl (rowC_get (get_app hd2))) ⟨fun d hd => (by cases hd; rfl), ?_⟩)
                simp only [show setS S 15 19 = S 19 from setS_ne rfl, hs19, show setS S 15 21 = S 21 from setS_ne rfl, hs21, cond_true, cond_false]
              · intro S hSi hcl hdep
                have h11 : S 11 = true := hdep ⟨11, .data⟩ (by simp) rfl
                have h15 : S 15 = true := hdep ⟨15, .data⟩ (by simp) rfl
                refine aop_wk (F := frl [(88, .i .i64 ((d1 : Nat) : Int)), (92, .i .i64 ((d2 : Nat) : Int))]) (wk_frl (wk_cons (frS_get rfl h11 rfl) (wk_cons (frS_get rfl h15 rfl) (wk_nil)))) (aop_pop (r := .i .i64 ((max d1 d2 : Nat) : Int)) (pop_to rfl (by congr 1; omega)) ⟨fun d hd => (by cases hd; rfl), ?_⟩)
                simp only [show setS S 16 19 = S 19 from setS_ne rfl, show setS S 16 21 = S 21 from setS_ne rfl]
              · intro S hSi hcl hdep
                have h16 : S 16 = true := hdep ⟨16, .data⟩ (by simp) rfl
                refine aop_wk (F := frl [(93, .i .i64 ((max d1 d2 : Nat) : Int))]) (wk_frl (wk_cons (frS_get rfl h16 rfl) (wk_nil))) (aop_pop (r := .i .i64 ((max d1 d2 + 1 : Nat) : Int)) (pop_to rfl (wrap_succ (by omega))) ⟨fun d hd => (by cases hd; rfl), ?_⟩)
                simp only [show setS S 17 19 = S 19 from setS_ne rfl, show setS S 17 21 = S 21 from setS_ne rfl]
              · intro S hSi hcl hdep
                have h0 : S 0 = true := hdep ⟨0, .data⟩ (by simp) rfl
                have h1 : S 1 = true := hdep ⟨1, .data⟩ (by simp) rfl
                refine aop_wk (F := frl [(77, .arr 0 ns.length 3), (78, .i .i64 ((fs.length : Nat) : Int))]) (wk_frl (wk_cons (frS_get rfl h0 rfl) (wk_cons (frS_get rfl h1 rfl) (wk_nil)))) (aop_pop (r := .ptr 0 fs.length) (pop_idxR rfl rfl rfl rfl rfl (by omega)) ⟨fun d hd => (by cases hd; rfl), ?_⟩)
                simp only [show setS S 18 19 = S 19 from setS_ne rfl, show setS S 18 21 = S 21 from setS_ne rfl]
              · intro S hSi hcl hdep
                have h7 : S 7 = true := hdep ⟨7, .data⟩ (by simp) rfl
                have h18 : S 18 = true := hdep ⟨18, .data⟩ (by simp) rfl
                have hs19 : S 19 = false := hSi
                have hs21 : S 21 = false := by
                    cases hh : S 21 with
                    | false => rfl
                    | true => exact absurd (hcl 21 _ rfl hh ⟨19, .chain⟩ (by simp) rfl) (by simp [hSi])
                simp only [hs19, hs21, cond_true, cond_false]
                refine aop_wk (F := frl [(84, .i .i64 ((f : Nat) : Int)), (95, .ptr 0 fs.length)]) (wk_frl (wk_cons (frS_get rfl h7 rfl) (wk_cons (frS_get rfl h18 rfl) (wk_nil)))) (aop_store' rfl rfl rfl rfl rfl rfl rfl (by rw [rowC_len (by first | omega | (simp; omega))]; omega) ⟨fun d hd => (by cases hd), ?_⟩)
                simp only [show setS S 19 19 = true from setS_same, show setS S 19 21 = S 21 from setS_ne rfl, hs21, cond_true, cond_false, rowC_last]
                try rfl
              · intro S hSi hcl hdep
                have h2 : S 2 = true := hdep ⟨2, .data⟩ (by simp) rfl
                have h3 : S 3 = true := hdep ⟨3, .data⟩ (by simp) rfl
                refine aop_wk (F := frl [(79, .arr 1 ns.length 3), (80, .i .i64 ((fs.length : Nat) : Int))]) (wk_frl (wk_cons (frS_get rfl h2 rfl) (wk_cons (frS_get rfl h3 rfl) (wk_nil)))) (aop_pop (r := .ptr 1 fs.length) (pop_idxR rfl rfl rfl rfl rfl (by omega)) ⟨fun d hd => (by cases hd; rfl), ?_⟩)
                simp only [show setS S 20 19 = S 19 from setS_ne rfl, show setS S 20 21 = S 21 from setS_ne rfl]
              · intro S hSi hcl hdep
                have h17 : S 17 = true := hdep ⟨17, .data⟩ (by simp) rfl
                have h20 : S 20 = true := hdep ⟨20, .data⟩ (by simp) rfl
                have hs19 : S 19 = true := hdep ⟨19, .chain⟩ (by simp) rfl
                have hs21 : S 21 = false := hSi
                simp only [hs19, hs21, cond_true, cond_false]
                refine aop_wk (F := frl [(94, .i .i64 ((max d1 d2 + 1 : Nat) : Int)), (96, .ptr 1 fs.length)]) (wk_frl (wk_cons (frS_get rfl h17 rfl) (wk_cons (frS_get rfl h20 rfl) (wk_nil)))) (aop_store' rfl rfl rfl rfl rfl rfl rfl (by rw [rowC_len (by first | omega | (simp; omega))]; omega) ⟨fun d hd => (by cases hd), ?_⟩)
                simp only [show setS S 21 19 = S 19 from setS_ne rfl, hs19, show setS S 21 21 = true from setS_same, cond_true, cond_false, hl, rowC_last]
                try rfl
              refine ab_norm ?_
              refine at_norm ?_
              refine wp_reg ?_
              refine st_pop rfl rfl rfl rfl ?_
              refine st_pop rfl rfl rfl rfl ?_
              refine st_pop rfl rfl rfl rfl ?_
              refine st_pop rfl rfl rfl rfl ?_
              refine st_pop rfl rfl rfl rfl ?_
              refine st_bit 101 rfl fun b hb10 => ?_
              cases b
              · try simp only [decide_eq_true_eq, decide_eq_false_iff_not, Bool.not_eq_true', Bool.not_eq_false', Int.not_lt, Int.not_le] at hb10
                refine st_pop rfl rfl rfl rfl ?_
                refine st_pop rfl rfl rfl rfl ?_
                refine st_pop rfl rfl rfl rfl ?_
                refine st_pop rfl rfl rfl rfl ?_
                refine st_pop rfl rfl rfl rfl ?_
                refine st_pop rfl rfl rfl rfl ?_
                refine st_bit 107 rfl fun b hb11 => ?_
                cases b
                · try simp only [decide_eq_true_eq, decide_eq_false_iff_not, Bool.not_eq_true', Bool.not_eq_false', Int.not_lt, Int.not_le] at hb11
                  refine st_pop rfl rfl rfl rfl ?_
                  refine st_calc (xs := [.tmp 108]) _ rfl rfl rfl rfl Try.func48 rfl rfl rfl (plain_c nd hfit _) ?_
                  refine st_pop rfl rfl rfl rfl ?_
                  refine st_pop rfl rfl rfl rfl ?_
                  refine st_nil ?_
                  refine wp_bit 111 rfl fun b hb12 => ?_
                  cases b
                  · try simp only [decide_eq_true_eq, decide_eq_false_iff_not, Bool.not_eq_true', Bool.not_eq_false', Int.not_lt, Int.not_le] at hb12
                    refine wp_f rfl ?_
                    refine awp_skip ?_
                    refine ab_norm ?_
                    refine at_norm ?_
                    refine awp_region ?_
                    refine st_pop rfl rfl rfl rfl ?_
                    refine st_val 112 (.i .i64 ((fs.length + 1 : Nat) : Int)) rfl (wrap_succ (by omega)) ?_
                    refine st_pop rfl rfl rfl rfl ?_
                    refine st_nil ?_
                    refine at_norm ?_
                    refine ⟨(fs ++ [f], ds ++ [max d1 d2 + 1]), hi.step hnd (by first | exact step_zero (by assumption) (by assumption) (by assumption) (by assumption) (by omega) (by omega) | exact step_one (by assumption) (by assumption) (by omega) hf hd (by omega) (by omega) | exact step_two (by assumption) (by assumption) (by omega) hf1 (by omega) hf hd1 hd2 (by omega) (by omega)) (by omega) (by omega), wk_frl (wk_cons rfl (wk_cons rfl (wk_cons rfl (wk_cons rfl (wk_cons (by show AV.i .i64 _ = _; simp) wk_nil))))), ⟨_, rfl⟩, rfl, by simp; omega⟩
                  · try simp only [decide_eq_true_eq, decide_eq_false_iff_not, Bool.not_eq_true', Bool.not_eq_false', Int.not_lt, Int.not_le] at hb12
                    refine wp_t rfl ?_
                    refine wp_reg ?_
                    refine st_pop rfl rfl rfl rfl ?_
                    refine st_pop rfl rfl rfl rfl ?_
                    refine st_pop rfl rfl rfl rfl ?_
                    refine st_nil ?_
                    refine awp_ret ?_
                    refine ab_ret ?_
                    refine at_ret ?_
                    refine at_ret ?_
                    refine ab_ret ?_
                    refine at_ret ?_
                    refine ret_ret rfl rfl ?_
                    rw [shape_none (hi.fail hnd (by first | exact no_plain (by assumption) | exact no_op (by assumption) | exact no_zero (by assumption) (by assumption) (by assumption) (by omega) | exact no_one (by assumption) (by omega) | exact no_two (by assumption) (.inl (by omega)) | exact no_two (by assumption) (.inr ⟨f1, hf1, by omega⟩)))]
                    exact .tup (.cons (.nil _) (.cons (.nil _) (.cons (.refl _) .nil)))
                · try simp only [decide_eq_true_eq, decide_eq_false_iff_not, Bool.not_eq_true', Bool.not_eq_false', Int.not_lt, Int.not_le] at hb11
                  refine st_skip rfl rfl rfl ?_
                  refine st_skip rfl rfl rfl ?_
                  refine st_skip rfl rfl rfl ?_
                  refine st_pop rfl rfl rfl rfl ?_
                  refine st_nil ?_
                  refine wp_t rfl ?_
                  refine wp_reg ?_
                  refine st_pop rfl rfl rfl rfl ?_
                  refine st_pop rfl rfl rfl rfl ?_
                  refine st_pop rfl rfl rfl rfl ?_
                  refine st_nil ?_
                  refine awp_ret ?_
                  refine ab_ret ?_
                  refine at_ret ?_
                  refine at_ret ?_
                  refine ab_ret ?_
                  refine at_ret ?_
                  refine ret_ret rfl rfl ?_
                  rw [shape_none (hi.fail hnd (by first | exact no_plain (by assumption) | exact no_op (by assumption) | exact no_zero (by assumption) (by assumption) (by assumption) (by omega) | exact no_one (by assumption) (by omega) | exact no_two (by assumption) (.inl (by omega)) | exact no_two (by assumption) (.inr ⟨f1, hf1, by omega⟩)))]
                  exact .tup (.cons (.nil _) (.cons (.nil _) (.cons (.refl _) .nil)))
              · try simp only [decide_eq_true_eq, decide_eq_false_iff_not, Bool.not_eq_true', Bool.not_eq_false', Int.not_lt, Int.not_le] at hb10
                refine st_skip rfl rfl rfl ?_
                refine st_skip rfl rfl rfl ?_
                refine st_skip rfl rfl rfl ?_
                refine st_skip rfl rfl rfl ?_
                refine st_pop rfl rfl rfl rfl ?_
                refine st_pop rfl rfl rfl rfl ?_
                refine st_skip rfl rfl rfl ?_
                refine st_skip rfl rfl rfl ?_
                refine st_skip rfl rfl rfl ?_
                refine st_pop rfl rfl rfl rfl ?_
                refine st_nil ?_
                refine wp_t rfl ?_
                refine wp_reg ?_
                refine st_pop rfl rfl rfl rfl ?_
                refine st_pop rfl rfl rfl rfl ?_
                refine st_pop rfl rfl rfl rfl ?_
                refine st_nil ?_
                refine awp_ret ?_
                refine ab_ret ?_
                refine at_ret ?_
                refine at_ret ?_
                refine ab_ret ?_
                refine at_ret ?_
                refine ret_ret rfl rfl ?_
                rw [shape_none (hi.fail hnd (by first | exact no_plain (by assumption) | exact no_op (by assumption) | exact no_zero (by assumption) (by assumption) (by assumption) (by omega) | exact no_one (by assumption) (by omega) | exact no_two (by assumption) (.inl (by omega)) | exact no_two (by assumption) (.inr ⟨f1, hf1, by omega⟩)))]
                exact .tup (.cons (.nil _) (.cons (.nil _) (.cons (.refl _) .nil)))
            · try simp only [decide_eq_true_eq, decide_eq_false_iff_not, Bool.not_eq_true', Bool.not_eq_false', Int.not_lt, Int.not_le] at hb9
              refine wp_t rfl ?_
              refine wp_reg ?_
              refine st_pop rfl rfl rfl rfl ?_
              refine st_pop rfl rfl rfl rfl ?_
              refine st_pop rfl rfl rfl rfl ?_
              refine st_nil ?_
              refine awp_ret ?_
              refine at_ret ?_
              refine ab_ret ?_
              refine at_ret ?_
              refine ab_ret ?_
              refine at_ret ?_
              refine at_ret ?_
              refine ab_ret ?_
              refine at_ret ?_
              refine ret_ret rfl rfl ?_
              rw [shape_none (hi.fail hnd (by first | exact no_plain (by assumption) | exact no_op (by assumption) | exact no_zero (by assumption) (by assumption) (by assumption) (by omega) | exact no_one (by assumption) (by omega) | exact no_two (by assumption) (.inl (by omega)) | exact no_two (by assumption) (.inr ⟨f1, hf1, by omega⟩)))]
              exact .tup (.cons (.nil _) (.cons (.nil _) (.cons (.refl _) .nil)))
          · try simp only [decide_eq_true_eq, decide_eq_false_iff_not, Bool.not_eq_true', Bool.not_eq_false', Int.not_lt, Int.not_le] at hb8
            refine st_skip rfl rfl rfl ?_
            refine st_skip rfl rfl rfl ?_
            refine st_skip rfl rfl rfl ?_
            refine st_skip rfl rfl rfl ?_
            refine st_skip rfl rfl rfl ?_
            refine st_skip rfl rfl rfl ?_
            refine st_pop rfl rfl rfl rfl ?_
            refine st_nil ?_
            refine wp_t rfl ?_
            refine wp_reg ?_
            refine st_pop rfl rfl rfl rfl ?_
            refine st_pop rfl rfl rfl rfl ?_
            refine st_pop rfl rfl rfl rfl ?_
            refine st_nil ?_
            refine awp_ret ?_
            refine at_ret ?_
            refine ab_ret ?_
            refine at_ret ?_
            refine ab_ret ?_
            refine at_ret ?_
            refine at_ret ?_
            refine ab_ret ?_
            refine at_ret ?_
            refine ret_ret rfl rfl ?_
            rw [shape_none (hi.fail hnd (by first | exact no_plain (by assumption) | exact no_op (by assumption) | exact no_zero (by assumption) (by assumption) (by assumption) (by omega) | exact no_one (by assumption) (by omega) | exact no_two (by assumption) (.inl (by omega)) | exact no_two (by assumption) (.inr ⟨f1, hf1, by omega⟩)))]
            exact .tup (.cons (.nil _) (.cons (.nil _) (.cons (.refl _) .nil)))
      · try simp only [decide_eq_true_eq, decide_eq_false_iff_not, Bool.not_eq_true', Bool.not_eq_false', Int.not_lt, Int.not_le] at hb3
        refine wp_t rfl ?_
        refine awp_seq ?_
        refine wp_reg ?_
        refine st_pop rfl rfl rfl rfl ?_
        refine st_pop rfl rfl rfl rfl ?_
        refine st_nil ?_
        refine wp_bit 39 rfl fun b hb13 => ?_
        cases b
        · try simp only [decide_eq_true_eq, decide_eq_false_iff_not, Bool.not_eq_true', Bool.not_eq_false', Int.not_lt, Int.not_le] at hb13
          obtain ⟨f, hf⟩ : ∃ f, fs[fs.length - 1]? = some f := ⟨_, List.getElem?_eq_getElem (by omega)⟩
          obtain ⟨d, hd⟩ : ∃ d, ds[fs.length - 1]? = some d := ⟨_, List.getElem?_eq_getElem (by omega)⟩
          have hfb := hi.hf _ _ hf
          have hdb := hi.hd _ _ hd
          refine wp_f rfl ?_
          refine awp_skip ?_
          refine at_norm ?_
          refine wp_reg ?_
          refine st_pop rfl rfl rfl rfl ?_
          refine st_pop rfl rfl rfl rfl ?_
          refine st_val 41 (.i .i64 ((fs.length - 1 : Nat) : Int)) rfl (wrap_pred (by omega) (by omega)) ?_
          refine st_pop rfl rfl rfl rfl ?_
          refine st_nil ?_
          refine awp_mix [.arr 0 ns.length 3, .i .i64 ((fs.length : Nat) : Int), .arr 1 ns.length 3, .i .i64 ((fs.length : Nat) : Int), .arr 0 ns.length 3, .i .i64 ((fs.length - 1 : Nat) : Int), .ptr 0 (fs.length - 1), .i .i64 ((f : Nat) : Int), .arr 1 ns.length 3, .i .i64 ((fs.length - 1 : Nat) : Int), .ptr 1 (fs.length - 1), .i .i64 ((d : Nat) : Int), .i .i64 ((d + 1 : Nat) : Int), .ptr 0 fs.length, .u, .ptr 1 fs.length, .u] (fun S => cond (S 16) (⟨[.cells (rowC (fs ++ [f]) ns.length), .cells (rowC (ds ++ [d + 1]) ns.length), .cells [.i .i64 nd.op, .i .i64 nd.value.kind, .i .i64 nd.value.int, .s nd.value.text, .b nd.value.bool, .f nd.value.rate, .i .i64 nd.ref.scope, .s nd.ref.name, .i .i64 nd.a, .i .i64 nd.b]], []⟩) (cond (S 14) (⟨[.cells (rowC (fs ++ [f]) ns.length), .cells (rowC (ds ++ [1]) ns.length), .cells [.i .i64 nd.op, .i .i64 nd.value.kind, .i .i64 nd.value.int, .s nd.value.text, .b nd.value.bool, .f nd.value.rate, .i .i64 nd.ref.scope, .s nd.ref.name, .i .i64 nd.a, .i .i64 nd.b]], []⟩) (⟨[.cells (rowC (fs ++ [fs.length]) ns.length), .cells (rowC (ds ++ [1]) ns.length), .cells [.i .i64 nd.op, .i .i64 nd.value.kind, .i .i64 nd.value.int, .s nd.value.text, .b nd.value.bool, .f nd.value.rate, .i .i64 nd.ref.scope, .s nd.ref.name, .i .i64 nd.a, .i .i64 nd.b]], []⟩))) (by kernel_rfl) rfl (fun S S' h => by simp only [h 14 (by decide), h 16 (by decide)]) rfl (allP0 ⟨?_, ?_, ?_, ?_, ?_, ?_, ?_, ?_, ?_, ?_, ?_, ?_, ?_, ?_, ?_, ?_, ?_, trivial⟩) ?_
          · intro S hSi hcl hdep
            refine aop_wk (F := frl [(5, .arr 0 ns.length 3)]) (wk_frl (wk_cons (frS_ext rfl rfl) (wk_nil))) (aop_pop (r := .arr 0 ns.length 3) (rfl) ⟨fun d hd => (by cases hd; rfl), ?_⟩)
            simp only [show setS S 0 14 = S 14 from setS_ne rfl, show setS S 0 16 = S 16 from setS_ne rfl]
          · intro S hSi hcl hdep
            refine aop_wk (F := frl [(7, .i .i64 ((fs.length : Nat) : Int))]) (wk_frl (wk_cons (frS_ext rfl rfl) (wk_nil))) (aop_pop (r := .i .i64 ((fs.length : Nat) : Int)) (rfl) ⟨fun d hd => (by cases hd; rfl), ?_⟩)
            simp only [show setS S 1 14 = S 14 from setS_ne rfl, show setS S 1 16 = S 16 from setS_ne rfl]
          · intro S hSi hcl hdep
            refine aop_wk (F := frl [(6, .arr 1 ns.length 3)]) (wk_frl (wk_cons (frS_ext rfl rfl) (wk_nil))) (aop_pop (r := .arr 1 ns.length 3) (rfl) ⟨fun d hd => (by cases hd; rfl), ?_⟩)
            simp only [show setS S 2 14 = S 14 from setS_ne rfl, show setS S 2 16 = S 16 from setS_ne rfl]
          · intro S hSi hcl hdep
            refine aop_wk (F := frl [(7, .i .i64 ((fs.length : Nat) : Int))]) (wk_frl (wk_cons (frS_ext rfl rfl) (wk_nil))) (aop_pop (r := .i .i64 ((fs.length : Nat) : Int)) (rfl) ⟨fun d hd => (by cases hd; rfl), ?_⟩)
            simp only [show setS S 3 14 = S 14 from setS_ne rfl, show setS S 3 16 = S 16 from setS_ne rfl]
          · intro S hSi hcl hdep
            refine aop_wk (F := frl [(5, .arr 0 ns.length 3)]) (wk_frl (wk_cons (frS_ext rfl rfl) (wk_nil))) (aop_pop (r := .arr 0 ns.length 3) (rfl) ⟨fun d hd => (by cases hd; rfl), ?_⟩)
            simp only [show setS S 4 14 = S 14 from setS_ne rfl, show setS S 4 16 = S 16 from setS_ne rfl]
          · intro S hSi hcl hdep
            refine aop_wk (F := frl [(9, .i .i64 ((fs.length - 1 : Nat) : Int))]) (wk_frl (wk_cons (frS_ext rfl rfl) (wk_nil))) (aop_pop (r := .i .i64 ((fs.length - 1 : Nat) : Int)) (rfl) ⟨fun d hd => (by cases hd; rfl), ?_⟩)
            simp only [show setS S 5 14 = S 14 from setS_ne rfl, show setS S 5 16 = S 16 from setS_ne rfl]
          · intro S hSi hcl hdep
            have h4 : S 4 = true := hdep ⟨4, .data⟩ (by simp) rfl
            have h5 : S 5 = true := hdep ⟨5, .data⟩ (by simp) rfl
            refine aop_wk (F := frl [(46, .arr 0 ns.length 3), (47, .i .i64 ((fs.length - 1 : Nat) : Int))]) (wk_frl (wk_cons (frS_get rfl h4 rfl) (wk_cons (frS_get rfl h5 rfl) (wk_nil)))) (aop_pop (r := .ptr 0 (fs.length - 1)) (pop_idxR rfl rfl rfl rfl rfl (by omega)) ⟨fun d hd => (by cases hd; rfl), ?_⟩)
            simp only [show setS S 6 14 = S 14 from setS_ne rfl, show setS S 6 16 = S 16 from setS_ne rfl]
          · intro S hSi hcl hdep
            have h6 : S 6 = true := hdep ⟨6, .data⟩ (by simp) rfl
            have hs14 : S 14 = false := by
                cases hh : S 14 with
                | false => rfl
                | true => exact absurd (hcl 14 _ rfl hh ⟨7, .data⟩ (by simp) rfl) (by simp [hSi])
            have hs16 : S 16 = false := by
                cases hh : S 16 with
                | false => rfl
                | true => exact absurd (hcl 16 _ rfl hh ⟨7, .phase⟩ (by simp) rfl) (by simp [hSi])
            simp only [hs14, hs16, cond_true, cond_false]
            refine aop_wk (F := frl [(48, .ptr 0 (fs.length - 1))]) (wk_frl (wk_cons (frS_get rfl h6 rfl) (wk_nil))) (aop_pop (r := .i .i64 ((f : Nat) : Int)) (pop_loadR rfl rfl rfl (rowC_get (get_app hf))) ⟨fun d hd => (by cases hd; rfl), ?_⟩)
            simp only [show setS S 7 14 = S 14 from setS_ne rfl, hs14, show setS S 7 16 = S 16 from setS_ne rfl, hs16, cond_true, cond_false]
          · intro S hSi hcl hdep
            refine aop_wk (F := frl [(6, .arr 1 ns.length 3)]) (wk_frl (wk_cons (frS_ext rfl rfl) (wk_nil))) (aop_pop (r := .arr 1 ns.length 3) (rfl) ⟨fun d hd => (by cases hd; rfl), ?_⟩)
            simp only [show setS S 8 14 = S 14 from setS_ne rfl, show setS S 8 16 = S 16 from setS_ne rfl]
          · intro S hSi hcl hdep
            refine aop_wk (F := frl [(9, .i .i64 ((fs.length - 1 : Nat) : Int))]) (wk_frl (wk_cons (frS_ext rfl rfl) (wk_nil))) (aop_pop (r := .i .i64 ((fs.length - 1 : Nat) : Int)) (rfl) ⟨fun d hd => (by cases hd; rfl), ?_⟩)
            simp only [show setS S 9 14 = S 14 from setS_ne rfl, show setS S 9 16 = S 16 from setS_ne rfl]
          · intro S hSi hcl hdep
            have h8 : S 8 = true := hdep ⟨8, .data⟩ (by simp) rfl
            have h9 : S 9 = true := hdep ⟨9, .data⟩ (by simp) rfl
            refine aop_wk (F := frl [(50, .arr 1 ns.length 3), (51, .i .i64 ((fs.length - 1 : Nat) : Int))]) (wk_frl (wk_cons (frS_get rfl h8 rfl) (wk_cons (frS_get rfl h9 rfl) (wk_nil)))) (aop_pop (r := .ptr 1 (fs.length - 1)) (pop_idxR rfl rfl rfl rfl rfl (by omega)) ⟨fun d hd => (by cases hd; rfl), ?_⟩)
            simp only [show setS S 10 14 = S 14 from setS_ne rfl, show setS S 10 16 = S 16 from setS_ne rfl]
          · intro S hSi hcl hdep
            have h10 : S 10 = true := hdep ⟨10, .data⟩ (by simp) rfl
            have hs14 : S 14 = false := by
                cases hh : S 14 with
                | false => rfl
                | true => exact absurd (hcl 14 _ rfl hh ⟨11, .phase⟩ (by simp) rfl) (by simp [hSi])
            have hs16 : S 16 = false := by
                cases hh : S 16 with
                | false => rfl
                | true => exact absurd (hcl 16 _ rfl hh ⟨11, .phase⟩ (by simp) rfl) (by simp [hSi])
            simp only [hs14, hs16, cond_true, cond_false]
            refine aop_wk (F := frl [(52, .ptr 1 (fs.length - 1))]) (wk_frl (wk_cons (frS_get rfl h10 rfl) (wk_nil))) (aop_pop (r := .i .i64 ((d : Nat) : Int)) (pop_loadR rfl rfl rfl (rowC_get (get_app hd))) ⟨fun d hd => (by cases hd; rfl), ?_⟩)
            simp only [show setS S 11 14 = S 14 from setS_ne rfl, hs14, show setS S 11 16 = S 16 from setS_ne rfl, hs16, cond_true, cond_false]
          · intro S hSi hcl hdep
            have h11 : S 11 = true := hdep ⟨11, .data⟩ (by simp) rfl
            refine aop_wk (F := frl [(53, .i .i64 ((d : Nat) : Int))]) (wk_frl (wk_cons (frS_get rfl h11 rfl) (wk_nil))) (aop_pop (r := .i .i64 ((d + 1 : Nat) : Int)) (pop_to rfl (wrap_succ (by omega))) ⟨fun d hd => (by cases hd; rfl), ?_⟩)
            simp only [show setS S 12 14 = S 14 from setS_ne rfl, show setS S 12 16 = S 16 from setS_ne rfl]
          · intro S hSi hcl hdep
            have h0 : S 0 = true := hdep ⟨0, .data⟩ (by simp) rfl
            have h1 : S 1 = true := hdep ⟨1, .data⟩ (by simp) rfl
            refine aop_wk (F := frl [(42, .arr 0 ns.length 3), (43, .i .i64 ((fs.length : Nat) : Int))]) (wk_frl (wk_cons (frS_get rfl h0 rfl) (wk_cons (frS_get rfl h1 rfl) (wk_nil)))) (aop_pop (r := .ptr 0 fs.length) (pop_idxR rfl rfl rfl rfl rfl (by omega)) ⟨fun d hd => (by cases hd; rfl), ?_⟩)
            simp only [show setS S 13 14 = S 14 from setS_ne rfl, show setS S 13 16 = S 16 from setS_ne rfl]
          · intro S hSi hcl hdep
            have h7 : S 7 = true := hdep ⟨7, .data⟩ (by simp) rfl
            have h13 : S 13 = true := hdep ⟨13, .data⟩ (by simp) rfl
            have hs14 : S 14 = false := hSi
            have hs16 : S 16 = false := by
                cases hh : S 16 with
                | false => rfl
                | true => exact absurd (hcl 16 _ rfl hh ⟨14, .chain⟩ (by simp) rfl) (by simp [hSi])
            simp only [hs14, hs16, cond_true, cond_false]
            refine aop_wk (F := frl [(49, .i .i64 ((f : Nat) : Int)), (55, .ptr 0 fs.length)]) (wk_frl (wk_cons (frS_get rfl h7 rfl) (wk_cons (frS_get rfl h13 rfl) (wk_nil)))) (aop_store' rfl rfl rfl rfl rfl rfl rfl (by rw [rowC_len (by first | omega | (simp; omega))]; omega) ⟨fun d hd => (by cases hd), ?_⟩)
            simp only [show setS S 14 14 = true from setS_same, show setS S 14 16 = S 16 from setS_ne rfl, hs16, cond_true, cond_false, rowC_last]
            try rfl
          · intro S hSi hcl hdep
            have h2 : S 2 = true := hdep ⟨2, .data⟩ (by simp) rfl
            have h3 : S 3 = true := hdep ⟨3, .data⟩ (by simp) rfl
            refine aop_wk (F := frl [(44, .arr 1 ns.length 3), (45, .i .i64 ((fs.length : Nat) : Int))]) (wk_frl (wk_cons (frS_get rfl h2 rfl) (wk_cons (frS_get rfl h3 rfl) (wk_nil)))) (aop_pop (r := .ptr 1 fs.length) (pop_idxR rfl rfl rfl rfl rfl (by omega)) ⟨fun d hd => (by cases hd; rfl), ?_⟩)
            simp only [show setS S 15 14 = S 14 from setS_ne rfl, show setS S 15 16 = S 16 from setS_ne rfl]
          · intro S hSi hcl hdep
            have h12 : S 12 = true := hdep ⟨12, .data⟩ (by simp) rfl
            have h15 : S 15 = true := hdep ⟨15, .data⟩ (by simp) rfl
            have hs14 : S 14 = true := hdep ⟨14, .chain⟩ (by simp) rfl
            have hs16 : S 16 = false := hSi
            simp only [hs14, hs16, cond_true, cond_false]
            refine aop_wk (F := frl [(54, .i .i64 ((d + 1 : Nat) : Int)), (56, .ptr 1 fs.length)]) (wk_frl (wk_cons (frS_get rfl h12 rfl) (wk_cons (frS_get rfl h15 rfl) (wk_nil)))) (aop_store' rfl rfl rfl rfl rfl rfl rfl (by rw [rowC_len (by first | omega | (simp; omega))]; omega) ⟨fun d hd => (by cases hd), ?_⟩)
            simp only [show setS S 16 14 = S 14 from setS_ne rfl, hs14, show setS S 16 16 = true from setS_same, cond_true, cond_false, hl, rowC_last]
            try rfl
          refine ab_norm ?_
          refine at_norm ?_
          refine wp_reg ?_
          refine st_pop rfl rfl rfl rfl ?_
          refine st_pop rfl rfl rfl rfl ?_
          refine st_pop rfl rfl rfl rfl ?_
          refine st_pop rfl rfl rfl rfl ?_
          refine st_pop rfl rfl rfl rfl ?_
          refine st_bit 101 rfl fun b hb14 => ?_
          cases b
          · try simp only [decide_eq_true_eq, decide_eq_false_iff_not, Bool.not_eq_true', Bool.not_eq_false', Int.not_lt, Int.not_le] at hb14
            refine st_pop rfl rfl rfl rfl ?_
            refine st_pop rfl rfl rfl rfl ?_
            refine st_pop rfl rfl rfl rfl ?_
            refine st_pop rfl rfl rfl rfl ?_
            refine st_pop rfl rfl rfl rfl ?_
            refine st_pop rfl rfl rfl rfl ?_
            refine st_bit 107 rfl fun b hb15 => ?_
            cases b
            · try simp only [decide_eq_true_eq, decide_eq_false_iff_not, Bool.not_eq_true', Bool.not_eq_false', Int.not_lt, Int.not_le] at hb15
              refine st_pop rfl rfl rfl rfl ?_
              refine st_calc (xs := [.tmp 108]) _ rfl rfl rfl rfl Try.func48 rfl rfl rfl (plain_c nd hfit _) ?_
              refine st_pop rfl rfl rfl rfl ?_
              refine st_pop rfl rfl rfl rfl ?_
              refine st_nil ?_
              refine wp_bit 111 rfl fun b hb16 => ?_
              cases b
              · try simp only [decide_eq_true_eq, decide_eq_false_iff_not, Bool.not_eq_true', Bool.not_eq_false', Int.not_lt, Int.not_le] at hb16
                refine wp_f rfl ?_
                refine awp_skip ?_
                refine ab_norm ?_
                refine at_norm ?_
                refine awp_region ?_
                refine st_pop rfl rfl rfl rfl ?_
                refine st_val 112 (.i .i64 ((fs.length + 1 : Nat) : Int)) rfl (wrap_succ (by omega)) ?_
                refine st_pop rfl rfl rfl rfl ?_
                refine st_nil ?_
                refine at_norm ?_
                refine ⟨(fs ++ [f], ds ++ [d + 1]), hi.step hnd (by first | exact step_zero (by assumption) (by assumption) (by assumption) (by assumption) (by omega) (by omega) | exact step_one (by assumption) (by assumption) (by omega) hf hd (by omega) (by omega) | exact step_two (by assumption) (by assumption) (by omega) hf1 (by omega) hf hd1 hd2 (by omega) (by omega)) (by omega) (by omega), wk_frl (wk_cons rfl (wk_cons rfl (wk_cons rfl (wk_cons rfl (wk_cons (by show AV.i .i64 _ = _; simp) wk_nil))))), ⟨_, rfl⟩, rfl, by simp; omega⟩
              · try simp only [decide_eq_true_eq, decide_eq_false_iff_not, Bool.not_eq_true', Bool.not_eq_false', Int.not_lt, Int.not_le] at hb16
                refine wp_t rfl ?_
                refine wp_reg ?_
                refine st_pop rfl rfl rfl rfl ?_
                refine st_pop rfl rfl rfl rfl ?_
                refine st_pop rfl rfl rfl rfl ?_
                refine st_nil ?_
                refine awp_ret ?_
                refine ab_ret ?_
                refine at_ret ?_
                refine at_ret ?_
                refine ab_ret ?_
                refine at_ret ?_
                refine ret_ret rfl rfl ?_
                rw [shape_none (hi.fail hnd (by first | exact no_plain (by assumption) | exact no_op (by assumption) | exact no_zero (by assumption) (by assumption) (by assumption) (by omega) | exact no_one (by assumption) (by omega) | exact no_two (by assumption) (.inl (by omega)) | exact no_two (by assumption) (.inr ⟨f1, hf1, by omega⟩)))]
                exact .tup (.cons (.nil _) (.cons (.nil _) (.cons (.refl _) .nil)))
            · try simp only [decide_eq_true_eq, decide_eq_false_iff_not, Bool.not_eq_true', Bool.not_eq_false', Int.not_lt, Int.not_le] at hb15
              refine st_skip rfl rfl rfl ?_
              refine st_skip rfl rfl rfl ?_
              refine st_skip rfl rfl rfl ?_
              refine st_pop rfl rfl rfl rfl ?_
              refine st_nil ?_
              refine wp_t rfl ?_
              refine wp_reg ?_
              refine st_pop rfl rfl rfl rfl ?_
              refine st_pop rfl rfl rfl rfl ?_
              refine st_pop rfl rfl rfl rfl ?_
              refine st_nil ?_
              refine awp_ret ?_
              refine ab_ret ?_
              refine at_ret ?_
              refine at_ret ?_
              refine ab_ret ?_
              refine at_ret ?_
              refine ret_ret rfl rfl ?_
              rw [shape_none (hi.fail hnd (by first | exact no_plain (by assumption) | exact no_op (by assumption) | exact no_zero (by assumption) (by assumption) (by assumption) (by omega) | exact no_one (by assumption) (by omega) | exact no_two (by assumption) (.inl (by omega)) | exact no_two (by assumption) (.inr ⟨f1, hf1, by omega⟩)))]
              exact .tup (.cons (.nil _) (.cons (.nil _) (.cons (.refl _) .nil)))
          · try simp only [decide_eq_true_eq, decide_eq_false_iff_not, Bool.not_eq_true', Bool.not_eq_false', Int.not_lt, Int.not_le] at hb14
            refine st_skip rfl rfl rfl ?_
            refine st_skip rfl rfl rfl ?_
            refine st_skip rfl rfl rfl ?_
            refine st_skip rfl rfl rfl ?_
            refine st_pop rfl rfl rfl rfl ?_
            refine st_pop rfl rfl rfl rfl ?_
            refine st_skip rfl rfl rfl ?_
            refine st_skip rfl rfl rfl ?_
            refine st_skip rfl rfl rfl ?_
            refine st_pop rfl rfl rfl rfl ?_
            refine st_nil ?_
            refine wp_t rfl ?_
            refine wp_reg ?_
            refine st_pop rfl rfl rfl rfl ?_
            refine st_pop rfl rfl rfl rfl ?_
            refine st_pop rfl rfl rfl rfl ?_
            refine st_nil ?_
            refine awp_ret ?_
            refine ab_ret ?_
            refine at_ret ?_
            refine at_ret ?_
            refine ab_ret ?_
            refine at_ret ?_
            refine ret_ret rfl rfl ?_
            rw [shape_none (hi.fail hnd (by first | exact no_plain (by assumption) | exact no_op (by assumption) | exact no_zero (by assumption) (by assumption) (by assumption) (by omega) | exact no_one (by assumption) (by omega) | exact no_two (by assumption) (.inl (by omega)) | exact no_two (by assumption) (.inr ⟨f1, hf1, by omega⟩)))]
            exact .tup (.cons (.nil _) (.cons (.nil _) (.cons (.refl _) .nil)))
        · try simp only [decide_eq_true_eq, decide_eq_false_iff_not, Bool.not_eq_true', Bool.not_eq_false', Int.not_lt, Int.not_le] at hb13
          refine wp_t rfl ?_
          refine wp_reg ?_
          refine st_pop rfl rfl rfl rfl ?_
          refine st_pop rfl rfl rfl rfl ?_
          refine st_pop rfl rfl rfl rfl ?_
          refine st_nil ?_
          refine awp_ret ?_
          refine at_ret ?_
          refine ab_ret ?_
          refine at_ret ?_
          refine ab_ret ?_
          refine at_ret ?_
          refine at_ret ?_
          refine ab_ret ?_
          refine at_ret ?_
          refine ret_ret rfl rfl ?_
          rw [shape_none (hi.fail hnd (by first | exact no_plain (by assumption) | exact no_op (by assumption) | exact no_zero (by assumption) (by assumption) (by assumption) (by omega) | exact no_one (by assumption) (by omega) | exact no_two (by assumption) (.inl (by omega)) | exact no_two (by assumption) (.inr ⟨f1, hf1, by omega⟩)))]
          exact .tup (.cons (.nil _) (.cons (.nil _) (.cons (.refl _) .nil)))
    · try simp only [decide_eq_true_eq, decide_eq_false_iff_not, Bool.not_eq_true', Bool.not_eq_false', Int.not_lt, Int.not_le] at hb2
      refine wp_t rfl ?_
      refine wp_reg ?_
      refine st_pop rfl rfl rfl rfl ?_
      refine st_pop rfl rfl rfl rfl ?_
      refine st_pop rfl rfl rfl rfl ?_
      refine st_nil ?_
      refine awp_ret ?_
      refine ab_ret ?_
      refine at_ret ?_
      refine ab_ret ?_
      refine at_ret ?_
      refine at_ret ?_
      refine ab_ret ?_
      refine at_ret ?_
      refine ret_ret rfl rfl ?_
      rw [shape_none (hi.fail hnd (by first | exact no_plain (by assumption) | exact no_op (by assumption) | exact no_zero (by assumption) (by assumption) (by assumption) (by omega) | exact no_one (by assumption) (by omega) | exact no_two (by assumption) (.inl (by omega)) | exact no_two (by assumption) (.inr ⟨f1, hf1, by omega⟩)))]
      exact .tup (.cons (.nil _) (.cons (.nil _) (.cons (.refl _) .nil)))
theorem exprAV_clean (ns : List Nod) : cleanL [.agg [.l none 63 (ns.map Nod.av)]] = true := by simp [cleanL, clean, nods_clean]
theorem listAV_clean (ns : List Nod) (i : Int) : cleanL [.l none 63 (ns.map Nod.av), .i .i64 i] = true := by simp [cleanL, clean, nods_clean]
theorem right_c (ns : List Nod) (hns : ∀ n ∈ ns, n.fit) (hsz : ns.length ≤ maxI) : ∀ H, ACalls tt 17 [.agg [.l none 63 (ns.map Nod.av)]] H (fun res_ H' => res_ = .b (rightE ns) ∧ H' = H) := by
  have hsz : ns.length ≤ 9223372036854775807 := hsz
  refine body_calc (T := tt) Try.func17 rfl Try.ntmps17 rfl rfl (exprAV_clean ns) (by rfl) ?_
  refine wp_reg ?_
  refine st_box rfl rfl rfl rfl rfl rfl rfl rfl rfl ?_
  refine st_pop rfl rfl rfl rfl ?_
  refine st_nil ?_
  refine wp_reg ?_
  refine st_pop rfl rfl rfl rfl ?_
  refine st_pop rfl rfl rfl rfl ?_
  refine st_pop rfl rfl rfl rfl ?_
  refine st_val 9 (.i .i64 ((ns.length : Nat) : Int)) rfl (by simp) ?_
  refine st_pop rfl rfl rfl rfl ?_
  refine st_nil ?_
  refine awp_seq ?_
  refine wp_reg ?_
  refine st_pop rfl rfl rfl rfl ?_
  refine st_pop rfl rfl rfl rfl ?_
  refine st_pop rfl rfl rfl rfl ?_
  refine st_bit 12 rfl fun b hb1 => ?_
  cases b
  · try simp only [decide_eq_true_eq, decide_eq_false_iff_not, Bool.not_eq_true', Bool.not_eq_false', Int.not_lt, Int.not_le] at hb1
    refine st_pop rfl rfl rfl rfl ?_
    refine st_pop rfl rfl rfl rfl ?_
    refine st_pop rfl rfl rfl rfl ?_
    refine st_nil ?_
    refine wp_bit 15 rfl fun b hb2 => ?_
    cases b
    · try simp only [decide_eq_true_eq, decide_eq_false_iff_not, Bool.not_eq_true', Bool.not_eq_false', Int.not_lt, Int.not_le] at hb2
      refine wp_f rfl ?_
      refine awp_skip ?_
      refine at_norm ?_
      refine wp_reg ?_
      refine st_pop rfl rfl rfl rfl ?_
      refine st_pop rfl rfl rfl rfl ?_
      refine st_calc (xs := [.tmp 18]) _ rfl rfl rfl rfl Try.func32 rfl rfl rfl (shape_c ns hns (by omega) _) ?_
      refine st_pop rfl rfl rfl rfl ?_
      refine st_pop rfl rfl rfl rfl ?_
      refine st_pop rfl rfl rfl rfl ?_
      refine st_pop rfl rfl rfl rfl ?_
      refine st_pop rfl rfl rfl rfl ?_
      refine st_pop rfl rfl rfl rfl ?_
      refine st_pop rfl rfl rfl rfl ?_
      refine st_nil ?_
      refine wp_reg ?_
      refine st_pop rfl rfl rfl rfl ?_
      refine st_pop rfl rfl rfl rfl ?_
      refine st_bit 24 rfl fun b hb3 => ?_
      cases b
      · try simp only [decide_eq_true_eq, decide_eq_false_iff_not, Bool.not_eq_true', Bool.not_eq_false', Int.not_lt, Int.not_le] at hb3
        refine st_skip rfl rfl rfl ?_
        refine st_skip rfl rfl rfl ?_
        refine st_skip rfl rfl rfl ?_
        refine st_skip rfl rfl rfl ?_
        refine st_skip rfl rfl rfl ?_
        refine st_skip rfl rfl rfl ?_
        refine st_pop rfl rfl rfl rfl ?_
        refine st_pop rfl rfl rfl rfl ?_
        refine st_skip rfl rfl rfl ?_
        refine st_skip rfl rfl rfl ?_
        refine st_skip rfl rfl rfl ?_
        refine st_skip rfl rfl rfl ?_
        refine st_skip rfl rfl rfl ?_
        refine st_skip rfl rfl rfl ?_
        refine st_pop rfl rfl rfl rfl ?_
        refine st_pop rfl rfl rfl rfl ?_
        refine st_nil ?_
        refine awp_ret ?_
        refine ret_ret rfl rfl ?_
        refine wk_b ?_
        first
          | (simp_all [rightE]; done)
          | (rw [Bool.eq_iff_iff]; simp_all [rightE]; done)
          | (rw [Bool.eq_iff_iff]; simp_all [rightE]; omega)
          | (simp_all [rightE]; omega)
      · try simp only [decide_eq_true_eq, decide_eq_false_iff_not, Bool.not_eq_true', Bool.not_eq_false', Int.not_lt, Int.not_le] at hb3
        have hok := hb3
        refine st_pop rfl rfl rfl rfl ?_
        refine st_pop rfl rfl rfl rfl ?_
        refine st_pop rfl rfl rfl rfl ?_
        refine st_val 27 (.i .i64 ((ns.length - 1 : Nat) : Int)) rfl (wrap_pred (by omega) (by omega)) ?_
        refine st_idxA (n := ns.length - 1) [.i .i64 (((shFs ns).getD (ns.length - 1) 0 : Nat) : Int)] rfl rfl rfl rfl rfl rfl rfl rfl (numsAV_get (getD_some (by rw [(sh_len hok).1]; omega))) ?_
        refine st_pop rfl rfl rfl rfl ?_
        refine st_pop rfl rfl rfl rfl ?_
        refine st_pop rfl rfl rfl rfl ?_
        refine st_pop rfl rfl rfl rfl ?_
        refine st_bit 32 rfl fun b hb4 => ?_
        cases b
        · try simp only [decide_eq_true_eq, decide_eq_false_iff_not, Bool.not_eq_true', Bool.not_eq_false', Int.not_lt, Int.not_le] at hb4
          refine st_skip rfl rfl rfl ?_
          refine st_skip rfl rfl rfl ?_
          refine st_skip rfl rfl rfl ?_
          refine st_skip rfl rfl rfl ?_
          refine st_skip rfl rfl rfl ?_
          refine st_skip rfl rfl rfl ?_
          refine st_pop rfl rfl rfl rfl ?_
          refine st_pop rfl rfl rfl rfl ?_
          refine st_nil ?_
          refine awp_ret ?_
          refine ret_ret rfl rfl ?_
          refine wk_b ?_
          first
            | (simp_all [rightE]; done)
            | (rw [Bool.eq_iff_iff]; simp_all [rightE]; done)
            | (rw [Bool.eq_iff_iff]; simp_all [rightE]; omega)
            | (simp_all [rightE]; omega)
        · try simp only [decide_eq_true_eq, decide_eq_false_iff_not, Bool.not_eq_true', Bool.not_eq_false', Int.not_lt, Int.not_le] at hb4
          refine st_pop rfl rfl rfl rfl ?_
          refine st_pop rfl rfl rfl rfl ?_
          refine st_pop rfl rfl rfl rfl ?_
          refine st_val 35 (.i .i64 ((ns.length - 1 : Nat) : Int)) rfl (wrap_pred (by omega) (by omega)) ?_
          refine st_idxA (n := ns.length - 1) [.i .i64 (((shDs ns).getD (ns.length - 1) 0 : Nat) : Int)] rfl rfl rfl rfl rfl rfl rfl rfl (numsAV_get (getD_some (by rw [(sh_len hok).2]; omega))) ?_
          refine st_pop rfl rfl rfl rfl ?_
          refine st_pop rfl rfl rfl rfl ?_
          refine st_pop rfl rfl rfl rfl ?_
          refine st_pop rfl rfl rfl rfl ?_
          refine st_nil ?_
          refine awp_ret ?_
          refine ret_ret rfl rfl ?_
          refine wk_b ?_
          first
            | (simp_all [rightE]; done)
            | (rw [Bool.eq_iff_iff]; simp_all [rightE]; done)
            | (rw [Bool.eq_iff_iff]; simp_all [rightE]; omega)
            | (simp_all [rightE]; omega)
    · try simp only [decide_eq_true_eq, decide_eq_false_iff_not, Bool.not_eq_true', Bool.not_eq_false', Int.not_lt, Int.not_le] at hb2
      refine wp_t rfl ?_
      refine wp_reg ?_
      refine st_pop rfl rfl rfl rfl ?_
      refine st_nil ?_
      refine awp_ret ?_
      refine at_ret ?_
      refine ret_ret rfl rfl ?_
      refine wk_b ?_
      first
        | (simp_all [rightE]; done)
        | (rw [Bool.eq_iff_iff]; simp_all [rightE]; done)
        | (rw [Bool.eq_iff_iff]; simp_all [rightE]; omega)
        | (simp_all [rightE]; omega)
  · try simp only [decide_eq_true_eq, decide_eq_false_iff_not, Bool.not_eq_true', Bool.not_eq_false', Int.not_lt, Int.not_le] at hb1
    refine st_skip rfl rfl rfl ?_
    refine st_skip rfl rfl rfl ?_
    refine st_pop rfl rfl rfl rfl ?_
    refine st_nil ?_
    refine wp_t rfl ?_
    refine wp_reg ?_
    refine st_pop rfl rfl rfl rfl ?_
    refine st_nil ?_
    refine awp_ret ?_
    refine at_ret ?_
    refine ret_ret rfl rfl ?_
    refine wk_b ?_
    first
      | (simp_all [rightE]; done)
      | (rw [Bool.eq_iff_iff]; simp_all [rightE]; done)
      | (rw [Bool.eq_iff_iff]; simp_all [rightE]; omega)
      | (simp_all [rightE]; omega)
end Go.Proofs.Ytlclgpiabjlpbaa.Am

