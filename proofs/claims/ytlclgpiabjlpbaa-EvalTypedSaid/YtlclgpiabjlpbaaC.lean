/- Walks: the reference's layers 3 and 8 (cells, lists of attributes); what the laws lay into a store. -/
import Derived.Test.YtlclgpiabjlpbaaCe
import Derived.Test.YtlclgpiabjlpbaaE
namespace Go.Proofs.Ytlclgpiabjlpbaa.Am
open Go.RowKit
set_option linter.unusedVariables false
set_option linter.unusedSimpArgs false
set_option maxRecDepth 100000

theorem refCelOk_c (c : Cel) (hc : c.fit) : ∀ H, ACalls tt 27 [.agg c.av] H (fun res_ H' => res_ = .b (celOk c) ∧ H' = H) := by
  refine body_calc (T := tt) Try.func27 rfl Try.ntmps27 rfl rfl (by rfl) (by rfl) ?_
  refine wp_reg ?_
  refine st_box rfl rfl rfl rfl rfl rfl rfl rfl rfl ?_
  refine st_pop rfl rfl rfl rfl ?_
  refine st_nil ?_
  refine wp_reg ?_
  refine st_pop rfl rfl rfl rfl ?_
  refine st_pop rfl rfl rfl rfl ?_
  refine st_pop rfl rfl rfl rfl ?_
  refine st_pop rfl rfl rfl rfl ?_
  refine st_pop rfl rfl rfl rfl ?_
  refine st_calc (xs := [.tmp 9]) _ rfl rfl rfl rfl Try.func43 rfl rfl rfl (refRef_c ⟨c.scope, c.name⟩ hc.2 _) ?_
  refine st_pop rfl rfl rfl rfl ?_
  refine st_nil ?_
  refine awp_seq ?_
  refine wp_reg ?_
  refine st_pop rfl rfl rfl rfl ?_
  refine st_pop rfl rfl rfl rfl ?_
  refine st_pop rfl rfl rfl rfl ?_
  refine st_nil ?_
  refine wp_bit 13 rfl fun b hb1 => ?_
  cases b
  · try simp only [decide_eq_true_eq, decide_eq_false_iff_not, Bool.not_eq_true', Bool.not_eq_false', Int.not_lt, Int.not_le] at hb1
    refine wp_f rfl ?_
    refine awp_skip ?_
    refine at_norm ?_
    refine wp_reg ?_
    refine st_pop rfl rfl rfl rfl ?_
    refine st_pop rfl rfl rfl rfl ?_
    refine st_calc (xs := [.tmp 21]) _ rfl rfl rfl rfl Try.func44 rfl rfl rfl (refName_c c.owner hc.1 _) ?_
    refine st_pop rfl rfl rfl rfl ?_
    refine st_nil ?_
    refine wp_reg ?_
    refine st_pop rfl rfl rfl rfl ?_
    refine st_pop rfl rfl rfl rfl ?_
    refine st_bit 24 rfl fun b hb2 => ?_
    cases b
    · try simp only [decide_eq_true_eq, decide_eq_false_iff_not, Bool.not_eq_true', Bool.not_eq_false', Int.not_lt, Int.not_le] at hb2
      refine st_skip rfl rfl rfl ?_
      refine st_pop rfl rfl rfl rfl ?_
      refine st_pop rfl rfl rfl rfl ?_
      refine st_nil ?_
      refine awp_ret ?_
      refine ret_ret rfl rfl ?_
      refine wk_b ?_
      first
        | (simp_all [celOk, refOk, Bool.and_comm, Bool.and_assoc]; done)
        | (rw [Bool.eq_iff_iff]; simp_all [celOk, refOk]; done)
        | (rw [Bool.eq_iff_iff]; simp_all [celOk, refOk]; grind)
    · try simp only [decide_eq_true_eq, decide_eq_false_iff_not, Bool.not_eq_true', Bool.not_eq_false', Int.not_lt, Int.not_le] at hb2
      refine st_pop rfl rfl rfl rfl ?_
      refine st_pop rfl rfl rfl rfl ?_
      refine st_pop rfl rfl rfl rfl ?_
      refine st_nil ?_
      refine awp_ret ?_
      refine ret_ret rfl rfl ?_
      refine wk_b ?_
      first
        | (simp_all [celOk, refOk, Bool.and_comm, Bool.and_assoc]; done)
        | (rw [Bool.eq_iff_iff]; simp_all [celOk, refOk]; done)
        | (rw [Bool.eq_iff_iff]; simp_all [celOk, refOk]; grind)
  · try simp only [decide_eq_true_eq, decide_eq_false_iff_not, Bool.not_eq_true', Bool.not_eq_false', Int.not_lt, Int.not_le] at hb1
    refine wp_t rfl ?_
    refine wp_reg ?_
    refine st_pop rfl rfl rfl rfl ?_
    refine st_pop rfl rfl rfl rfl ?_
    refine st_bit 15 rfl fun b hb3 => ?_
    cases b
    · try simp only [decide_eq_true_eq, decide_eq_false_iff_not, Bool.not_eq_true', Bool.not_eq_false', Int.not_lt, Int.not_le] at hb3
      refine st_skip rfl rfl rfl ?_
      refine st_skip rfl rfl rfl ?_
      refine st_skip rfl rfl rfl ?_
      refine st_pop rfl rfl rfl rfl ?_
      refine st_pop rfl rfl rfl rfl ?_
      refine st_nil ?_
      refine awp_ret ?_
      refine at_ret ?_
      refine ret_ret rfl rfl ?_
      refine wk_b ?_
      first
        | (simp_all [celOk, refOk, Bool.and_comm, Bool.and_assoc]; done)
        | (rw [Bool.eq_iff_iff]; simp_all [celOk, refOk]; done)
        | (rw [Bool.eq_iff_iff]; simp_all [celOk, refOk]; grind)
    · try simp only [decide_eq_true_eq, decide_eq_false_iff_not, Bool.not_eq_true', Bool.not_eq_false', Int.not_lt, Int.not_le] at hb3
      refine st_pop rfl rfl rfl rfl ?_
      refine st_pop rfl rfl rfl rfl ?_
      refine st_pop rfl rfl rfl rfl ?_
      refine st_pop rfl rfl rfl rfl ?_
      refine st_pop rfl rfl rfl rfl ?_
      refine st_nil ?_
      refine awp_ret ?_
      refine at_ret ?_
      refine ret_ret rfl rfl ?_
      refine wk_b ?_
      first
        | (simp_all [celOk, refOk, Bool.and_comm, Bool.and_assoc]; done)
        | (rw [Bool.eq_iff_iff]; simp_all [celOk, refOk]; done)
        | (rw [Bool.eq_iff_iff]; simp_all [celOk, refOk]; grind)
theorem refSame_c (a b : Val) (ha : a.fit) (hb : b.fit) : ∀ H, ACalls tt 31 [.agg a.av, .agg b.av] H (fun res_ H' => res_ = .b (valSame a b) ∧ H' = H) := by
  refine body_calc (T := tt) Try.func31 rfl Try.ntmps31 rfl rfl (by rfl) (by rfl) ?_
  refine wp_reg ?_
  refine st_box rfl rfl rfl rfl rfl rfl rfl rfl rfl ?_
  refine st_box rfl rfl rfl rfl rfl rfl rfl rfl rfl ?_
  refine st_pop rfl rfl rfl rfl ?_
  refine st_nil ?_
  refine wp_reg ?_
  refine st_pop rfl rfl rfl rfl ?_
  refine st_calc (xs := [.tmp 7]) _ rfl rfl rfl rfl Try.func28 rfl rfl rfl (refValRight_c a ha _) ?_
  refine st_pop rfl rfl rfl rfl ?_
  refine st_nil ?_
  refine wp_reg ?_
  refine st_pop rfl rfl rfl rfl ?_
  refine st_calc (xs := [.tmp 9]) _ rfl rfl rfl rfl Try.func28 rfl rfl rfl (refValRight_c b hb _) ?_
  refine st_pop rfl rfl rfl rfl ?_
  refine st_nil ?_
  refine awp_seq ?_
  refine wp_reg ?_
  refine st_pop rfl rfl rfl rfl ?_
  refine st_pop rfl rfl rfl rfl ?_
  refine st_pop rfl rfl rfl rfl ?_
  refine st_bit 13 rfl fun b hb1 => ?_
  cases b
  · try simp only [decide_eq_true_eq, decide_eq_false_iff_not, Bool.not_eq_true', Bool.not_eq_false', Int.not_lt, Int.not_le] at hb1
    refine st_pop rfl rfl rfl rfl ?_
    refine st_pop rfl rfl rfl rfl ?_
    refine st_pop rfl rfl rfl rfl ?_
    refine st_pop rfl rfl rfl rfl ?_
    refine st_bit 17 rfl fun b hb2 => ?_
    cases b
    · try simp only [decide_eq_true_eq, decide_eq_false_iff_not, Bool.not_eq_true', Bool.not_eq_false', Int.not_lt, Int.not_le] at hb2
      refine st_pop rfl rfl rfl rfl ?_
      refine st_pop rfl rfl rfl rfl ?_
      refine st_pop rfl rfl rfl rfl ?_
      refine st_pop rfl rfl rfl rfl ?_
      refine st_pop rfl rfl rfl rfl ?_
      refine st_pop rfl rfl rfl rfl ?_
      refine st_nil ?_
      refine wp_bit 23 rfl fun b hb3 => ?_
      cases b
      · try simp only [decide_eq_true_eq, decide_eq_false_iff_not, Bool.not_eq_true', Bool.not_eq_false', Int.not_lt, Int.not_le] at hb3
        refine wp_f rfl ?_
        refine awp_skip ?_
        refine at_norm ?_
        refine wp_reg ?_
        refine st_pop rfl rfl rfl rfl ?_
        refine st_pop rfl rfl rfl rfl ?_
        refine st_pop rfl rfl rfl rfl ?_
        refine st_pop rfl rfl rfl rfl ?_
        refine st_pop rfl rfl rfl rfl ?_
        refine st_pop rfl rfl rfl rfl ?_
        refine st_bit 29 rfl fun b hb4 => ?_
        cases b
        · try simp only [decide_eq_true_eq, decide_eq_false_iff_not, Bool.not_eq_true', Bool.not_eq_false', Int.not_lt, Int.not_le] at hb4
          refine st_skip rfl rfl rfl ?_
          refine st_skip rfl rfl rfl ?_
          refine st_skip rfl rfl rfl ?_
          refine st_skip rfl rfl rfl ?_
          refine st_skip rfl rfl rfl ?_
          refine st_pop rfl rfl rfl rfl ?_
          refine st_pop rfl rfl rfl rfl ?_
          refine st_skip rfl rfl rfl ?_
          refine st_skip rfl rfl rfl ?_
          refine st_skip rfl rfl rfl ?_
          refine st_skip rfl rfl rfl ?_
          refine st_skip rfl rfl rfl ?_
          refine st_pop rfl rfl rfl rfl ?_
          refine st_pop rfl rfl rfl rfl ?_
          refine st_skip rfl rfl rfl ?_
          refine st_skip rfl rfl rfl ?_
          refine st_skip rfl rfl rfl ?_
          refine st_skip rfl rfl rfl ?_
          refine st_skip rfl rfl rfl ?_
          refine st_pop rfl rfl rfl rfl ?_
          refine st_pop rfl rfl rfl rfl ?_
          refine st_nil ?_
          refine awp_ret ?_
          refine ret_ret rfl rfl ?_
          refine wk_b ?_
          first
            | (simp_all [valSame]; done)
            | (simp_all [valSame, valEq]; done)
            | (rw [Bool.eq_iff_iff]; simp_all [valSame, valEq, feq, and_assoc]; done)
        · try simp only [decide_eq_true_eq, decide_eq_false_iff_not, Bool.not_eq_true', Bool.not_eq_false', Int.not_lt, Int.not_le] at hb4
          refine st_pop rfl rfl rfl rfl ?_
          refine st_pop rfl rfl rfl rfl ?_
          refine st_pop rfl rfl rfl rfl ?_
          refine st_pop rfl rfl rfl rfl ?_
          refine st_pop rfl rfl rfl rfl ?_
          refine st_pop rfl rfl rfl rfl ?_
          refine st_pop rfl rfl rfl rfl ?_
          refine st_bit 36 rfl fun b hb5 => ?_
          cases b
          · try simp only [decide_eq_true_eq, decide_eq_false_iff_not, Bool.not_eq_true', Bool.not_eq_false', Int.not_lt, Int.not_le] at hb5
            refine st_skip rfl rfl rfl ?_
            refine st_skip rfl rfl rfl ?_
            refine st_skip rfl rfl rfl ?_
            refine st_skip rfl rfl rfl ?_
            refine st_skip rfl rfl rfl ?_
            refine st_pop rfl rfl rfl rfl ?_
            refine st_pop rfl rfl rfl rfl ?_
            refine st_skip rfl rfl rfl ?_
            refine st_skip rfl rfl rfl ?_
            refine st_skip rfl rfl rfl ?_
            refine st_skip rfl rfl rfl ?_
            refine st_skip rfl rfl rfl ?_
            refine st_pop rfl rfl rfl rfl ?_
            refine st_pop rfl rfl rfl rfl ?_
            refine st_nil ?_
            refine awp_ret ?_
            refine ret_ret rfl rfl ?_
            refine wk_b ?_
            first
              | (simp_all [valSame]; done)
              | (simp_all [valSame, valEq]; done)
              | (rw [Bool.eq_iff_iff]; simp_all [valSame, valEq, feq, and_assoc]; done)
          · try simp only [decide_eq_true_eq, decide_eq_false_iff_not, Bool.not_eq_true', Bool.not_eq_false', Int.not_lt, Int.not_le] at hb5
            refine st_pop rfl rfl rfl rfl ?_
            refine st_pop rfl rfl rfl rfl ?_
            refine st_pop rfl rfl rfl rfl ?_
            refine st_pop rfl rfl rfl rfl ?_
            refine st_pop rfl rfl rfl rfl ?_
            refine st_pop rfl rfl rfl rfl ?_
            refine st_pop rfl rfl rfl rfl ?_
            refine st_bit 43 rfl fun b hb6 => ?_
            cases b
            · try simp only [decide_eq_true_eq, decide_eq_false_iff_not, Bool.not_eq_true', Bool.not_eq_false', Int.not_lt, Int.not_le] at hb6
              refine st_skip rfl rfl rfl ?_
              refine st_skip rfl rfl rfl ?_
              refine st_skip rfl rfl rfl ?_
              refine st_skip rfl rfl rfl ?_
              refine st_skip rfl rfl rfl ?_
              refine st_pop rfl rfl rfl rfl ?_
              refine st_pop rfl rfl rfl rfl ?_
              refine st_nil ?_
              refine awp_ret ?_
              refine ret_ret rfl rfl ?_
              refine wk_b ?_
              first
                | (simp_all [valSame]; done)
                | (simp_all [valSame, valEq]; done)
                | (rw [Bool.eq_iff_iff]; simp_all [valSame, valEq, feq, and_assoc]; done)
            · try simp only [decide_eq_true_eq, decide_eq_false_iff_not, Bool.not_eq_true', Bool.not_eq_false', Int.not_lt, Int.not_le] at hb6
              refine st_pop rfl rfl rfl rfl ?_
              refine st_pop rfl rfl rfl rfl ?_
              refine st_pop rfl rfl rfl rfl ?_
              refine st_pop rfl rfl rfl rfl ?_
              refine st_pop rfl rfl rfl rfl ?_
              refine st_pop rfl rfl rfl rfl ?_
              refine st_pop rfl rfl rfl rfl ?_
              refine st_nil ?_
              refine awp_ret ?_
              refine ret_ret rfl rfl ?_
              refine wk_b ?_
              first
                | (simp_all [valSame]; done)
                | (simp_all [valSame, valEq]; done)
                | (rw [Bool.eq_iff_iff]; simp_all [valSame, valEq, feq, and_assoc]; done)
      · try simp only [decide_eq_true_eq, decide_eq_false_iff_not, Bool.not_eq_true', Bool.not_eq_false', Int.not_lt, Int.not_le] at hb3
        refine wp_t rfl ?_
        refine wp_reg ?_
        refine st_pop rfl rfl rfl rfl ?_
        refine st_nil ?_
        refine awp_ret ?_
        refine at_ret ?_
        refine ret_ret rfl rfl ?_
        refine wk_b ?_
        first
          | (simp_all [valSame]; done)
          | (simp_all [valSame, valEq]; done)
          | (rw [Bool.eq_iff_iff]; simp_all [valSame, valEq, feq, and_assoc]; done)
    · try simp only [decide_eq_true_eq, decide_eq_false_iff_not, Bool.not_eq_true', Bool.not_eq_false', Int.not_lt, Int.not_le] at hb2
      refine st_skip rfl rfl rfl ?_
      refine st_skip rfl rfl rfl ?_
      refine st_skip rfl rfl rfl ?_
      refine st_skip rfl rfl rfl ?_
      refine st_skip rfl rfl rfl ?_
      refine st_pop rfl rfl rfl rfl ?_
      refine st_nil ?_
      refine wp_t rfl ?_
      refine wp_reg ?_
      refine st_pop rfl rfl rfl rfl ?_
      refine st_nil ?_
      refine awp_ret ?_
      refine at_ret ?_
      refine ret_ret rfl rfl ?_
      refine wk_b ?_
      first
        | (simp_all [valSame]; done)
        | (simp_all [valSame, valEq]; done)
        | (rw [Bool.eq_iff_iff]; simp_all [valSame, valEq, feq, and_assoc]; done)
  · try simp only [decide_eq_true_eq, decide_eq_false_iff_not, Bool.not_eq_true', Bool.not_eq_false', Int.not_lt, Int.not_le] at hb1
    refine st_skip rfl rfl rfl ?_
    refine st_skip rfl rfl rfl ?_
    refine st_pop rfl rfl rfl rfl ?_
    refine st_pop rfl rfl rfl rfl ?_
    refine st_skip rfl rfl rfl ?_
    refine st_skip rfl rfl rfl ?_
    refine st_skip rfl rfl rfl ?_
    refine st_skip rfl rfl rfl ?_
    refine st_skip rfl rfl rfl ?_
    refine st_pop rfl rfl rfl rfl ?_
    refine st_nil ?_
    refine wp_t rfl ?_
    refine wp_reg ?_
    refine st_pop rfl rfl rfl rfl ?_
    refine st_nil ?_
    refine awp_ret ?_
    refine at_ret ?_
    refine ret_ret rfl rfl ?_
    refine wk_b ?_
    first
      | (simp_all [valSame]; done)
      | (simp_all [valSame, valEq]; done)
      | (rw [Bool.eq_iff_iff]; simp_all [valSame, valEq, feq, and_assoc]; done)
theorem refAt_c (l : List Att) (hl : l.length ≤ 1000000) (c : Cel) : ∀ H, ACalls tt 29 [.l none 56 (l.map Att.av), .agg c.av] H (fun res_ H' => res_ = .i .i64 (idxI l c) ∧ H' = H) := by
  refine body_calc (T := tt) Try.func29 rfl Try.ntmps29 rfl rfl (by simp [cleanL, clean, atts_clean, Cel.av]) (by rfl) ?_
  refine wp_reg ?_
  refine st_box rfl rfl rfl rfl rfl rfl rfl rfl rfl ?_
  refine st_pop rfl rfl rfl rfl ?_
  refine st_nil ?_
  refine awp_seq ?_
  refine wp_reg ?_
  refine st_pop rfl rfl rfl rfl ?_
  refine st_nil ?_
  refine awp_block ?_
  refine wp_loop (α := Nat) (fun k => frl [(0, .l none 56 (l.map Att.av)), (3, .ptr 0 0), (5, .i .i64 ((k : Nat) : Int))]) (fun _ => ⟨[.cells c.av], []⟩) (fun k => k ≤ l.length ∧ ∀ j b, j < k → l[j]? = some b → b.c ≠ c) (fun k => l.length - k) 0 ⟨Nat.zero_le _, fun j b h => absurd h (Nat.not_lt_zero _)⟩ (wk_frl (wk_cons rfl (wk_cons rfl (wk_cons rfl wk_nil)))) rfl ?_
  rintro k ⟨hk, hall⟩
  refine awp_seq ?_
  refine wp_reg ?_
  refine st_pop rfl rfl rfl rfl ?_
  refine st_pop rfl rfl rfl rfl ?_
  refine st_pop rfl rfl rfl rfl ?_
  refine st_val 8 (.i .i64 ((l.length : Nat) : Int)) rfl (by simp) ?_
  refine st_pop rfl rfl rfl rfl ?_
  refine st_nil ?_
  refine wp_bit 9 rfl fun b hb1 => ?_
  cases b
  · try simp only [decide_eq_true_eq, decide_eq_false_iff_not, Bool.not_eq_true', Bool.not_eq_false', Int.not_lt, Int.not_le] at hb1
    refine wp_f rfl ?_
    refine awp_exit ?_
    refine at_exit ?_
    refine at_exit ?_
    refine ab_hit ?_
    refine at_norm ?_
    refine wp_reg ?_
    refine st_pop rfl rfl rfl rfl ?_
    refine st_nil ?_
    refine awp_ret ?_
    refine ret_ret rfl rfl ?_
    refine wk_i ?_
    first
      | (rw [idxI_none (k := k) (by omega) hall]; done)
      | (rw [idxI_some ha (by obtain ⟨cc, _, _⟩ := a; obtain ⟨_, _, _⟩ := cc; obtain ⟨_, _, _⟩ := c; simp at heq; simp [heq]) hall])
  · try simp only [decide_eq_true_eq, decide_eq_false_iff_not, Bool.not_eq_true', Bool.not_eq_false', Int.not_lt, Int.not_le] at hb1
    obtain ⟨a, ha⟩ : ∃ a, l[k]? = some a := ⟨_, List.getElem?_eq_getElem (by omega)⟩
    refine wp_t rfl ?_
    refine awp_skip ?_
    refine at_norm ?_
    refine awp_seq ?_
    refine awp_block ?_
    refine wp_open [.op 6, .bar] (D := [0, 0, 3, 7, 15, 0, 63]) (by kernel_rfl) (by kernel_rfl) (by kernel_rfl) ?_
    refine ad_op rfl rfl ?_
    refine do_pop rfl rfl rfl rfl rfl (by kernel_rfl) ?_
    refine do_pop rfl rfl rfl rfl rfl (by kernel_rfl) ?_
    refine do_idxA (n := k) a.av rfl rfl rfl rfl rfl rfl rfl rfl (by simp [ha]) ?_
    refine do_pop rfl rfl rfl rfl rfl (by kernel_rfl) ?_
    refine do_pop rfl rfl rfl rfl rfl (by kernel_rfl) ?_
    refine do_pop rfl rfl rfl rfl rfl (by kernel_rfl) ?_
    refine do_nil ?_
    refine ad_bar ?_
    refine st_pop rfl rfl rfl rfl ?_
    refine st_nil ?_
    refine ad_nil ?_
    refine wp_bit 18 rfl fun b hb2 => ?_
    cases b
    · try simp only [decide_eq_true_eq, decide_eq_false_iff_not, Bool.not_eq_true', Bool.not_eq_false', Int.not_lt, Int.not_le] at hb2
      have hne := hb2
      refine wp_f rfl ?_
      refine awp_skip ?_
      refine ab_norm ?_
      refine at_norm ?_
      refine awp_region ?_
      refine st_pop rfl rfl rfl rfl ?_
      refine st_pop rfl rfl rfl rfl ?_
      refine st_pop rfl rfl rfl rfl ?_
      refine st_nil ?_
      refine at_norm ?_
      refine ⟨k + 1, ⟨by omega, idx_step ha (fun e => by subst e; simp at hne) hall⟩, wk_frl (wk_cons rfl (wk_cons rfl (wk_cons (wrap_succ (by omega)) wk_nil))), rfl, by omega⟩
    · try simp only [decide_eq_true_eq, decide_eq_false_iff_not, Bool.not_eq_true', Bool.not_eq_false', Int.not_lt, Int.not_le] at hb2
      have heq := hb2
      refine wp_t rfl ?_
      refine wp_reg ?_
      refine st_pop rfl rfl rfl rfl ?_
      refine st_pop rfl rfl rfl rfl ?_
      refine st_nil ?_
      refine awp_ret ?_
      refine ab_ret ?_
      refine at_ret ?_
      refine at_ret ?_
      refine ab_ret ?_
      refine at_ret ?_
      refine ret_ret rfl rfl ?_
      refine wk_i ?_
      first
        | (rw [idxI_none (k := k) (by omega) hall]; done)
        | (rw [idxI_some ha (by obtain ⟨cc, _, _⟩ := a; obtain ⟨_, _, _⟩ := cc; obtain ⟨_, _, _⟩ := c; simp at heq; simp [heq]) hall])
theorem put_c (l : List Att) (hl : l.length ≤ 1000000) (hf : ∀ x ∈ l, x.c.fit) (a : Att) (ha : a.c.fit) : ∀ H, ACalls tt 30 [.l none 56 (l.map Att.av), .agg a.av] H (fun res_ H' => res_ = .l none 56 ((putL l a).map Att.av) ∧ H' = H) := by
  refine body_calcZ (T := tt) Try.func30 rfl Try.ntmps30 rfl rfl (by simp [cleanL, clean, atts_clean, Att.av]) (by simp [clean, atts_clean]) ?_
  refine wp_reg ?_
  refine st_box rfl rfl rfl rfl rfl rfl rfl rfl rfl ?_
  refine st_pop rfl rfl rfl rfl ?_
  refine st_nil ?_
  refine wp_reg ?_
  refine st_pop rfl rfl rfl rfl ?_
  refine st_nil ?_
  refine wp_reg ?_
  refine st_pop rfl rfl rfl rfl ?_
  refine st_nil ?_
  refine awp_seq ?_
  refine wp_reg ?_
  refine st_pop rfl rfl rfl rfl ?_
  refine st_nil ?_
  refine awp_block ?_
  refine wp_loopD (α := Nat × Bool × AV × List Nat) (fun s => frl [(0, .l none 56 (l.map Att.av)), (3, .ptr 0 0), (5, s.2.2.1), (6, .b s.2.1), (7, .i .i64 ((s.1 : Nat) : Int))]) (fun s => ⟨[.cells a.av], s.2.2.2⟩) 1 (fun s => s.1 ≤ l.length ∧ s.2.1 = doneK l a s.1 ∧ IsOwn ⟨[], s.2.2.2⟩ s.2.2.1 56 ((outK l a s.1).map Att.av)) (fun s => l.length - s.1) (0, false, .nil, []) ⟨Nat.zero_le _, rfl, .inl ⟨rfl, rfl⟩⟩ (wk_frl (wk_cons rfl (wk_cons rfl (wk_cons rfl (wk_cons rfl (wk_cons rfl wk_nil)))))) rfl (fun s => rfl) (fun s hs => bb_frl (by simp [bbL, bb, atts_bb, own_bb hs.2.2 (atts_bb 1 _)])) (fun s _ => by simp [bbH, bbB, bbL, bb, Att.av]) ?_
  rintro ⟨k, dn, o1, ts⟩ ⟨hk, hdn, hown⟩
  have hk : k ≤ l.length := hk
  have hdn : dn = doneK l a k := hdn
  have hown : IsOwn ⟨[], ts⟩ o1 56 ((outK l a k).map Att.av) := hown
  have hol := outK_len (l := l) (a := a) (k := k)
  dsimp only
  refine awp_seq ?_
  refine wp_reg ?_
  refine st_pop rfl rfl rfl rfl ?_
  refine st_pop rfl rfl rfl rfl ?_
  refine st_pop rfl rfl rfl rfl ?_
  refine st_val 10 (.i .i64 ((l.length : Nat) : Int)) rfl (by simp) ?_
  refine st_pop rfl rfl rfl rfl ?_
  refine st_nil ?_
  refine wp_bit 11 rfl fun b hb1 => ?_
  cases b
  · try simp only [decide_eq_true_eq, decide_eq_false_iff_not, Bool.not_eq_true', Bool.not_eq_false', Int.not_lt, Int.not_le] at hb1
    have hke : l.length ≤ k := by omega
    refine wp_f rfl ?_
    refine awp_exit ?_
    refine at_exit ?_
    refine at_exit ?_
    refine ab_hit ?_
    refine at_norm ?_
    refine awp_seq ?_
    refine wp_reg ?_
    refine st_pop rfl rfl rfl rfl ?_
    refine st_pop rfl rfl rfl rfl ?_
    refine st_nil ?_
    refine wp_bit 38 rfl fun b hb2 => ?_
    cases b
    · try simp only [decide_eq_true_eq, decide_eq_false_iff_not, Bool.not_eq_true', Bool.not_eq_false', Int.not_lt, Int.not_le] at hb2
      have hdd : dn = true := by simpa using hb2
      refine wp_f rfl ?_
      refine awp_skip ?_
      refine at_norm ?_
      refine wp_reg ?_
      refine st_popx (o1) rfl rfl rfl rfl ?_
      refine st_popx (o1) rfl rfl rfl rfl ?_
      refine st_nil ?_
      refine awp_ret ?_
      refine ret_ret rfl (own_fo hown).1 ?_
      rw [← (outK_end hke).1 (hdn ▸ hdd)]; exact own_fz hown
    · try simp only [decide_eq_true_eq, decide_eq_false_iff_not, Bool.not_eq_true', Bool.not_eq_false', Int.not_lt, Int.not_le] at hb2
      have hdd : dn = false := by simpa using hb2
      refine wp_t rfl ?_
      refine awp_region ?_
      refine st_popx (o1) rfl rfl rfl rfl ?_
      refine st_pop rfl rfl rfl rfl ?_
      refine st_bslice (E := 56) [.tmp 40] rfl rfl rfl rfl rfl rfl rfl (by simp [ev, upd, AV.sto, cellsOf, AV.flat]; rfl) rfl fun tk => ?_
      refine st_append (xs := (outK l a k).map Att.av) (ys := [a.av]) rfl rfl rfl rfl rfl rfl rfl (own_more hown) (.inr ⟨some tk, rfl⟩) (by simp only [List.length_append, List.length_map, List.length_cons, List.length_nil]; show (_ + 1) * 96 ≤ _; omega) (by simp [maxLen]; omega) ?_
      rintro r3 ⟨bs2, ts3⟩ hown3 hb2 -
      have hb2 : bs2 = _ := hb2
      subst hb2
      refine st_popx (r3) rfl rfl rfl rfl ?_
      refine st_nil ?_
      refine at_norm ?_
      refine wp_reg ?_
      refine st_popx (r3) rfl rfl rfl rfl ?_
      refine st_popx (r3) rfl rfl rfl rfl ?_
      refine st_nil ?_
      refine awp_ret ?_
      refine ret_ret rfl (own_fo hown3).1 ?_
      rw [← (outK_end hke).2 (hdn ▸ hdd), List.map_append]; exact own_fz hown3
  · try simp only [decide_eq_true_eq, decide_eq_false_iff_not, Bool.not_eq_true', Bool.not_eq_false', Int.not_lt, Int.not_le] at hb1
    obtain ⟨x, hx⟩ : ∃ x, l[k]? = some x := ⟨_, List.getElem?_eq_getElem (by omega)⟩
    refine wp_t rfl ?_
    refine awp_skip ?_
    refine at_norm ?_
    refine awp_seq ?_
    refine awp_block ?_
    refine awp_seq ?_
    refine wp_regD (by kernel_rfl) ?_
    refine aq_pop rfl rfl rfl rfl ?_
    refine aq_pop rfl rfl rfl rfl ?_
    refine aq_pop rfl rfl rfl rfl ?_
    refine aq_bit 16 rfl fun b hb3 => ?_
    cases b
    · try simp only [decide_eq_true_eq, decide_eq_false_iff_not, Bool.not_eq_true', Bool.not_eq_false', Int.not_lt, Int.not_le] at hb3
      have hq : doneK l a k = true ∨ celLt a.c x.c = false := .inl (by rw [← hdn]; simpa using hb3)
      refine aq_skip rfl rfl rfl ?_
      refine aq_skip rfl rfl rfl ?_
      refine aq_skip rfl rfl rfl ?_
      refine aq_skip rfl rfl rfl ?_
      refine aq_skip rfl rfl rfl ?_
      refine aq_skip rfl rfl rfl ?_
      refine aq_skip rfl rfl rfl ?_
      refine aq_skip rfl rfl rfl ?_
      refine aq_pop rfl rfl rfl rfl ?_
      refine aq_nil ?_
      refine wp_f rfl ?_
      refine awp_skip ?_
      refine at_norm ?_
      refine awp_region ?_
      refine st_popx (o1) rfl rfl rfl rfl ?_
      refine st_pop rfl rfl rfl rfl ?_
      refine st_pop rfl rfl rfl rfl ?_
      refine st_idxA (n := k) x.av rfl rfl rfl rfl rfl rfl rfl rfl (by simp [hx]) ?_
      refine st_pop rfl rfl rfl rfl ?_
      refine st_bslice (E := 56) [.tmp 34] rfl rfl rfl rfl rfl rfl rfl (by simp [ev, upd, AV.sto, cellsOf, AV.flat]; rfl) rfl fun tk => ?_
      refine st_append (xs := (outK l a k).map Att.av) (ys := [x.av]) rfl rfl rfl rfl rfl rfl rfl (own_more hown) (.inr ⟨some tk, rfl⟩) (by simp only [List.length_append, List.length_map, List.length_cons, List.length_nil]; show (_ + 1) * 96 ≤ _; omega) (by simp [maxLen]; omega) ?_
      rintro r2 ⟨bs2, ts2⟩ hown2 hb2 -
      have hb2 : bs2 = _ := hb2
      subst hb2
      refine st_popx (r2) rfl rfl rfl rfl ?_
      refine st_nil ?_
      refine ab_norm ?_
      refine at_norm ?_
      refine awp_region ?_
      refine st_pop rfl rfl rfl rfl ?_
      refine st_pop rfl rfl rfl rfl ?_
      refine st_pop rfl rfl rfl rfl ?_
      refine st_nil ?_
      refine at_norm ?_
      refine ⟨(k + 1, dn, r2, ts2), ⟨by dsimp only; omega, by dsimp only; rw [doneK_more hx, hdn]; simp_all, by rw [outK_more hx hq, List.map_append]; exact hown2⟩, wk_frl (wk_cons rfl (wk_cons rfl (wk_cons rfl (wk_cons rfl (wk_cons (wrap_succ (by omega)) wk_nil))))), ⟨_, rfl⟩, rfl, by dsimp only; omega⟩
    · try simp only [decide_eq_true_eq, decide_eq_false_iff_not, Bool.not_eq_true', Bool.not_eq_false', Int.not_lt, Int.not_le] at hb3
      have hd0 : dn = false := by simpa using hb3
      refine aq_pop rfl rfl rfl rfl ?_
      refine aq_pop rfl rfl rfl rfl ?_
      refine aq_pop rfl rfl rfl rfl ?_
      refine aq_pop rfl rfl rfl rfl ?_
      refine aq_idxA (n := k) x.av rfl rfl rfl rfl rfl rfl rfl rfl (by simp [hx]) ?_
      refine aq_pop rfl rfl rfl rfl ?_
      refine aq_pop rfl rfl rfl rfl ?_
      refine aq_calc (xs := [.tmp 18, .tmp 23]) _ rfl rfl rfl rfl Try.func46 rfl rfl rfl (refCelAhead_c a.c x.c ha _) rfl rfl ?_
      refine aq_pop rfl rfl rfl rfl ?_
      refine aq_nil ?_
      refine wp_bit 25 rfl fun b hb4 => ?_
      cases b
      · try simp only [decide_eq_true_eq, decide_eq_false_iff_not, Bool.not_eq_true', Bool.not_eq_false', Int.not_lt, Int.not_le] at hb4
        have hq : doneK l a k = true ∨ celLt a.c x.c = false := .inr hb4
        refine wp_f rfl ?_
        refine awp_skip ?_
        refine at_norm ?_
        refine awp_region ?_
        refine st_popx (o1) rfl rfl rfl rfl ?_
        refine st_pop rfl rfl rfl rfl ?_
        refine st_pop rfl rfl rfl rfl ?_
        refine st_idxA (n := k) x.av rfl rfl rfl rfl rfl rfl rfl rfl (by simp [hx]) ?_
        refine st_pop rfl rfl rfl rfl ?_
        refine st_bslice (E := 56) [.tmp 34] rfl rfl rfl rfl rfl rfl rfl (by simp [ev, upd, AV.sto, cellsOf, AV.flat]; rfl) rfl fun tk => ?_
        refine st_append (xs := (outK l a k).map Att.av) (ys := [x.av]) rfl rfl rfl rfl rfl rfl rfl (own_more hown) (.inr ⟨some tk, rfl⟩) (by simp only [List.length_append, List.length_map, List.length_cons, List.length_nil]; show (_ + 1) * 96 ≤ _; omega) (by simp [maxLen]; omega) ?_
        rintro r2 ⟨bs2, ts2⟩ hown2 hb2 -
        have hb2 : bs2 = _ := hb2
        subst hb2
        refine st_popx (r2) rfl rfl rfl rfl ?_
        refine st_nil ?_
        refine ab_norm ?_
        refine at_norm ?_
        refine awp_region ?_
        refine st_pop rfl rfl rfl rfl ?_
        refine st_pop rfl rfl rfl rfl ?_
        refine st_pop rfl rfl rfl rfl ?_
        refine st_nil ?_
        refine at_norm ?_
        refine ⟨(k + 1, dn, r2, ts2), ⟨by dsimp only; omega, by dsimp only; rw [doneK_more hx, hdn]; simp_all, by rw [outK_more hx hq, List.map_append]; exact hown2⟩, wk_frl (wk_cons rfl (wk_cons rfl (wk_cons rfl (wk_cons rfl (wk_cons (wrap_succ (by omega)) wk_nil))))), ⟨_, rfl⟩, rfl, by dsimp only; omega⟩
      · try simp only [decide_eq_true_eq, decide_eq_false_iff_not, Bool.not_eq_true', Bool.not_eq_false', Int.not_lt, Int.not_le] at hb4
        have hlt : celLt a.c x.c = true := hb4
        refine wp_t rfl ?_
        refine wp_reg ?_
        refine st_popx (o1) rfl rfl rfl rfl ?_
        refine st_pop rfl rfl rfl rfl ?_
        refine st_bslice (E := 56) [.tmp 27] rfl rfl rfl rfl rfl rfl rfl (by simp [ev, upd, AV.sto, cellsOf, AV.flat]; rfl) rfl fun tk => ?_
        refine st_append (xs := (outK l a k).map Att.av) (ys := [a.av]) rfl rfl rfl rfl rfl rfl rfl (own_more hown) (.inr ⟨some tk, rfl⟩) (by simp only [List.length_append, List.length_map, List.length_cons, List.length_nil]; show (_ + 1) * 96 ≤ _; omega) (by simp [maxLen]; omega) ?_
        rintro r1 ⟨bs2, ts1⟩ hown1 hb2 -
        have hb2 : bs2 = _ := hb2
        subst hb2
        refine st_popx (r1) rfl rfl rfl rfl ?_
        refine st_nil ?_
        refine awp_region ?_
        refine st_pop rfl rfl rfl rfl ?_
        refine st_nil ?_
        refine at_norm ?_
        refine awp_region ?_
        refine st_popx (r1) rfl rfl rfl rfl ?_
        refine st_pop rfl rfl rfl rfl ?_
        refine st_pop rfl rfl rfl rfl ?_
        refine st_idxA (n := k) x.av rfl rfl rfl rfl rfl rfl rfl rfl (by simp [hx]) ?_
        refine st_pop rfl rfl rfl rfl ?_
        refine st_bslice (E := 56) [.tmp 34] rfl rfl rfl rfl rfl rfl rfl (by simp [ev, upd, AV.sto, cellsOf, AV.flat]; rfl) rfl fun tk => ?_
        refine st_append (xs := (outK l a k).map Att.av ++ [a.av]) (ys := [x.av]) rfl rfl rfl rfl rfl rfl rfl (own_more hown1) (.inr ⟨some tk, rfl⟩) (by simp only [List.length_append, List.length_map, List.length_cons, List.length_nil]; show (_ + 1) * 96 ≤ _; omega) (by simp [maxLen]; omega) ?_
        rintro r2 ⟨bs2, ts2⟩ hown2 hb2 -
        have hb2 : bs2 = _ := hb2
        subst hb2
        refine st_popx (r2) rfl rfl rfl rfl ?_
        refine st_nil ?_
        refine ab_norm ?_
        refine at_norm ?_
        refine awp_region ?_
        refine st_pop rfl rfl rfl rfl ?_
        refine st_pop rfl rfl rfl rfl ?_
        refine st_pop rfl rfl rfl rfl ?_
        refine st_nil ?_
        refine at_norm ?_
        refine ⟨(k + 1, true, r2, ts2), ⟨by dsimp only; omega, by dsimp only; rw [doneK_more hx, hlt]; simp, by rw [outK_ins hx (by rw [← hdn]; assumption) hlt, List.map_append, List.map_append]; exact hown2⟩, wk_frl (wk_cons rfl (wk_cons rfl (wk_cons rfl (wk_cons rfl (wk_cons (wrap_succ (by omega)) wk_nil))))), ⟨_, rfl⟩, rfl, by dsimp only; omega⟩
theorem refSet_c (l : List Att) (hl : AttsOk l) (c : Cel) (hc : c.fit) (v : Val) (hv : v.fit) : ∀ H, ACalls tt 16 [.l none 56 (l.map Att.av), .agg c.av, .agg v.av] H (fun res_ H' => res_ = .tup [.l none 56 ((refSetP l c v).1.map Att.av), .b (refSetP l c v).2.1, .i .i64 (refSetP l c v).2.2] ∧ H' = H) := by
  obtain ⟨hlen, hf⟩ := hl
  refine body_calcZ (T := tt) Try.func16 rfl Try.ntmps16 rfl rfl (by simp [cleanL, clean, atts_clean, Cel.av, Val.av]) (by simp [clean, cleanL, atts_clean]) ?_
  refine wp_reg ?_
  refine st_box rfl rfl rfl rfl rfl rfl rfl rfl rfl ?_
  refine st_box rfl rfl rfl rfl rfl rfl rfl rfl rfl ?_
  refine st_pop rfl rfl rfl rfl ?_
  refine st_pop rfl rfl rfl rfl ?_
  refine st_pop rfl rfl rfl rfl ?_
  refine st_nil ?_
  refine awp_seq ?_
  refine wp_reg ?_
  refine st_pop rfl rfl rfl rfl ?_
  refine st_calc (xs := [.tmp 11]) _ rfl rfl rfl rfl Try.func27 rfl rfl rfl (refCelOk_c c hc _) ?_
  refine st_pop rfl rfl rfl rfl ?_
  refine st_nil ?_
  refine wp_bit 13 rfl fun b hb1 => ?_
  cases b
  · try simp only [decide_eq_true_eq, decide_eq_false_iff_not, Bool.not_eq_true', Bool.not_eq_false', Int.not_lt, Int.not_le] at hb1
    have hcell : celOk c = true := by simpa using hb1
    refine wp_f rfl ?_
    refine awp_skip ?_
    refine at_norm ?_
    refine awp_seq ?_
    refine wp_reg ?_
    refine st_pop rfl rfl rfl rfl ?_
    refine st_calc (xs := [.tmp 15]) _ rfl rfl rfl rfl Try.func28 rfl rfl rfl (refValRight_c v hv _) ?_
    refine st_pop rfl rfl rfl rfl ?_
    refine st_nil ?_
    refine wp_bit 17 rfl fun b hb2 => ?_
    cases b
    · try simp only [decide_eq_true_eq, decide_eq_false_iff_not, Bool.not_eq_true', Bool.not_eq_false', Int.not_lt, Int.not_le] at hb2
      have hval : valRight v = true := by simpa using hb2
      refine wp_f rfl ?_
      refine awp_skip ?_
      refine at_norm ?_
      refine wp_reg ?_
      refine st_pop rfl rfl rfl rfl ?_
      refine st_pop rfl rfl rfl rfl ?_
      refine st_calc (xs := [.tmp 19, .tmp 20]) _ rfl rfl rfl rfl Try.func29 rfl rfl rfl (refAt_c l (by omega) c _) ?_
      refine st_pop rfl rfl rfl rfl ?_
      refine st_nil ?_
      refine awp_seq ?_
      refine wp_reg ?_
      refine st_pop rfl rfl rfl rfl ?_
      refine st_pop rfl rfl rfl rfl ?_
      refine st_nil ?_
      refine wp_bit 23 rfl fun b hb3 => ?_
      cases b
      · try simp only [decide_eq_true_eq, decide_eq_false_iff_not, Bool.not_eq_true', Bool.not_eq_false', Int.not_lt, Int.not_le] at hb3
        obtain ⟨i, a, hi, hix, hie, hac⟩ := idxI_lt (l := l) (c := c) (by omega)
        refine wp_val 9 (.i .i64 ((i : Nat) : Int)) rfl (by rw [hie]) ?_
        have haf := hf a (List.mem_of_getElem? hi)
        have hil : i < l.length := (List.getElem?_eq_some_iff.1 hi).1
        have hw := haf.2.2.2
        refine wp_f rfl ?_
        refine awp_skip ?_
        refine at_norm ?_
        refine awp_seq ?_
        refine wp_open [.op 6, .bar] (D := [0, 0, 3, 7, 15, 0, 63]) (by kernel_rfl) (by kernel_rfl) (by kernel_rfl) ?_
        refine ad_op rfl rfl ?_
        refine do_pop rfl rfl rfl rfl rfl (by kernel_rfl) ?_
        refine do_pop rfl rfl rfl rfl rfl (by kernel_rfl) ?_
        refine do_idxA (n := i) a.av rfl rfl rfl rfl rfl rfl rfl rfl (by simp [hi]) ?_
        refine do_pop rfl rfl rfl rfl rfl (by kernel_rfl) ?_
        refine do_pop rfl rfl rfl rfl rfl (by kernel_rfl) ?_
        refine do_pop rfl rfl rfl rfl rfl (by kernel_rfl) ?_
        refine do_nil ?_
        refine ad_bar ?_
        refine st_calc (xs := [.tmp 37, .tmp 38]) _ rfl rfl rfl rfl Try.func31 rfl rfl rfl (refSame_c a.v v haf.2.1 hv _) ?_
        refine st_nil ?_
        refine ad_nil ?_
        refine wp_bit 39 rfl fun b hb4 => ?_
        cases b
        · try simp only [decide_eq_true_eq, decide_eq_false_iff_not, Bool.not_eq_true', Bool.not_eq_false', Int.not_lt, Int.not_le] at hb4
          refine wp_f rfl ?_
          refine awp_skip ?_
          refine at_norm ?_
          refine wp_reg ?_
          refine st_pop rfl rfl rfl rfl ?_
          refine st_nil ?_
          refine wp_reg ?_
          refine st_pop rfl rfl rfl rfl ?_
          refine st_pop rfl rfl rfl rfl ?_
          refine st_appendB (ys := l.map Att.av) rfl rfl rfl rfl rfl rfl rfl rfl (.inr ⟨none, rfl⟩) (by intro q; have := congrArg List.length q; simp at this; subst this; simp at hil) (by simp only [List.length_map]; show _ * 96 ≤ _; omega) (by simp [maxLen]; omega) ?_
          intro zs hzs
          simp only [List.length_map]
          refine st_pop rfl rfl rfl rfl ?_
          refine st_nil ?_
          refine wp_reg ?_
          refine st_pop rfl rfl rfl rfl ?_
          refine st_pop rfl rfl rfl rfl ?_
          refine st_pop rfl rfl rfl rfl ?_
          refine st_idxB (n := i) (off := i * 9) rfl rfl rfl rfl rfl rfl rfl rfl hil rfl ?_
          refine st_pop rfl rfl rfl rfl ?_
          refine st_storeX (((l.set i ⟨a.c, v, a.version⟩).map Att.av).flatten ++ zs) rfl rfl rfl rfl rfl rfl rfl rfl rfl rfl (by have := att_len hil zs; show i * 9 + 3 + 5 ≤ _; omega) (att_put (off := 3) hi zs (show 3 + 5 ≤ 9 by decide) rfl) rfl ?_
          have hi1 : (l.set i ⟨a.c, v, a.version⟩)[i]? = some ⟨a.c, v, a.version⟩ := by simp [hil]
          refine st_nil ?_
          refine awp_seq ?_
          refine wp_reg ?_
          refine st_pop rfl rfl rfl rfl ?_
          refine st_pop rfl rfl rfl rfl ?_
          refine st_idxB (n := i) (off := i * 9) rfl rfl rfl rfl rfl rfl rfl rfl hil rfl ?_
          refine st_pop rfl rfl rfl rfl ?_
          refine st_loadX (.i .i64 a.version) rfl rfl rfl rfl rfl rfl (by obtain ⟨r, hr⟩ := att_row hi1 zs; show aload1 tt 3 (List.drop (i * 9 + 8) _) = _; rw [← List.drop_drop, hr]; rfl) ?_
          refine st_pop rfl rfl rfl rfl ?_
          refine st_nil ?_
          refine wp_bit 54 rfl fun b hb5 => ?_
          cases b
          · try simp only [decide_eq_true_eq, decide_eq_false_iff_not, Bool.not_eq_true', Bool.not_eq_false', Int.not_lt, Int.not_le] at hb5
            have hlt := hb5
            refine wp_f rfl ?_
            refine awp_skip ?_
            refine at_norm ?_
            refine wp_reg ?_
            refine st_pop rfl rfl rfl rfl ?_
            refine st_pop rfl rfl rfl rfl ?_
            refine st_pop rfl rfl rfl rfl ?_
            refine st_pop rfl rfl rfl rfl ?_
            refine st_nil ?_
            refine awp_ret ?_
            refine ret_ret rfl rfl ?_
            first
              | (rw [refSet_cell (by simpa using hcell)]; exact .refl _)
              | (rw [refSet_val (by simpa using hcell) (by simpa using hval)]; exact .refl _)
              | (rw [refSet_full (by simpa using hcell) (by simpa using hval) hix (by omega)]; exact .refl _)
              | (rw [refSet_new (by simpa using hcell) (by simpa using hval) hix (by omega)]; exact .refl _)
              | (rw [refSet_same (by simpa using hcell) (by simpa using hval) hix hi (by assumption)]; exact .refl _)
              | (rw [refSet_chg (w := a.version + 1) (by simpa using hcell) (by simpa using hval) hix hi (by assumption) (if_pos (by omega))]; exact .tup (.cons (.arr rfl ⟨zs, rfl⟩ (fun x hx => by obtain ⟨b, _, rfl⟩ := List.mem_map.1 hx; rfl) (by decide) (by simp)) (.cons (.refl _) (.cons (.refl _) .nil))))
              | (rw [refSet_chg (w := a.version) (by simpa using hcell) (by simpa using hval) hix hi (by assumption) (if_neg (by omega))]; exact .tup (.cons (.arr rfl ⟨zs, rfl⟩ (fun x hx => by obtain ⟨b, _, rfl⟩ := List.mem_map.1 hx; rfl) (by decide) (by simp)) (.cons (.refl _) (.cons (.refl _) .nil))))
          · try simp only [decide_eq_true_eq, decide_eq_false_iff_not, Bool.not_eq_true', Bool.not_eq_false', Int.not_lt, Int.not_le] at hb5
            have hlt := hb5
            refine wp_t rfl ?_
            refine awp_region ?_
            refine st_pop rfl rfl rfl rfl ?_
            refine st_pop rfl rfl rfl rfl ?_
            refine st_idxB (n := i) (off := i * 9) rfl rfl rfl rfl rfl rfl rfl rfl hil rfl ?_
            refine st_pop rfl rfl rfl rfl ?_
            refine st_loadX (.i .i64 a.version) rfl rfl rfl rfl rfl rfl (by obtain ⟨r, hr⟩ := att_row hi1 zs; show aload1 tt 3 (List.drop (i * 9 + 8) _) = _; rw [← List.drop_drop, hr]; rfl) ?_
            refine st_pop rfl rfl rfl rfl ?_
            refine st_val 60 (.i .i64 (a.version + 1)) rfl (wrap_in (by unfold inI at *; omega)) ?_
            refine st_idxB (n := i) (off := i * 9) rfl rfl rfl rfl rfl rfl rfl rfl hil rfl ?_
            refine st_pop rfl rfl rfl rfl ?_
            refine st_storeX (((l.set i ⟨a.c, v, a.version + 1⟩).map Att.av).flatten ++ zs) rfl rfl rfl rfl rfl rfl rfl rfl rfl rfl (by have := att_len (l := l.set i ⟨a.c, v, a.version⟩) (i := i) (by simpa using hil) zs; show i * 9 + 8 + 1 ≤ _; omega) ((att_put (off := 8) (cs := [.i .i64 (a.version + 1)]) (b := ⟨a.c, v, a.version + 1⟩) hi1 zs (show 8 + 1 ≤ 9 by decide) rfl).trans (by rw [List.set_set])) rfl ?_
            refine st_nil ?_
            refine at_norm ?_
            refine wp_reg ?_
            refine st_pop rfl rfl rfl rfl ?_
            refine st_pop rfl rfl rfl rfl ?_
            refine st_pop rfl rfl rfl rfl ?_
            refine st_pop rfl rfl rfl rfl ?_
            refine st_nil ?_
            refine awp_ret ?_
            refine ret_ret rfl rfl ?_
            first
              | (rw [refSet_cell (by simpa using hcell)]; exact .refl _)
              | (rw [refSet_val (by simpa using hcell) (by simpa using hval)]; exact .refl _)
              | (rw [refSet_full (by simpa using hcell) (by simpa using hval) hix (by omega)]; exact .refl _)
              | (rw [refSet_new (by simpa using hcell) (by simpa using hval) hix (by omega)]; exact .refl _)
              | (rw [refSet_same (by simpa using hcell) (by simpa using hval) hix hi (by assumption)]; exact .refl _)
              | (rw [refSet_chg (w := a.version + 1) (by simpa using hcell) (by simpa using hval) hix hi (by assumption) (if_pos (by omega))]; exact .tup (.cons (.arr rfl ⟨zs, rfl⟩ (fun x hx => by obtain ⟨b, _, rfl⟩ := List.mem_map.1 hx; rfl) (by decide) (by simp)) (.cons (.refl _) (.cons (.refl _) .nil))))
              | (rw [refSet_chg (w := a.version) (by simpa using hcell) (by simpa using hval) hix hi (by assumption) (if_neg (by omega))]; exact .tup (.cons (.arr rfl ⟨zs, rfl⟩ (fun x hx => by obtain ⟨b, _, rfl⟩ := List.mem_map.1 hx; rfl) (by decide) (by simp)) (.cons (.refl _) (.cons (.refl _) .nil))))
        · try simp only [decide_eq_true_eq, decide_eq_false_iff_not, Bool.not_eq_true', Bool.not_eq_false', Int.not_lt, Int.not_le] at hb4
          refine wp_t rfl ?_
          refine wp_reg ?_
          refine st_pop rfl rfl rfl rfl ?_
          refine st_pop rfl rfl rfl rfl ?_
          refine st_pop rfl rfl rfl rfl ?_
          refine st_pop rfl rfl rfl rfl ?_
          refine st_nil ?_
          refine awp_ret ?_
          refine at_ret ?_
          refine ret_ret rfl rfl ?_
          first
            | (rw [refSet_cell (by simpa using hcell)]; exact .refl _)
            | (rw [refSet_val (by simpa using hcell) (by simpa using hval)]; exact .refl _)
            | (rw [refSet_full (by simpa using hcell) (by simpa using hval) hix (by omega)]; exact .refl _)
            | (rw [refSet_new (by simpa using hcell) (by simpa using hval) hix (by omega)]; exact .refl _)
            | (rw [refSet_same (by simpa using hcell) (by simpa using hval) hix hi (by assumption)]; exact .refl _)
            | (rw [refSet_chg (w := a.version + 1) (by simpa using hcell) (by simpa using hval) hix hi (by assumption) (if_pos (by omega))]; exact .tup (.cons (.arr rfl ⟨zs, rfl⟩ (fun x hx => by obtain ⟨b, _, rfl⟩ := List.mem_map.1 hx; rfl) (by decide) (by simp)) (.cons (.refl _) (.cons (.refl _) .nil))))
            | (rw [refSet_chg (w := a.version) (by simpa using hcell) (by simpa using hval) hix hi (by assumption) (if_neg (by omega))]; exact .tup (.cons (.arr rfl ⟨zs, rfl⟩ (fun x hx => by obtain ⟨b, _, rfl⟩ := List.mem_map.1 hx; rfl) (by decide) (by simp)) (.cons (.refl _) (.cons (.refl _) .nil))))
      · try simp only [decide_eq_true_eq, decide_eq_false_iff_not, Bool.not_eq_true', Bool.not_eq_false', Int.not_lt, Int.not_le] at hb3
        have hix := idxA_none (l := l) (c := c) (by omega)
        refine wp_t rfl ?_
        refine awp_seq ?_
        refine wp_reg ?_
        refine st_pop rfl rfl rfl rfl ?_
        refine st_pop rfl rfl rfl rfl ?_
        refine st_val 25 (.i .i64 ((l.length : Nat) : Int)) rfl (by simp) ?_
        refine st_pop rfl rfl rfl rfl ?_
        refine st_nil ?_
        refine wp_bit 26 rfl fun b hb6 => ?_
        cases b
        · try simp only [decide_eq_true_eq, decide_eq_false_iff_not, Bool.not_eq_true', Bool.not_eq_false', Int.not_lt, Int.not_le] at hb6
          refine wp_f rfl ?_
          refine awp_skip ?_
          refine at_norm ?_
          refine wp_reg ?_
          refine st_pop rfl rfl rfl rfl ?_
          refine st_pop rfl rfl rfl rfl ?_
          refine st_pop rfl rfl rfl rfl ?_
          refine st_pop rfl rfl rfl rfl ?_
          refine st_calc (xs := [.tmp 28, .tmp 31]) _ rfl rfl rfl rfl Try.func30 rfl rfl rfl (put_c l (by omega) (fun x hx => (hf x hx).1) ⟨c, v, 0⟩ hc _) ?_
          refine st_pop rfl rfl rfl rfl ?_
          refine st_pop rfl rfl rfl rfl ?_
          refine st_pop rfl rfl rfl rfl ?_
          refine st_nil ?_
          refine awp_ret ?_
          refine at_ret ?_
          refine ret_ret rfl rfl ?_
          first
            | (rw [refSet_cell (by simpa using hcell)]; exact .refl _)
            | (rw [refSet_val (by simpa using hcell) (by simpa using hval)]; exact .refl _)
            | (rw [refSet_full (by simpa using hcell) (by simpa using hval) hix (by omega)]; exact .refl _)
            | (rw [refSet_new (by simpa using hcell) (by simpa using hval) hix (by omega)]; exact .refl _)
            | (rw [refSet_same (by simpa using hcell) (by simpa using hval) hix hi (by assumption)]; exact .refl _)
            | (rw [refSet_chg (w := a.version + 1) (by simpa using hcell) (by simpa using hval) hix hi (by assumption) (if_pos (by omega))]; exact .tup (.cons (.arr rfl ⟨zs, rfl⟩ (fun x hx => by obtain ⟨b, _, rfl⟩ := List.mem_map.1 hx; rfl) (by decide) (by simp)) (.cons (.refl _) (.cons (.refl _) .nil))))
            | (rw [refSet_chg (w := a.version) (by simpa using hcell) (by simpa using hval) hix hi (by assumption) (if_neg (by omega))]; exact .tup (.cons (.arr rfl ⟨zs, rfl⟩ (fun x hx => by obtain ⟨b, _, rfl⟩ := List.mem_map.1 hx; rfl) (by decide) (by simp)) (.cons (.refl _) (.cons (.refl _) .nil))))
        · try simp only [decide_eq_true_eq, decide_eq_false_iff_not, Bool.not_eq_true', Bool.not_eq_false', Int.not_lt, Int.not_le] at hb6
          refine wp_t rfl ?_
          refine wp_reg ?_
          refine st_pop rfl rfl rfl rfl ?_
          refine st_pop rfl rfl rfl rfl ?_
          refine st_pop rfl rfl rfl rfl ?_
          refine st_pop rfl rfl rfl rfl ?_
          refine st_nil ?_
          refine awp_ret ?_
          refine at_ret ?_
          refine at_ret ?_
          refine ret_ret rfl rfl ?_
          first
            | (rw [refSet_cell (by simpa using hcell)]; exact .refl _)
            | (rw [refSet_val (by simpa using hcell) (by simpa using hval)]; exact .refl _)
            | (rw [refSet_full (by simpa using hcell) (by simpa using hval) hix (by omega)]; exact .refl _)
            | (rw [refSet_new (by simpa using hcell) (by simpa using hval) hix (by omega)]; exact .refl _)
            | (rw [refSet_same (by simpa using hcell) (by simpa using hval) hix hi (by assumption)]; exact .refl _)
            | (rw [refSet_chg (w := a.version + 1) (by simpa using hcell) (by simpa using hval) hix hi (by assumption) (if_pos (by omega))]; exact .tup (.cons (.arr rfl ⟨zs, rfl⟩ (fun x hx => by obtain ⟨b, _, rfl⟩ := List.mem_map.1 hx; rfl) (by decide) (by simp)) (.cons (.refl _) (.cons (.refl _) .nil))))
            | (rw [refSet_chg (w := a.version) (by simpa using hcell) (by simpa using hval) hix hi (by assumption) (if_neg (by omega))]; exact .tup (.cons (.arr rfl ⟨zs, rfl⟩ (fun x hx => by obtain ⟨b, _, rfl⟩ := List.mem_map.1 hx; rfl) (by decide) (by simp)) (.cons (.refl _) (.cons (.refl _) .nil))))
    · try simp only [decide_eq_true_eq, decide_eq_false_iff_not, Bool.not_eq_true', Bool.not_eq_false', Int.not_lt, Int.not_le] at hb2
      have hval : valRight v = false := by simpa using hb2
      refine wp_t rfl ?_
      refine wp_reg ?_
      refine st_pop rfl rfl rfl rfl ?_
      refine st_pop rfl rfl rfl rfl ?_
      refine st_pop rfl rfl rfl rfl ?_
      refine st_pop rfl rfl rfl rfl ?_
      refine st_nil ?_
      refine awp_ret ?_
      refine at_ret ?_
      refine ret_ret rfl rfl ?_
      first
        | (rw [refSet_cell (by simpa using hcell)]; exact .refl _)
        | (rw [refSet_val (by simpa using hcell) (by simpa using hval)]; exact .refl _)
        | (rw [refSet_full (by simpa using hcell) (by simpa using hval) hix (by omega)]; exact .refl _)
        | (rw [refSet_new (by simpa using hcell) (by simpa using hval) hix (by omega)]; exact .refl _)
        | (rw [refSet_same (by simpa using hcell) (by simpa using hval) hix hi (by assumption)]; exact .refl _)
        | (rw [refSet_chg (w := a.version + 1) (by simpa using hcell) (by simpa using hval) hix hi (by assumption) (if_pos (by omega))]; exact .tup (.cons (.arr rfl ⟨zs, rfl⟩ (fun x hx => by obtain ⟨b, _, rfl⟩ := List.mem_map.1 hx; rfl) (by decide) (by simp)) (.cons (.refl _) (.cons (.refl _) .nil))))
        | (rw [refSet_chg (w := a.version) (by simpa using hcell) (by simpa using hval) hix hi (by assumption) (if_neg (by omega))]; exact .tup (.cons (.arr rfl ⟨zs, rfl⟩ (fun x hx => by obtain ⟨b, _, rfl⟩ := List.mem_map.1 hx; rfl) (by decide) (by simp)) (.cons (.refl _) (.cons (.refl _) .nil))))
  · try simp only [decide_eq_true_eq, decide_eq_false_iff_not, Bool.not_eq_true', Bool.not_eq_false', Int.not_lt, Int.not_le] at hb1
    have hcell : celOk c = false := by simpa using hb1
    refine wp_t rfl ?_
    refine wp_reg ?_
    refine st_pop rfl rfl rfl rfl ?_
    refine st_pop rfl rfl rfl rfl ?_
    refine st_pop rfl rfl rfl rfl ?_
    refine st_pop rfl rfl rfl rfl ?_
    refine st_nil ?_
    refine awp_ret ?_
    refine at_ret ?_
    refine ret_ret rfl rfl ?_
    first
      | (rw [refSet_cell (by simpa using hcell)]; exact .refl _)
      | (rw [refSet_val (by simpa using hcell) (by simpa using hval)]; exact .refl _)
      | (rw [refSet_full (by simpa using hcell) (by simpa using hval) hix (by omega)]; exact .refl _)
      | (rw [refSet_new (by simpa using hcell) (by simpa using hval) hix (by omega)]; exact .refl _)
      | (rw [refSet_same (by simpa using hcell) (by simpa using hval) hix hi (by assumption)]; exact .refl _)
      | (rw [refSet_chg (w := a.version + 1) (by simpa using hcell) (by simpa using hval) hix hi (by assumption) (if_pos (by omega))]; exact .tup (.cons (.arr rfl ⟨zs, rfl⟩ (fun x hx => by obtain ⟨b, _, rfl⟩ := List.mem_map.1 hx; rfl) (by decide) (by simp)) (.cons (.refl _) (.cons (.refl _) .nil))))
      | (rw [refSet_chg (w := a.version) (by simpa using hcell) (by simpa using hval) hix hi (by assumption) (if_neg (by omega))]; exact .tup (.cons (.arr rfl ⟨zs, rfl⟩ (fun x hx => by obtain ⟨b, _, rfl⟩ := List.mem_map.1 hx; rfl) (by decide) (by simp)) (.cons (.refl _) (.cons (.refl _) .nil))))
theorem new0  : ACalls tt 13 [] ⟨[], []⟩ (BigN tt 0 (OneN (.ptr 1 0) [] [mapB Cel.av Hld.agg ([] : Sto), .cells [.m 0]])) := by
  refine body_bigN (T := tt) Try.func13 rfl Try.ntmps13 rfl rfl ?_
  refine wp_reg ?_
  refine st_pop rfl rfl rfl rfl ?_
  refine st_nil ?_
  refine wp_reg ?_
  refine st_makeMap rfl rfl rfl rfl rfl ?_
  refine st_pop rfl rfl rfl rfl ?_
  refine st_box rfl rfl rfl rfl rfl rfl rfl rfl rfl ?_
  refine st_pop rfl rfl rfl rfl ?_
  refine st_nil ?_
  refine awp_ret ?_
  refine ret_ret rfl rfl ?_
  exact bigN (.refl _) rfl rfl ⟨[], rfl⟩ rfl
theorem new_c (H : AH) (n : Nat) (hn : H.bs.length = n) : ACalls tt 13 [] H (fun r H' => r = .ptr (n + 1) 0 ∧ H' = ⟨H.bs ++ [mapB Cel.av Hld.agg ([] : Sto), .cells [.m n]], H.ts⟩) := by
  subst hn
  refine (acalls_emp rfl new0 H).mono ?_
  rintro r H' ⟨r', ns, ⟨rfl, -, rfl⟩, rfl, rfl⟩
  exact ⟨rfl, rfl⟩
theorem sto_okN (s : Sto) (n : Nat) (hn : 1 ≤ n) (m : Nat) (hm : m < n) : ([] ++ [mapB Cel.av Hld.agg s, ABox.cells [.m m]]).all (okB n) = true := by
  show (okB n (mapB Cel.av Hld.agg s) && (okB n (.cells [.m m]) && true)) = true
  rw [sto_okB]
  simp [okB, okL, ok, hm]
theorem stored0 (l : List Att) (hl : ∀ a ∈ l, a.fit) (hsz : l.length ≤ 9223372036854775807) : ACalls tt 6 [.l none 56 (l.map Att.av)] ⟨[], []⟩ (BigN tt 0 (OneN (.tup [.ptr 1 0, .l none 56 ((attK l l.length).map Att.av)]) [] [mapB Cel.av Hld.agg (stoK l l.length), .cells [.m 0]])) := by
  refine body_bigN (T := tt) Try.func6 rfl Try.ntmps6 rfl rfl ?_
  refine wp_reg ?_
  refine st_pop rfl rfl rfl rfl ?_
  refine st_pop rfl rfl rfl rfl ?_
  refine st_nil ?_
  refine wp_reg ?_
  refine st_calcW (xs := []) _ rfl rfl rfl rfl Try.func13 rfl rfl rfl (new_c _ 0 rfl) rfl ?_
  refine st_pop rfl rfl rfl rfl ?_
  refine st_nil ?_
  refine wp_reg ?_
  refine st_pop rfl rfl rfl rfl ?_
  refine st_nil ?_
  refine awp_seq ?_
  refine wp_reg ?_
  refine st_pop rfl rfl rfl rfl ?_
  refine st_pop rfl rfl rfl rfl ?_
  refine st_val 9 (.i .i64 ((l.length : Nat) : Int)) rfl (by simp) ?_
  refine st_pop rfl rfl rfl rfl ?_
  refine st_nil ?_
  refine awp_block ?_
  refine wp_weak (d := 5) rfl (.nil 56) ?_
  refine wp_loop (α := Nat) (fun k => frl [(0, .l none 56 (l.map Att.av)), (4, .ptr 1 0), (5, .l none 56 ((attK l k).map Att.av)), (9, .i .i64 ((l.length : Nat) : Int)), (10, .i .i64 ((k : Nat) : Int))]) (fun k => ⟨[mapB Cel.av Hld.agg (stoK l k), .cells [.m 0]], []⟩) (fun k => k ≤ l.length) (fun k => l.length - k) 0 (Nat.zero_le _) (wk_frl (wk_cons rfl (wk_cons rfl (wk_cons rfl (wk_cons rfl (wk_cons rfl wk_nil)))))) rfl ?_
  intro k hk
  refine wp_reg ?_
  refine st_pop rfl rfl rfl rfl ?_
  refine st_nil ?_
  refine awp_seq ?_
  refine wp_bit 11 rfl fun b hb1 => ?_
  cases b
  · try simp only [decide_eq_true_eq, decide_eq_false_iff_not, Bool.not_eq_true', Bool.not_eq_false', Int.not_lt, Int.not_le] at hb1
    refine wp_f rfl ?_
    refine awp_exit ?_
    refine at_exit ?_
    refine at_exit ?_
    refine ab_hit ?_
    refine at_norm ?_
    refine wp_reg ?_
    refine st_pop rfl rfl rfl rfl ?_
    refine st_pop rfl rfl rfl rfl ?_
    refine st_pop rfl rfl rfl rfl ?_
    refine st_pop rfl rfl rfl rfl ?_
    refine st_nil ?_
    refine awp_ret ?_
    refine ret_ret rfl rfl ?_
    obtain rfl : k = l.length := by omega
    exact bigN (.refl _) (by simp [ok, okL, clean_okLL _ (atts_clean _)]) rfl ⟨[], rfl⟩ (sto_okN _ 2 (by omega) 0 (by omega))
  · try simp only [decide_eq_true_eq, decide_eq_false_iff_not, Bool.not_eq_true', Bool.not_eq_false', Int.not_lt, Int.not_le] at hb1
    obtain ⟨a, ha⟩ : ∃ a, l[k]? = some a := ⟨_, List.getElem?_eq_getElem (by omega)⟩
    have haf := hl a (List.mem_of_getElem? ha)
    refine wp_t rfl ?_
    refine awp_skip ?_
    refine at_norm ?_
    refine awp_seq ?_
    refine awp_block ?_
    refine wp_reg ?_
    refine st_pop rfl rfl rfl rfl ?_
    refine st_pop rfl rfl rfl rfl ?_
    refine st_nil ?_
    refine wp_open [.op 11, .bar] (D := [0, 0, 0, 6, 14, 30, 0, 0, 192, 448, 960, 2047]) (by kernel_rfl) (by kernel_rfl) (by kernel_rfl) ?_
    refine ad_op rfl rfl ?_
    refine do_pop rfl rfl rfl rfl rfl (by kernel_rfl) ?_
    refine do_pop rfl rfl rfl rfl rfl (by kernel_rfl) ?_
    refine do_pop rfl rfl rfl rfl rfl (by kernel_rfl) ?_
    refine do_idxA (n := k) a.av rfl rfl rfl rfl rfl rfl rfl rfl (by simp [ha]) ?_
    refine do_pop rfl rfl rfl rfl rfl (by kernel_rfl) ?_
    refine do_pop rfl rfl rfl rfl rfl (by kernel_rfl) ?_
    refine do_pop rfl rfl rfl rfl rfl (by kernel_rfl) ?_
    refine do_pop rfl rfl rfl rfl rfl (by kernel_rfl) ?_
    refine do_idxA (n := k) a.av rfl rfl rfl rfl rfl rfl rfl rfl (by simp [ha]) ?_
    refine do_pop rfl rfl rfl rfl rfl (by kernel_rfl) ?_
    refine do_pop rfl rfl rfl rfl rfl (by kernel_rfl) ?_
    refine do_nil ?_
    refine ad_bar ?_
    refine st_calcW (xs := [.tmp 13, .tmp 18, .tmp 23]) _ rfl rfl rfl rfl Try.func15 rfl rfl rfl (set_c (stoK l k) (stoK_ok hl k) a.c a.v haf.2.1 _ 1 0 rfl rfl) rfl ?_
    refine st_nil ?_
    refine ad_nil ?_
    refine awp_open [.op 11, .bar, .bar, .op 4] (D := [0, 0, 0, 6, 14, 30, 0, 0, 192, 448, 960, 2047, 4095, 8191, 8191, 8191, 16383]) (by kernel_rfl) (by kernel_rfl) (by kernel_rfl) ?_
    refine ad_op rfl rfl ?_
    refine do_pop rfl rfl rfl rfl rfl (by kernel_rfl) ?_
    refine do_pop rfl rfl rfl rfl rfl (by kernel_rfl) ?_
    refine do_pop rfl rfl rfl rfl rfl (by kernel_rfl) ?_
    refine do_idxA (n := k) a.av rfl rfl rfl rfl rfl rfl rfl rfl (by simp [ha]) ?_
    refine do_pop rfl rfl rfl rfl rfl (by kernel_rfl) ?_
    refine do_pop rfl rfl rfl rfl rfl (by kernel_rfl) ?_
    refine do_pop rfl rfl rfl rfl rfl (by kernel_rfl) ?_
    refine do_pop rfl rfl rfl rfl rfl (by kernel_rfl) ?_
    refine do_idxA (n := k) a.av rfl rfl rfl rfl rfl rfl rfl rfl (by simp [ha]) ?_
    refine do_pop rfl rfl rfl rfl rfl (by kernel_rfl) ?_
    refine do_pop rfl rfl rfl rfl rfl (by kernel_rfl) ?_
    refine do_nil ?_
    refine ad_bar ?_
    refine st_calc (xs := [.tmp 26, .tmp 31, .tmp 36]) _ rfl rfl rfl rfl Try.func16 rfl rfl rfl (refSet_c (attK l k) (attK_ok hl k) a.c haf.1 a.v haf.2.1 _) ?_
    refine st_nil ?_
    refine ad_bar ?_
    refine st_pop rfl rfl rfl rfl ?_
    refine st_nil ?_
    refine ad_op rfl rfl ?_
    refine do_pop rfl rfl rfl rfl rfl (by kernel_rfl) ?_
    refine do_pop rfl rfl rfl rfl rfl (by kernel_rfl) ?_
    refine do_pop rfl rfl rfl rfl rfl (by kernel_rfl) ?_
    refine do_pop rfl rfl rfl rfl rfl (by kernel_rfl) ?_
    refine do_nil ?_
    refine ad_nil ?_
    refine ab_norm ?_
    refine at_norm ?_
    refine awp_region ?_
    refine st_pop rfl rfl rfl rfl ?_
    refine st_pop rfl rfl rfl rfl ?_
    refine st_nil ?_
    refine at_norm ?_
    refine ⟨k + 1, by omega, wk_frl (wk_cons rfl (wk_cons rfl (wk_cons (by rw [attK_at ha]; rfl) (wk_cons rfl (wk_cons (wrap_succ (by omega)) wk_nil))))), by rw [stoK_at ha], by omega⟩
theorem stored_c (l : List Att) (hl : ∀ a ∈ l, a.fit) (hsz : l.length ≤ 9223372036854775807) (H : AH) (n : Nat) (hn : H.bs.length = n) : ACalls tt 6 [.l none 56 (l.map Att.av)] H (fun r H' => r = .tup [.ptr (n + 1) 0, .l none 56 ((attK l l.length).map Att.av)] ∧ H' = ⟨H.bs ++ [mapB Cel.av Hld.agg (stoK l l.length), .cells [.m n]], H.ts⟩) := by
  subst hn
  refine (acalls_emp (by simp [cleanL, clean, atts_clean]) (stored0 l hl hsz) H).mono ?_
  rintro r H' ⟨r', ns, ⟨rfl, -, rfl⟩, rfl, rfl⟩
  refine ⟨?_, ?_⟩
  · simp only [ren, renL, clean_renLL _ (atts_clean _)]
  · simp only [List.map_cons, List.map_nil, sto_ren]; rfl
end Go.Proofs.Ytlclgpiabjlpbaa.Am

