/- Walks: package schema; the law EvalTyped. -/
import Derived.Test.YtlclgpiabjlpbaaC
import Derived.Test.YtlclgpiabjlpbaaKs
import Derived.Test.YtlclgpiabjlpbaaL
namespace Go.Proofs.Ytlclgpiabjlpbaa.Am
open Go.RowKit
set_option linter.unusedVariables false
set_option linter.unusedSimpArgs false
set_option maxRecDepth 100000
section
variable {T : TT} {N : Nat} {D : List Nat} {K : FrA → AH → Prop} {o : Oper} {rest : List Oper} {i : Nat} {acc : Acc} {fr : FrA} {H : AH} {d : Nat} {ts : List Nat}
theorem do_idxR {t : TypeId} {x ix : Operand} {b m : Nat} {E : TypeId} {kk : IntKind} {n : Nat} (hd : o.dst = some d) (hn : Nat.blt d N = true) (hts : rdO o = ts)
    (ho : o.op = .indexAddr t x ix) (hx : ev (frO ts fr) x = .arr b m E) (hk : T.kd t = some (.slice E)) (hkn : T.kn E = true) (hs : T.sz E = 1) (hi : ev (frO ts fr) ix = .i kk (n : Nat)) (hlt : n < m) (k : ADo T N D K rest (i + 1) ((i, false, []) :: acc) (upd fr d (.ptr b n)) H) : ADo T N D K (o :: rest) i acc fr H :=
  do_ar [] hd hn hts (fun H' _ => aop_pop (r := .ptr b n) (by simp [pop, ho, aidxA, hx, hk, hi, hkn, hlt, hs]) ⟨rfl, rfl⟩) (by simp [chkQ, disj]) k
theorem do_loadR {t : TypeId} {p : Operand} {b off : Nat} {l : List AV} (y : AV) (hd : o.dst = some d) (hn : Nat.blt d N = true) (hts : rdO o = ts) (ho : o.op = .load t p) (hp : ev (frO ts fr) p = .ptr b off) (hb : H.bs[b]? = some (.cells l)) (hag : T.ag t = some false) (hy : l[off]? = some y)
    (k : ADo T N D K rest (i + 1) ((i, false, [b]) :: acc) (upd fr d y) H) (hc : chkQ D i [b] acc = true := by kernel_rfl) : ADo T N D K (o :: rest) i acc fr H :=
  do_ar [b] hd hn hts (fun H' hH => aop_pop (r := y) (by simp [pop, ho, aload, aload1, hp, hH b (by simp), hb, hag, hy]) ⟨rfl, rfl⟩) hc k
end

theorem counts_c (a : Int) : ∀ H, ACalls tt 65 [.i .i64 a] H (fun res_ H' => res_ = .b (decide (a = 1 ∨ a = 4)) ∧ H' = H) := by
  refine body_calc (T := tt) Try.func65 rfl Try.ntmps65 rfl rfl (by rfl) (by rfl) ?_
  refine wp_reg ?_
  refine st_pop rfl rfl rfl rfl ?_
  refine st_nil ?_
  refine wp_reg ?_
  refine st_pop rfl rfl rfl rfl ?_
  refine st_pop rfl rfl rfl rfl ?_
  refine st_pop rfl rfl rfl rfl ?_
  refine st_bit 5 rfl fun b hb1 => ?_
  cases b
  · try simp only [decide_eq_true_eq, decide_eq_false_iff_not, Bool.not_eq_true', Bool.not_eq_false', Int.not_lt, Int.not_le] at hb1
    refine st_pop rfl rfl rfl rfl ?_
    refine st_pop rfl rfl rfl rfl ?_
    refine st_pop rfl rfl rfl rfl ?_
    refine st_pop rfl rfl rfl rfl ?_
    refine st_nil ?_
    refine awp_ret ?_
    refine ret_ret rfl rfl ?_
    refine wk_b ?_
    first
      | (simp_all; done)
      | (rw [Bool.eq_iff_iff]; simp_all; done)
  · try simp only [decide_eq_true_eq, decide_eq_false_iff_not, Bool.not_eq_true', Bool.not_eq_false', Int.not_lt, Int.not_le] at hb1
    refine st_skip rfl rfl rfl ?_
    refine st_skip rfl rfl rfl ?_
    refine st_pop rfl rfl rfl rfl ?_
    refine st_pop rfl rfl rfl rfl ?_
    refine st_nil ?_
    refine awp_ret ?_
    refine ret_ret rfl rfl ?_
    refine wk_b ?_
    first
      | (simp_all; done)
      | (rw [Bool.eq_iff_iff]; simp_all; done)
theorem ranked_c (a : Int) : ∀ H, ACalls tt 66 [.i .i64 a] H (fun res_ H' => res_ = .b (!decide (a = 3)) ∧ H' = H) := by
  refine body_calc (T := tt) Try.func66 rfl Try.ntmps66 rfl rfl (by rfl) (by rfl) ?_
  refine wp_reg ?_
  refine st_pop rfl rfl rfl rfl ?_
  refine st_nil ?_
  refine wp_reg ?_
  refine st_pop rfl rfl rfl rfl ?_
  refine st_pop rfl rfl rfl rfl ?_
  refine st_pop rfl rfl rfl rfl ?_
  refine st_nil ?_
  refine awp_ret ?_
  refine ret_ret rfl rfl ?_
  refine wk_b ?_
  first
    | (simp_all; done)
    | (rw [Bool.eq_iff_iff]; simp_all; done)
theorem single_c (op a : Int) : ∀ H, ACalls tt 39 [.i .i64 op, .i .i64 a] H (fun res_ H' => res_ = .i .i64 (singleP op a) ∧ H' = H) := by
  refine body_calc (T := tt) Try.func39 rfl Try.ntmps39 rfl rfl (by rfl) (by rfl) ?_
  refine wp_reg ?_
  refine st_pop rfl rfl rfl rfl ?_
  refine st_nil ?_
  refine awp_seq ?_
  refine awp_block ?_
  refine awp_seq ?_
  refine wp_reg ?_
  refine st_pop rfl rfl rfl rfl ?_
  refine st_pop rfl rfl rfl rfl ?_
  refine st_pop rfl rfl rfl rfl ?_
  refine st_bit 8 rfl fun b hb1 => ?_
  cases b
  · try simp only [decide_eq_true_eq, decide_eq_false_iff_not, Bool.not_eq_true', Bool.not_eq_false', Int.not_lt, Int.not_le] at hb1
    refine st_skip rfl rfl rfl ?_
    refine st_skip rfl rfl rfl ?_
    refine st_pop rfl rfl rfl rfl ?_
    refine st_pop rfl rfl rfl rfl ?_
    refine st_nil ?_
    refine wp_f rfl ?_
    refine awp_region ?_
    refine st_pop rfl rfl rfl rfl ?_
    refine st_pop rfl rfl rfl rfl ?_
    refine st_pop rfl rfl rfl rfl ?_
    refine st_bit 14 rfl fun b hb2 => ?_
    cases b
    · try simp only [decide_eq_true_eq, decide_eq_false_iff_not, Bool.not_eq_true', Bool.not_eq_false', Int.not_lt, Int.not_le] at hb2
      refine st_skip rfl rfl rfl ?_
      refine st_skip rfl rfl rfl ?_
      refine st_pop rfl rfl rfl rfl ?_
      refine st_pop rfl rfl rfl rfl ?_
      refine st_nil ?_
      refine at_norm ?_
      refine wp_f rfl ?_
      refine awp_seq ?_
      refine wp_reg ?_
      refine st_pop rfl rfl rfl rfl ?_
      refine st_pop rfl rfl rfl rfl ?_
      refine st_pop rfl rfl rfl rfl ?_
      refine st_bit 22 rfl fun b hb3 => ?_
      cases b
      · try simp only [decide_eq_true_eq, decide_eq_false_iff_not, Bool.not_eq_true', Bool.not_eq_false', Int.not_lt, Int.not_le] at hb3
        refine st_skip rfl rfl rfl ?_
        refine st_skip rfl rfl rfl ?_
        refine st_pop rfl rfl rfl rfl ?_
        refine st_pop rfl rfl rfl rfl ?_
        refine st_nil ?_
        refine wp_f rfl ?_
        refine awp_region ?_
        refine st_pop rfl rfl rfl rfl ?_
        refine st_pop rfl rfl rfl rfl ?_
        refine st_pop rfl rfl rfl rfl ?_
        refine st_bit 28 rfl fun b hb4 => ?_
        cases b
        · try simp only [decide_eq_true_eq, decide_eq_false_iff_not, Bool.not_eq_true', Bool.not_eq_false', Int.not_lt, Int.not_le] at hb4
          refine st_skip rfl rfl rfl ?_
          refine st_skip rfl rfl rfl ?_
          refine st_pop rfl rfl rfl rfl ?_
          refine st_pop rfl rfl rfl rfl ?_
          refine st_nil ?_
          refine at_norm ?_
          refine wp_f rfl ?_
          refine wp_reg ?_
          refine st_pop rfl rfl rfl rfl ?_
          refine st_pop rfl rfl rfl rfl ?_
          refine st_pop rfl rfl rfl rfl ?_
          refine st_bit 35 rfl fun b hb5 => ?_
          cases b
          · try simp only [decide_eq_true_eq, decide_eq_false_iff_not, Bool.not_eq_true', Bool.not_eq_false', Int.not_lt, Int.not_le] at hb5
            refine st_skip rfl rfl rfl ?_
            refine st_skip rfl rfl rfl ?_
            refine st_pop rfl rfl rfl rfl ?_
            refine st_pop rfl rfl rfl rfl ?_
            refine st_nil ?_
            refine wp_f rfl ?_
            refine awp_skip ?_
            refine ab_norm ?_
            refine at_norm ?_
            refine wp_reg ?_
            refine st_pop rfl rfl rfl rfl ?_
            refine st_nil ?_
            refine awp_ret ?_
            refine ret_ret rfl rfl ?_
            refine wk_i ?_
            unfold singleP
            first
              | (simp_all; done)
              | grind
          · try simp only [decide_eq_true_eq, decide_eq_false_iff_not, Bool.not_eq_true', Bool.not_eq_false', Int.not_lt, Int.not_le] at hb5
            refine st_pop rfl rfl rfl rfl ?_
            refine st_pop rfl rfl rfl rfl ?_
            refine st_pop rfl rfl rfl rfl ?_
            refine st_pop rfl rfl rfl rfl ?_
            refine st_nil ?_
            refine wp_bit 32 rfl fun b hb6 => ?_
            cases b
            · try simp only [decide_eq_true_eq, decide_eq_false_iff_not, Bool.not_eq_true', Bool.not_eq_false', Int.not_lt, Int.not_le] at hb6
              refine wp_f rfl ?_
              refine awp_skip ?_
              refine ab_norm ?_
              refine at_norm ?_
              refine wp_reg ?_
              refine st_pop rfl rfl rfl rfl ?_
              refine st_nil ?_
              refine awp_ret ?_
              refine ret_ret rfl rfl ?_
              refine wk_i ?_
              unfold singleP
              first
                | (simp_all; done)
                | grind
            · try simp only [decide_eq_true_eq, decide_eq_false_iff_not, Bool.not_eq_true', Bool.not_eq_false', Int.not_lt, Int.not_le] at hb6
              refine wp_t rfl ?_
              refine wp_reg ?_
              refine st_pop rfl rfl rfl rfl ?_
              refine st_nil ?_
              refine awp_ret ?_
              refine ab_ret ?_
              refine at_ret ?_
              refine ret_ret rfl rfl ?_
              refine wk_i ?_
              unfold singleP
              first
                | (simp_all; done)
                | grind
        · try simp only [decide_eq_true_eq, decide_eq_false_iff_not, Bool.not_eq_true', Bool.not_eq_false', Int.not_lt, Int.not_le] at hb4
          refine st_pop rfl rfl rfl rfl ?_
          refine st_pop rfl rfl rfl rfl ?_
          refine st_pop rfl rfl rfl rfl ?_
          refine st_pop rfl rfl rfl rfl ?_
          refine st_nil ?_
          refine at_norm ?_
          refine wp_bit 19 rfl fun b hb7 => ?_
          cases b
          · try simp only [decide_eq_true_eq, decide_eq_false_iff_not, Bool.not_eq_true', Bool.not_eq_false', Int.not_lt, Int.not_le] at hb7
            refine wp_f rfl ?_
            refine wp_reg ?_
            refine st_pop rfl rfl rfl rfl ?_
            refine st_pop rfl rfl rfl rfl ?_
            refine st_pop rfl rfl rfl rfl ?_
            refine st_bit 35 rfl fun b hb8 => ?_
            cases b
            · try simp only [decide_eq_true_eq, decide_eq_false_iff_not, Bool.not_eq_true', Bool.not_eq_false', Int.not_lt, Int.not_le] at hb8
              refine st_skip rfl rfl rfl ?_
              refine st_skip rfl rfl rfl ?_
              refine st_pop rfl rfl rfl rfl ?_
              refine st_pop rfl rfl rfl rfl ?_
              refine st_nil ?_
              refine wp_f rfl ?_
              refine awp_skip ?_
              refine ab_norm ?_
              refine at_norm ?_
              refine wp_reg ?_
              refine st_pop rfl rfl rfl rfl ?_
              refine st_nil ?_
              refine awp_ret ?_
              refine ret_ret rfl rfl ?_
              refine wk_i ?_
              unfold singleP
              first
                | (simp_all; done)
                | grind
            · try simp only [decide_eq_true_eq, decide_eq_false_iff_not, Bool.not_eq_true', Bool.not_eq_false', Int.not_lt, Int.not_le] at hb8
              refine st_pop rfl rfl rfl rfl ?_
              refine st_pop rfl rfl rfl rfl ?_
              refine st_pop rfl rfl rfl rfl ?_
              refine st_pop rfl rfl rfl rfl ?_
              refine st_nil ?_
              refine wp_bit 32 rfl fun b hb9 => ?_
              cases b
              · try simp only [decide_eq_true_eq, decide_eq_false_iff_not, Bool.not_eq_true', Bool.not_eq_false', Int.not_lt, Int.not_le] at hb9
                refine wp_f rfl ?_
                refine awp_skip ?_
                refine ab_norm ?_
                refine at_norm ?_
                refine wp_reg ?_
                refine st_pop rfl rfl rfl rfl ?_
                refine st_nil ?_
                refine awp_ret ?_
                refine ret_ret rfl rfl ?_
                refine wk_i ?_
                unfold singleP
                first
                  | (simp_all; done)
                  | grind
              · try simp only [decide_eq_true_eq, decide_eq_false_iff_not, Bool.not_eq_true', Bool.not_eq_false', Int.not_lt, Int.not_le] at hb9
                refine wp_t rfl ?_
                refine wp_reg ?_
                refine st_pop rfl rfl rfl rfl ?_
                refine st_nil ?_
                refine awp_ret ?_
                refine ab_ret ?_
                refine at_ret ?_
                refine ret_ret rfl rfl ?_
                refine wk_i ?_
                unfold singleP
                first
                  | (simp_all; done)
                  | grind
          · try simp only [decide_eq_true_eq, decide_eq_false_iff_not, Bool.not_eq_true', Bool.not_eq_false', Int.not_lt, Int.not_le] at hb7
            refine wp_t rfl ?_
            refine wp_reg ?_
            refine st_pop rfl rfl rfl rfl ?_
            refine st_nil ?_
            refine awp_ret ?_
            refine ab_ret ?_
            refine at_ret ?_
            refine ret_ret rfl rfl ?_
            refine wk_i ?_
            unfold singleP
            first
              | (simp_all; done)
              | grind
      · try simp only [decide_eq_true_eq, decide_eq_false_iff_not, Bool.not_eq_true', Bool.not_eq_false', Int.not_lt, Int.not_le] at hb3
        refine st_pop rfl rfl rfl rfl ?_
        refine st_pop rfl rfl rfl rfl ?_
        refine st_pop rfl rfl rfl rfl ?_
        refine st_pop rfl rfl rfl rfl ?_
        refine st_nil ?_
        refine wp_bit 19 rfl fun b hb10 => ?_
        cases b
        · try simp only [decide_eq_true_eq, decide_eq_false_iff_not, Bool.not_eq_true', Bool.not_eq_false', Int.not_lt, Int.not_le] at hb10
          refine wp_f rfl ?_
          refine awp_region ?_
          refine st_pop rfl rfl rfl rfl ?_
          refine st_pop rfl rfl rfl rfl ?_
          refine st_pop rfl rfl rfl rfl ?_
          refine st_bit 28 rfl fun b hb11 => ?_
          cases b
          · try simp only [decide_eq_true_eq, decide_eq_false_iff_not, Bool.not_eq_true', Bool.not_eq_false', Int.not_lt, Int.not_le] at hb11
            refine st_skip rfl rfl rfl ?_
            refine st_skip rfl rfl rfl ?_
            refine st_pop rfl rfl rfl rfl ?_
            refine st_pop rfl rfl rfl rfl ?_
            refine st_nil ?_
            refine at_norm ?_
            refine wp_f rfl ?_
            refine wp_reg ?_
            refine st_pop rfl rfl rfl rfl ?_
            refine st_pop rfl rfl rfl rfl ?_
            refine st_pop rfl rfl rfl rfl ?_
            refine st_bit 35 rfl fun b hb12 => ?_
            cases b
            · try simp only [decide_eq_true_eq, decide_eq_false_iff_not, Bool.not_eq_true', Bool.not_eq_false', Int.not_lt, Int.not_le] at hb12
              refine st_skip rfl rfl rfl ?_
              refine st_skip rfl rfl rfl ?_
              refine st_pop rfl rfl rfl rfl ?_
              refine st_pop rfl rfl rfl rfl ?_
              refine st_nil ?_
              refine wp_f rfl ?_
              refine awp_skip ?_
              refine ab_norm ?_
              refine at_norm ?_
              refine wp_reg ?_
              refine st_pop rfl rfl rfl rfl ?_
              refine st_nil ?_
              refine awp_ret ?_
              refine ret_ret rfl rfl ?_
              refine wk_i ?_
              unfold singleP
              first
                | (simp_all; done)
                | grind
            · try simp only [decide_eq_true_eq, decide_eq_false_iff_not, Bool.not_eq_true', Bool.not_eq_false', Int.not_lt, Int.not_le] at hb12
              refine st_pop rfl rfl rfl rfl ?_
              refine st_pop rfl rfl rfl rfl ?_
              refine st_pop rfl rfl rfl rfl ?_
              refine st_pop rfl rfl rfl rfl ?_
              refine st_nil ?_
              refine wp_bit 32 rfl fun b hb13 => ?_
              cases b
              · try simp only [decide_eq_true_eq, decide_eq_false_iff_not, Bool.not_eq_true', Bool.not_eq_false', Int.not_lt, Int.not_le] at hb13
                refine wp_f rfl ?_
                refine awp_skip ?_
                refine ab_norm ?_
                refine at_norm ?_
                refine wp_reg ?_
                refine st_pop rfl rfl rfl rfl ?_
                refine st_nil ?_
                refine awp_ret ?_
                refine ret_ret rfl rfl ?_
                refine wk_i ?_
                unfold singleP
                first
                  | (simp_all; done)
                  | grind
              · try simp only [decide_eq_true_eq, decide_eq_false_iff_not, Bool.not_eq_true', Bool.not_eq_false', Int.not_lt, Int.not_le] at hb13
                refine wp_t rfl ?_
                refine wp_reg ?_
                refine st_pop rfl rfl rfl rfl ?_
                refine st_nil ?_
                refine awp_ret ?_
                refine ab_ret ?_
                refine at_ret ?_
                refine ret_ret rfl rfl ?_
                refine wk_i ?_
                unfold singleP
                first
                  | (simp_all; done)
                  | grind
          · try simp only [decide_eq_true_eq, decide_eq_false_iff_not, Bool.not_eq_true', Bool.not_eq_false', Int.not_lt, Int.not_le] at hb11
            refine st_pop rfl rfl rfl rfl ?_
            refine st_pop rfl rfl rfl rfl ?_
            refine st_pop rfl rfl rfl rfl ?_
            refine st_pop rfl rfl rfl rfl ?_
            refine st_nil ?_
            refine at_norm ?_
            refine wp_bit 19 rfl fun b hb14 => ?_
            cases b
            · try simp only [decide_eq_true_eq, decide_eq_false_iff_not, Bool.not_eq_true', Bool.not_eq_false', Int.not_lt, Int.not_le] at hb14
              refine wp_f rfl ?_
              refine wp_reg ?_
              refine st_pop rfl rfl rfl rfl ?_
              refine st_pop rfl rfl rfl rfl ?_
              refine st_pop rfl rfl rfl rfl ?_
              refine st_bit 35 rfl fun b hb15 => ?_
              cases b
              · try simp only [decide_eq_true_eq, decide_eq_false_iff_not, Bool.not_eq_true', Bool.not_eq_false', Int.not_lt, Int.not_le] at hb15
                refine st_skip rfl rfl rfl ?_
                refine st_skip rfl rfl rfl ?_
                refine st_pop rfl rfl rfl rfl ?_
                refine st_pop rfl rfl rfl rfl ?_
                refine st_nil ?_
                refine wp_f rfl ?_
                refine awp_skip ?_
                refine ab_norm ?_
                refine at_norm ?_
                refine wp_reg ?_
                refine st_pop rfl rfl rfl rfl ?_
                refine st_nil ?_
                refine awp_ret ?_
                refine ret_ret rfl rfl ?_
                refine wk_i ?_
                unfold singleP
                first
                  | (simp_all; done)
                  | grind
              · try simp only [decide_eq_true_eq, decide_eq_false_iff_not, Bool.not_eq_true', Bool.not_eq_false', Int.not_lt, Int.not_le] at hb15
                refine st_pop rfl rfl rfl rfl ?_
                refine st_pop rfl rfl rfl rfl ?_
                refine st_pop rfl rfl rfl rfl ?_
                refine st_pop rfl rfl rfl rfl ?_
                refine st_nil ?_
                refine wp_bit 32 rfl fun b hb16 => ?_
                cases b
                · try simp only [decide_eq_true_eq, decide_eq_false_iff_not, Bool.not_eq_true', Bool.not_eq_false', Int.not_lt, Int.not_le] at hb16
                  refine wp_f rfl ?_
                  refine awp_skip ?_
                  refine ab_norm ?_
                  refine at_norm ?_
                  refine wp_reg ?_
                  refine st_pop rfl rfl rfl rfl ?_
                  refine st_nil ?_
                  refine awp_ret ?_
                  refine ret_ret rfl rfl ?_
                  refine wk_i ?_
                  unfold singleP
                  first
                    | (simp_all; done)
                    | grind
                · try simp only [decide_eq_true_eq, decide_eq_false_iff_not, Bool.not_eq_true', Bool.not_eq_false', Int.not_lt, Int.not_le] at hb16
                  refine wp_t rfl ?_
                  refine wp_reg ?_
                  refine st_pop rfl rfl rfl rfl ?_
                  refine st_nil ?_
                  refine awp_ret ?_
                  refine ab_ret ?_
                  refine at_ret ?_
                  refine ret_ret rfl rfl ?_
                  refine wk_i ?_
                  unfold singleP
                  first
                    | (simp_all; done)
                    | grind
            · try simp only [decide_eq_true_eq, decide_eq_false_iff_not, Bool.not_eq_true', Bool.not_eq_false', Int.not_lt, Int.not_le] at hb14
              refine wp_t rfl ?_
              refine wp_reg ?_
              refine st_pop rfl rfl rfl rfl ?_
              refine st_nil ?_
              refine awp_ret ?_
              refine ab_ret ?_
              refine at_ret ?_
              refine ret_ret rfl rfl ?_
              refine wk_i ?_
              unfold singleP
              first
                | (simp_all; done)
                | grind
        · try simp only [decide_eq_true_eq, decide_eq_false_iff_not, Bool.not_eq_true', Bool.not_eq_false', Int.not_lt, Int.not_le] at hb10
          refine wp_t rfl ?_
          refine awp_skip ?_
          refine at_norm ?_
          refine wp_t rfl ?_
          refine wp_reg ?_
          refine st_pop rfl rfl rfl rfl ?_
          refine st_nil ?_
          refine awp_ret ?_
          refine ab_ret ?_
          refine at_ret ?_
          refine ret_ret rfl rfl ?_
          refine wk_i ?_
          unfold singleP
          first
            | (simp_all; done)
            | grind
    · try simp only [decide_eq_true_eq, decide_eq_false_iff_not, Bool.not_eq_true', Bool.not_eq_false', Int.not_lt, Int.not_le] at hb2
      refine st_pop rfl rfl rfl rfl ?_
      refine st_calc (xs := [.tmp 15]) _ rfl rfl rfl rfl Try.func65 rfl rfl rfl (counts_c _ _) ?_
      refine st_pop rfl rfl rfl rfl ?_
      refine st_pop rfl rfl rfl rfl ?_
      refine st_nil ?_
      refine at_norm ?_
      refine wp_bit 5 rfl fun b hb17 => ?_
      cases b
      · try simp only [decide_eq_true_eq, decide_eq_false_iff_not, Bool.not_eq_true', Bool.not_eq_false', Int.not_lt, Int.not_le] at hb17
        refine wp_f rfl ?_
        refine awp_seq ?_
        refine wp_reg ?_
        refine st_pop rfl rfl rfl rfl ?_
        refine st_pop rfl rfl rfl rfl ?_
        refine st_pop rfl rfl rfl rfl ?_
        refine st_bit 22 rfl fun b hb18 => ?_
        cases b
        · try simp only [decide_eq_true_eq, decide_eq_false_iff_not, Bool.not_eq_true', Bool.not_eq_false', Int.not_lt, Int.not_le] at hb18
          refine st_skip rfl rfl rfl ?_
          refine st_skip rfl rfl rfl ?_
          refine st_pop rfl rfl rfl rfl ?_
          refine st_pop rfl rfl rfl rfl ?_
          refine st_nil ?_
          refine wp_f rfl ?_
          refine awp_region ?_
          refine st_pop rfl rfl rfl rfl ?_
          refine st_pop rfl rfl rfl rfl ?_
          refine st_pop rfl rfl rfl rfl ?_
          refine st_bit 28 rfl fun b hb19 => ?_
          cases b
          · try simp only [decide_eq_true_eq, decide_eq_false_iff_not, Bool.not_eq_true', Bool.not_eq_false', Int.not_lt, Int.not_le] at hb19
            refine st_skip rfl rfl rfl ?_
            refine st_skip rfl rfl rfl ?_
            refine st_pop rfl rfl rfl rfl ?_
            refine st_pop rfl rfl rfl rfl ?_
            refine st_nil ?_
            refine at_norm ?_
            refine wp_f rfl ?_
            refine wp_reg ?_
            refine st_pop rfl rfl rfl rfl ?_
            refine st_pop rfl rfl rfl rfl ?_
            refine st_pop rfl rfl rfl rfl ?_
            refine st_bit 35 rfl fun b hb20 => ?_
            cases b
            · try simp only [decide_eq_true_eq, decide_eq_false_iff_not, Bool.not_eq_true', Bool.not_eq_false', Int.not_lt, Int.not_le] at hb20
              refine st_skip rfl rfl rfl ?_
              refine st_skip rfl rfl rfl ?_
              refine st_pop rfl rfl rfl rfl ?_
              refine st_pop rfl rfl rfl rfl ?_
              refine st_nil ?_
              refine wp_f rfl ?_
              refine awp_skip ?_
              refine ab_norm ?_
              refine at_norm ?_
              refine wp_reg ?_
              refine st_pop rfl rfl rfl rfl ?_
              refine st_nil ?_
              refine awp_ret ?_
              refine ret_ret rfl rfl ?_
              refine wk_i ?_
              unfold singleP
              first
                | (simp_all; done)
                | grind
            · try simp only [decide_eq_true_eq, decide_eq_false_iff_not, Bool.not_eq_true', Bool.not_eq_false', Int.not_lt, Int.not_le] at hb20
              refine st_pop rfl rfl rfl rfl ?_
              refine st_pop rfl rfl rfl rfl ?_
              refine st_pop rfl rfl rfl rfl ?_
              refine st_pop rfl rfl rfl rfl ?_
              refine st_nil ?_
              refine wp_bit 32 rfl fun b hb21 => ?_
              cases b
              · try simp only [decide_eq_true_eq, decide_eq_false_iff_not, Bool.not_eq_true', Bool.not_eq_false', Int.not_lt, Int.not_le] at hb21
                refine wp_f rfl ?_
                refine awp_skip ?_
                refine ab_norm ?_
                refine at_norm ?_
                refine wp_reg ?_
                refine st_pop rfl rfl rfl rfl ?_
                refine st_nil ?_
                refine awp_ret ?_
                refine ret_ret rfl rfl ?_
                refine wk_i ?_
                unfold singleP
                first
                  | (simp_all; done)
                  | grind
              · try simp only [decide_eq_true_eq, decide_eq_false_iff_not, Bool.not_eq_true', Bool.not_eq_false', Int.not_lt, Int.not_le] at hb21
                refine wp_t rfl ?_
                refine wp_reg ?_
                refine st_pop rfl rfl rfl rfl ?_
                refine st_nil ?_
                refine awp_ret ?_
                refine ab_ret ?_
                refine at_ret ?_
                refine ret_ret rfl rfl ?_
                refine wk_i ?_
                unfold singleP
                first
                  | (simp_all; done)
                  | grind
          · try simp only [decide_eq_true_eq, decide_eq_false_iff_not, Bool.not_eq_true', Bool.not_eq_false', Int.not_lt, Int.not_le] at hb19
            refine st_pop rfl rfl rfl rfl ?_
            refine st_pop rfl rfl rfl rfl ?_
            refine st_pop rfl rfl rfl rfl ?_
            refine st_pop rfl rfl rfl rfl ?_
            refine st_nil ?_
            refine at_norm ?_
            refine wp_bit 19 rfl fun b hb22 => ?_
            cases b
            · try simp only [decide_eq_true_eq, decide_eq_false_iff_not, Bool.not_eq_true', Bool.not_eq_false', Int.not_lt, Int.not_le] at hb22
              refine wp_f rfl ?_
              refine wp_reg ?_
              refine st_pop rfl rfl rfl rfl ?_
              refine st_pop rfl rfl rfl rfl ?_
              refine st_pop rfl rfl rfl rfl ?_
              refine st_bit 35 rfl fun b hb23 => ?_
              cases b
              · try simp only [decide_eq_true_eq, decide_eq_false_iff_not, Bool.not_eq_true', Bool.not_eq_false', Int.not_lt, Int.not_le] at hb23
                refine st_skip rfl rfl rfl ?_
                refine st_skip rfl rfl rfl ?_
                refine st_pop rfl rfl rfl rfl ?_
                refine st_pop rfl rfl rfl rfl ?_
                refine st_nil ?_
                refine wp_f rfl ?_
                refine awp_skip ?_
                refine ab_norm ?_
                refine at_norm ?_
                refine wp_reg ?_
                refine st_pop rfl rfl rfl rfl ?_
                refine st_nil ?_
                refine awp_ret ?_
                refine ret_ret rfl rfl ?_
                refine wk_i ?_
                unfold singleP
                first
                  | (simp_all; done)
                  | grind
              · try simp only [decide_eq_true_eq, decide_eq_false_iff_not, Bool.not_eq_true', Bool.not_eq_false', Int.not_lt, Int.not_le] at hb23
                refine st_pop rfl rfl rfl rfl ?_
                refine st_pop rfl rfl rfl rfl ?_
                refine st_pop rfl rfl rfl rfl ?_
                refine st_pop rfl rfl rfl rfl ?_
                refine st_nil ?_
                refine wp_bit 32 rfl fun b hb24 => ?_
                cases b
                · try simp only [decide_eq_true_eq, decide_eq_false_iff_not, Bool.not_eq_true', Bool.not_eq_false', Int.not_lt, Int.not_le] at hb24
                  refine wp_f rfl ?_
                  refine awp_skip ?_
                  refine ab_norm ?_
                  refine at_norm ?_
                  refine wp_reg ?_
                  refine st_pop rfl rfl rfl rfl ?_
                  refine st_nil ?_
                  refine awp_ret ?_
                  refine ret_ret rfl rfl ?_
                  refine wk_i ?_
                  unfold singleP
                  first
                    | (simp_all; done)
                    | grind
                · try simp only [decide_eq_true_eq, decide_eq_false_iff_not, Bool.not_eq_true', Bool.not_eq_false', Int.not_lt, Int.not_le] at hb24
                  refine wp_t rfl ?_
                  refine wp_reg ?_
                  refine st_pop rfl rfl rfl rfl ?_
                  refine st_nil ?_
                  refine awp_ret ?_
                  refine ab_ret ?_
                  refine at_ret ?_
                  refine ret_ret rfl rfl ?_
                  refine wk_i ?_
                  unfold singleP
                  first
                    | (simp_all; done)
                    | grind
            · try simp only [decide_eq_true_eq, decide_eq_false_iff_not, Bool.not_eq_true', Bool.not_eq_false', Int.not_lt, Int.not_le] at hb22
              refine wp_t rfl ?_
              refine wp_reg ?_
              refine st_pop rfl rfl rfl rfl ?_
              refine st_nil ?_
              refine awp_ret ?_
              refine ab_ret ?_
              refine at_ret ?_
              refine ret_ret rfl rfl ?_
              refine wk_i ?_
              unfold singleP
              first
                | (simp_all; done)
                | grind
        · try simp only [decide_eq_true_eq, decide_eq_false_iff_not, Bool.not_eq_true', Bool.not_eq_false', Int.not_lt, Int.not_le] at hb18
          refine st_pop rfl rfl rfl rfl ?_
          refine st_pop rfl rfl rfl rfl ?_
          refine st_pop rfl rfl rfl rfl ?_
          refine st_pop rfl rfl rfl rfl ?_
          refine st_nil ?_
          refine wp_bit 19 rfl fun b hb25 => ?_
          cases b
          · try simp only [decide_eq_true_eq, decide_eq_false_iff_not, Bool.not_eq_true', Bool.not_eq_false', Int.not_lt, Int.not_le] at hb25
            refine wp_f rfl ?_
            refine awp_region ?_
            refine st_pop rfl rfl rfl rfl ?_
            refine st_pop rfl rfl rfl rfl ?_
            refine st_pop rfl rfl rfl rfl ?_
            refine st_bit 28 rfl fun b hb26 => ?_
            cases b
            · try simp only [decide_eq_true_eq, decide_eq_false_iff_not, Bool.not_eq_true', Bool.not_eq_false', Int.not_lt, Int.not_le] at hb26
              refine st_skip rfl rfl rfl ?_
              refine st_skip rfl rfl rfl ?_
              refine st_pop rfl rfl rfl rfl ?_
              refine st_pop rfl rfl rfl rfl ?_
              refine st_nil ?_
              refine at_norm ?_
              refine wp_f rfl ?_
              refine wp_reg ?_
              refine st_pop rfl rfl rfl rfl ?_
              refine st_pop rfl rfl rfl rfl ?_
              refine st_pop rfl rfl rfl rfl ?_
              refine st_bit 35 rfl fun b hb27 => ?_
              cases b
              · try simp only [decide_eq_true_eq, decide_eq_false_iff_not, Bool.not_eq_true', Bool.not_eq_false', Int.not_lt, Int.not_le] at hb27
                refine st_skip rfl rfl rfl ?_
                refine st_skip rfl rfl rfl ?_
                refine st_pop rfl rfl rfl rfl ?_
                refine st_pop rfl rfl rfl rfl ?_
                refine st_nil ?_
                refine wp_f rfl ?_
                refine awp_skip ?_
                refine ab_norm ?_
                refine at_norm ?_
                refine wp_reg ?_
                refine st_pop rfl rfl rfl rfl ?_
                refine st_nil ?_
                refine awp_ret ?_
                refine ret_ret rfl rfl ?_
                refine wk_i ?_
                unfold singleP
                first
                  | (simp_all; done)
                  | grind
              · try simp only [decide_eq_true_eq, decide_eq_false_iff_not, Bool.not_eq_true', Bool.not_eq_false', Int.not_lt, Int.not_le] at hb27
                refine st_pop rfl rfl rfl rfl ?_
                refine st_pop rfl rfl rfl rfl ?_
                refine st_pop rfl rfl rfl rfl ?_
                refine st_pop rfl rfl rfl rfl ?_
                refine st_nil ?_
                refine wp_bit 32 rfl fun b hb28 => ?_
                cases b
                · try simp only [decide_eq_true_eq, decide_eq_false_iff_not, Bool.not_eq_true', Bool.not_eq_false', Int.not_lt, Int.not_le] at hb28
                  refine wp_f rfl ?_
                  refine awp_skip ?_
                  refine ab_norm ?_
                  refine at_norm ?_
                  refine wp_reg ?_
                  refine st_pop rfl rfl rfl rfl ?_
                  refine st_nil ?_
                  refine awp_ret ?_
                  refine ret_ret rfl rfl ?_
                  refine wk_i ?_
                  unfold singleP
                  first
                    | (simp_all; done)
                    | grind
                · try simp only [decide_eq_true_eq, decide_eq_false_iff_not, Bool.not_eq_true', Bool.not_eq_false', Int.not_lt, Int.not_le] at hb28
                  refine wp_t rfl ?_
                  refine wp_reg ?_
                  refine st_pop rfl rfl rfl rfl ?_
                  refine st_nil ?_
                  refine awp_ret ?_
                  refine ab_ret ?_
                  refine at_ret ?_
                  refine ret_ret rfl rfl ?_
                  refine wk_i ?_
                  unfold singleP
                  first
                    | (simp_all; done)
                    | grind
            · try simp only [decide_eq_true_eq, decide_eq_false_iff_not, Bool.not_eq_true', Bool.not_eq_false', Int.not_lt, Int.not_le] at hb26
              refine st_pop rfl rfl rfl rfl ?_
              refine st_pop rfl rfl rfl rfl ?_
              refine st_pop rfl rfl rfl rfl ?_
              refine st_pop rfl rfl rfl rfl ?_
              refine st_nil ?_
              refine at_norm ?_
              refine wp_bit 19 rfl fun b hb29 => ?_
              cases b
              · try simp only [decide_eq_true_eq, decide_eq_false_iff_not, Bool.not_eq_true', Bool.not_eq_false', Int.not_lt, Int.not_le] at hb29
                refine wp_f rfl ?_
                refine wp_reg ?_
                refine st_pop rfl rfl rfl rfl ?_
                refine st_pop rfl rfl rfl rfl ?_
                refine st_pop rfl rfl rfl rfl ?_
                refine st_bit 35 rfl fun b hb30 => ?_
                cases b
                · try simp only [decide_eq_true_eq, decide_eq_false_iff_not, Bool.not_eq_true', Bool.not_eq_false', Int.not_lt, Int.not_le] at hb30
                  refine st_skip rfl rfl rfl ?_
                  refine st_skip rfl rfl rfl ?_
                  refine st_pop rfl rfl rfl rfl ?_
                  refine st_pop rfl rfl rfl rfl ?_
                  refine st_nil ?_
                  refine wp_f rfl ?_
                  refine awp_skip ?_
                  refine ab_norm ?_
                  refine at_norm ?_
                  refine wp_reg ?_
                  refine st_pop rfl rfl rfl rfl ?_
                  refine st_nil ?_
                  refine awp_ret ?_
                  refine ret_ret rfl rfl ?_
                  refine wk_i ?_
                  unfold singleP
                  first
                    | (simp_all; done)
                    | grind
                · try simp only [decide_eq_true_eq, decide_eq_false_iff_not, Bool.not_eq_true', Bool.not_eq_false', Int.not_lt, Int.not_le] at hb30
                  refine st_pop rfl rfl rfl rfl ?_
                  refine st_pop rfl rfl rfl rfl ?_
                  refine st_pop rfl rfl rfl rfl ?_
                  refine st_pop rfl rfl rfl rfl ?_
                  refine st_nil ?_
                  refine wp_bit 32 rfl fun b hb31 => ?_
                  cases b
                  · try simp only [decide_eq_true_eq, decide_eq_false_iff_not, Bool.not_eq_true', Bool.not_eq_false', Int.not_lt, Int.not_le] at hb31
                    refine wp_f rfl ?_
                    refine awp_skip ?_
                    refine ab_norm ?_
                    refine at_norm ?_
                    refine wp_reg ?_
                    refine st_pop rfl rfl rfl rfl ?_
                    refine st_nil ?_
                    refine awp_ret ?_
                    refine ret_ret rfl rfl ?_
                    refine wk_i ?_
                    unfold singleP
                    first
                      | (simp_all; done)
                      | grind
                  · try simp only [decide_eq_true_eq, decide_eq_false_iff_not, Bool.not_eq_true', Bool.not_eq_false', Int.not_lt, Int.not_le] at hb31
                    refine wp_t rfl ?_
                    refine wp_reg ?_
                    refine st_pop rfl rfl rfl rfl ?_
                    refine st_nil ?_
                    refine awp_ret ?_
                    refine ab_ret ?_
                    refine at_ret ?_
                    refine ret_ret rfl rfl ?_
                    refine wk_i ?_
                    unfold singleP
                    first
                      | (simp_all; done)
                      | grind
              · try simp only [decide_eq_true_eq, decide_eq_false_iff_not, Bool.not_eq_true', Bool.not_eq_false', Int.not_lt, Int.not_le] at hb29
                refine wp_t rfl ?_
                refine wp_reg ?_
                refine st_pop rfl rfl rfl rfl ?_
                refine st_nil ?_
                refine awp_ret ?_
                refine ab_ret ?_
                refine at_ret ?_
                refine ret_ret rfl rfl ?_
                refine wk_i ?_
                unfold singleP
                first
                  | (simp_all; done)
                  | grind
          · try simp only [decide_eq_true_eq, decide_eq_false_iff_not, Bool.not_eq_true', Bool.not_eq_false', Int.not_lt, Int.not_le] at hb25
            refine wp_t rfl ?_
            refine awp_skip ?_
            refine at_norm ?_
            refine wp_t rfl ?_
            refine wp_reg ?_
            refine st_pop rfl rfl rfl rfl ?_
            refine st_nil ?_
            refine awp_ret ?_
            refine ab_ret ?_
            refine at_ret ?_
            refine ret_ret rfl rfl ?_
            refine wk_i ?_
            unfold singleP
            first
              | (simp_all; done)
              | grind
      · try simp only [decide_eq_true_eq, decide_eq_false_iff_not, Bool.not_eq_true', Bool.not_eq_false', Int.not_lt, Int.not_le] at hb17
        refine wp_t rfl ?_
        refine wp_reg ?_
        refine st_pop rfl rfl rfl rfl ?_
        refine st_pop rfl rfl rfl rfl ?_
        refine st_nil ?_
        refine awp_ret ?_
        refine ab_ret ?_
        refine at_ret ?_
        refine ret_ret rfl rfl ?_
        refine wk_i ?_
        unfold singleP
        first
          | (simp_all; done)
          | grind
  · try simp only [decide_eq_true_eq, decide_eq_false_iff_not, Bool.not_eq_true', Bool.not_eq_false', Int.not_lt, Int.not_le] at hb1
    refine st_pop rfl rfl rfl rfl ?_
    refine st_pop rfl rfl rfl rfl ?_
    refine st_pop rfl rfl rfl rfl ?_
    refine st_pop rfl rfl rfl rfl ?_
    refine st_nil ?_
    refine wp_bit 5 rfl fun b hb32 => ?_
    cases b
    · try simp only [decide_eq_true_eq, decide_eq_false_iff_not, Bool.not_eq_true', Bool.not_eq_false', Int.not_lt, Int.not_le] at hb32
      refine wp_f rfl ?_
      refine awp_region ?_
      refine st_pop rfl rfl rfl rfl ?_
      refine st_pop rfl rfl rfl rfl ?_
      refine st_pop rfl rfl rfl rfl ?_
      refine st_bit 14 rfl fun b hb33 => ?_
      cases b
      · try simp only [decide_eq_true_eq, decide_eq_false_iff_not, Bool.not_eq_true', Bool.not_eq_false', Int.not_lt, Int.not_le] at hb33
        refine st_skip rfl rfl rfl ?_
        refine st_skip rfl rfl rfl ?_
        refine st_pop rfl rfl rfl rfl ?_
        refine st_pop rfl rfl rfl rfl ?_
        refine st_nil ?_
        refine at_norm ?_
        refine wp_f rfl ?_
        refine awp_seq ?_
        refine wp_reg ?_
        refine st_pop rfl rfl rfl rfl ?_
        refine st_pop rfl rfl rfl rfl ?_
        refine st_pop rfl rfl rfl rfl ?_
        refine st_bit 22 rfl fun b hb34 => ?_
        cases b
        · try simp only [decide_eq_true_eq, decide_eq_false_iff_not, Bool.not_eq_true', Bool.not_eq_false', Int.not_lt, Int.not_le] at hb34
          refine st_skip rfl rfl rfl ?_
          refine st_skip rfl rfl rfl ?_
          refine st_pop rfl rfl rfl rfl ?_
          refine st_pop rfl rfl rfl rfl ?_
          refine st_nil ?_
          refine wp_f rfl ?_
          refine awp_region ?_
          refine st_pop rfl rfl rfl rfl ?_
          refine st_pop rfl rfl rfl rfl ?_
          refine st_pop rfl rfl rfl rfl ?_
          refine st_bit 28 rfl fun b hb35 => ?_
          cases b
          · try simp only [decide_eq_true_eq, decide_eq_false_iff_not, Bool.not_eq_true', Bool.not_eq_false', Int.not_lt, Int.not_le] at hb35
            refine st_skip rfl rfl rfl ?_
            refine st_skip rfl rfl rfl ?_
            refine st_pop rfl rfl rfl rfl ?_
            refine st_pop rfl rfl rfl rfl ?_
            refine st_nil ?_
            refine at_norm ?_
            refine wp_f rfl ?_
            refine wp_reg ?_
            refine st_pop rfl rfl rfl rfl ?_
            refine st_pop rfl rfl rfl rfl ?_
            refine st_pop rfl rfl rfl rfl ?_
            refine st_bit 35 rfl fun b hb36 => ?_
            cases b
            · try simp only [decide_eq_true_eq, decide_eq_false_iff_not, Bool.not_eq_true', Bool.not_eq_false', Int.not_lt, Int.not_le] at hb36
              refine st_skip rfl rfl rfl ?_
              refine st_skip rfl rfl rfl ?_
              refine st_pop rfl rfl rfl rfl ?_
              refine st_pop rfl rfl rfl rfl ?_
              refine st_nil ?_
              refine wp_f rfl ?_
              refine awp_skip ?_
              refine ab_norm ?_
              refine at_norm ?_
              refine wp_reg ?_
              refine st_pop rfl rfl rfl rfl ?_
              refine st_nil ?_
              refine awp_ret ?_
              refine ret_ret rfl rfl ?_
              refine wk_i ?_
              unfold singleP
              first
                | (simp_all; done)
                | grind
            · try simp only [decide_eq_true_eq, decide_eq_false_iff_not, Bool.not_eq_true', Bool.not_eq_false', Int.not_lt, Int.not_le] at hb36
              refine st_pop rfl rfl rfl rfl ?_
              refine st_pop rfl rfl rfl rfl ?_
              refine st_pop rfl rfl rfl rfl ?_
              refine st_pop rfl rfl rfl rfl ?_
              refine st_nil ?_
              refine wp_bit 32 rfl fun b hb37 => ?_
              cases b
              · try simp only [decide_eq_true_eq, decide_eq_false_iff_not, Bool.not_eq_true', Bool.not_eq_false', Int.not_lt, Int.not_le] at hb37
                refine wp_f rfl ?_
                refine awp_skip ?_
                refine ab_norm ?_
                refine at_norm ?_
                refine wp_reg ?_
                refine st_pop rfl rfl rfl rfl ?_
                refine st_nil ?_
                refine awp_ret ?_
                refine ret_ret rfl rfl ?_
                refine wk_i ?_
                unfold singleP
                first
                  | (simp_all; done)
                  | grind
              · try simp only [decide_eq_true_eq, decide_eq_false_iff_not, Bool.not_eq_true', Bool.not_eq_false', Int.not_lt, Int.not_le] at hb37
                refine wp_t rfl ?_
                refine wp_reg ?_
                refine st_pop rfl rfl rfl rfl ?_
                refine st_nil ?_
                refine awp_ret ?_
                refine ab_ret ?_
                refine at_ret ?_
                refine ret_ret rfl rfl ?_
                refine wk_i ?_
                unfold singleP
                first
                  | (simp_all; done)
                  | grind
          · try simp only [decide_eq_true_eq, decide_eq_false_iff_not, Bool.not_eq_true', Bool.not_eq_false', Int.not_lt, Int.not_le] at hb35
            refine st_pop rfl rfl rfl rfl ?_
            refine st_pop rfl rfl rfl rfl ?_
            refine st_pop rfl rfl rfl rfl ?_
            refine st_pop rfl rfl rfl rfl ?_
            refine st_nil ?_
            refine at_norm ?_
            refine wp_bit 19 rfl fun b hb38 => ?_
            cases b
            · try simp only [decide_eq_true_eq, decide_eq_false_iff_not, Bool.not_eq_true', Bool.not_eq_false', Int.not_lt, Int.not_le] at hb38
              refine wp_f rfl ?_
              refine wp_reg ?_
              refine st_pop rfl rfl rfl rfl ?_
              refine st_pop rfl rfl rfl rfl ?_
              refine st_pop rfl rfl rfl rfl ?_
              refine st_bit 35 rfl fun b hb39 => ?_
              cases b
              · try simp only [decide_eq_true_eq, decide_eq_false_iff_not, Bool.not_eq_true', Bool.not_eq_false', Int.not_lt, Int.not_le] at hb39
                refine st_skip rfl rfl rfl ?_
                refine st_skip rfl rfl rfl ?_
                refine st_pop rfl rfl rfl rfl ?_
                refine st_pop rfl rfl rfl rfl ?_
                refine st_nil ?_
                refine wp_f rfl ?_
                refine awp_skip ?_
                refine ab_norm ?_
                refine at_norm ?_
                refine wp_reg ?_
                refine st_pop rfl rfl rfl rfl ?_
                refine st_nil ?_
                refine awp_ret ?_
                refine ret_ret rfl rfl ?_
                refine wk_i ?_
                unfold singleP
                first
                  | (simp_all; done)
                  | grind
              · try simp only [decide_eq_true_eq, decide_eq_false_iff_not, Bool.not_eq_true', Bool.not_eq_false', Int.not_lt, Int.not_le] at hb39
                refine st_pop rfl rfl rfl rfl ?_
                refine st_pop rfl rfl rfl rfl ?_
                refine st_pop rfl rfl rfl rfl ?_
                refine st_pop rfl rfl rfl rfl ?_
                refine st_nil ?_
                refine wp_bit 32 rfl fun b hb40 => ?_
                cases b
                · try simp only [decide_eq_true_eq, decide_eq_false_iff_not, Bool.not_eq_true', Bool.not_eq_false', Int.not_lt, Int.not_le] at hb40
                  refine wp_f rfl ?_
                  refine awp_skip ?_
                  refine ab_norm ?_
                  refine at_norm ?_
                  refine wp_reg ?_
                  refine st_pop rfl rfl rfl rfl ?_
                  refine st_nil ?_
                  refine awp_ret ?_
                  refine ret_ret rfl rfl ?_
                  refine wk_i ?_
                  unfold singleP
                  first
                    | (simp_all; done)
                    | grind
                · try simp only [decide_eq_true_eq, decide_eq_false_iff_not, Bool.not_eq_true', Bool.not_eq_false', Int.not_lt, Int.not_le] at hb40
                  refine wp_t rfl ?_
                  refine wp_reg ?_
                  refine st_pop rfl rfl rfl rfl ?_
                  refine st_nil ?_
                  refine awp_ret ?_
                  refine ab_ret ?_
                  refine at_ret ?_
                  refine ret_ret rfl rfl ?_
                  refine wk_i ?_
                  unfold singleP
                  first
                    | (simp_all; done)
                    | grind
            · try simp only [decide_eq_true_eq, decide_eq_false_iff_not, Bool.not_eq_true', Bool.not_eq_false', Int.not_lt, Int.not_le] at hb38
              refine wp_t rfl ?_
              refine wp_reg ?_
              refine st_pop rfl rfl rfl rfl ?_
              refine st_nil ?_
              refine awp_ret ?_
              refine ab_ret ?_
              refine at_ret ?_
              refine ret_ret rfl rfl ?_
              refine wk_i ?_
              unfold singleP
              first
                | (simp_all; done)
                | grind
        · try simp only [decide_eq_true_eq, decide_eq_false_iff_not, Bool.not_eq_true', Bool.not_eq_false', Int.not_lt, Int.not_le] at hb34
          refine st_pop rfl rfl rfl rfl ?_
          refine st_pop rfl rfl rfl rfl ?_
          refine st_pop rfl rfl rfl rfl ?_
          refine st_pop rfl rfl rfl rfl ?_
          refine st_nil ?_
          refine wp_bit 19 rfl fun b hb41 => ?_
          cases b
          · try simp only [decide_eq_true_eq, decide_eq_false_iff_not, Bool.not_eq_true', Bool.not_eq_false', Int.not_lt, Int.not_le] at hb41
            refine wp_f rfl ?_
            refine awp_region ?_
            refine st_pop rfl rfl rfl rfl ?_
            refine st_pop rfl rfl rfl rfl ?_
            refine st_pop rfl rfl rfl rfl ?_
            refine st_bit 28 rfl fun b hb42 => ?_
            cases b
            · try simp only [decide_eq_true_eq, decide_eq_false_iff_not, Bool.not_eq_true', Bool.not_eq_false', Int.not_lt, Int.not_le] at hb42
              refine st_skip rfl rfl rfl ?_
              refine st_skip rfl rfl rfl ?_
              refine st_pop rfl rfl rfl rfl ?_
              refine st_pop rfl rfl rfl rfl ?_
              refine st_nil ?_
              refine at_norm ?_
              refine wp_f rfl ?_
              refine wp_reg ?_
              refine st_pop rfl rfl rfl rfl ?_
              refine st_pop rfl rfl rfl rfl ?_
              refine st_pop rfl rfl rfl rfl ?_
              refine st_bit 35 rfl fun b hb43 => ?_
              cases b
              · try simp only [decide_eq_true_eq, decide_eq_false_iff_not, Bool.not_eq_true', Bool.not_eq_false', Int.not_lt, Int.not_le] at hb43
                refine st_skip rfl rfl rfl ?_
                refine st_skip rfl rfl rfl ?_
                refine st_pop rfl rfl rfl rfl ?_
                refine st_pop rfl rfl rfl rfl ?_
                refine st_nil ?_
                refine wp_f rfl ?_
                refine awp_skip ?_
                refine ab_norm ?_
                refine at_norm ?_
                refine wp_reg ?_
                refine st_pop rfl rfl rfl rfl ?_
                refine st_nil ?_
                refine awp_ret ?_
                refine ret_ret rfl rfl ?_
                refine wk_i ?_
                unfold singleP
                first
                  | (simp_all; done)
                  | grind
              · try simp only [decide_eq_true_eq, decide_eq_false_iff_not, Bool.not_eq_true', Bool.not_eq_false', Int.not_lt, Int.not_le] at hb43
                refine st_pop rfl rfl rfl rfl ?_
                refine st_pop rfl rfl rfl rfl ?_
                refine st_pop rfl rfl rfl rfl ?_
                refine st_pop rfl rfl rfl rfl ?_
                refine st_nil ?_
                refine wp_bit 32 rfl fun b hb44 => ?_
                cases b
                · try simp only [decide_eq_true_eq, decide_eq_false_iff_not, Bool.not_eq_true', Bool.not_eq_false', Int.not_lt, Int.not_le] at hb44
                  refine wp_f rfl ?_
                  refine awp_skip ?_
                  refine ab_norm ?_
                  refine at_norm ?_
                  refine wp_reg ?_
                  refine st_pop rfl rfl rfl rfl ?_
                  refine st_nil ?_
                  refine awp_ret ?_
                  refine ret_ret rfl rfl ?_
                  refine wk_i ?_
                  unfold singleP
                  first
                    | (simp_all; done)
                    | grind
                · try simp only [decide_eq_true_eq, decide_eq_false_iff_not, Bool.not_eq_true', Bool.not_eq_false', Int.not_lt, Int.not_le] at hb44
                  refine wp_t rfl ?_
                  refine wp_reg ?_
                  refine st_pop rfl rfl rfl rfl ?_
                  refine st_nil ?_
                  refine awp_ret ?_
                  refine ab_ret ?_
                  refine at_ret ?_
                  refine ret_ret rfl rfl ?_
                  refine wk_i ?_
                  unfold singleP
                  first
                    | (simp_all; done)
                    | grind
            · try simp only [decide_eq_true_eq, decide_eq_false_iff_not, Bool.not_eq_true', Bool.not_eq_false', Int.not_lt, Int.not_le] at hb42
              refine st_pop rfl rfl rfl rfl ?_
              refine st_pop rfl rfl rfl rfl ?_
              refine st_pop rfl rfl rfl rfl ?_
              refine st_pop rfl rfl rfl rfl ?_
              refine st_nil ?_
              refine at_norm ?_
              refine wp_bit 19 rfl fun b hb45 => ?_
              cases b
              · try simp only [decide_eq_true_eq, decide_eq_false_iff_not, Bool.not_eq_true', Bool.not_eq_false', Int.not_lt, Int.not_le] at hb45
                refine wp_f rfl ?_
                refine wp_reg ?_
                refine st_pop rfl rfl rfl rfl ?_
                refine st_pop rfl rfl rfl rfl ?_
                refine st_pop rfl rfl rfl rfl ?_
                refine st_bit 35 rfl fun b hb46 => ?_
                cases b
                · try simp only [decide_eq_true_eq, decide_eq_false_iff_not, Bool.not_eq_true', Bool.not_eq_false', Int.not_lt, Int.not_le] at hb46
                  refine st_skip rfl rfl rfl ?_
                  refine st_skip rfl rfl rfl ?_
                  refine st_pop rfl rfl rfl rfl ?_
                  refine st_pop rfl rfl rfl rfl ?_
                  refine st_nil ?_
                  refine wp_f rfl ?_
                  refine awp_skip ?_
                  refine ab_norm ?_
                  refine at_norm ?_
                  refine wp_reg ?_
                  refine st_pop rfl rfl rfl rfl ?_
                  refine st_nil ?_
                  refine awp_ret ?_
                  refine ret_ret rfl rfl ?_
                  refine wk_i ?_
                  unfold singleP
                  first
                    | (simp_all; done)
                    | grind
                · try simp only [decide_eq_true_eq, decide_eq_false_iff_not, Bool.not_eq_true', Bool.not_eq_false', Int.not_lt, Int.not_le] at hb46
                  refine st_pop rfl rfl rfl rfl ?_
                  refine st_pop rfl rfl rfl rfl ?_
                  refine st_pop rfl rfl rfl rfl ?_
                  refine st_pop rfl rfl rfl rfl ?_
                  refine st_nil ?_
                  refine wp_bit 32 rfl fun b hb47 => ?_
                  cases b
                  · try simp only [decide_eq_true_eq, decide_eq_false_iff_not, Bool.not_eq_true', Bool.not_eq_false', Int.not_lt, Int.not_le] at hb47
                    refine wp_f rfl ?_
                    refine awp_skip ?_
                    refine ab_norm ?_
                    refine at_norm ?_
                    refine wp_reg ?_
                    refine st_pop rfl rfl rfl rfl ?_
                    refine st_nil ?_
                    refine awp_ret ?_
                    refine ret_ret rfl rfl ?_
                    refine wk_i ?_
                    unfold singleP
                    first
                      | (simp_all; done)
                      | grind
                  · try simp only [decide_eq_true_eq, decide_eq_false_iff_not, Bool.not_eq_true', Bool.not_eq_false', Int.not_lt, Int.not_le] at hb47
                    refine wp_t rfl ?_
                    refine wp_reg ?_
                    refine st_pop rfl rfl rfl rfl ?_
                    refine st_nil ?_
                    refine awp_ret ?_
                    refine ab_ret ?_
                    refine at_ret ?_
                    refine ret_ret rfl rfl ?_
                    refine wk_i ?_
                    unfold singleP
                    first
                      | (simp_all; done)
                      | grind
              · try simp only [decide_eq_true_eq, decide_eq_false_iff_not, Bool.not_eq_true', Bool.not_eq_false', Int.not_lt, Int.not_le] at hb45
                refine wp_t rfl ?_
                refine wp_reg ?_
                refine st_pop rfl rfl rfl rfl ?_
                refine st_nil ?_
                refine awp_ret ?_
                refine ab_ret ?_
                refine at_ret ?_
                refine ret_ret rfl rfl ?_
                refine wk_i ?_
                unfold singleP
                first
                  | (simp_all; done)
                  | grind
          · try simp only [decide_eq_true_eq, decide_eq_false_iff_not, Bool.not_eq_true', Bool.not_eq_false', Int.not_lt, Int.not_le] at hb41
            refine wp_t rfl ?_
            refine awp_skip ?_
            refine at_norm ?_
            refine wp_t rfl ?_
            refine wp_reg ?_
            refine st_pop rfl rfl rfl rfl ?_
            refine st_nil ?_
            refine awp_ret ?_
            refine ab_ret ?_
            refine at_ret ?_
            refine ret_ret rfl rfl ?_
            refine wk_i ?_
            unfold singleP
            first
              | (simp_all; done)
              | grind
      · try simp only [decide_eq_true_eq, decide_eq_false_iff_not, Bool.not_eq_true', Bool.not_eq_false', Int.not_lt, Int.not_le] at hb33
        refine st_pop rfl rfl rfl rfl ?_
        refine st_calc (xs := [.tmp 15]) _ rfl rfl rfl rfl Try.func65 rfl rfl rfl (counts_c _ _) ?_
        refine st_pop rfl rfl rfl rfl ?_
        refine st_pop rfl rfl rfl rfl ?_
        refine st_nil ?_
        refine at_norm ?_
        refine wp_bit 5 rfl fun b hb48 => ?_
        cases b
        · try simp only [decide_eq_true_eq, decide_eq_false_iff_not, Bool.not_eq_true', Bool.not_eq_false', Int.not_lt, Int.not_le] at hb48
          refine wp_f rfl ?_
          refine awp_seq ?_
          refine wp_reg ?_
          refine st_pop rfl rfl rfl rfl ?_
          refine st_pop rfl rfl rfl rfl ?_
          refine st_pop rfl rfl rfl rfl ?_
          refine st_bit 22 rfl fun b hb49 => ?_
          cases b
          · try simp only [decide_eq_true_eq, decide_eq_false_iff_not, Bool.not_eq_true', Bool.not_eq_false', Int.not_lt, Int.not_le] at hb49
            refine st_skip rfl rfl rfl ?_
            refine st_skip rfl rfl rfl ?_
            refine st_pop rfl rfl rfl rfl ?_
            refine st_pop rfl rfl rfl rfl ?_
            refine st_nil ?_
            refine wp_f rfl ?_
            refine awp_region ?_
            refine st_pop rfl rfl rfl rfl ?_
            refine st_pop rfl rfl rfl rfl ?_
            refine st_pop rfl rfl rfl rfl ?_
            refine st_bit 28 rfl fun b hb50 => ?_
            cases b
            · try simp only [decide_eq_true_eq, decide_eq_false_iff_not, Bool.not_eq_true', Bool.not_eq_false', Int.not_lt, Int.not_le] at hb50
              refine st_skip rfl rfl rfl ?_
              refine st_skip rfl rfl rfl ?_
              refine st_pop rfl rfl rfl rfl ?_
              refine st_pop rfl rfl rfl rfl ?_
              refine st_nil ?_
              refine at_norm ?_
              refine wp_f rfl ?_
              refine wp_reg ?_
              refine st_pop rfl rfl rfl rfl ?_
              refine st_pop rfl rfl rfl rfl ?_
              refine st_pop rfl rfl rfl rfl ?_
              refine st_bit 35 rfl fun b hb51 => ?_
              cases b
              · try simp only [decide_eq_true_eq, decide_eq_false_iff_not, Bool.not_eq_true', Bool.not_eq_false', Int.not_lt, Int.not_le] at hb51
                refine st_skip rfl rfl rfl ?_
                refine st_skip rfl rfl rfl ?_
                refine st_pop rfl rfl rfl rfl ?_
                refine st_pop rfl rfl rfl rfl ?_
                refine st_nil ?_
                refine wp_f rfl ?_
                refine awp_skip ?_
                refine ab_norm ?_
                refine at_norm ?_
                refine wp_reg ?_
                refine st_pop rfl rfl rfl rfl ?_
                refine st_nil ?_
                refine awp_ret ?_
                refine ret_ret rfl rfl ?_
                refine wk_i ?_
                unfold singleP
                first
                  | (simp_all; done)
                  | grind
              · try simp only [decide_eq_true_eq, decide_eq_false_iff_not, Bool.not_eq_true', Bool.not_eq_false', Int.not_lt, Int.not_le] at hb51
                refine st_pop rfl rfl rfl rfl ?_
                refine st_pop rfl rfl rfl rfl ?_
                refine st_pop rfl rfl rfl rfl ?_
                refine st_pop rfl rfl rfl rfl ?_
                refine st_nil ?_
                refine wp_bit 32 rfl fun b hb52 => ?_
                cases b
                · try simp only [decide_eq_true_eq, decide_eq_false_iff_not, Bool.not_eq_true', Bool.not_eq_false', Int.not_lt, Int.not_le] at hb52
                  refine wp_f rfl ?_
                  refine awp_skip ?_
                  refine ab_norm ?_
                  refine at_norm ?_
                  refine wp_reg ?_
                  refine st_pop rfl rfl rfl rfl ?_
                  refine st_nil ?_
                  refine awp_ret ?_
                  refine ret_ret rfl rfl ?_
                  refine wk_i ?_
                  unfold singleP
                  first
                    | (simp_all; done)
                    | grind
                · try simp only [decide_eq_true_eq, decide_eq_false_iff_not, Bool.not_eq_true', Bool.not_eq_false', Int.not_lt, Int.not_le] at hb52
                  refine wp_t rfl ?_
                  refine wp_reg ?_
                  refine st_pop rfl rfl rfl rfl ?_
                  refine st_nil ?_
                  refine awp_ret ?_
                  refine ab_ret ?_
                  refine at_ret ?_
                  refine ret_ret rfl rfl ?_
                  refine wk_i ?_
                  unfold singleP
                  first
                    | (simp_all; done)
                    | grind
            · try simp only [decide_eq_true_eq, decide_eq_false_iff_not, Bool.not_eq_true', Bool.not_eq_false', Int.not_lt, Int.not_le] at hb50
              refine st_pop rfl rfl rfl rfl ?_
              refine st_pop rfl rfl rfl rfl ?_
              refine st_pop rfl rfl rfl rfl ?_
              refine st_pop rfl rfl rfl rfl ?_
              refine st_nil ?_
              refine at_norm ?_
              refine wp_bit 19 rfl fun b hb53 => ?_
              cases b
              · try simp only [decide_eq_true_eq, decide_eq_false_iff_not, Bool.not_eq_true', Bool.not_eq_false', Int.not_lt, Int.not_le] at hb53
                refine wp_f rfl ?_
                refine wp_reg ?_
                refine st_pop rfl rfl rfl rfl ?_
                refine st_pop rfl rfl rfl rfl ?_
                refine st_pop rfl rfl rfl rfl ?_
                refine st_bit 35 rfl fun b hb54 => ?_
                cases b
                · try simp only [decide_eq_true_eq, decide_eq_false_iff_not, Bool.not_eq_true', Bool.not_eq_false', Int.not_lt, Int.not_le] at hb54
                  refine st_skip rfl rfl rfl ?_
                  refine st_skip rfl rfl rfl ?_
                  refine st_pop rfl rfl rfl rfl ?_
                  refine st_pop rfl rfl rfl rfl ?_
                  refine st_nil ?_
                  refine wp_f rfl ?_
                  refine awp_skip ?_
                  refine ab_norm ?_
                  refine at_norm ?_
                  refine wp_reg ?_
                  refine st_pop rfl rfl rfl rfl ?_
                  refine st_nil ?_
                  refine awp_ret ?_
                  refine ret_ret rfl rfl ?_
                  refine wk_i ?_
                  unfold singleP
                  first
                    | (simp_all; done)
                    | grind
                · try simp only [decide_eq_true_eq, decide_eq_false_iff_not, Bool.not_eq_true', Bool.not_eq_false', Int.not_lt, Int.not_le] at hb54
                  refine st_pop rfl rfl rfl rfl ?_
                  refine st_pop rfl rfl rfl rfl ?_
                  refine st_pop rfl rfl rfl rfl ?_
                  refine st_pop rfl rfl rfl rfl ?_
                  refine st_nil ?_
                  refine wp_bit 32 rfl fun b hb55 => ?_
                  cases b
                  · try simp only [decide_eq_true_eq, decide_eq_false_iff_not, Bool.not_eq_true', Bool.not_eq_false', Int.not_lt, Int.not_le] at hb55
                    refine wp_f rfl ?_
                    refine awp_skip ?_
                    refine ab_norm ?_
                    refine at_norm ?_
                    refine wp_reg ?_
                    refine st_pop rfl rfl rfl rfl ?_
                    refine st_nil ?_
                    refine awp_ret ?_
                    refine ret_ret rfl rfl ?_
                    refine wk_i ?_
                    unfold singleP
                    first
                      | (simp_all; done)
                      | grind
                  · try simp only [decide_eq_true_eq, decide_eq_false_iff_not, Bool.not_eq_true', Bool.not_eq_false', Int.not_lt, Int.not_le] at hb55
                    refine wp_t rfl ?_
                    refine wp_reg ?_
                    refine st_pop rfl rfl rfl rfl ?_
                    refine st_nil ?_
                    refine awp_ret ?_
                    refine ab_ret ?_
                    refine at_ret ?_
                    refine ret_ret rfl rfl ?_
                    refine wk_i ?_
                    unfold singleP
                    first
                      | (simp_all; done)
                      | grind
              · try simp only [decide_eq_true_eq, decide_eq_false_iff_not, Bool.not_eq_true', Bool.not_eq_false', Int.not_lt, Int.not_le] at hb53
                refine wp_t rfl ?_
                refine wp_reg ?_
                refine st_pop rfl rfl rfl rfl ?_
                refine st_nil ?_
                refine awp_ret ?_
                refine ab_ret ?_
                refine at_ret ?_
                refine ret_ret rfl rfl ?_
                refine wk_i ?_
                unfold singleP
                first
                  | (simp_all; done)
                  | grind
          · try simp only [decide_eq_true_eq, decide_eq_false_iff_not, Bool.not_eq_true', Bool.not_eq_false', Int.not_lt, Int.not_le] at hb49
            refine st_pop rfl rfl rfl rfl ?_
            refine st_pop rfl rfl rfl rfl ?_
            refine st_pop rfl rfl rfl rfl ?_
            refine st_pop rfl rfl rfl rfl ?_
            refine st_nil ?_
            refine wp_bit 19 rfl fun b hb56 => ?_
            cases b
            · try simp only [decide_eq_true_eq, decide_eq_false_iff_not, Bool.not_eq_true', Bool.not_eq_false', Int.not_lt, Int.not_le] at hb56
              refine wp_f rfl ?_
              refine awp_region ?_
              refine st_pop rfl rfl rfl rfl ?_
              refine st_pop rfl rfl rfl rfl ?_
              refine st_pop rfl rfl rfl rfl ?_
              refine st_bit 28 rfl fun b hb57 => ?_
              cases b
              · try simp only [decide_eq_true_eq, decide_eq_false_iff_not, Bool.not_eq_true', Bool.not_eq_false', Int.not_lt, Int.not_le] at hb57
                refine st_skip rfl rfl rfl ?_
                refine st_skip rfl rfl rfl ?_
                refine st_pop rfl rfl rfl rfl ?_
                refine st_pop rfl rfl rfl rfl ?_
                refine st_nil ?_
                refine at_norm ?_
                refine wp_f rfl ?_
                refine wp_reg ?_
                refine st_pop rfl rfl rfl rfl ?_
                refine st_pop rfl rfl rfl rfl ?_
                refine st_pop rfl rfl rfl rfl ?_
                refine st_bit 35 rfl fun b hb58 => ?_
                cases b
                · try simp only [decide_eq_true_eq, decide_eq_false_iff_not, Bool.not_eq_true', Bool.not_eq_false', Int.not_lt, Int.not_le] at hb58
                  refine st_skip rfl rfl rfl ?_
                  refine st_skip rfl rfl rfl ?_
                  refine st_pop rfl rfl rfl rfl ?_
                  refine st_pop rfl rfl rfl rfl ?_
                  refine st_nil ?_
                  refine wp_f rfl ?_
                  refine awp_skip ?_
                  refine ab_norm ?_
                  refine at_norm ?_
                  refine wp_reg ?_
                  refine st_pop rfl rfl rfl rfl ?_
                  refine st_nil ?_
                  refine awp_ret ?_
                  refine ret_ret rfl rfl ?_
                  refine wk_i ?_
                  unfold singleP
                  first
                    | (simp_all; done)
                    | grind
                · try simp only [decide_eq_true_eq, decide_eq_false_iff_not, Bool.not_eq_true', Bool.not_eq_false', Int.not_lt, Int.not_le] at hb58
                  refine st_pop rfl rfl rfl rfl ?_
                  refine st_pop rfl rfl rfl rfl ?_
                  refine st_pop rfl rfl rfl rfl ?_
                  refine st_pop rfl rfl rfl rfl ?_
                  refine st_nil ?_
                  refine wp_bit 32 rfl fun b hb59 => ?_
                  cases b
                  · try simp only [decide_eq_true_eq, decide_eq_false_iff_not, Bool.not_eq_true', Bool.not_eq_false', Int.not_lt, Int.not_le] at hb59
                    refine wp_f rfl ?_
                    refine awp_skip ?_
                    refine ab_norm ?_
                    refine at_norm ?_
                    refine wp_reg ?_
                    refine st_pop rfl rfl rfl rfl ?_
                    refine st_nil ?_
                    refine awp_ret ?_
                    refine ret_ret rfl rfl ?_
                    refine wk_i ?_
                    unfold singleP
                    first
                      | (simp_all; done)
                      | grind
                  · try simp only [decide_eq_true_eq, decide_eq_false_iff_not, Bool.not_eq_true', Bool.not_eq_false', Int.not_lt, Int.not_le] at hb59
                    refine wp_t rfl ?_
                    refine wp_reg ?_
                    refine st_pop rfl rfl rfl rfl ?_
                    refine st_nil ?_
                    refine awp_ret ?_
                    refine ab_ret ?_
                    refine at_ret ?_
                    refine ret_ret rfl rfl ?_
                    refine wk_i ?_
                    unfold singleP
                    first
                      | (simp_all; done)
                      | grind
              · try simp only [decide_eq_true_eq, decide_eq_false_iff_not, Bool.not_eq_true', Bool.not_eq_false', Int.not_lt, Int.not_le] at hb57
                refine st_pop rfl rfl rfl rfl ?_
                refine st_pop rfl rfl rfl rfl ?_
                refine st_pop rfl rfl rfl rfl ?_
                refine st_pop rfl rfl rfl rfl ?_
                refine st_nil ?_
                refine at_norm ?_
                refine wp_bit 19 rfl fun b hb60 => ?_
                cases b
                · try simp only [decide_eq_true_eq, decide_eq_false_iff_not, Bool.not_eq_true', Bool.not_eq_false', Int.not_lt, Int.not_le] at hb60
                  refine wp_f rfl ?_
                  refine wp_reg ?_
                  refine st_pop rfl rfl rfl rfl ?_
                  refine st_pop rfl rfl rfl rfl ?_
                  refine st_pop rfl rfl rfl rfl ?_
                  refine st_bit 35 rfl fun b hb61 => ?_
                  cases b
                  · try simp only [decide_eq_true_eq, decide_eq_false_iff_not, Bool.not_eq_true', Bool.not_eq_false', Int.not_lt, Int.not_le] at hb61
                    refine st_skip rfl rfl rfl ?_
                    refine st_skip rfl rfl rfl ?_
                    refine st_pop rfl rfl rfl rfl ?_
                    refine st_pop rfl rfl rfl rfl ?_
                    refine st_nil ?_
                    refine wp_f rfl ?_
                    refine awp_skip ?_
                    refine ab_norm ?_
                    refine at_norm ?_
                    refine wp_reg ?_
                    refine st_pop rfl rfl rfl rfl ?_
                    refine st_nil ?_
                    refine awp_ret ?_
                    refine ret_ret rfl rfl ?_
                    refine wk_i ?_
                    unfold singleP
                    first
                      | (simp_all; done)
                      | grind
                  · try simp only [decide_eq_true_eq, decide_eq_false_iff_not, Bool.not_eq_true', Bool.not_eq_false', Int.not_lt, Int.not_le] at hb61
                    refine st_pop rfl rfl rfl rfl ?_
                    refine st_pop rfl rfl rfl rfl ?_
                    refine st_pop rfl rfl rfl rfl ?_
                    refine st_pop rfl rfl rfl rfl ?_
                    refine st_nil ?_
                    refine wp_bit 32 rfl fun b hb62 => ?_
                    cases b
                    · try simp only [decide_eq_true_eq, decide_eq_false_iff_not, Bool.not_eq_true', Bool.not_eq_false', Int.not_lt, Int.not_le] at hb62
                      refine wp_f rfl ?_
                      refine awp_skip ?_
                      refine ab_norm ?_
                      refine at_norm ?_
                      refine wp_reg ?_
                      refine st_pop rfl rfl rfl rfl ?_
                      refine st_nil ?_
                      refine awp_ret ?_
                      refine ret_ret rfl rfl ?_
                      refine wk_i ?_
                      unfold singleP
                      first
                        | (simp_all; done)
                        | grind
                    · try simp only [decide_eq_true_eq, decide_eq_false_iff_not, Bool.not_eq_true', Bool.not_eq_false', Int.not_lt, Int.not_le] at hb62
                      refine wp_t rfl ?_
                      refine wp_reg ?_
                      refine st_pop rfl rfl rfl rfl ?_
                      refine st_nil ?_
                      refine awp_ret ?_
                      refine ab_ret ?_
                      refine at_ret ?_
                      refine ret_ret rfl rfl ?_
                      refine wk_i ?_
                      unfold singleP
                      first
                        | (simp_all; done)
                        | grind
                · try simp only [decide_eq_true_eq, decide_eq_false_iff_not, Bool.not_eq_true', Bool.not_eq_false', Int.not_lt, Int.not_le] at hb60
                  refine wp_t rfl ?_
                  refine wp_reg ?_
                  refine st_pop rfl rfl rfl rfl ?_
                  refine st_nil ?_
                  refine awp_ret ?_
                  refine ab_ret ?_
                  refine at_ret ?_
                  refine ret_ret rfl rfl ?_
                  refine wk_i ?_
                  unfold singleP
                  first
                    | (simp_all; done)
                    | grind
            · try simp only [decide_eq_true_eq, decide_eq_false_iff_not, Bool.not_eq_true', Bool.not_eq_false', Int.not_lt, Int.not_le] at hb56
              refine wp_t rfl ?_
              refine awp_skip ?_
              refine at_norm ?_
              refine wp_t rfl ?_
              refine wp_reg ?_
              refine st_pop rfl rfl rfl rfl ?_
              refine st_nil ?_
              refine awp_ret ?_
              refine ab_ret ?_
              refine at_ret ?_
              refine ret_ret rfl rfl ?_
              refine wk_i ?_
              unfold singleP
              first
                | (simp_all; done)
                | grind
        · try simp only [decide_eq_true_eq, decide_eq_false_iff_not, Bool.not_eq_true', Bool.not_eq_false', Int.not_lt, Int.not_le] at hb48
          refine wp_t rfl ?_
          refine wp_reg ?_
          refine st_pop rfl rfl rfl rfl ?_
          refine st_pop rfl rfl rfl rfl ?_
          refine st_nil ?_
          refine awp_ret ?_
          refine ab_ret ?_
          refine at_ret ?_
          refine ret_ret rfl rfl ?_
          refine wk_i ?_
          unfold singleP
          first
            | (simp_all; done)
            | grind
    · try simp only [decide_eq_true_eq, decide_eq_false_iff_not, Bool.not_eq_true', Bool.not_eq_false', Int.not_lt, Int.not_le] at hb32
      refine wp_t rfl ?_
      refine awp_skip ?_
      refine at_norm ?_
      refine wp_t rfl ?_
      refine wp_reg ?_
      refine st_pop rfl rfl rfl rfl ?_
      refine st_pop rfl rfl rfl rfl ?_
      refine st_nil ?_
      refine awp_ret ?_
      refine ab_ret ?_
      refine at_ret ?_
      refine ret_ret rfl rfl ?_
      refine wk_i ?_
      unfold singleP
      first
        | (simp_all; done)
        | grind
theorem double_c (op a : Int) : ∀ H, ACalls tt 40 [.i .i64 op, .i .i64 a] H (fun res_ H' => res_ = .i .i64 (doubleP op a) ∧ H' = H) := by
  refine body_calc (T := tt) Try.func40 rfl Try.ntmps40 rfl rfl (by rfl) (by rfl) ?_
  refine wp_reg ?_
  refine st_pop rfl rfl rfl rfl ?_
  refine st_nil ?_
  refine awp_seq ?_
  refine wp_reg ?_
  refine st_pop rfl rfl rfl rfl ?_
  refine st_nil ?_
  refine awp_block ?_
  refine awp_seq ?_
  refine wp_reg ?_
  refine st_pop rfl rfl rfl rfl ?_
  refine st_pop rfl rfl rfl rfl ?_
  refine st_nil ?_
  refine wp_bit 9 rfl fun b hb1 => ?_
  cases b
  · try simp only [decide_eq_true_eq, decide_eq_false_iff_not, Bool.not_eq_true', Bool.not_eq_false', Int.not_lt, Int.not_le] at hb1
    refine wp_f rfl ?_
    refine awp_region ?_
    refine st_pop rfl rfl rfl rfl ?_
    refine st_pop rfl rfl rfl rfl ?_
    refine st_nil ?_
    refine at_norm ?_
    refine wp_bit 9 rfl fun b hb2 => ?_
    cases b
    · try simp only [decide_eq_true_eq, decide_eq_false_iff_not, Bool.not_eq_true', Bool.not_eq_false', Int.not_lt, Int.not_le] at hb2
      refine wp_f rfl ?_
      refine awp_seq ?_
      refine wp_reg ?_
      refine st_pop rfl rfl rfl rfl ?_
      refine st_pop rfl rfl rfl rfl ?_
      refine st_nil ?_
      refine wp_bit 12 rfl fun b hb3 => ?_
      cases b
      · try simp only [decide_eq_true_eq, decide_eq_false_iff_not, Bool.not_eq_true', Bool.not_eq_false', Int.not_lt, Int.not_le] at hb3
        refine wp_f rfl ?_
        refine awp_region ?_
        refine st_pop rfl rfl rfl rfl ?_
        refine st_pop rfl rfl rfl rfl ?_
        refine st_nil ?_
        refine at_norm ?_
        refine wp_bit 12 rfl fun b hb4 => ?_
        cases b
        · try simp only [decide_eq_true_eq, decide_eq_false_iff_not, Bool.not_eq_true', Bool.not_eq_false', Int.not_lt, Int.not_le] at hb4
          refine wp_f rfl ?_
          refine awp_seq ?_
          refine wp_reg ?_
          refine st_pop rfl rfl rfl rfl ?_
          refine st_pop rfl rfl rfl rfl ?_
          refine st_nil ?_
          refine wp_bit 18 rfl fun b hb5 => ?_
          cases b
          · try simp only [decide_eq_true_eq, decide_eq_false_iff_not, Bool.not_eq_true', Bool.not_eq_false', Int.not_lt, Int.not_le] at hb5
            refine wp_f rfl ?_
            refine wp_reg ?_
            refine st_pop rfl rfl rfl rfl ?_
            refine st_pop rfl rfl rfl rfl ?_
            refine st_nil ?_
            refine wp_bit 18 rfl fun b hb6 => ?_
            cases b
            · try simp only [decide_eq_true_eq, decide_eq_false_iff_not, Bool.not_eq_true', Bool.not_eq_false', Int.not_lt, Int.not_le] at hb6
              refine wp_f rfl ?_
              refine wp_reg ?_
              refine st_pop rfl rfl rfl rfl ?_
              refine st_pop rfl rfl rfl rfl ?_
              refine st_nil ?_
              refine wp_bit 18 rfl fun b hb7 => ?_
              cases b
              · try simp only [decide_eq_true_eq, decide_eq_false_iff_not, Bool.not_eq_true', Bool.not_eq_false', Int.not_lt, Int.not_le] at hb7
                refine wp_f rfl ?_
                refine awp_region ?_
                refine st_pop rfl rfl rfl rfl ?_
                refine st_pop rfl rfl rfl rfl ?_
                refine st_nil ?_
                refine at_norm ?_
                refine wp_bit 18 rfl fun b hb8 => ?_
                cases b
                · try simp only [decide_eq_true_eq, decide_eq_false_iff_not, Bool.not_eq_true', Bool.not_eq_false', Int.not_lt, Int.not_le] at hb8
                  refine wp_f rfl ?_
                  refine wp_reg ?_
                  refine st_pop rfl rfl rfl rfl ?_
                  refine st_pop rfl rfl rfl rfl ?_
                  refine st_nil ?_
                  refine wp_bit 25 rfl fun b hb9 => ?_
                  cases b
                  · try simp only [decide_eq_true_eq, decide_eq_false_iff_not, Bool.not_eq_true', Bool.not_eq_false', Int.not_lt, Int.not_le] at hb9
                    refine wp_f rfl ?_
                    refine wp_reg ?_
                    refine st_pop rfl rfl rfl rfl ?_
                    refine st_pop rfl rfl rfl rfl ?_
                    refine st_nil ?_
                    refine wp_bit 30 rfl fun b hb10 => ?_
                    cases b
                    · try simp only [decide_eq_true_eq, decide_eq_false_iff_not, Bool.not_eq_true', Bool.not_eq_false', Int.not_lt, Int.not_le] at hb10
                      refine wp_f rfl ?_
                      refine wp_reg ?_
                      refine st_pop rfl rfl rfl rfl ?_
                      refine st_calc (xs := [.tmp 6]) _ rfl rfl rfl rfl Try.func65 rfl rfl rfl (counts_c _ _) ?_
                      refine st_nil ?_
                      refine wp_bit 7 rfl fun b hb11 => ?_
                      cases b
                      · try simp only [decide_eq_true_eq, decide_eq_false_iff_not, Bool.not_eq_true', Bool.not_eq_false', Int.not_lt, Int.not_le] at hb11
                        refine wp_f rfl ?_
                        refine awp_skip ?_
                        refine ab_norm ?_
                        refine at_norm ?_
                        refine wp_reg ?_
                        refine st_pop rfl rfl rfl rfl ?_
                        refine st_nil ?_
                        refine awp_ret ?_
                        refine ret_ret rfl rfl ?_
                        refine wk_i ?_
                        unfold doubleP
                        first
                          | (simp_all; done)
                          | grind
                      · try simp only [decide_eq_true_eq, decide_eq_false_iff_not, Bool.not_eq_true', Bool.not_eq_false', Int.not_lt, Int.not_le] at hb11
                        refine wp_t rfl ?_
                        refine wp_reg ?_
                        refine st_pop rfl rfl rfl rfl ?_
                        refine st_pop rfl rfl rfl rfl ?_
                        refine st_nil ?_
                        refine awp_ret ?_
                        refine ab_ret ?_
                        refine at_ret ?_
                        refine ret_ret rfl rfl ?_
                        refine wk_i ?_
                        unfold doubleP
                        first
                          | (simp_all; done)
                          | grind
                    · try simp only [decide_eq_true_eq, decide_eq_false_iff_not, Bool.not_eq_true', Bool.not_eq_false', Int.not_lt, Int.not_le] at hb10
                      refine wp_t rfl ?_
                      refine wp_reg ?_
                      refine st_pop rfl rfl rfl rfl ?_
                      refine st_pop rfl rfl rfl rfl ?_
                      refine st_nil ?_
                      refine wp_bit 33 rfl fun b hb12 => ?_
                      cases b
                      · try simp only [decide_eq_true_eq, decide_eq_false_iff_not, Bool.not_eq_true', Bool.not_eq_false', Int.not_lt, Int.not_le] at hb12
                        refine wp_f rfl ?_
                        refine awp_skip ?_
                        refine ab_norm ?_
                        refine at_norm ?_
                        refine wp_reg ?_
                        refine st_pop rfl rfl rfl rfl ?_
                        refine st_nil ?_
                        refine awp_ret ?_
                        refine ret_ret rfl rfl ?_
                        refine wk_i ?_
                        unfold doubleP
                        first
                          | (simp_all; done)
                          | grind
                      · try simp only [decide_eq_true_eq, decide_eq_false_iff_not, Bool.not_eq_true', Bool.not_eq_false', Int.not_lt, Int.not_le] at hb12
                        refine wp_t rfl ?_
                        refine wp_reg ?_
                        refine st_pop rfl rfl rfl rfl ?_
                        refine st_pop rfl rfl rfl rfl ?_
                        refine st_nil ?_
                        refine awp_ret ?_
                        refine ab_ret ?_
                        refine at_ret ?_
                        refine ret_ret rfl rfl ?_
                        refine wk_i ?_
                        unfold doubleP
                        first
                          | (simp_all; done)
                          | grind
                  · try simp only [decide_eq_true_eq, decide_eq_false_iff_not, Bool.not_eq_true', Bool.not_eq_false', Int.not_lt, Int.not_le] at hb9
                    refine wp_t rfl ?_
                    refine wp_reg ?_
                    refine st_pop rfl rfl rfl rfl ?_
                    refine st_calc (xs := [.tmp 27]) _ rfl rfl rfl rfl Try.func66 rfl rfl rfl (ranked_c _ _) ?_
                    refine st_nil ?_
                    refine wp_bit 28 rfl fun b hb13 => ?_
                    cases b
                    · try simp only [decide_eq_true_eq, decide_eq_false_iff_not, Bool.not_eq_true', Bool.not_eq_false', Int.not_lt, Int.not_le] at hb13
                      refine wp_f rfl ?_
                      refine awp_skip ?_
                      refine ab_norm ?_
                      refine at_norm ?_
                      refine wp_reg ?_
                      refine st_pop rfl rfl rfl rfl ?_
                      refine st_nil ?_
                      refine awp_ret ?_
                      refine ret_ret rfl rfl ?_
                      refine wk_i ?_
                      unfold doubleP
                      first
                        | (simp_all; done)
                        | grind
                    · try simp only [decide_eq_true_eq, decide_eq_false_iff_not, Bool.not_eq_true', Bool.not_eq_false', Int.not_lt, Int.not_le] at hb13
                      refine wp_t rfl ?_
                      refine wp_reg ?_
                      refine st_pop rfl rfl rfl rfl ?_
                      refine st_pop rfl rfl rfl rfl ?_
                      refine st_nil ?_
                      refine awp_ret ?_
                      refine ab_ret ?_
                      refine at_ret ?_
                      refine ret_ret rfl rfl ?_
                      refine wk_i ?_
                      unfold doubleP
                      first
                        | (simp_all; done)
                        | grind
                · try simp only [decide_eq_true_eq, decide_eq_false_iff_not, Bool.not_eq_true', Bool.not_eq_false', Int.not_lt, Int.not_le] at hb8
                  refine wp_t rfl ?_
                  refine wp_reg ?_
                  refine st_pop rfl rfl rfl rfl ?_
                  refine st_calc (xs := [.tmp 23]) _ rfl rfl rfl rfl Try.func66 rfl rfl rfl (ranked_c _ _) ?_
                  refine st_nil ?_
                  refine wp_bit 24 rfl fun b hb14 => ?_
                  cases b
                  · try simp only [decide_eq_true_eq, decide_eq_false_iff_not, Bool.not_eq_true', Bool.not_eq_false', Int.not_lt, Int.not_le] at hb14
                    refine wp_f rfl ?_
                    refine awp_skip ?_
                    refine ab_norm ?_
                    refine at_norm ?_
                    refine wp_reg ?_
                    refine st_pop rfl rfl rfl rfl ?_
                    refine st_nil ?_
                    refine awp_ret ?_
                    refine ret_ret rfl rfl ?_
                    refine wk_i ?_
                    unfold doubleP
                    first
                      | (simp_all; done)
                      | grind
                  · try simp only [decide_eq_true_eq, decide_eq_false_iff_not, Bool.not_eq_true', Bool.not_eq_false', Int.not_lt, Int.not_le] at hb14
                    refine wp_t rfl ?_
                    refine wp_reg ?_
                    refine st_pop rfl rfl rfl rfl ?_
                    refine st_nil ?_
                    refine awp_ret ?_
                    refine ab_ret ?_
                    refine at_ret ?_
                    refine ret_ret rfl rfl ?_
                    refine wk_i ?_
                    unfold doubleP
                    first
                      | (simp_all; done)
                      | grind
              · try simp only [decide_eq_true_eq, decide_eq_false_iff_not, Bool.not_eq_true', Bool.not_eq_false', Int.not_lt, Int.not_le] at hb7
                refine wp_t rfl ?_
                refine awp_skip ?_
                refine at_norm ?_
                refine wp_t rfl ?_
                refine wp_reg ?_
                refine st_pop rfl rfl rfl rfl ?_
                refine st_calc (xs := [.tmp 23]) _ rfl rfl rfl rfl Try.func66 rfl rfl rfl (ranked_c _ _) ?_
                refine st_nil ?_
                refine wp_bit 24 rfl fun b hb15 => ?_
                cases b
                · try simp only [decide_eq_true_eq, decide_eq_false_iff_not, Bool.not_eq_true', Bool.not_eq_false', Int.not_lt, Int.not_le] at hb15
                  refine wp_f rfl ?_
                  refine awp_skip ?_
                  refine ab_norm ?_
                  refine at_norm ?_
                  refine wp_reg ?_
                  refine st_pop rfl rfl rfl rfl ?_
                  refine st_nil ?_
                  refine awp_ret ?_
                  refine ret_ret rfl rfl ?_
                  refine wk_i ?_
                  unfold doubleP
                  first
                    | (simp_all; done)
                    | grind
                · try simp only [decide_eq_true_eq, decide_eq_false_iff_not, Bool.not_eq_true', Bool.not_eq_false', Int.not_lt, Int.not_le] at hb15
                  refine wp_t rfl ?_
                  refine wp_reg ?_
                  refine st_pop rfl rfl rfl rfl ?_
                  refine st_nil ?_
                  refine awp_ret ?_
                  refine ab_ret ?_
                  refine at_ret ?_
                  refine ret_ret rfl rfl ?_
                  refine wk_i ?_
                  unfold doubleP
                  first
                    | (simp_all; done)
                    | grind
            · try simp only [decide_eq_true_eq, decide_eq_false_iff_not, Bool.not_eq_true', Bool.not_eq_false', Int.not_lt, Int.not_le] at hb6
              refine wp_t rfl ?_
              refine awp_skip ?_
              refine at_norm ?_
              refine wp_t rfl ?_
              refine wp_reg ?_
              refine st_pop rfl rfl rfl rfl ?_
              refine st_calc (xs := [.tmp 23]) _ rfl rfl rfl rfl Try.func66 rfl rfl rfl (ranked_c _ _) ?_
              refine st_nil ?_
              refine wp_bit 24 rfl fun b hb16 => ?_
              cases b
              · try simp only [decide_eq_true_eq, decide_eq_false_iff_not, Bool.not_eq_true', Bool.not_eq_false', Int.not_lt, Int.not_le] at hb16
                refine wp_f rfl ?_
                refine awp_skip ?_
                refine ab_norm ?_
                refine at_norm ?_
                refine wp_reg ?_
                refine st_pop rfl rfl rfl rfl ?_
                refine st_nil ?_
                refine awp_ret ?_
                refine ret_ret rfl rfl ?_
                refine wk_i ?_
                unfold doubleP
                first
                  | (simp_all; done)
                  | grind
              · try simp only [decide_eq_true_eq, decide_eq_false_iff_not, Bool.not_eq_true', Bool.not_eq_false', Int.not_lt, Int.not_le] at hb16
                refine wp_t rfl ?_
                refine wp_reg ?_
                refine st_pop rfl rfl rfl rfl ?_
                refine st_nil ?_
                refine awp_ret ?_
                refine ab_ret ?_
                refine at_ret ?_
                refine ret_ret rfl rfl ?_
                refine wk_i ?_
                unfold doubleP
                first
                  | (simp_all; done)
                  | grind
          · try simp only [decide_eq_true_eq, decide_eq_false_iff_not, Bool.not_eq_true', Bool.not_eq_false', Int.not_lt, Int.not_le] at hb5
            refine wp_t rfl ?_
            refine awp_skip ?_
            refine at_norm ?_
            refine wp_t rfl ?_
            refine wp_reg ?_
            refine st_pop rfl rfl rfl rfl ?_
            refine st_calc (xs := [.tmp 23]) _ rfl rfl rfl rfl Try.func66 rfl rfl rfl (ranked_c _ _) ?_
            refine st_nil ?_
            refine wp_bit 24 rfl fun b hb17 => ?_
            cases b
            · try simp only [decide_eq_true_eq, decide_eq_false_iff_not, Bool.not_eq_true', Bool.not_eq_false', Int.not_lt, Int.not_le] at hb17
              refine wp_f rfl ?_
              refine awp_skip ?_
              refine ab_norm ?_
              refine at_norm ?_
              refine wp_reg ?_
              refine st_pop rfl rfl rfl rfl ?_
              refine st_nil ?_
              refine awp_ret ?_
              refine ret_ret rfl rfl ?_
              refine wk_i ?_
              unfold doubleP
              first
                | (simp_all; done)
                | grind
            · try simp only [decide_eq_true_eq, decide_eq_false_iff_not, Bool.not_eq_true', Bool.not_eq_false', Int.not_lt, Int.not_le] at hb17
              refine wp_t rfl ?_
              refine wp_reg ?_
              refine st_pop rfl rfl rfl rfl ?_
              refine st_nil ?_
              refine awp_ret ?_
              refine ab_ret ?_
              refine at_ret ?_
              refine ret_ret rfl rfl ?_
              refine wk_i ?_
              unfold doubleP
              first
                | (simp_all; done)
                | grind
        · try simp only [decide_eq_true_eq, decide_eq_false_iff_not, Bool.not_eq_true', Bool.not_eq_false', Int.not_lt, Int.not_le] at hb4
          refine wp_t rfl ?_
          refine wp_reg ?_
          refine st_pop rfl rfl rfl rfl ?_
          refine st_pop rfl rfl rfl rfl ?_
          refine st_nil ?_
          refine wp_bit 16 rfl fun b hb18 => ?_
          cases b
          · try simp only [decide_eq_true_eq, decide_eq_false_iff_not, Bool.not_eq_true', Bool.not_eq_false', Int.not_lt, Int.not_le] at hb18
            refine wp_f rfl ?_
            refine awp_skip ?_
            refine ab_norm ?_
            refine at_norm ?_
            refine wp_reg ?_
            refine st_pop rfl rfl rfl rfl ?_
            refine st_nil ?_
            refine awp_ret ?_
            refine ret_ret rfl rfl ?_
            refine wk_i ?_
            unfold doubleP
            first
              | (simp_all; done)
              | grind
          · try simp only [decide_eq_true_eq, decide_eq_false_iff_not, Bool.not_eq_true', Bool.not_eq_false', Int.not_lt, Int.not_le] at hb18
            refine wp_t rfl ?_
            refine wp_reg ?_
            refine st_pop rfl rfl rfl rfl ?_
            refine st_pop rfl rfl rfl rfl ?_
            refine st_nil ?_
            refine awp_ret ?_
            refine ab_ret ?_
            refine at_ret ?_
            refine ret_ret rfl rfl ?_
            refine wk_i ?_
            unfold doubleP
            first
              | (simp_all; done)
              | grind
      · try simp only [decide_eq_true_eq, decide_eq_false_iff_not, Bool.not_eq_true', Bool.not_eq_false', Int.not_lt, Int.not_le] at hb3
        refine wp_t rfl ?_
        refine awp_skip ?_
        refine at_norm ?_
        refine wp_t rfl ?_
        refine wp_reg ?_
        refine st_pop rfl rfl rfl rfl ?_
        refine st_pop rfl rfl rfl rfl ?_
        refine st_nil ?_
        refine wp_bit 16 rfl fun b hb19 => ?_
        cases b
        · try simp only [decide_eq_true_eq, decide_eq_false_iff_not, Bool.not_eq_true', Bool.not_eq_false', Int.not_lt, Int.not_le] at hb19
          refine wp_f rfl ?_
          refine awp_skip ?_
          refine ab_norm ?_
          refine at_norm ?_
          refine wp_reg ?_
          refine st_pop rfl rfl rfl rfl ?_
          refine st_nil ?_
          refine awp_ret ?_
          refine ret_ret rfl rfl ?_
          refine wk_i ?_
          unfold doubleP
          first
            | (simp_all; done)
            | grind
        · try simp only [decide_eq_true_eq, decide_eq_false_iff_not, Bool.not_eq_true', Bool.not_eq_false', Int.not_lt, Int.not_le] at hb19
          refine wp_t rfl ?_
          refine wp_reg ?_
          refine st_pop rfl rfl rfl rfl ?_
          refine st_pop rfl rfl rfl rfl ?_
          refine st_nil ?_
          refine awp_ret ?_
          refine ab_ret ?_
          refine at_ret ?_
          refine ret_ret rfl rfl ?_
          refine wk_i ?_
          unfold doubleP
          first
            | (simp_all; done)
            | grind
    · try simp only [decide_eq_true_eq, decide_eq_false_iff_not, Bool.not_eq_true', Bool.not_eq_false', Int.not_lt, Int.not_le] at hb2
      refine wp_t rfl ?_
      refine wp_reg ?_
      refine st_pop rfl rfl rfl rfl ?_
      refine st_nil ?_
      refine awp_ret ?_
      refine ab_ret ?_
      refine at_ret ?_
      refine ret_ret rfl rfl ?_
      refine wk_i ?_
      unfold doubleP
      first
        | (simp_all; done)
        | grind
  · try simp only [decide_eq_true_eq, decide_eq_false_iff_not, Bool.not_eq_true', Bool.not_eq_false', Int.not_lt, Int.not_le] at hb1
    refine wp_t rfl ?_
    refine awp_skip ?_
    refine at_norm ?_
    refine wp_t rfl ?_
    refine wp_reg ?_
    refine st_pop rfl rfl rfl rfl ?_
    refine st_nil ?_
    refine awp_ret ?_
    refine ab_ret ?_
    refine at_ret ?_
    refine ret_ret rfl rfl ?_
    refine wk_i ?_
    unfold doubleP
    first
      | (simp_all; done)
      | grind
noncomputable def refKT : KeyTy tt 58 Ref.av := ⟨[.i .i64, .s], rfl, rfl, fun a => rfl, fun a b h => by cases a; cases b; simp [Ref.av] at h; simp [h]⟩
theorem kZ1 : ∀ w, (zeroValue 3).run tt.P w = .ok (.int .i64 0) w := fun w => rfl
theorem kZ2 : ∀ G, Rel tt G (.i .i64 0) (.int .i64 0) := fun G => rfl
theorem look_kind (s : KS) (r : Ref) : fo (lookR kAV (.i .i64 0) false (mget s r)) = some (.i .i64 (kindP s r)) := by
  unfold kindP
  cases mget s r <;> rfl
theorem ks_okB (n : Nat) (s : KS) : okB n (mapB Ref.av kAV s) = true := by
  simp only [okB, mapB, okL_all, List.map_map, Bool.and_eq_true, List.all_eq_true, List.mem_map]
  refine ⟨?_, ?_⟩
  · rintro x ⟨e, _, rfl⟩; rfl
  · rintro x ⟨e, _, rfl⟩; rfl
theorem bbL_all {n : Nat} : ∀ (xs : List AV), bbL n xs = xs.all (bb n)
  | [] => rfl
  | x :: xs => by simp [bbL, bbL_all xs]
theorem ks_bbB (n : Nat) (s : KS) : bbB n (mapB Ref.av kAV s) = true := by
  simp only [bbB, mapB, bbL_all, List.map_map, Bool.and_eq_true, List.all_eq_true, List.mem_map]
  refine ⟨?_, ?_⟩
  · rintro x ⟨e, _, rfl⟩; rfl
  · rintro x ⟨e, _, rfl⟩; rfl
theorem sto_bbB (n : Nat) (s : Sto) : bbB n (mapB Cel.av Hld.agg s) = true := by
  simp only [bbB, mapB, bbL_all, List.map_map, Bool.and_eq_true, List.all_eq_true, List.mem_map]
  refine ⟨?_, ?_⟩
  · rintro x ⟨e, _, rfl⟩; rfl
  · rintro x ⟨e, _, rfl⟩; rfl
theorem ks_ren (σ : Nat → Nat) (s : KS) : renB σ (mapB Ref.av kAV s) = mapB Ref.av kAV s := by
  simp only [renB, mapB, List.map_map]
  congr 1
theorem ks_ok (s : KS) : [ABox.cells [.m 1], mapB Ref.av kAV s].all (okB 2) = true := by
  show (okB 2 (.cells [.m 1]) && (okB 2 (mapB Ref.av kAV s) && true)) = true
  rw [ks_okB]; rfl
theorem ks_okN (s : KS) (n : Nat) (hn : 1 ≤ n) (m : Nat) (hm : m < n) : ([] ++ [mapB Ref.av kAV s, ABox.cells [.m m]]).all (okB n) = true := by
  show (okB n (mapB Ref.av kAV s) && (okB n (.cells [.m m]) && true)) = true
  rw [ks_okB]
  simp [okB, okL, ok, hm]
theorem acalls_ks {f : FuncId} {args args' : List AV} {y : AV} {s s' : KS} (hargs : okL 2 args = true) (hy : clean y = true) (h : ACalls tt f args ⟨[.cells [.m 1], mapB Ref.av kAV s], []⟩ (BigR tt 2 (One y [.cells [.m 1], mapB Ref.av kAV s']))) (H : AH) (b m : Nat) (hb : H.bs[b]? = some (.cells [.m m])) (hm : H.bs[m]? = some (mapB Ref.av kAV s)) (ha : renL (sg [b, m]) args = args') :
    ACalls tt f args' H (fun r H' => r = y ∧ H' = ⟨H.bs.set m (mapB Ref.av kAV s'), H.ts⟩) := by
  have hne : b ≠ m := by rintro rfl; rw [hb] at hm; cases hm
  refine acalls_one (T := tt) [b, m] [.cells [.m 1], mapB Ref.av kAV s] rfl (by simp [hne]) (fun i t x hs hx => ?_) hargs (ks_ok s) h ha (clean_ren y hy) ?_
  · match i, hs, hx with
    | 0, hs, hx => simp at hs hx; subst hs; subst hx; exact hb
    | 1, hs, hx => simp at hs hx; subst hs; subst hx; rw [ks_ren]; exact hm
    | i + 2, hs, _ => simp at hs
  · show putB [b, m] [renB (sg [b, m]) (.cells [.m 1]), renB (sg [b, m]) (mapB Ref.av kAV s')] H.bs = _
    rw [ks_ren]
    show (H.bs.set b (.cells [.m m])).set m (mapB Ref.av kAV s') = _
    rw [list_set_same hb]
theorem acalls_ksR {f : FuncId} {args args' : List AV} {y : AV} {s : KS} (hargs : okL 2 args = true) (hy : clean y = true) (h : ACalls tt f args ⟨[.cells [.m 1], mapB Ref.av kAV s], []⟩ (BigR tt 2 (One y [.cells [.m 1], mapB Ref.av kAV s]))) (H : AH) (b m : Nat) (hb : H.bs[b]? = some (.cells [.m m])) (hm : H.bs[m]? = some (mapB Ref.av kAV s)) (ha : renL (sg [b, m]) args = args') :
    ACalls tt f args' H (fun r H' => r = y ∧ H' = H) := by
  have := acalls_ks hargs hy h H b m hb hm ha
  rwa [list_set_same hm] at this
theorem kind0 (s : KS) (r : Ref) : ACalls tt 14 [.ptr 0 0, .agg r.av] ⟨[.cells [.m 1], mapB Ref.av kAV s], []⟩ (BigR tt 2 (One (.tup [.i .i64 (kindP s r), .b (!decide (kindP s r = 0))]) [.cells [.m 1], mapB Ref.av kAV s])) := by
  refine body_big (T := tt) Try.func14 rfl Try.ntmps14 rfl rfl ?_
  refine wp_reg ?_
  refine st_box rfl rfl rfl rfl rfl rfl rfl rfl rfl ?_
  refine st_pop rfl rfl rfl rfl ?_
  refine st_pop rfl rfl rfl rfl ?_
  refine st_nil ?_
  refine wp_open [.op 14, .bar] (D := [0, 1, 3, 7, 0, 31, 0, 64, 192, 448, 0, 1984, 4032, 63, 16383]) (by kernel_rfl) (by kernel_rfl) (by kernel_rfl) ?_
  refine ad_op rfl rfl ?_
  refine do_pop rfl rfl rfl rfl rfl (by kernel_rfl) ?_
  refine do_pop rfl rfl rfl rfl rfl (by kernel_rfl) ?_
  refine do_pop rfl rfl rfl rfl rfl (by kernel_rfl) ?_
  refine do_pop rfl rfl rfl rfl rfl (by kernel_rfl) ?_
  refine do_pop rfl rfl rfl rfl rfl (by kernel_rfl) ?_
  refine do_lookup s (r) refKT kZ1 kZ2 rfl rfl rfl rfl rfl rfl rfl rfl rfl (look_kind s _) (by kernel_rfl) ?_
  refine do_pop rfl rfl rfl rfl rfl (by kernel_rfl) ?_
  refine do_pop rfl rfl rfl rfl rfl (by kernel_rfl) ?_
  refine do_pop rfl rfl rfl rfl rfl (by kernel_rfl) ?_
  refine do_pop rfl rfl rfl rfl rfl (by kernel_rfl) ?_
  refine do_pop rfl rfl rfl rfl rfl (by kernel_rfl) ?_
  refine do_lookup s (r) refKT kZ1 kZ2 rfl rfl rfl rfl rfl rfl rfl rfl rfl (look_kind s _) (by kernel_rfl) ?_
  refine do_pop rfl rfl rfl rfl rfl (by kernel_rfl) ?_
  refine do_pop rfl rfl rfl rfl rfl (by kernel_rfl) ?_
  refine do_nil ?_
  refine ad_bar ?_
  refine st_pop rfl rfl rfl rfl ?_
  refine st_nil ?_
  refine ad_nil ?_
  refine awp_ret ?_
  refine ret_ret rfl rfl ?_
  refine bigR _ _ (.refl _) rfl rfl ⟨_, rfl⟩ (ks_ok _) ⟨?_, rfl⟩
  first
    | rfl
    | simp
theorem kind_c (s : KS) (r : Ref) (H : AH) (b m : Nat) (hb : H.bs[b]? = some (.cells [.m m])) (hm : H.bs[m]? = some (mapB Ref.av kAV s)) : ACalls tt 14 [.ptr b 0, .agg r.av] H (fun r' H' => r' = .tup [.i .i64 (kindP s r), .b (!decide (kindP s r = 0))] ∧ H' = H) :=
  acalls_ksR rfl rfl (kind0 s r) H b m hb hm rfl
theorem decl0 (s : KS) (d : Dec) : ACalls tt 23 [.ptr 0 0, .agg d.r.av, .i .i64 d.k] ⟨[.cells [.m 1], mapB Ref.av kAV s], []⟩ (BigR tt 2 (One (.i .i64 (declP s d).2) [.cells [.m 1], mapB Ref.av kAV (declP s d).1])) := by
  refine body_big (T := tt) Try.func23 rfl Try.ntmps23 rfl rfl ?_
  refine wp_reg ?_
  refine st_box rfl rfl rfl rfl rfl rfl rfl rfl rfl ?_
  refine st_pop rfl rfl rfl rfl ?_
  refine st_nil ?_
  refine awp_seq ?_
  refine awp_block ?_
  refine wp_reg ?_
  refine st_pop rfl rfl rfl rfl ?_
  refine st_calc (xs := [.tmp 8]) _ rfl rfl rfl rfl Try.func38 rfl rfl rfl (refOk_c _ _) ?_
  refine st_pop rfl rfl rfl rfl ?_
  refine st_pop rfl rfl rfl rfl ?_
  refine st_nil ?_
  refine wp_bit 7 rfl fun b hb1 => ?_
  cases b
  · try simp only [decide_eq_true_eq, decide_eq_false_iff_not, Bool.not_eq_true', Bool.not_eq_false', Int.not_lt, Int.not_le] at hb1
    refine wp_f rfl ?_
    refine wp_reg ?_
    refine st_pop rfl rfl rfl rfl ?_
    refine st_pop rfl rfl rfl rfl ?_
    refine st_pop rfl rfl rfl rfl ?_
    refine st_bit 14 rfl fun b hb2 => ?_
    cases b
    · try simp only [decide_eq_true_eq, decide_eq_false_iff_not, Bool.not_eq_true', Bool.not_eq_false', Int.not_lt, Int.not_le] at hb2
      refine st_pop rfl rfl rfl rfl ?_
      refine st_pop rfl rfl rfl rfl ?_
      refine st_pop rfl rfl rfl rfl ?_
      refine st_pop rfl rfl rfl rfl ?_
      refine st_nil ?_
      refine wp_bit 11 rfl fun b hb3 => ?_
      cases b
      · try simp only [decide_eq_true_eq, decide_eq_false_iff_not, Bool.not_eq_true', Bool.not_eq_false', Int.not_lt, Int.not_le] at hb3
        refine wp_f rfl ?_
        refine wp_open [.op 5, .bar, .bar, .bar] (D := [0, 1, 3, 7, 0, 31, 63, 127]) (by kernel_rfl) (by kernel_rfl) (by kernel_rfl) ?_
        refine ad_op rfl rfl ?_
        refine do_pop rfl rfl rfl rfl rfl (by kernel_rfl) ?_
        refine do_pop rfl rfl rfl rfl rfl (by kernel_rfl) ?_
        refine do_pop rfl rfl rfl rfl rfl (by kernel_rfl) ?_
        refine do_pop rfl rfl rfl rfl rfl (by kernel_rfl) ?_
        refine do_pop rfl rfl rfl rfl rfl (by kernel_rfl) ?_
        refine do_nil ?_
        refine ad_bar ?_
        refine st_lookup s (d.r) refKT kZ1 kZ2 rfl rfl rfl rfl rfl rfl rfl rfl rfl (look_kind s _) ?_
        refine st_nil ?_
        refine ad_bar ?_
        refine st_pop rfl rfl rfl rfl ?_
        refine st_nil ?_
        refine ad_bar ?_
        refine st_pop rfl rfl rfl rfl ?_
        refine st_nil ?_
        refine ad_nil ?_
        refine wp_bit 18 rfl fun b hb4 => ?_
        cases b
        · try simp only [decide_eq_true_eq, decide_eq_false_iff_not, Bool.not_eq_true', Bool.not_eq_false', Int.not_lt, Int.not_le] at hb4
          refine wp_f rfl ?_
          refine wp_reg ?_
          refine st_pop rfl rfl rfl rfl ?_
          refine st_pop rfl rfl rfl rfl ?_
          refine st_pop rfl rfl rfl rfl ?_
          refine st_pop rfl rfl rfl rfl ?_
          refine st_pop rfl rfl rfl rfl ?_
          refine st_pop rfl rfl rfl rfl ?_
          refine st_pop rfl rfl rfl rfl ?_
          refine st_nil ?_
          refine wp_bit 26 rfl fun b hb5 => ?_
          cases b
          · try simp only [decide_eq_true_eq, decide_eq_false_iff_not, Bool.not_eq_true', Bool.not_eq_false', Int.not_lt, Int.not_le] at hb5
            refine wp_f rfl ?_
            refine awp_skip ?_
            refine ab_norm ?_
            refine at_norm ?_
            refine wp_open [.op 6, .bar] (D := [0, 1, 3, 7, 0, 0, 63]) (by kernel_rfl) (by kernel_rfl) (by kernel_rfl) ?_
            refine ad_op rfl rfl ?_
            refine do_pop rfl rfl rfl rfl rfl (by kernel_rfl) ?_
            refine do_pop rfl rfl rfl rfl rfl (by kernel_rfl) ?_
            refine do_pop rfl rfl rfl rfl rfl (by kernel_rfl) ?_
            refine do_pop rfl rfl rfl rfl rfl (by kernel_rfl) ?_
            refine do_pop rfl rfl rfl rfl rfl (by kernel_rfl) ?_
            refine do_pop rfl rfl rfl rfl rfl (by kernel_rfl) ?_
            refine do_nil ?_
            refine ad_bar ?_
            refine st_mapUpdate s d.r d.k refKT rfl rfl rfl rfl rfl rfl rfl rfl rfl ?_
            refine st_nil ?_
            refine ad_nil ?_
            refine wp_reg ?_
            refine st_pop rfl rfl rfl rfl ?_
            refine st_nil ?_
            refine awp_ret ?_
            refine ret_ret rfl rfl ?_
            refine bigR _ _ (.refl _) rfl rfl ⟨_, rfl⟩ (ks_ok _) ?_
            first
              | (have e : declP s d = (s, 60) := by (unfold declP; (repeat' split) <;> first | rfl | (exfalso; omega) | (exfalso; simp_all; done) | (exfalso; simp_all; omega))
                 rw [e]; exact ⟨rfl, rfl⟩)
              | (have e : declP s d = (s, 61) := by (unfold declP; (repeat' split) <;> first | rfl | (exfalso; omega) | (exfalso; simp_all; done) | (exfalso; simp_all; omega))
                 rw [e]; exact ⟨rfl, rfl⟩)
              | (have e : declP s d = (s, 62) := by (unfold declP; (repeat' split) <;> first | rfl | (exfalso; omega) | (exfalso; simp_all; done) | (exfalso; simp_all; omega))
                 rw [e]; exact ⟨rfl, rfl⟩)
              | (have e : declP s d = (s, 63) := by (unfold declP; (repeat' split) <;> first | rfl | (exfalso; omega) | (exfalso; simp_all; done) | (exfalso; simp_all; omega))
                 rw [e]; exact ⟨rfl, rfl⟩)
              | (have e : declP s d = (mput s d.r d.k, 0) := by (unfold declP; (repeat' split) <;> first | rfl | (exfalso; omega) | (exfalso; simp_all; done) | (exfalso; simp_all; omega))
                 rw [e]; exact ⟨rfl, rfl⟩)
          · try simp only [decide_eq_true_eq, decide_eq_false_iff_not, Bool.not_eq_true', Bool.not_eq_false', Int.not_lt, Int.not_le] at hb5
            refine wp_t rfl ?_
            refine wp_reg ?_
            refine st_pop rfl rfl rfl rfl ?_
            refine st_nil ?_
            refine awp_ret ?_
            refine ab_ret ?_
            refine at_ret ?_
            refine ret_ret rfl rfl ?_
            refine bigR _ _ (.refl _) rfl rfl ⟨_, rfl⟩ (ks_ok _) ?_
            first
              | (have e : declP s d = (s, 60) := by (unfold declP; (repeat' split) <;> first | rfl | (exfalso; omega) | (exfalso; simp_all; done) | (exfalso; simp_all; omega))
                 rw [e]; exact ⟨rfl, rfl⟩)
              | (have e : declP s d = (s, 61) := by (unfold declP; (repeat' split) <;> first | rfl | (exfalso; omega) | (exfalso; simp_all; done) | (exfalso; simp_all; omega))
                 rw [e]; exact ⟨rfl, rfl⟩)
              | (have e : declP s d = (s, 62) := by (unfold declP; (repeat' split) <;> first | rfl | (exfalso; omega) | (exfalso; simp_all; done) | (exfalso; simp_all; omega))
                 rw [e]; exact ⟨rfl, rfl⟩)
              | (have e : declP s d = (s, 63) := by (unfold declP; (repeat' split) <;> first | rfl | (exfalso; omega) | (exfalso; simp_all; done) | (exfalso; simp_all; omega))
                 rw [e]; exact ⟨rfl, rfl⟩)
              | (have e : declP s d = (mput s d.r d.k, 0) := by (unfold declP; (repeat' split) <;> first | rfl | (exfalso; omega) | (exfalso; simp_all; done) | (exfalso; simp_all; omega))
                 rw [e]; exact ⟨rfl, rfl⟩)
        · try simp only [decide_eq_true_eq, decide_eq_false_iff_not, Bool.not_eq_true', Bool.not_eq_false', Int.not_lt, Int.not_le] at hb4
          refine wp_t rfl ?_
          refine wp_reg ?_
          refine st_pop rfl rfl rfl rfl ?_
          refine st_nil ?_
          refine awp_ret ?_
          refine ab_ret ?_
          refine at_ret ?_
          refine ret_ret rfl rfl ?_
          refine bigR _ _ (.refl _) rfl rfl ⟨_, rfl⟩ (ks_ok _) ?_
          first
            | (have e : declP s d = (s, 60) := by (unfold declP; (repeat' split) <;> first | rfl | (exfalso; omega) | (exfalso; simp_all; done) | (exfalso; simp_all; omega))
               rw [e]; exact ⟨rfl, rfl⟩)
            | (have e : declP s d = (s, 61) := by (unfold declP; (repeat' split) <;> first | rfl | (exfalso; omega) | (exfalso; simp_all; done) | (exfalso; simp_all; omega))
               rw [e]; exact ⟨rfl, rfl⟩)
            | (have e : declP s d = (s, 62) := by (unfold declP; (repeat' split) <;> first | rfl | (exfalso; omega) | (exfalso; simp_all; done) | (exfalso; simp_all; omega))
               rw [e]; exact ⟨rfl, rfl⟩)
            | (have e : declP s d = (s, 63) := by (unfold declP; (repeat' split) <;> first | rfl | (exfalso; omega) | (exfalso; simp_all; done) | (exfalso; simp_all; omega))
               rw [e]; exact ⟨rfl, rfl⟩)
            | (have e : declP s d = (mput s d.r d.k, 0) := by (unfold declP; (repeat' split) <;> first | rfl | (exfalso; omega) | (exfalso; simp_all; done) | (exfalso; simp_all; omega))
               rw [e]; exact ⟨rfl, rfl⟩)
      · try simp only [decide_eq_true_eq, decide_eq_false_iff_not, Bool.not_eq_true', Bool.not_eq_false', Int.not_lt, Int.not_le] at hb3
        refine wp_t rfl ?_
        refine wp_reg ?_
        refine st_pop rfl rfl rfl rfl ?_
        refine st_nil ?_
        refine awp_ret ?_
        refine ab_ret ?_
        refine at_ret ?_
        refine ret_ret rfl rfl ?_
        refine bigR _ _ (.refl _) rfl rfl ⟨_, rfl⟩ (ks_ok _) ?_
        first
          | (have e : declP s d = (s, 60) := by (unfold declP; (repeat' split) <;> first | rfl | (exfalso; omega) | (exfalso; simp_all; done) | (exfalso; simp_all; omega))
             rw [e]; exact ⟨rfl, rfl⟩)
          | (have e : declP s d = (s, 61) := by (unfold declP; (repeat' split) <;> first | rfl | (exfalso; omega) | (exfalso; simp_all; done) | (exfalso; simp_all; omega))
             rw [e]; exact ⟨rfl, rfl⟩)
          | (have e : declP s d = (s, 62) := by (unfold declP; (repeat' split) <;> first | rfl | (exfalso; omega) | (exfalso; simp_all; done) | (exfalso; simp_all; omega))
             rw [e]; exact ⟨rfl, rfl⟩)
          | (have e : declP s d = (s, 63) := by (unfold declP; (repeat' split) <;> first | rfl | (exfalso; omega) | (exfalso; simp_all; done) | (exfalso; simp_all; omega))
             rw [e]; exact ⟨rfl, rfl⟩)
          | (have e : declP s d = (mput s d.r d.k, 0) := by (unfold declP; (repeat' split) <;> first | rfl | (exfalso; omega) | (exfalso; simp_all; done) | (exfalso; simp_all; omega))
             rw [e]; exact ⟨rfl, rfl⟩)
    · try simp only [decide_eq_true_eq, decide_eq_false_iff_not, Bool.not_eq_true', Bool.not_eq_false', Int.not_lt, Int.not_le] at hb2
      refine st_skip rfl rfl rfl ?_
      refine st_skip rfl rfl rfl ?_
      refine st_pop rfl rfl rfl rfl ?_
      refine st_pop rfl rfl rfl rfl ?_
      refine st_nil ?_
      refine wp_t rfl ?_
      refine wp_reg ?_
      refine st_pop rfl rfl rfl rfl ?_
      refine st_nil ?_
      refine awp_ret ?_
      refine ab_ret ?_
      refine at_ret ?_
      refine ret_ret rfl rfl ?_
      refine bigR _ _ (.refl _) rfl rfl ⟨_, rfl⟩ (ks_ok _) ?_
      first
        | (have e : declP s d = (s, 60) := by (unfold declP; (repeat' split) <;> first | rfl | (exfalso; omega) | (exfalso; simp_all; done) | (exfalso; simp_all; omega))
           rw [e]; exact ⟨rfl, rfl⟩)
        | (have e : declP s d = (s, 61) := by (unfold declP; (repeat' split) <;> first | rfl | (exfalso; omega) | (exfalso; simp_all; done) | (exfalso; simp_all; omega))
           rw [e]; exact ⟨rfl, rfl⟩)
        | (have e : declP s d = (s, 62) := by (unfold declP; (repeat' split) <;> first | rfl | (exfalso; omega) | (exfalso; simp_all; done) | (exfalso; simp_all; omega))
           rw [e]; exact ⟨rfl, rfl⟩)
        | (have e : declP s d = (s, 63) := by (unfold declP; (repeat' split) <;> first | rfl | (exfalso; omega) | (exfalso; simp_all; done) | (exfalso; simp_all; omega))
           rw [e]; exact ⟨rfl, rfl⟩)
        | (have e : declP s d = (mput s d.r d.k, 0) := by (unfold declP; (repeat' split) <;> first | rfl | (exfalso; omega) | (exfalso; simp_all; done) | (exfalso; simp_all; omega))
           rw [e]; exact ⟨rfl, rfl⟩)
  · try simp only [decide_eq_true_eq, decide_eq_false_iff_not, Bool.not_eq_true', Bool.not_eq_false', Int.not_lt, Int.not_le] at hb1
    refine wp_t rfl ?_
    refine wp_reg ?_
    refine st_pop rfl rfl rfl rfl ?_
    refine st_nil ?_
    refine awp_ret ?_
    refine ab_ret ?_
    refine at_ret ?_
    refine ret_ret rfl rfl ?_
    refine bigR _ _ (.refl _) rfl rfl ⟨_, rfl⟩ (ks_ok _) ?_
    first
      | (have e : declP s d = (s, 60) := by (unfold declP; (repeat' split) <;> first | rfl | (exfalso; omega) | (exfalso; simp_all; done) | (exfalso; simp_all; omega))
         rw [e]; exact ⟨rfl, rfl⟩)
      | (have e : declP s d = (s, 61) := by (unfold declP; (repeat' split) <;> first | rfl | (exfalso; omega) | (exfalso; simp_all; done) | (exfalso; simp_all; omega))
         rw [e]; exact ⟨rfl, rfl⟩)
      | (have e : declP s d = (s, 62) := by (unfold declP; (repeat' split) <;> first | rfl | (exfalso; omega) | (exfalso; simp_all; done) | (exfalso; simp_all; omega))
         rw [e]; exact ⟨rfl, rfl⟩)
      | (have e : declP s d = (s, 63) := by (unfold declP; (repeat' split) <;> first | rfl | (exfalso; omega) | (exfalso; simp_all; done) | (exfalso; simp_all; omega))
         rw [e]; exact ⟨rfl, rfl⟩)
      | (have e : declP s d = (mput s d.r d.k, 0) := by (unfold declP; (repeat' split) <;> first | rfl | (exfalso; omega) | (exfalso; simp_all; done) | (exfalso; simp_all; omega))
         rw [e]; exact ⟨rfl, rfl⟩)
theorem decl_c (s : KS) (d : Dec) (H : AH) (b m : Nat) (hb : H.bs[b]? = some (.cells [.m m])) (hm : H.bs[m]? = some (mapB Ref.av kAV s)) : ACalls tt 23 [.ptr b 0, .agg d.r.av, .i .i64 d.k] H (fun r H' => r = .i .i64 (declP s d).2 ∧ H' = ⟨H.bs.set m (mapB Ref.av kAV (declP s d).1), H.ts⟩) :=
  acalls_ks rfl rfl (decl0 s d) H b m hb hm rfl
theorem newK0  : ACalls tt 22 [] ⟨[], []⟩ (BigN tt 0 (OneN (.ptr 1 0) [] [mapB Ref.av kAV ([] : KS), .cells [.m 0]])) := by
  refine body_bigN (T := tt) Try.func22 rfl Try.ntmps22 rfl rfl ?_
  refine wp_reg ?_
  refine st_pop rfl rfl rfl rfl ?_
  refine st_nil ?_
  refine wp_reg ?_
  refine st_makeMap rfl rfl rfl rfl rfl ?_
  refine st_pop rfl rfl rfl rfl ?_
  refine st_box rfl rfl rfl rfl rfl rfl rfl rfl rfl ?_
  refine st_pop rfl rfl rfl rfl ?_
  refine st_nil ?_
  refine awp_ret ?_
  refine ret_ret rfl rfl ?_
  exact bigN (.refl _) rfl rfl ⟨[], rfl⟩ rfl
theorem newK_c (H : AH) (n : Nat) (hn : H.bs.length = n) : ACalls tt 22 [] H (fun r H' => r = .ptr (n + 1) 0 ∧ H' = ⟨H.bs ++ [mapB Ref.av kAV ([] : KS), .cells [.m n]], H.ts⟩) := by
  subst hn
  refine (acalls_emp rfl newK0 H).mono ?_
  rintro r H' ⟨r', ns, ⟨rfl, -, rfl⟩, rfl, rfl⟩
  exact ⟨rfl, rfl⟩
theorem loadOk0 (ds : List Dec) (hsz : ds.length ≤ 9223372036854775807) (hok : ∀ k d, ds[k]? = some d → (declP (ldK ds k) d).2 = 0) : ACalls tt 11 [.l none 77 (ds.map Dec.av)] ⟨[], []⟩ (BigN tt 0 (OneN (.tup [.ptr 1 0, .i .i64 0]) [] [mapB Ref.av kAV (ldK ds ds.length), .cells [.m 0]])) := by
  refine body_bigN (T := tt) Try.func11 rfl Try.ntmps11 rfl rfl ?_
  refine wp_reg ?_
  refine st_pop rfl rfl rfl rfl ?_
  refine st_pop rfl rfl rfl rfl ?_
  refine st_nil ?_
  refine wp_reg ?_
  refine st_calcW (xs := []) _ rfl rfl rfl rfl Try.func22 rfl rfl rfl (newK_c _ 0 rfl) rfl ?_
  refine st_pop rfl rfl rfl rfl ?_
  refine st_nil ?_
  refine awp_seq ?_
  refine wp_reg ?_
  refine st_pop rfl rfl rfl rfl ?_
  refine st_pop rfl rfl rfl rfl ?_
  refine st_val 10 (.i .i64 ((ds.length : Nat) : Int)) rfl (by simp) ?_
  refine st_pop rfl rfl rfl rfl ?_
  refine st_nil ?_
  refine awp_block ?_
  refine wp_loopD (α := Nat) (fun k => frl [(4, .ptr 1 0), (9, .l none 77 (ds.map Dec.av)), (10, .i .i64 ((ds.length : Nat) : Int)), (11, .i .i64 ((k : Nat) : Int))]) (fun k => ⟨[mapB Ref.av kAV (ldK ds k), .cells [.m 0]], []⟩) 2 (fun k => k ≤ ds.length) (fun k => ds.length - k) 0 (Nat.zero_le _) (wk_frl (wk_cons rfl (wk_cons rfl (wk_cons rfl (wk_cons rfl wk_nil))))) rfl (fun s => rfl) (fun s hs => bb_frl (by simp [bbL, bb, decs_bb])) (fun s _ => by show (bbB 2 (mapB Ref.av kAV (ldK ds s)) && (bbB 2 (.cells [.m 0]) && true)) = true; rw [ks_bbB]; rfl) ?_
  intro k hk
  refine wp_reg ?_
  refine st_pop rfl rfl rfl rfl ?_
  refine st_nil ?_
  refine awp_seq ?_
  refine wp_bit 12 rfl fun b hb1 => ?_
  cases b
  · try simp only [decide_eq_true_eq, decide_eq_false_iff_not, Bool.not_eq_true', Bool.not_eq_false', Int.not_lt, Int.not_le] at hb1
    refine wp_f rfl ?_
    refine awp_exit ?_
    refine at_exit ?_
    refine at_exit ?_
    refine ab_hit ?_
    refine at_norm ?_
    refine wp_reg ?_
    refine st_pop rfl rfl rfl rfl ?_
    refine st_pop rfl rfl rfl rfl ?_
    refine st_pop rfl rfl rfl rfl ?_
    refine st_nil ?_
    refine awp_ret ?_
    refine ret_ret rfl rfl ?_
    obtain rfl : k = ds.length := by omega
    exact bigN (.refl _) (by rfl) rfl ⟨[], rfl⟩ (ks_okN _ 2 (by omega) 0 (by omega))
  · try simp only [decide_eq_true_eq, decide_eq_false_iff_not, Bool.not_eq_true', Bool.not_eq_false', Int.not_lt, Int.not_le] at hb1
    obtain ⟨d, hd⟩ : ∃ d, ds[k]? = some d := ⟨_, List.getElem?_eq_getElem (by omega)⟩
    refine wp_t rfl ?_
    refine awp_skip ?_
    refine at_norm ?_
    refine awp_seq ?_
    refine awp_block ?_
    refine wp_reg ?_
    refine st_idxA (n := k) d.av rfl rfl rfl rfl rfl rfl rfl rfl (by simp [hd]) ?_
    refine st_pop rfl rfl rfl rfl ?_
    refine st_alloc rfl rfl rfl rfl rfl rfl rfl ?_
    refine st_store rfl rfl rfl rfl rfl rfl rfl rfl rfl rfl rfl rfl rfl ?_
    refine st_nil ?_
    refine wp_reg ?_
    refine st_pop rfl rfl rfl rfl ?_
    refine st_pop rfl rfl rfl rfl ?_
    refine st_pop rfl rfl rfl rfl ?_
    refine st_pop rfl rfl rfl rfl ?_
    refine st_pop rfl rfl rfl rfl ?_
    refine st_calcW (xs := [.tmp 15, .tmp 17, .tmp 19]) _ rfl rfl rfl rfl Try.func23 rfl rfl rfl (decl_c (ldK ds k) d _ 1 0 rfl rfl) rfl ?_
    refine st_pop rfl rfl rfl rfl ?_
    refine st_nil ?_
    refine wp_reg ?_
    refine st_pop rfl rfl rfl rfl ?_
    refine st_pop rfl rfl rfl rfl ?_
    refine st_nil ?_
    refine wp_bit 22 rfl fun b hb2 => ?_
    cases b
    · try simp only [decide_eq_true_eq, decide_eq_false_iff_not, Bool.not_eq_true', Bool.not_eq_false', Int.not_lt, Int.not_le] at hb2
      refine wp_f rfl ?_
      refine awp_skip ?_
      refine ab_norm ?_
      refine at_norm ?_
      refine awp_region ?_
      refine st_pop rfl rfl rfl rfl ?_
      refine st_pop rfl rfl rfl rfl ?_
      refine st_nil ?_
      refine at_norm ?_
      refine ⟨k + 1, by omega, wk_frl (wk_cons rfl (wk_cons rfl (wk_cons rfl (wk_cons (wrap_succ (by omega)) wk_nil)))), ⟨_, by rw [ldK_at hd]; rfl⟩, rfl, by omega⟩
    · try simp only [decide_eq_true_eq, decide_eq_false_iff_not, Bool.not_eq_true', Bool.not_eq_false', Int.not_lt, Int.not_le] at hb2
      exact absurd (hok k d hd) hb2
theorem loadErr0 (ds : List Dec) (hsz : ds.length ≤ 9223372036854775807) (k0 : Nat) (d0 : Dec) (h0 : ds[k0]? = some d0) (hok : ∀ k d, k < k0 → ds[k]? = some d → (declP (ldK ds k) d).2 = 0) (hbad : (declP (ldK ds k0) d0).2 ≠ 0) : ACalls tt 11 [.l none 77 (ds.map Dec.av)] ⟨[], []⟩ (BigN tt 0 (OneN (.tup [.np, .i .i64 (declP (ldK ds k0) d0).2]) [] [])) := by
  refine body_bigN (T := tt) Try.func11 rfl Try.ntmps11 rfl rfl ?_
  refine wp_reg ?_
  refine st_pop rfl rfl rfl rfl ?_
  refine st_pop rfl rfl rfl rfl ?_
  refine st_nil ?_
  refine wp_reg ?_
  refine st_calcW (xs := []) _ rfl rfl rfl rfl Try.func22 rfl rfl rfl (newK_c _ 0 rfl) rfl ?_
  refine st_pop rfl rfl rfl rfl ?_
  refine st_nil ?_
  refine awp_seq ?_
  refine wp_reg ?_
  refine st_pop rfl rfl rfl rfl ?_
  refine st_pop rfl rfl rfl rfl ?_
  refine st_val 10 (.i .i64 ((ds.length : Nat) : Int)) rfl (by simp) ?_
  refine st_pop rfl rfl rfl rfl ?_
  refine st_nil ?_
  refine awp_block ?_
  refine wp_loopD (α := Nat) (fun k => frl [(4, .ptr 1 0), (9, .l none 77 (ds.map Dec.av)), (10, .i .i64 ((ds.length : Nat) : Int)), (11, .i .i64 ((k : Nat) : Int))]) (fun k => ⟨[mapB Ref.av kAV (ldK ds k), .cells [.m 0]], []⟩) 2 (fun k => k ≤ k0 ∧ k0 < ds.length) (fun k => ds.length - k) 0 ⟨Nat.zero_le _, (List.getElem?_eq_some_iff.1 h0).1⟩ (wk_frl (wk_cons rfl (wk_cons rfl (wk_cons rfl (wk_cons rfl wk_nil))))) rfl (fun s => rfl) (fun s hs => bb_frl (by simp [bbL, bb, decs_bb])) (fun s _ => by show (bbB 2 (mapB Ref.av kAV (ldK ds s)) && (bbB 2 (.cells [.m 0]) && true)) = true; rw [ks_bbB]; rfl) ?_
  intro k hk
  refine wp_reg ?_
  refine st_pop rfl rfl rfl rfl ?_
  refine st_nil ?_
  refine awp_seq ?_
  refine wp_bit 12 rfl fun b hb1 => ?_
  cases b
  · try simp only [decide_eq_true_eq, decide_eq_false_iff_not, Bool.not_eq_true', Bool.not_eq_false', Int.not_lt, Int.not_le] at hb1
    omega
  · try simp only [decide_eq_true_eq, decide_eq_false_iff_not, Bool.not_eq_true', Bool.not_eq_false', Int.not_lt, Int.not_le] at hb1
    obtain ⟨d, hd⟩ : ∃ d, ds[k]? = some d := ⟨_, List.getElem?_eq_getElem (by omega)⟩
    refine wp_t rfl ?_
    refine awp_skip ?_
    refine at_norm ?_
    refine awp_seq ?_
    refine awp_block ?_
    refine wp_reg ?_
    refine st_idxA (n := k) d.av rfl rfl rfl rfl rfl rfl rfl rfl (by simp [hd]) ?_
    refine st_pop rfl rfl rfl rfl ?_
    refine st_alloc rfl rfl rfl rfl rfl rfl rfl ?_
    refine st_store rfl rfl rfl rfl rfl rfl rfl rfl rfl rfl rfl rfl rfl ?_
    refine st_nil ?_
    refine wp_reg ?_
    refine st_pop rfl rfl rfl rfl ?_
    refine st_pop rfl rfl rfl rfl ?_
    refine st_pop rfl rfl rfl rfl ?_
    refine st_pop rfl rfl rfl rfl ?_
    refine st_pop rfl rfl rfl rfl ?_
    refine st_calcW (xs := [.tmp 15, .tmp 17, .tmp 19]) _ rfl rfl rfl rfl Try.func23 rfl rfl rfl (decl_c (ldK ds k) d _ 1 0 rfl rfl) rfl ?_
    refine st_pop rfl rfl rfl rfl ?_
    refine st_nil ?_
    refine wp_reg ?_
    refine st_pop rfl rfl rfl rfl ?_
    refine st_pop rfl rfl rfl rfl ?_
    refine st_nil ?_
    refine wp_bit 22 rfl fun b hb2 => ?_
    cases b
    · try simp only [decide_eq_true_eq, decide_eq_false_iff_not, Bool.not_eq_true', Bool.not_eq_false', Int.not_lt, Int.not_le] at hb2
      have hne : k ≠ k0 := fun e => by subst e; rw [h0] at hd; cases hd; exact hbad (by simpa using hb2)
      refine wp_f rfl ?_
      refine awp_skip ?_
      refine ab_norm ?_
      refine at_norm ?_
      refine awp_region ?_
      refine st_pop rfl rfl rfl rfl ?_
      refine st_pop rfl rfl rfl rfl ?_
      refine st_nil ?_
      refine at_norm ?_
      refine ⟨k + 1, by omega, wk_frl (wk_cons rfl (wk_cons rfl (wk_cons rfl (wk_cons (wrap_succ (by omega)) wk_nil)))), ⟨_, by rw [ldK_at hd]; rfl⟩, rfl, by omega⟩
    · try simp only [decide_eq_true_eq, decide_eq_false_iff_not, Bool.not_eq_true', Bool.not_eq_false', Int.not_lt, Int.not_le] at hb2
      have hkk : k = k0 := by
        rcases Nat.lt_or_ge k k0 with q | q
        · exact absurd (hok k d q hd) hb2
        · omega
      subst hkk
      obtain rfl : d0 = d := by rw [h0] at hd; exact Option.some.inj hd
      refine wp_t rfl ?_
      refine wp_reg ?_
      refine st_pop rfl rfl rfl rfl ?_
      refine st_pop rfl rfl rfl rfl ?_
      refine st_pop rfl rfl rfl rfl ?_
      refine st_nil ?_
      refine awp_ret ?_
      refine ab_ret ?_
      refine at_ret ?_
      refine at_ret ?_
      refine ab_ret ?_
      refine at_ret ?_
      refine ret_ret rfl rfl ?_
      exact bigN (.refl _) (by rfl) rfl ⟨_, rfl⟩ rfl
theorem decs_ren (l : List Dec) (σ : Nat → Nat) : renLL σ (l.map Dec.av) = l.map Dec.av := clean_renLL _ (decs_clean l)
theorem loadOk_c (ds : List Dec) (hsz : ds.length ≤ 9223372036854775807) (hok : ∀ k d, ds[k]? = some d → (declP (ldK ds k) d).2 = 0) (H : AH) (n : Nat) (hn : H.bs.length = n) : ACalls tt 11 [.l none 77 (ds.map Dec.av)] H (fun r H' => r = .tup [.ptr (n + 1) 0, .i .i64 0] ∧ H' = ⟨H.bs ++ [mapB Ref.av kAV (ldK ds ds.length), .cells [.m n]], H.ts⟩) := by
  subst hn
  refine (acalls_emp (by simp [cleanL, clean, decs_clean]) (loadOk0 ds hsz hok) H).mono ?_
  rintro r H' ⟨r', ns, ⟨rfl, -, rfl⟩, rfl, rfl⟩
  refine ⟨rfl, ?_⟩
  simp only [List.map_cons, List.map_nil, ks_ren]; rfl
theorem loadErr_c (ds : List Dec) (hsz : ds.length ≤ 9223372036854775807) (k0 : Nat) (d0 : Dec) (h0 : ds[k0]? = some d0) (hok : ∀ k d, k < k0 → ds[k]? = some d → (declP (ldK ds k) d).2 = 0) (hbad : (declP (ldK ds k0) d0).2 ≠ 0) (H : AH) : ACalls tt 11 [.l none 77 (ds.map Dec.av)] H (fun r H' => r = .tup [.np, .i .i64 (declP (ldK ds k0) d0).2] ∧ H' = H) := by
  refine (acalls_emp (by simp [cleanL, clean, decs_clean]) (loadErr0 ds hsz k0 d0 h0 hok hbad) H).mono ?_
  rintro r H' ⟨r', ns, ⟨rfl, -, rfl⟩, rfl, rfl⟩
  refine ⟨rfl, ?_⟩
  simp
/-- A call beside a list of kinds that only reads. -/
def NCall (s : KS) (ns : List Nod) (ks : List Int) (m : Nat) (f : FuncId) (args : List AV) (y : AV) : Prop := ∀ H : AH, H.bs[0]? = some (.cells [.m 1]) → H.bs[1]? = some (mapB Ref.av kAV s) → H.bs[2]? = some (.cells [.l none 63 (ns.map Nod.av)]) → H.bs[3]? = some (.cells (rowI ks m)) → ACalls tt f args H (fun r H' => r = y ∧ H' = H)
theorem nx_ok (s : KS) (ns : List Nod) (ks : List Int) (m : Nat) : [.cells [.m 1], mapB Ref.av kAV s, .cells [.l none 63 (ns.map Nod.av)], .cells (rowI ks m)].all (okB 4) = true := by
  show (okB 4 (.cells [.m 1]) && (okB 4 (mapB Ref.av kAV s) && (okB 4 (.cells [.l none 63 (ns.map Nod.av)]) && (okB 4 (.cells (rowI ks m)) && true)))) = true
  rw [ks_okB, show okB 4 (.cells (rowI ks m)) = true from rowI_ok 4 ks m, show okB 4 (.cells [.l none 63 (ns.map Nod.av)]) = true from by simp [okB, okL, ok, clean_okLL _ (nods_clean ns)]]
  rfl
theorem ncall {s : KS} {ns : List Nod} {ks : List Int} {m : Nat} {f : FuncId} {args : List AV} {y : AV} (hargs : okL 4 args = true) (hy : ok 4 y = true) (h : ACalls tt f args ⟨[.cells [.m 1], mapB Ref.av kAV s, .cells [.l none 63 (ns.map Nod.av)], .cells (rowI ks m)], []⟩ (BigR tt 4 (One y [.cells [.m 1], mapB Ref.av kAV s, .cells [.l none 63 (ns.map Nod.av)], .cells (rowI ks m)]))) : NCall s ns ks m f args y :=
  fun H h0 h1 h2 h3 => acalls_same (xs := [.cells [.m 1], mapB Ref.av kAV s, .cells [.l none 63 (ns.map Nod.av)], .cells (rowI ks m)]) hargs (nx_ok s ns ks m) hy h H fun i x hx => match i, hx with
    | 0, hx => by simp at hx; subst hx; exact h0
    | 1, hx => by simp at hx; subst hx; exact h1
    | 2, hx => by simp at hx; subst hx; exact h2
    | 3, hx => by simp at hx; subst hx; exact h3
    | i + 4, hx => by simp at hx
theorem leaf_nx {s : KS} {ns : List Nod} {ks : List Int} {m : Nat} {y r : AV} {H1 : AH} (hy : ok 4 y = true) (hH : ∃ gb, H1.bs = [.cells [.m 1], mapB Ref.av kAV s, .cells [.l none 63 (ns.map Nod.av)], .cells (rowI ks m)] ++ gb) (he : r = y) : BigR tt 4 (One y [.cells [.m 1], mapB Ref.av kAV s, .cells [.l none 63 (ns.map Nod.av)], .cells (rowI ks m)]) r H1 :=
  ⟨y, _, he ▸ .refl _, hy, rfl, hH, nx_ok s ns ks m, rfl, rfl⟩
theorem one_op {n : Nod} (h : n.op = 6 ∨ n.op = 7 ∨ n.op = 23 ∨ n.op = 24 ∨ n.op = 25) : operands n.op = 1 := by
  rcases h with e | e | e | e | e <;> rw [e] <;> decide
theorem node_c (s : KS) (ns : List Nod) (ks : List Int) (m : Nat) (hm : ks.length ≤ m) (n : Nod) (ho : 1 ≤ n.op ∧ n.op ≤ 25) (hA : operands n.op = 1 ∨ operands n.op = 2 → ∃ a : Nat, n.a = ((a : Nat) : Int) ∧ a < ks.length) (hB : operands n.op = 2 → ∃ b : Nat, n.b = ((b : Nat) : Int) ∧ b < ks.length) : NCall s ns ks m 24 [.ptr 0 0, .agg n.av, .arr 3 m 3] (.tup [.i .i64 (nodeP s n (ks.getD n.a.toNat 0) (ks.getD n.b.toNat 0)).1, .i .i64 (nodeP s n (ks.getD n.a.toNat 0) (ks.getD n.b.toNat 0)).2]) := by
  refine ncall rfl rfl (body_big (T := tt) (k := 4) Try.func24 rfl Try.ntmps24 rfl rfl ?_)
  refine wp_reg ?_
  refine st_box rfl rfl rfl rfl rfl rfl rfl rfl rfl ?_
  refine st_pop rfl rfl rfl rfl ?_
  refine st_pop rfl rfl rfl rfl ?_
  refine st_nil ?_
  refine wp_reg ?_
  refine st_pop rfl rfl rfl rfl ?_
  refine st_nil ?_
  refine awp_seq ?_
  refine wp_reg ?_
  refine st_pop rfl rfl rfl rfl ?_
  refine st_pop rfl rfl rfl rfl ?_
  refine st_nil ?_
  refine awp_block ?_
  refine wp_reg ?_
  refine st_pop rfl rfl rfl rfl ?_
  refine st_pop rfl rfl rfl rfl ?_
  refine st_nil ?_
  refine wp_bit 30 rfl fun b hb1 => ?_
  cases b
  · try simp only [decide_eq_true_eq, decide_eq_false_iff_not, Bool.not_eq_true', Bool.not_eq_false', Int.not_lt, Int.not_le] at hb1
    refine wp_f rfl ?_
    refine awp_seq ?_
    refine wp_reg ?_
    refine st_pop rfl rfl rfl rfl ?_
    refine st_pop rfl rfl rfl rfl ?_
    refine st_nil ?_
    refine wp_bit 35 rfl fun b hb2 => ?_
    cases b
    · try simp only [decide_eq_true_eq, decide_eq_false_iff_not, Bool.not_eq_true', Bool.not_eq_false', Int.not_lt, Int.not_le] at hb2
      refine wp_f rfl ?_
      refine awp_region ?_
      refine st_pop rfl rfl rfl rfl ?_
      refine st_pop rfl rfl rfl rfl ?_
      refine st_nil ?_
      refine at_norm ?_
      refine wp_bit 35 rfl fun b hb3 => ?_
      cases b
      · try simp only [decide_eq_true_eq, decide_eq_false_iff_not, Bool.not_eq_true', Bool.not_eq_false', Int.not_lt, Int.not_le] at hb3
        refine wp_f rfl ?_
        refine awp_seq ?_
        refine wp_reg ?_
        refine st_pop rfl rfl rfl rfl ?_
        refine st_pop rfl rfl rfl rfl ?_
        refine st_nil ?_
        refine wp_bit 38 rfl fun b hb4 => ?_
        cases b
        · try simp only [decide_eq_true_eq, decide_eq_false_iff_not, Bool.not_eq_true', Bool.not_eq_false', Int.not_lt, Int.not_le] at hb4
          refine wp_f rfl ?_
          refine awp_region ?_
          refine st_pop rfl rfl rfl rfl ?_
          refine st_pop rfl rfl rfl rfl ?_
          refine st_nil ?_
          refine at_norm ?_
          refine wp_bit 38 rfl fun b hb5 => ?_
          cases b
          · try simp only [decide_eq_true_eq, decide_eq_false_iff_not, Bool.not_eq_true', Bool.not_eq_false', Int.not_lt, Int.not_le] at hb5
            refine wp_f rfl ?_
            refine awp_seq ?_
            refine wp_reg ?_
            refine st_pop rfl rfl rfl rfl ?_
            refine st_pop rfl rfl rfl rfl ?_
            refine st_nil ?_
            refine wp_bit 59 rfl fun b hb6 => ?_
            cases b
            · try simp only [decide_eq_true_eq, decide_eq_false_iff_not, Bool.not_eq_true', Bool.not_eq_false', Int.not_lt, Int.not_le] at hb6
              refine wp_f rfl ?_
              refine wp_reg ?_
              refine st_pop rfl rfl rfl rfl ?_
              refine st_pop rfl rfl rfl rfl ?_
              refine st_nil ?_
              refine wp_bit 59 rfl fun b hb7 => ?_
              cases b
              · try simp only [decide_eq_true_eq, decide_eq_false_iff_not, Bool.not_eq_true', Bool.not_eq_false', Int.not_lt, Int.not_le] at hb7
                refine wp_f rfl ?_
                refine wp_reg ?_
                refine st_pop rfl rfl rfl rfl ?_
                refine st_pop rfl rfl rfl rfl ?_
                refine st_nil ?_
                refine wp_bit 59 rfl fun b hb8 => ?_
                cases b
                · try simp only [decide_eq_true_eq, decide_eq_false_iff_not, Bool.not_eq_true', Bool.not_eq_false', Int.not_lt, Int.not_le] at hb8
                  refine wp_f rfl ?_
                  refine wp_reg ?_
                  refine st_pop rfl rfl rfl rfl ?_
                  refine st_pop rfl rfl rfl rfl ?_
                  refine st_nil ?_
                  refine wp_bit 59 rfl fun b hb9 => ?_
                  cases b
                  · try simp only [decide_eq_true_eq, decide_eq_false_iff_not, Bool.not_eq_true', Bool.not_eq_false', Int.not_lt, Int.not_le] at hb9
                    refine wp_f rfl ?_
                    refine awp_region ?_
                    refine st_pop rfl rfl rfl rfl ?_
                    refine st_pop rfl rfl rfl rfl ?_
                    refine st_nil ?_
                    refine at_norm ?_
                    refine wp_bit 59 rfl fun b hb10 => ?_
                    cases b
                    · try simp only [decide_eq_true_eq, decide_eq_false_iff_not, Bool.not_eq_true', Bool.not_eq_false', Int.not_lt, Int.not_le] at hb10
                      refine wp_f rfl ?_
                      refine wp_open [.op 10, .bar] (D := [0, 0, 2, 7, 15, 0, 0, 64, 224, 480, 1023]) (by kernel_rfl) (by kernel_rfl) (by kernel_rfl) ?_
                      refine ad_op rfl rfl ?_
                      have o2 : operands n.op = 2 := by unfold operands; (repeat' split) <;> first | rfl | (exfalso; omega)
                      obtain ⟨ja, hja, hjl⟩ := hA (.inr o2)
                      obtain ⟨jb, hjb, hjbl⟩ := hB o2
                      have hjt : n.a.toNat = ja := by rw [hja, Int.toNat_natCast]
                      have hjt2 : n.b.toNat = jb := by rw [hjb, Int.toNat_natCast]
                      refine do_pop rfl rfl rfl rfl rfl rfl ?_
                      
                      refine do_pop rfl rfl rfl rfl rfl (by kernel_rfl) ?_
                      refine do_pop rfl rfl rfl rfl rfl rfl ?_
                      refine do_val 13 (.i .i64 ((ja : Nat) : Int)) rfl (by rw [hja]) ?_
                      refine do_idxR (n := ja) rfl rfl rfl rfl rfl rfl rfl rfl rfl (by omega) ?_
                      refine do_loadR (.i .i64 (ks.getD ja 0)) rfl rfl rfl rfl rfl rfl rfl (rowI_get (by omega)) ?_
                      refine do_pop rfl rfl rfl rfl rfl (by kernel_rfl) ?_
                      refine do_pop rfl rfl rfl rfl rfl (by kernel_rfl) ?_
                      refine do_pop rfl rfl rfl rfl rfl rfl ?_
                      refine do_val 18 (.i .i64 ((jb : Nat) : Int)) rfl (by rw [hjb]) ?_
                      refine do_idxR (n := jb) rfl rfl rfl rfl rfl rfl rfl rfl rfl (by omega) ?_
                      refine do_loadR (.i .i64 (ks.getD jb 0)) rfl rfl rfl rfl rfl rfl rfl (rowI_get (by omega)) ?_
                      refine do_nil ?_
                      refine ad_bar ?_
                      refine st_pop rfl rfl rfl rfl ?_
                      refine st_nil ?_
                      refine ad_nil ?_
                      refine wp_bit 21 rfl fun b hb11 => ?_
                      cases b
                      · try simp only [decide_eq_true_eq, decide_eq_false_iff_not, Bool.not_eq_true', Bool.not_eq_false', Int.not_lt, Int.not_le] at hb11
                        refine wp_f rfl ?_
                        refine awp_skip ?_
                        refine ab_norm ?_
                        refine at_norm ?_
                        refine awp_seq ?_
                        refine wp_reg ?_
                        refine st_pop rfl rfl rfl rfl ?_
                        refine st_pop rfl rfl rfl rfl ?_
                        refine st_nil ?_
                        refine wp_bit 74 rfl fun b hb12 => ?_
                        cases b
                        · try simp only [decide_eq_true_eq, decide_eq_false_iff_not, Bool.not_eq_true', Bool.not_eq_false', Int.not_lt, Int.not_le] at hb12
                          refine wp_f rfl ?_
                          refine awp_skip ?_
                          refine at_norm ?_
                          refine wp_reg ?_
                          refine st_pop rfl rfl rfl rfl ?_
                          refine st_pop rfl rfl rfl rfl ?_
                          refine st_pop rfl rfl rfl rfl ?_
                          refine st_nil ?_
                          refine awp_ret ?_
                          refine ret_ret rfl rfl ?_
                          refine leaf_nx rfl ⟨_, rfl⟩ ?_
                          clear hA hB
                          first
                            | (simp [nodeP, *]; done)
                            | (unfold nodeP opKind; simp_all; done)
                            | (unfold nodeP opKind; grind)
                        · try simp only [decide_eq_true_eq, decide_eq_false_iff_not, Bool.not_eq_true', Bool.not_eq_false', Int.not_lt, Int.not_le] at hb12
                          refine wp_t rfl ?_
                          refine wp_reg ?_
                          refine st_pop rfl rfl rfl rfl ?_
                          refine st_pop rfl rfl rfl rfl ?_
                          refine st_nil ?_
                          refine awp_ret ?_
                          refine at_ret ?_
                          refine ret_ret rfl rfl ?_
                          refine leaf_nx rfl ⟨_, rfl⟩ ?_
                          clear hA hB
                          first
                            | (simp [nodeP, *]; done)
                            | (unfold nodeP opKind; simp_all; done)
                            | (unfold nodeP opKind; grind)
                      · try simp only [decide_eq_true_eq, decide_eq_false_iff_not, Bool.not_eq_true', Bool.not_eq_false', Int.not_lt, Int.not_le] at hb11
                        refine wp_t rfl ?_
                        refine awp_open [.op 7, .bar, .bar] (D := [0, 1, 0, 0, 8, 28, 60, 127, 255]) (by kernel_rfl) (by kernel_rfl) (by kernel_rfl) ?_
                        refine ad_op rfl rfl ?_
                        refine do_pop rfl rfl rfl rfl rfl (by kernel_rfl) ?_
                        refine do_pop rfl rfl rfl rfl rfl (by kernel_rfl) ?_
                        refine do_pop rfl rfl rfl rfl rfl (by kernel_rfl) ?_
                        refine do_pop rfl rfl rfl rfl rfl (by kernel_rfl) ?_
                        refine do_pop rfl rfl rfl rfl rfl rfl ?_
                        refine do_val 26 (.i .i64 ((ja : Nat) : Int)) rfl (by rw [hja]) ?_
                        refine do_idxR (n := ja) rfl rfl rfl rfl rfl rfl rfl rfl rfl (by omega) ?_
                        refine do_loadR (.i .i64 (ks.getD ja 0)) rfl rfl rfl rfl rfl rfl rfl (rowI_get (by omega)) ?_
                        refine do_nil ?_
                        refine ad_bar ?_
                        refine st_calc (xs := [.tmp 23, .tmp 28]) _ rfl rfl rfl rfl Try.func40 rfl rfl rfl (double_c _ _ _) ?_
                        refine st_nil ?_
                        refine ad_bar ?_
                        refine st_pop rfl rfl rfl rfl ?_
                        refine st_nil ?_
                        refine ad_nil ?_
                        refine ab_norm ?_
                        refine at_norm ?_
                        refine awp_seq ?_
                        refine wp_reg ?_
                        refine st_pop rfl rfl rfl rfl ?_
                        refine st_pop rfl rfl rfl rfl ?_
                        refine st_nil ?_
                        refine wp_bit 74 rfl fun b hb13 => ?_
                        cases b
                        · try simp only [decide_eq_true_eq, decide_eq_false_iff_not, Bool.not_eq_true', Bool.not_eq_false', Int.not_lt, Int.not_le] at hb13
                          refine wp_f rfl ?_
                          refine awp_skip ?_
                          refine at_norm ?_
                          refine wp_reg ?_
                          refine st_pop rfl rfl rfl rfl ?_
                          refine st_pop rfl rfl rfl rfl ?_
                          refine st_pop rfl rfl rfl rfl ?_
                          refine st_nil ?_
                          refine awp_ret ?_
                          refine ret_ret rfl rfl ?_
                          refine leaf_nx rfl ⟨_, rfl⟩ ?_
                          clear hA hB
                          first
                            | (simp [nodeP, *]; done)
                            | (unfold nodeP opKind; simp_all; done)
                            | (unfold nodeP opKind; grind)
                        · try simp only [decide_eq_true_eq, decide_eq_false_iff_not, Bool.not_eq_true', Bool.not_eq_false', Int.not_lt, Int.not_le] at hb13
                          refine wp_t rfl ?_
                          refine wp_reg ?_
                          refine st_pop rfl rfl rfl rfl ?_
                          refine st_pop rfl rfl rfl rfl ?_
                          refine st_nil ?_
                          refine awp_ret ?_
                          refine at_ret ?_
                          refine ret_ret rfl rfl ?_
                          refine leaf_nx rfl ⟨_, rfl⟩ ?_
                          clear hA hB
                          first
                            | (simp [nodeP, *]; done)
                            | (unfold nodeP opKind; simp_all; done)
                            | (unfold nodeP opKind; grind)
                    · try simp only [decide_eq_true_eq, decide_eq_false_iff_not, Bool.not_eq_true', Bool.not_eq_false', Int.not_lt, Int.not_le] at hb10
                      refine wp_t rfl ?_
                      refine awp_open [.op 7, .bar, .bar] (D := [0, 1, 0, 0, 8, 28, 60, 127, 255]) (by kernel_rfl) (by kernel_rfl) (by kernel_rfl) ?_
                      refine ad_op rfl rfl ?_
                      obtain ⟨ja, hja, hjl⟩ := hA (.inl (one_op (by omega)))
                      have hjt : n.a.toNat = ja := by rw [hja, Int.toNat_natCast]
                      refine do_pop rfl rfl rfl rfl rfl rfl ?_
                      
                      refine do_pop rfl rfl rfl rfl rfl (by kernel_rfl) ?_
                      refine do_pop rfl rfl rfl rfl rfl (by kernel_rfl) ?_
                      refine do_pop rfl rfl rfl rfl rfl (by kernel_rfl) ?_
                      refine do_pop rfl rfl rfl rfl rfl rfl ?_
                      refine do_val 69 (.i .i64 ((ja : Nat) : Int)) rfl (by rw [hja]) ?_
                      refine do_idxR (n := ja) rfl rfl rfl rfl rfl rfl rfl rfl rfl (by omega) ?_
                      refine do_loadR (.i .i64 (ks.getD ja 0)) rfl rfl rfl rfl rfl rfl rfl (rowI_get (by omega)) ?_
                      refine do_nil ?_
                      refine ad_bar ?_
                      refine st_calc (xs := [.tmp 66, .tmp 71]) _ rfl rfl rfl rfl Try.func39 rfl rfl rfl (single_c _ _ _) ?_
                      refine st_nil ?_
                      refine ad_bar ?_
                      refine st_pop rfl rfl rfl rfl ?_
                      refine st_nil ?_
                      refine ad_nil ?_
                      refine ab_norm ?_
                      refine at_norm ?_
                      refine awp_seq ?_
                      refine wp_reg ?_
                      refine st_pop rfl rfl rfl rfl ?_
                      refine st_pop rfl rfl rfl rfl ?_
                      refine st_nil ?_
                      refine wp_bit 74 rfl fun b hb14 => ?_
                      cases b
                      · try simp only [decide_eq_true_eq, decide_eq_false_iff_not, Bool.not_eq_true', Bool.not_eq_false', Int.not_lt, Int.not_le] at hb14
                        refine wp_f rfl ?_
                        refine awp_skip ?_
                        refine at_norm ?_
                        refine wp_reg ?_
                        refine st_pop rfl rfl rfl rfl ?_
                        refine st_pop rfl rfl rfl rfl ?_
                        refine st_pop rfl rfl rfl rfl ?_
                        refine st_nil ?_
                        refine awp_ret ?_
                        refine ret_ret rfl rfl ?_
                        refine leaf_nx rfl ⟨_, rfl⟩ ?_
                        clear hA hB
                        first
                          | (simp [nodeP, *]; done)
                          | (unfold nodeP opKind; simp_all; done)
                          | (unfold nodeP opKind; grind)
                      · try simp only [decide_eq_true_eq, decide_eq_false_iff_not, Bool.not_eq_true', Bool.not_eq_false', Int.not_lt, Int.not_le] at hb14
                        refine wp_t rfl ?_
                        refine wp_reg ?_
                        refine st_pop rfl rfl rfl rfl ?_
                        refine st_pop rfl rfl rfl rfl ?_
                        refine st_nil ?_
                        refine awp_ret ?_
                        refine at_ret ?_
                        refine ret_ret rfl rfl ?_
                        refine leaf_nx rfl ⟨_, rfl⟩ ?_
                        clear hA hB
                        first
                          | (simp [nodeP, *]; done)
                          | (unfold nodeP opKind; simp_all; done)
                          | (unfold nodeP opKind; grind)
                  · try simp only [decide_eq_true_eq, decide_eq_false_iff_not, Bool.not_eq_true', Bool.not_eq_false', Int.not_lt, Int.not_le] at hb9
                    refine wp_t rfl ?_
                    refine awp_skip ?_
                    refine at_norm ?_
                    refine wp_t rfl ?_
                    refine awp_open [.op 7, .bar, .bar] (D := [0, 1, 0, 0, 8, 28, 60, 127, 255]) (by kernel_rfl) (by kernel_rfl) (by kernel_rfl) ?_
                    refine ad_op rfl rfl ?_
                    obtain ⟨ja, hja, hjl⟩ := hA (.inl (one_op (by omega)))
                    have hjt : n.a.toNat = ja := by rw [hja, Int.toNat_natCast]
                    refine do_pop rfl rfl rfl rfl rfl rfl ?_
                    
                    refine do_pop rfl rfl rfl rfl rfl (by kernel_rfl) ?_
                    refine do_pop rfl rfl rfl rfl rfl (by kernel_rfl) ?_
                    refine do_pop rfl rfl rfl rfl rfl (by kernel_rfl) ?_
                    refine do_pop rfl rfl rfl rfl rfl rfl ?_
                    refine do_val 69 (.i .i64 ((ja : Nat) : Int)) rfl (by rw [hja]) ?_
                    refine do_idxR (n := ja) rfl rfl rfl rfl rfl rfl rfl rfl rfl (by omega) ?_
                    refine do_loadR (.i .i64 (ks.getD ja 0)) rfl rfl rfl rfl rfl rfl rfl (rowI_get (by omega)) ?_
                    refine do_nil ?_
                    refine ad_bar ?_
                    refine st_calc (xs := [.tmp 66, .tmp 71]) _ rfl rfl rfl rfl Try.func39 rfl rfl rfl (single_c _ _ _) ?_
                    refine st_nil ?_
                    refine ad_bar ?_
                    refine st_pop rfl rfl rfl rfl ?_
                    refine st_nil ?_
                    refine ad_nil ?_
                    refine ab_norm ?_
                    refine at_norm ?_
                    refine awp_seq ?_
                    refine wp_reg ?_
                    refine st_pop rfl rfl rfl rfl ?_
                    refine st_pop rfl rfl rfl rfl ?_
                    refine st_nil ?_
                    refine wp_bit 74 rfl fun b hb15 => ?_
                    cases b
                    · try simp only [decide_eq_true_eq, decide_eq_false_iff_not, Bool.not_eq_true', Bool.not_eq_false', Int.not_lt, Int.not_le] at hb15
                      refine wp_f rfl ?_
                      refine awp_skip ?_
                      refine at_norm ?_
                      refine wp_reg ?_
                      refine st_pop rfl rfl rfl rfl ?_
                      refine st_pop rfl rfl rfl rfl ?_
                      refine st_pop rfl rfl rfl rfl ?_
                      refine st_nil ?_
                      refine awp_ret ?_
                      refine ret_ret rfl rfl ?_
                      refine leaf_nx rfl ⟨_, rfl⟩ ?_
                      clear hA hB
                      first
                        | (simp [nodeP, *]; done)
                        | (unfold nodeP opKind; simp_all; done)
                        | (unfold nodeP opKind; grind)
                    · try simp only [decide_eq_true_eq, decide_eq_false_iff_not, Bool.not_eq_true', Bool.not_eq_false', Int.not_lt, Int.not_le] at hb15
                      refine wp_t rfl ?_
                      refine wp_reg ?_
                      refine st_pop rfl rfl rfl rfl ?_
                      refine st_pop rfl rfl rfl rfl ?_
                      refine st_nil ?_
                      refine awp_ret ?_
                      refine at_ret ?_
                      refine ret_ret rfl rfl ?_
                      refine leaf_nx rfl ⟨_, rfl⟩ ?_
                      clear hA hB
                      first
                        | (simp [nodeP, *]; done)
                        | (unfold nodeP opKind; simp_all; done)
                        | (unfold nodeP opKind; grind)
                · try simp only [decide_eq_true_eq, decide_eq_false_iff_not, Bool.not_eq_true', Bool.not_eq_false', Int.not_lt, Int.not_le] at hb8
                  refine wp_t rfl ?_
                  refine awp_skip ?_
                  refine at_norm ?_
                  refine wp_t rfl ?_
                  refine awp_open [.op 7, .bar, .bar] (D := [0, 1, 0, 0, 8, 28, 60, 127, 255]) (by kernel_rfl) (by kernel_rfl) (by kernel_rfl) ?_
                  refine ad_op rfl rfl ?_
                  obtain ⟨ja, hja, hjl⟩ := hA (.inl (one_op (by omega)))
                  have hjt : n.a.toNat = ja := by rw [hja, Int.toNat_natCast]
                  refine do_pop rfl rfl rfl rfl rfl rfl ?_
                  
                  refine do_pop rfl rfl rfl rfl rfl (by kernel_rfl) ?_
                  refine do_pop rfl rfl rfl rfl rfl (by kernel_rfl) ?_
                  refine do_pop rfl rfl rfl rfl rfl (by kernel_rfl) ?_
                  refine do_pop rfl rfl rfl rfl rfl rfl ?_
                  refine do_val 69 (.i .i64 ((ja : Nat) : Int)) rfl (by rw [hja]) ?_
                  refine do_idxR (n := ja) rfl rfl rfl rfl rfl rfl rfl rfl rfl (by omega) ?_
                  refine do_loadR (.i .i64 (ks.getD ja 0)) rfl rfl rfl rfl rfl rfl rfl (rowI_get (by omega)) ?_
                  refine do_nil ?_
                  refine ad_bar ?_
                  refine st_calc (xs := [.tmp 66, .tmp 71]) _ rfl rfl rfl rfl Try.func39 rfl rfl rfl (single_c _ _ _) ?_
                  refine st_nil ?_
                  refine ad_bar ?_
                  refine st_pop rfl rfl rfl rfl ?_
                  refine st_nil ?_
                  refine ad_nil ?_
                  refine ab_norm ?_
                  refine at_norm ?_
                  refine awp_seq ?_
                  refine wp_reg ?_
                  refine st_pop rfl rfl rfl rfl ?_
                  refine st_pop rfl rfl rfl rfl ?_
                  refine st_nil ?_
                  refine wp_bit 74 rfl fun b hb16 => ?_
                  cases b
                  · try simp only [decide_eq_true_eq, decide_eq_false_iff_not, Bool.not_eq_true', Bool.not_eq_false', Int.not_lt, Int.not_le] at hb16
                    refine wp_f rfl ?_
                    refine awp_skip ?_
                    refine at_norm ?_
                    refine wp_reg ?_
                    refine st_pop rfl rfl rfl rfl ?_
                    refine st_pop rfl rfl rfl rfl ?_
                    refine st_pop rfl rfl rfl rfl ?_
                    refine st_nil ?_
                    refine awp_ret ?_
                    refine ret_ret rfl rfl ?_
                    refine leaf_nx rfl ⟨_, rfl⟩ ?_
                    clear hA hB
                    first
                      | (simp [nodeP, *]; done)
                      | (unfold nodeP opKind; simp_all; done)
                      | (unfold nodeP opKind; grind)
                  · try simp only [decide_eq_true_eq, decide_eq_false_iff_not, Bool.not_eq_true', Bool.not_eq_false', Int.not_lt, Int.not_le] at hb16
                    refine wp_t rfl ?_
                    refine wp_reg ?_
                    refine st_pop rfl rfl rfl rfl ?_
                    refine st_pop rfl rfl rfl rfl ?_
                    refine st_nil ?_
                    refine awp_ret ?_
                    refine at_ret ?_
                    refine ret_ret rfl rfl ?_
                    refine leaf_nx rfl ⟨_, rfl⟩ ?_
                    clear hA hB
                    first
                      | (simp [nodeP, *]; done)
                      | (unfold nodeP opKind; simp_all; done)
                      | (unfold nodeP opKind; grind)
              · try simp only [decide_eq_true_eq, decide_eq_false_iff_not, Bool.not_eq_true', Bool.not_eq_false', Int.not_lt, Int.not_le] at hb7
                refine wp_t rfl ?_
                refine awp_skip ?_
                refine at_norm ?_
                refine wp_t rfl ?_
                refine awp_open [.op 7, .bar, .bar] (D := [0, 1, 0, 0, 8, 28, 60, 127, 255]) (by kernel_rfl) (by kernel_rfl) (by kernel_rfl) ?_
                refine ad_op rfl rfl ?_
                obtain ⟨ja, hja, hjl⟩ := hA (.inl (one_op (by omega)))
                have hjt : n.a.toNat = ja := by rw [hja, Int.toNat_natCast]
                refine do_pop rfl rfl rfl rfl rfl rfl ?_
                
                refine do_pop rfl rfl rfl rfl rfl (by kernel_rfl) ?_
                refine do_pop rfl rfl rfl rfl rfl (by kernel_rfl) ?_
                refine do_pop rfl rfl rfl rfl rfl (by kernel_rfl) ?_
                refine do_pop rfl rfl rfl rfl rfl rfl ?_
                refine do_val 69 (.i .i64 ((ja : Nat) : Int)) rfl (by rw [hja]) ?_
                refine do_idxR (n := ja) rfl rfl rfl rfl rfl rfl rfl rfl rfl (by omega) ?_
                refine do_loadR (.i .i64 (ks.getD ja 0)) rfl rfl rfl rfl rfl rfl rfl (rowI_get (by omega)) ?_
                refine do_nil ?_
                refine ad_bar ?_
                refine st_calc (xs := [.tmp 66, .tmp 71]) _ rfl rfl rfl rfl Try.func39 rfl rfl rfl (single_c _ _ _) ?_
                refine st_nil ?_
                refine ad_bar ?_
                refine st_pop rfl rfl rfl rfl ?_
                refine st_nil ?_
                refine ad_nil ?_
                refine ab_norm ?_
                refine at_norm ?_
                refine awp_seq ?_
                refine wp_reg ?_
                refine st_pop rfl rfl rfl rfl ?_
                refine st_pop rfl rfl rfl rfl ?_
                refine st_nil ?_
                refine wp_bit 74 rfl fun b hb17 => ?_
                cases b
                · try simp only [decide_eq_true_eq, decide_eq_false_iff_not, Bool.not_eq_true', Bool.not_eq_false', Int.not_lt, Int.not_le] at hb17
                  refine wp_f rfl ?_
                  refine awp_skip ?_
                  refine at_norm ?_
                  refine wp_reg ?_
                  refine st_pop rfl rfl rfl rfl ?_
                  refine st_pop rfl rfl rfl rfl ?_
                  refine st_pop rfl rfl rfl rfl ?_
                  refine st_nil ?_
                  refine awp_ret ?_
                  refine ret_ret rfl rfl ?_
                  refine leaf_nx rfl ⟨_, rfl⟩ ?_
                  clear hA hB
                  first
                    | (simp [nodeP, *]; done)
                    | (unfold nodeP opKind; simp_all; done)
                    | (unfold nodeP opKind; grind)
                · try simp only [decide_eq_true_eq, decide_eq_false_iff_not, Bool.not_eq_true', Bool.not_eq_false', Int.not_lt, Int.not_le] at hb17
                  refine wp_t rfl ?_
                  refine wp_reg ?_
                  refine st_pop rfl rfl rfl rfl ?_
                  refine st_pop rfl rfl rfl rfl ?_
                  refine st_nil ?_
                  refine awp_ret ?_
                  refine at_ret ?_
                  refine ret_ret rfl rfl ?_
                  refine leaf_nx rfl ⟨_, rfl⟩ ?_
                  clear hA hB
                  first
                    | (simp [nodeP, *]; done)
                    | (unfold nodeP opKind; simp_all; done)
                    | (unfold nodeP opKind; grind)
            · try simp only [decide_eq_true_eq, decide_eq_false_iff_not, Bool.not_eq_true', Bool.not_eq_false', Int.not_lt, Int.not_le] at hb6
              refine wp_t rfl ?_
              refine awp_skip ?_
              refine at_norm ?_
              refine wp_t rfl ?_
              refine awp_open [.op 7, .bar, .bar] (D := [0, 1, 0, 0, 8, 28, 60, 127, 255]) (by kernel_rfl) (by kernel_rfl) (by kernel_rfl) ?_
              refine ad_op rfl rfl ?_
              obtain ⟨ja, hja, hjl⟩ := hA (.inl (one_op (by omega)))
              have hjt : n.a.toNat = ja := by rw [hja, Int.toNat_natCast]
              refine do_pop rfl rfl rfl rfl rfl rfl ?_
              
              refine do_pop rfl rfl rfl rfl rfl (by kernel_rfl) ?_
              refine do_pop rfl rfl rfl rfl rfl (by kernel_rfl) ?_
              refine do_pop rfl rfl rfl rfl rfl (by kernel_rfl) ?_
              refine do_pop rfl rfl rfl rfl rfl rfl ?_
              refine do_val 69 (.i .i64 ((ja : Nat) : Int)) rfl (by rw [hja]) ?_
              refine do_idxR (n := ja) rfl rfl rfl rfl rfl rfl rfl rfl rfl (by omega) ?_
              refine do_loadR (.i .i64 (ks.getD ja 0)) rfl rfl rfl rfl rfl rfl rfl (rowI_get (by omega)) ?_
              refine do_nil ?_
              refine ad_bar ?_
              refine st_calc (xs := [.tmp 66, .tmp 71]) _ rfl rfl rfl rfl Try.func39 rfl rfl rfl (single_c _ _ _) ?_
              refine st_nil ?_
              refine ad_bar ?_
              refine st_pop rfl rfl rfl rfl ?_
              refine st_nil ?_
              refine ad_nil ?_
              refine ab_norm ?_
              refine at_norm ?_
              refine awp_seq ?_
              refine wp_reg ?_
              refine st_pop rfl rfl rfl rfl ?_
              refine st_pop rfl rfl rfl rfl ?_
              refine st_nil ?_
              refine wp_bit 74 rfl fun b hb18 => ?_
              cases b
              · try simp only [decide_eq_true_eq, decide_eq_false_iff_not, Bool.not_eq_true', Bool.not_eq_false', Int.not_lt, Int.not_le] at hb18
                refine wp_f rfl ?_
                refine awp_skip ?_
                refine at_norm ?_
                refine wp_reg ?_
                refine st_pop rfl rfl rfl rfl ?_
                refine st_pop rfl rfl rfl rfl ?_
                refine st_pop rfl rfl rfl rfl ?_
                refine st_nil ?_
                refine awp_ret ?_
                refine ret_ret rfl rfl ?_
                refine leaf_nx rfl ⟨_, rfl⟩ ?_
                clear hA hB
                first
                  | (simp [nodeP, *]; done)
                  | (unfold nodeP opKind; simp_all; done)
                  | (unfold nodeP opKind; grind)
              · try simp only [decide_eq_true_eq, decide_eq_false_iff_not, Bool.not_eq_true', Bool.not_eq_false', Int.not_lt, Int.not_le] at hb18
                refine wp_t rfl ?_
                refine wp_reg ?_
                refine st_pop rfl rfl rfl rfl ?_
                refine st_pop rfl rfl rfl rfl ?_
                refine st_nil ?_
                refine awp_ret ?_
                refine at_ret ?_
                refine ret_ret rfl rfl ?_
                refine leaf_nx rfl ⟨_, rfl⟩ ?_
                clear hA hB
                first
                  | (simp [nodeP, *]; done)
                  | (unfold nodeP opKind; simp_all; done)
                  | (unfold nodeP opKind; grind)
          · try simp only [decide_eq_true_eq, decide_eq_false_iff_not, Bool.not_eq_true', Bool.not_eq_false', Int.not_lt, Int.not_le] at hb5
            refine wp_t rfl ?_
            refine awp_seq ?_
            refine wp_open [.op 6, .bar, .bar] (D := [0, 1, 3, 7, 0, 16, 63, 127]) (by kernel_rfl) (by kernel_rfl) (by kernel_rfl) ?_
            refine ad_op rfl rfl ?_
            refine do_pop rfl rfl rfl rfl rfl (by kernel_rfl) ?_
            refine do_pop rfl rfl rfl rfl rfl (by kernel_rfl) ?_
            refine do_pop rfl rfl rfl rfl rfl (by kernel_rfl) ?_
            refine do_pop rfl rfl rfl rfl rfl (by kernel_rfl) ?_
            refine do_pop rfl rfl rfl rfl rfl (by kernel_rfl) ?_
            refine do_pop rfl rfl rfl rfl rfl (by kernel_rfl) ?_
            refine do_nil ?_
            refine ad_bar ?_
            refine st_lookup s (n.ref) refKT kZ1 kZ2 rfl rfl rfl rfl rfl rfl rfl rfl rfl (look_kind s _) ?_
            refine st_nil ?_
            refine ad_bar ?_
            refine st_pop rfl rfl rfl rfl ?_
            refine st_nil ?_
            refine ad_nil ?_
            refine wp_bit 48 rfl fun b hb19 => ?_
            cases b
            · try simp only [decide_eq_true_eq, decide_eq_false_iff_not, Bool.not_eq_true', Bool.not_eq_false', Int.not_lt, Int.not_le] at hb19
              refine wp_f rfl ?_
              refine awp_skip ?_
              refine at_norm ?_
              refine awp_seq ?_
              refine wp_reg ?_
              refine st_pop rfl rfl rfl rfl ?_
              refine st_pop rfl rfl rfl rfl ?_
              refine st_pop rfl rfl rfl rfl ?_
              refine st_nil ?_
              refine wp_bit 51 rfl fun b hb20 => ?_
              cases b
              · try simp only [decide_eq_true_eq, decide_eq_false_iff_not, Bool.not_eq_true', Bool.not_eq_false', Int.not_lt, Int.not_le] at hb20
                refine wp_f rfl ?_
                refine awp_skip ?_
                refine at_norm ?_
                refine wp_open [.op 6, .bar, .bar, .bar] (D := [0, 1, 3, 7, 0, 16, 63, 127, 255]) (by kernel_rfl) (by kernel_rfl) (by kernel_rfl) ?_
                refine ad_op rfl rfl ?_
                refine do_pop rfl rfl rfl rfl rfl (by kernel_rfl) ?_
                refine do_pop rfl rfl rfl rfl rfl (by kernel_rfl) ?_
                refine do_pop rfl rfl rfl rfl rfl (by kernel_rfl) ?_
                refine do_pop rfl rfl rfl rfl rfl (by kernel_rfl) ?_
                refine do_pop rfl rfl rfl rfl rfl (by kernel_rfl) ?_
                refine do_pop rfl rfl rfl rfl rfl (by kernel_rfl) ?_
                refine do_nil ?_
                refine ad_bar ?_
                refine st_lookup s (n.ref) refKT kZ1 kZ2 rfl rfl rfl rfl rfl rfl rfl rfl rfl (look_kind s _) ?_
                refine st_nil ?_
                refine ad_bar ?_
                refine st_pop rfl rfl rfl rfl ?_
                refine st_nil ?_
                refine ad_bar ?_
                refine st_pop rfl rfl rfl rfl ?_
                refine st_nil ?_
                refine ad_nil ?_
                refine awp_ret ?_
                refine ab_ret ?_
                refine at_ret ?_
                refine ret_ret rfl rfl ?_
                refine leaf_nx rfl ⟨_, rfl⟩ ?_
                clear hA hB
                first
                  | (simp [nodeP, *]; done)
                  | (unfold nodeP opKind; simp_all; done)
                  | (unfold nodeP opKind; grind)
              · try simp only [decide_eq_true_eq, decide_eq_false_iff_not, Bool.not_eq_true', Bool.not_eq_false', Int.not_lt, Int.not_le] at hb20
                refine wp_t rfl ?_
                refine wp_reg ?_
                refine st_pop rfl rfl rfl rfl ?_
                refine st_pop rfl rfl rfl rfl ?_
                refine st_nil ?_
                refine awp_ret ?_
                refine at_ret ?_
                refine ab_ret ?_
                refine at_ret ?_
                refine ret_ret rfl rfl ?_
                refine leaf_nx rfl ⟨_, rfl⟩ ?_
                clear hA hB
                first
                  | (simp [nodeP, *]; done)
                  | (unfold nodeP opKind; simp_all; done)
                  | (unfold nodeP opKind; grind)
            · try simp only [decide_eq_true_eq, decide_eq_false_iff_not, Bool.not_eq_true', Bool.not_eq_false', Int.not_lt, Int.not_le] at hb19
              refine wp_t rfl ?_
              refine wp_reg ?_
              refine st_pop rfl rfl rfl rfl ?_
              refine st_pop rfl rfl rfl rfl ?_
              refine st_nil ?_
              refine awp_ret ?_
              refine at_ret ?_
              refine ab_ret ?_
              refine at_ret ?_
              refine ret_ret rfl rfl ?_
              refine leaf_nx rfl ⟨_, rfl⟩ ?_
              clear hA hB
              first
                | (simp [nodeP, *]; done)
                | (unfold nodeP opKind; simp_all; done)
                | (unfold nodeP opKind; grind)
        · try simp only [decide_eq_true_eq, decide_eq_false_iff_not, Bool.not_eq_true', Bool.not_eq_false', Int.not_lt, Int.not_le] at hb4
          refine wp_t rfl ?_
          refine awp_skip ?_
          refine at_norm ?_
          refine wp_t rfl ?_
          refine awp_seq ?_
          refine wp_open [.op 6, .bar, .bar] (D := [0, 1, 3, 7, 0, 16, 63, 127]) (by kernel_rfl) (by kernel_rfl) (by kernel_rfl) ?_
          refine ad_op rfl rfl ?_
          refine do_pop rfl rfl rfl rfl rfl (by kernel_rfl) ?_
          refine do_pop rfl rfl rfl rfl rfl (by kernel_rfl) ?_
          refine do_pop rfl rfl rfl rfl rfl (by kernel_rfl) ?_
          refine do_pop rfl rfl rfl rfl rfl (by kernel_rfl) ?_
          refine do_pop rfl rfl rfl rfl rfl (by kernel_rfl) ?_
          refine do_pop rfl rfl rfl rfl rfl (by kernel_rfl) ?_
          refine do_nil ?_
          refine ad_bar ?_
          refine st_lookup s (n.ref) refKT kZ1 kZ2 rfl rfl rfl rfl rfl rfl rfl rfl rfl (look_kind s _) ?_
          refine st_nil ?_
          refine ad_bar ?_
          refine st_pop rfl rfl rfl rfl ?_
          refine st_nil ?_
          refine ad_nil ?_
          refine wp_bit 48 rfl fun b hb21 => ?_
          cases b
          · try simp only [decide_eq_true_eq, decide_eq_false_iff_not, Bool.not_eq_true', Bool.not_eq_false', Int.not_lt, Int.not_le] at hb21
            refine wp_f rfl ?_
            refine awp_skip ?_
            refine at_norm ?_
            refine awp_seq ?_
            refine wp_reg ?_
            refine st_pop rfl rfl rfl rfl ?_
            refine st_pop rfl rfl rfl rfl ?_
            refine st_pop rfl rfl rfl rfl ?_
            refine st_nil ?_
            refine wp_bit 51 rfl fun b hb22 => ?_
            cases b
            · try simp only [decide_eq_true_eq, decide_eq_false_iff_not, Bool.not_eq_true', Bool.not_eq_false', Int.not_lt, Int.not_le] at hb22
              refine wp_f rfl ?_
              refine awp_skip ?_
              refine at_norm ?_
              refine wp_open [.op 6, .bar, .bar, .bar] (D := [0, 1, 3, 7, 0, 16, 63, 127, 255]) (by kernel_rfl) (by kernel_rfl) (by kernel_rfl) ?_
              refine ad_op rfl rfl ?_
              refine do_pop rfl rfl rfl rfl rfl (by kernel_rfl) ?_
              refine do_pop rfl rfl rfl rfl rfl (by kernel_rfl) ?_
              refine do_pop rfl rfl rfl rfl rfl (by kernel_rfl) ?_
              refine do_pop rfl rfl rfl rfl rfl (by kernel_rfl) ?_
              refine do_pop rfl rfl rfl rfl rfl (by kernel_rfl) ?_
              refine do_pop rfl rfl rfl rfl rfl (by kernel_rfl) ?_
              refine do_nil ?_
              refine ad_bar ?_
              refine st_lookup s (n.ref) refKT kZ1 kZ2 rfl rfl rfl rfl rfl rfl rfl rfl rfl (look_kind s _) ?_
              refine st_nil ?_
              refine ad_bar ?_
              refine st_pop rfl rfl rfl rfl ?_
              refine st_nil ?_
              refine ad_bar ?_
              refine st_pop rfl rfl rfl rfl ?_
              refine st_nil ?_
              refine ad_nil ?_
              refine awp_ret ?_
              refine ab_ret ?_
              refine at_ret ?_
              refine ret_ret rfl rfl ?_
              refine leaf_nx rfl ⟨_, rfl⟩ ?_
              clear hA hB
              first
                | (simp [nodeP, *]; done)
                | (unfold nodeP opKind; simp_all; done)
                | (unfold nodeP opKind; grind)
            · try simp only [decide_eq_true_eq, decide_eq_false_iff_not, Bool.not_eq_true', Bool.not_eq_false', Int.not_lt, Int.not_le] at hb22
              refine wp_t rfl ?_
              refine wp_reg ?_
              refine st_pop rfl rfl rfl rfl ?_
              refine st_pop rfl rfl rfl rfl ?_
              refine st_nil ?_
              refine awp_ret ?_
              refine at_ret ?_
              refine ab_ret ?_
              refine at_ret ?_
              refine ret_ret rfl rfl ?_
              refine leaf_nx rfl ⟨_, rfl⟩ ?_
              clear hA hB
              first
                | (simp [nodeP, *]; done)
                | (unfold nodeP opKind; simp_all; done)
                | (unfold nodeP opKind; grind)
          · try simp only [decide_eq_true_eq, decide_eq_false_iff_not, Bool.not_eq_true', Bool.not_eq_false', Int.not_lt, Int.not_le] at hb21
            refine wp_t rfl ?_
            refine wp_reg ?_
            refine st_pop rfl rfl rfl rfl ?_
            refine st_pop rfl rfl rfl rfl ?_
            refine st_nil ?_
            refine awp_ret ?_
            refine at_ret ?_
            refine ab_ret ?_
            refine at_ret ?_
            refine ret_ret rfl rfl ?_
            refine leaf_nx rfl ⟨_, rfl⟩ ?_
            clear hA hB
            first
              | (simp [nodeP, *]; done)
              | (unfold nodeP opKind; simp_all; done)
              | (unfold nodeP opKind; grind)
      · try simp only [decide_eq_true_eq, decide_eq_false_iff_not, Bool.not_eq_true', Bool.not_eq_false', Int.not_lt, Int.not_le] at hb3
        refine wp_t rfl ?_
        refine wp_reg ?_
        refine st_pop rfl rfl rfl rfl ?_
        refine st_pop rfl rfl rfl rfl ?_
        refine st_nil ?_
        refine awp_ret ?_
        refine ab_ret ?_
        refine at_ret ?_
        refine ret_ret rfl rfl ?_
        refine leaf_nx rfl ⟨_, rfl⟩ ?_
        clear hA hB
        first
          | (simp [nodeP, *]; done)
          | (unfold nodeP opKind; simp_all; done)
          | (unfold nodeP opKind; grind)
    · try simp only [decide_eq_true_eq, decide_eq_false_iff_not, Bool.not_eq_true', Bool.not_eq_false', Int.not_lt, Int.not_le] at hb2
      refine wp_t rfl ?_
      refine awp_skip ?_
      refine at_norm ?_
      refine wp_t rfl ?_
      refine wp_reg ?_
      refine st_pop rfl rfl rfl rfl ?_
      refine st_pop rfl rfl rfl rfl ?_
      refine st_nil ?_
      refine awp_ret ?_
      refine ab_ret ?_
      refine at_ret ?_
      refine ret_ret rfl rfl ?_
      refine leaf_nx rfl ⟨_, rfl⟩ ?_
      clear hA hB
      first
        | (simp [nodeP, *]; done)
        | (unfold nodeP opKind; simp_all; done)
        | (unfold nodeP opKind; grind)
  · try simp only [decide_eq_true_eq, decide_eq_false_iff_not, Bool.not_eq_true', Bool.not_eq_false', Int.not_lt, Int.not_le] at hb1
    refine wp_t rfl ?_
    refine wp_reg ?_
    refine st_pop rfl rfl rfl rfl ?_
    refine st_pop rfl rfl rfl rfl ?_
    refine st_pop rfl rfl rfl rfl ?_
    refine st_pop rfl rfl rfl rfl ?_
    refine st_pop rfl rfl rfl rfl ?_
    refine st_nil ?_
    refine awp_ret ?_
    refine ab_ret ?_
    refine at_ret ?_
    refine ret_ret rfl rfl ?_
    refine leaf_nx rfl ⟨_, rfl⟩ ?_
    clear hA hB
    first
      | (simp [nodeP, *]; done)
      | (unfold nodeP opKind; simp_all; done)
      | (unfold nodeP opKind; grind)
theorem chkBad0 (s : KS) (ns : List Nod) (hns : ∀ n ∈ ns, n.fit) (hsz : ns.length ≤ maxI) (hr : rightE ns = false) : ACalls tt 12 [.ptr 0 0, .agg [.l none 63 (ns.map Nod.av)]] ⟨[.cells [.m 1], mapB Ref.av kAV s], []⟩ (BigR tt 2 (One (.tup [.i .i64 0, .i .i64 0, .i .i64 66]) [.cells [.m 1], mapB Ref.av kAV s])) := by
  refine body_big (T := tt) Try.func12 rfl Try.ntmps12 rfl rfl ?_
  refine wp_reg ?_
  refine st_box rfl rfl rfl rfl rfl rfl rfl rfl rfl ?_
  refine st_pop rfl rfl rfl rfl ?_
  refine st_pop rfl rfl rfl rfl ?_
  refine st_pop rfl rfl rfl rfl ?_
  refine st_nil ?_
  refine awp_seq ?_
  refine wp_reg ?_
  refine st_pop rfl rfl rfl rfl ?_
  refine st_calc (xs := [.tmp 12]) _ rfl rfl rfl rfl Try.func17 rfl rfl rfl (right_c ns hns hsz _) ?_
  refine st_pop rfl rfl rfl rfl ?_
  refine st_nil ?_
  refine wp_bit 14 rfl fun b hb1 => ?_
  cases b
  · try simp only [decide_eq_true_eq, decide_eq_false_iff_not, Bool.not_eq_true', Bool.not_eq_false', Int.not_lt, Int.not_le] at hb1
    simp_all
  · try simp only [decide_eq_true_eq, decide_eq_false_iff_not, Bool.not_eq_true', Bool.not_eq_false', Int.not_lt, Int.not_le] at hb1
    refine wp_t rfl ?_
    refine wp_reg ?_
    refine st_pop rfl rfl rfl rfl ?_
    refine st_pop rfl rfl rfl rfl ?_
    refine st_pop rfl rfl rfl rfl ?_
    refine st_nil ?_
    refine awp_ret ?_
    refine at_ret ?_
    refine ret_ret rfl rfl ?_
    refine bigR _ _ (.refl _) rfl rfl ⟨_, rfl⟩ (ks_ok _) ⟨?_, rfl⟩
    rfl
theorem rowI_set {xs : List Int} {n k : Nat} {y : Int} (hl : xs.length = k) (h : k < n) : (rowI xs n).set k (.i .i64 y) = rowI (xs ++ [y]) n := by
  subst hl; exact rowI_push h
theorem op_in {ns : List Nod} (hr : rightE ns = true) {k : Nat} {nd : Nod} (hnd : ns[k]? = some nd) (s : KS) : (kdK s ns k).length = k ∧ (1 ≤ nd.op ∧ nd.op ≤ 25) ∧ (operands nd.op = 1 ∨ operands nd.op = 2 → ∃ a : Nat, nd.a = ((a : Nat) : Int) ∧ a < (kdK s ns k).length) ∧ (operands nd.op = 2 → ∃ b : Nat, nd.b = ((b : Nat) : Int) ∧ b < (kdK s ns k).length) := by
  have hl := kdK_len (s := s) (ns := ns) (k := k) (by have := (List.getElem?_eq_some_iff.1 hnd).1; omega)
  obtain ⟨_, h1, h2, h3, h4⟩ := right_ops hr hnd
  exact ⟨hl, ⟨h1, h2⟩, by rw [hl]; exact h3, by rw [hl]; exact h4⟩
theorem chkOk0 (s : KS) (ns : List Nod) (hns : ∀ n ∈ ns, n.fit) (hsz : ns.length ≤ maxI) (hr : rightE ns = true) (hE : ∀ k, k < ns.length → kErr s ns k = 0) : ACalls tt 12 [.ptr 0 0, .agg [.l none 63 (ns.map Nod.av)]] ⟨[.cells [.m 1], mapB Ref.av kAV s], []⟩ (BigR tt 2 (One (.tup [.i .i64 ((kdK s ns ns.length).getD (ns.length - 1) 0), .i .i64 0, .i .i64 0]) [.cells [.m 1], mapB Ref.av kAV s])) := by
  have hl64 := right_len hr
  have hl1 := right_pos hr
  refine body_big (T := tt) Try.func12 rfl Try.ntmps12 rfl rfl ?_
  refine wp_reg ?_
  refine st_box rfl rfl rfl rfl rfl rfl rfl rfl rfl ?_
  refine st_pop rfl rfl rfl rfl ?_
  refine st_pop rfl rfl rfl rfl ?_
  refine st_pop rfl rfl rfl rfl ?_
  refine st_nil ?_
  refine awp_seq ?_
  refine wp_reg ?_
  refine st_pop rfl rfl rfl rfl ?_
  refine st_calc (xs := [.tmp 12]) _ rfl rfl rfl rfl Try.func17 rfl rfl rfl (right_c ns hns hsz _) ?_
  refine st_pop rfl rfl rfl rfl ?_
  refine st_nil ?_
  refine wp_bit 14 rfl fun b hb1 => ?_
  cases b
  · try simp only [decide_eq_true_eq, decide_eq_false_iff_not, Bool.not_eq_true', Bool.not_eq_false', Int.not_lt, Int.not_le] at hb1
    refine wp_f rfl ?_
    refine awp_skip ?_
    refine at_norm ?_
    refine wp_reg ?_
    refine st_pop rfl rfl rfl rfl ?_
    refine st_pop rfl rfl rfl rfl ?_
    refine st_pop rfl rfl rfl rfl ?_
    refine st_val 17 (.i .i64 ((ns.length : Nat) : Int)) rfl (by simp) ?_
    refine st_make (n := ns.length) (z := .i .i64 0) rfl rfl rfl rfl rfl rfl rfl rfl (by show 8 * ns.length ≤ _; omega) (by omega) ?_
    refine st_pop rfl rfl rfl rfl ?_
    refine st_nil ?_
    refine awp_seq ?_
    refine wp_reg ?_
    refine st_pop rfl rfl rfl rfl ?_
    refine st_pop rfl rfl rfl rfl ?_
    refine st_pop rfl rfl rfl rfl ?_
    refine st_val 21 (.i .i64 ((ns.length : Nat) : Int)) rfl (by simp) ?_
    refine st_pop rfl rfl rfl rfl ?_
    refine st_nil ?_
    refine awp_block ?_
    refine wp_loopD (α := Nat) (fun k => frl [(0, .ptr 0 0), (3, .ptr 2 0), (7, .arr 3 ns.length 3), (20, .l none 63 (ns.map Nod.av)), (21, .i .i64 ((ns.length : Nat) : Int)), (22, .i .i64 ((k : Nat) : Int))]) (fun k => ⟨[.cells [.m 1], mapB Ref.av kAV s, .cells [.l none 63 (ns.map Nod.av)], .cells (rowI (kdK s ns k) ns.length)], []⟩) 4 (fun k => k ≤ ns.length) (fun k => ns.length - k) 0 (Nat.zero_le _) (wk_frl (wk_cons rfl (wk_cons rfl (wk_cons rfl (wk_cons rfl (wk_cons rfl (wk_cons rfl wk_nil))))))) (by simp [rowI, kdK]) (fun k => rfl) (fun k _ => bb_frl (by simp [bbL, bb, nods_bb])) (fun k _ => by show (bbB 4 (.cells [.m 1]) && (bbB 4 (mapB Ref.av kAV s) && (bbB 4 (.cells [.l none 63 (ns.map Nod.av)]) && (bbB 4 (.cells (rowI (kdK s ns k) ns.length)) && true)))) = true; rw [ks_bbB, show bbB 4 (.cells (rowI (kdK s ns k) ns.length)) = true from rowI_bb 4 _ _]; simp [bbB, bbL, bb, nods_bb]) ?_
    intro k hk
    refine wp_reg ?_
    refine st_pop rfl rfl rfl rfl ?_
    refine st_nil ?_
    refine awp_seq ?_
    refine wp_bit 23 rfl fun b hb2 => ?_
    cases b
    · try simp only [decide_eq_true_eq, decide_eq_false_iff_not, Bool.not_eq_true', Bool.not_eq_false', Int.not_lt, Int.not_le] at hb2
      refine wp_f rfl ?_
      refine awp_exit ?_
      refine at_exit ?_
      refine at_exit ?_
      refine ab_hit ?_
      refine at_norm ?_
      refine wp_reg ?_
      refine st_pop rfl rfl rfl rfl ?_
      refine st_pop rfl rfl rfl rfl ?_
      refine st_pop rfl rfl rfl rfl ?_
      refine st_pop rfl rfl rfl rfl ?_
      refine st_val 46 (.i .i64 ((ns.length - 1 : Nat) : Int)) rfl (wrap_pred (by omega) (by omega)) ?_
      refine st_idxR (n := ns.length - 1) rfl rfl rfl rfl rfl rfl rfl rfl rfl (by omega) ?_
      refine st_loadR (.i .i64 ((kdK s ns ns.length).getD (ns.length - 1) 0)) rfl rfl rfl rfl rfl rfl rfl (by rw [show k = ns.length by omega]; exact rowI_get (by rw [kdK_len (Nat.le_refl _)]; omega)) ?_
      refine st_pop rfl rfl rfl rfl ?_
      refine st_pop rfl rfl rfl rfl ?_
      refine st_pop rfl rfl rfl rfl ?_
      refine st_nil ?_
      refine awp_ret ?_
      refine ret_ret rfl rfl ?_
      refine bigR _ _ (.refl _) rfl rfl ⟨_, rfl⟩ (ks_ok _) ⟨?_, rfl⟩
      rfl
    · try simp only [decide_eq_true_eq, decide_eq_false_iff_not, Bool.not_eq_true', Bool.not_eq_false', Int.not_lt, Int.not_le] at hb2
      obtain ⟨nd, hnd⟩ : ∃ nd, ns[k]? = some nd := ⟨_, List.getElem?_eq_getElem (by omega)⟩
      obtain ⟨hkl, hops, hA, hB⟩ := op_in hr hnd s
      refine wp_t rfl ?_
      refine awp_skip ?_
      refine at_norm ?_
      refine awp_seq ?_
      refine awp_block ?_
      refine wp_reg ?_
      refine st_pop rfl rfl rfl rfl ?_
      refine st_idxA (n := k) nd.av rfl rfl rfl rfl rfl rfl rfl rfl (by simp [hnd]) ?_
      refine st_pop rfl rfl rfl rfl ?_
      refine st_alloc rfl rfl rfl rfl rfl rfl rfl ?_
      refine st_pop rfl rfl rfl rfl ?_
      refine st_store rfl rfl rfl rfl rfl rfl rfl rfl rfl rfl rfl rfl rfl ?_
      refine st_nil ?_
      refine wp_reg ?_
      refine st_pop rfl rfl rfl rfl ?_
      refine st_pop rfl rfl rfl rfl ?_
      refine st_pop rfl rfl rfl rfl ?_
      refine st_calc (xs := [.tmp 28, .tmp 29, .tmp 30]) _ rfl rfl rfl rfl Try.func24 rfl rfl rfl (node_c s ns (kdK s ns k) ns.length (by omega) nd hops hA hB _ rfl rfl rfl rfl) ?_
      refine st_pop rfl rfl rfl rfl ?_
      refine st_pop rfl rfl rfl rfl ?_
      refine st_pop rfl rfl rfl rfl ?_
      refine st_pop rfl rfl rfl rfl ?_
      refine st_pop rfl rfl rfl rfl ?_
      refine st_nil ?_
      refine awp_seq ?_
      refine wp_reg ?_
      refine st_pop rfl rfl rfl rfl ?_
      refine st_pop rfl rfl rfl rfl ?_
      refine st_nil ?_
      refine wp_bit 35 rfl fun b hb3 => ?_
      cases b
      · try simp only [decide_eq_true_eq, decide_eq_false_iff_not, Bool.not_eq_true', Bool.not_eq_false', Int.not_lt, Int.not_le] at hb3
        refine wp_f rfl ?_
        refine awp_skip ?_
        refine at_norm ?_
        refine awp_region ?_
        refine st_pop rfl rfl rfl rfl ?_
        refine st_pop rfl rfl rfl rfl ?_
        refine st_pop rfl rfl rfl rfl ?_
        refine st_idxR (n := k) rfl rfl rfl rfl rfl rfl rfl rfl rfl (by omega) ?_
        refine st_storeR (rowI (kdK s ns k ++ [(nodeP s nd ((kdK s ns k).getD nd.a.toNat 0) ((kdK s ns k).getD nd.b.toNat 0)).1]) ns.length) rfl rfl rfl rfl rfl rfl rfl rfl rfl (by rw [rowI_len (by omega)]; omega) (rowI_set hkl (by omega)) rfl ?_
        refine st_nil ?_
        refine ab_norm ?_
        refine at_norm ?_
        refine awp_region ?_
        refine st_pop rfl rfl rfl rfl ?_
        refine st_pop rfl rfl rfl rfl ?_
        refine st_nil ?_
        refine at_norm ?_
        refine ⟨k + 1, by omega, wk_frl (wk_cons rfl (wk_cons rfl (wk_cons rfl (wk_cons rfl (wk_cons rfl (wk_cons (wrap_succ (by omega)) wk_nil)))))), ⟨_, by rw [kdK_at hnd]; rfl⟩, rfl, by omega⟩
      · try simp only [decide_eq_true_eq, decide_eq_false_iff_not, Bool.not_eq_true', Bool.not_eq_false', Int.not_lt, Int.not_le] at hb3
        (have he := hE k (by omega); rw [kErr_at hnd] at he; exact absurd he hb3)
  · try simp only [decide_eq_true_eq, decide_eq_false_iff_not, Bool.not_eq_true', Bool.not_eq_false', Int.not_lt, Int.not_le] at hb1
    simp_all
theorem chkErr0 (s : KS) (ns : List Nod) (hns : ∀ n ∈ ns, n.fit) (hsz : ns.length ≤ maxI) (hr : rightE ns = true) (k0 : Nat) (h0 : k0 < ns.length) (hE : ∀ k, k < k0 → kErr s ns k = 0) (hbad : kErr s ns k0 ≠ 0) : ACalls tt 12 [.ptr 0 0, .agg [.l none 63 (ns.map Nod.av)]] ⟨[.cells [.m 1], mapB Ref.av kAV s], []⟩ (BigR tt 2 (One (.tup [.i .i64 0, .i .i64 ((k0 : Nat) : Int), .i .i64 (kErr s ns k0)]) [.cells [.m 1], mapB Ref.av kAV s])) := by
  have hl64 := right_len hr
  have hl1 := right_pos hr
  refine body_big (T := tt) Try.func12 rfl Try.ntmps12 rfl rfl ?_
  refine wp_reg ?_
  refine st_box rfl rfl rfl rfl rfl rfl rfl rfl rfl ?_
  refine st_pop rfl rfl rfl rfl ?_
  refine st_pop rfl rfl rfl rfl ?_
  refine st_pop rfl rfl rfl rfl ?_
  refine st_nil ?_
  refine awp_seq ?_
  refine wp_reg ?_
  refine st_pop rfl rfl rfl rfl ?_
  refine st_calc (xs := [.tmp 12]) _ rfl rfl rfl rfl Try.func17 rfl rfl rfl (right_c ns hns hsz _) ?_
  refine st_pop rfl rfl rfl rfl ?_
  refine st_nil ?_
  refine wp_bit 14 rfl fun b hb1 => ?_
  cases b
  · try simp only [decide_eq_true_eq, decide_eq_false_iff_not, Bool.not_eq_true', Bool.not_eq_false', Int.not_lt, Int.not_le] at hb1
    refine wp_f rfl ?_
    refine awp_skip ?_
    refine at_norm ?_
    refine wp_reg ?_
    refine st_pop rfl rfl rfl rfl ?_
    refine st_pop rfl rfl rfl rfl ?_
    refine st_pop rfl rfl rfl rfl ?_
    refine st_val 17 (.i .i64 ((ns.length : Nat) : Int)) rfl (by simp) ?_
    refine st_make (n := ns.length) (z := .i .i64 0) rfl rfl rfl rfl rfl rfl rfl rfl (by show 8 * ns.length ≤ _; omega) (by omega) ?_
    refine st_pop rfl rfl rfl rfl ?_
    refine st_nil ?_
    refine awp_seq ?_
    refine wp_reg ?_
    refine st_pop rfl rfl rfl rfl ?_
    refine st_pop rfl rfl rfl rfl ?_
    refine st_pop rfl rfl rfl rfl ?_
    refine st_val 21 (.i .i64 ((ns.length : Nat) : Int)) rfl (by simp) ?_
    refine st_pop rfl rfl rfl rfl ?_
    refine st_nil ?_
    refine awp_block ?_
    refine wp_loopD (α := Nat) (fun k => frl [(0, .ptr 0 0), (3, .ptr 2 0), (7, .arr 3 ns.length 3), (20, .l none 63 (ns.map Nod.av)), (21, .i .i64 ((ns.length : Nat) : Int)), (22, .i .i64 ((k : Nat) : Int))]) (fun k => ⟨[.cells [.m 1], mapB Ref.av kAV s, .cells [.l none 63 (ns.map Nod.av)], .cells (rowI (kdK s ns k) ns.length)], []⟩) 4 (fun k => k ≤ k0 ∧ k0 < ns.length) (fun k => ns.length - k) 0 (⟨Nat.zero_le _, h0⟩) (wk_frl (wk_cons rfl (wk_cons rfl (wk_cons rfl (wk_cons rfl (wk_cons rfl (wk_cons rfl wk_nil))))))) (by simp [rowI, kdK]) (fun k => rfl) (fun k _ => bb_frl (by simp [bbL, bb, nods_bb])) (fun k _ => by show (bbB 4 (.cells [.m 1]) && (bbB 4 (mapB Ref.av kAV s) && (bbB 4 (.cells [.l none 63 (ns.map Nod.av)]) && (bbB 4 (.cells (rowI (kdK s ns k) ns.length)) && true)))) = true; rw [ks_bbB, show bbB 4 (.cells (rowI (kdK s ns k) ns.length)) = true from rowI_bb 4 _ _]; simp [bbB, bbL, bb, nods_bb]) ?_
    intro k hk
    refine wp_reg ?_
    refine st_pop rfl rfl rfl rfl ?_
    refine st_nil ?_
    refine awp_seq ?_
    refine wp_bit 23 rfl fun b hb2 => ?_
    cases b
    · try simp only [decide_eq_true_eq, decide_eq_false_iff_not, Bool.not_eq_true', Bool.not_eq_false', Int.not_lt, Int.not_le] at hb2
      omega
    · try simp only [decide_eq_true_eq, decide_eq_false_iff_not, Bool.not_eq_true', Bool.not_eq_false', Int.not_lt, Int.not_le] at hb2
      obtain ⟨nd, hnd⟩ : ∃ nd, ns[k]? = some nd := ⟨_, List.getElem?_eq_getElem (by omega)⟩
      obtain ⟨hkl, hops, hA, hB⟩ := op_in hr hnd s
      refine wp_t rfl ?_
      refine awp_skip ?_
      refine at_norm ?_
      refine awp_seq ?_
      refine awp_block ?_
      refine wp_reg ?_
      refine st_pop rfl rfl rfl rfl ?_
      refine st_idxA (n := k) nd.av rfl rfl rfl rfl rfl rfl rfl rfl (by simp [hnd]) ?_
      refine st_pop rfl rfl rfl rfl ?_
      refine st_alloc rfl rfl rfl rfl rfl rfl rfl ?_
      refine st_pop rfl rfl rfl rfl ?_
      refine st_store rfl rfl rfl rfl rfl rfl rfl rfl rfl rfl rfl rfl rfl ?_
      refine st_nil ?_
      refine wp_reg ?_
      refine st_pop rfl rfl rfl rfl ?_
      refine st_pop rfl rfl rfl rfl ?_
      refine st_pop rfl rfl rfl rfl ?_
      refine st_calc (xs := [.tmp 28, .tmp 29, .tmp 30]) _ rfl rfl rfl rfl Try.func24 rfl rfl rfl (node_c s ns (kdK s ns k) ns.length (by omega) nd hops hA hB _ rfl rfl rfl rfl) ?_
      refine st_pop rfl rfl rfl rfl ?_
      refine st_pop rfl rfl rfl rfl ?_
      refine st_pop rfl rfl rfl rfl ?_
      refine st_pop rfl rfl rfl rfl ?_
      refine st_pop rfl rfl rfl rfl ?_
      refine st_nil ?_
      refine awp_seq ?_
      refine wp_reg ?_
      refine st_pop rfl rfl rfl rfl ?_
      refine st_pop rfl rfl rfl rfl ?_
      refine st_nil ?_
      refine wp_bit 35 rfl fun b hb3 => ?_
      cases b
      · try simp only [decide_eq_true_eq, decide_eq_false_iff_not, Bool.not_eq_true', Bool.not_eq_false', Int.not_lt, Int.not_le] at hb3
        have hne : k ≠ k0 := fun e => by subst e; rw [kErr_at hnd] at hbad; exact hbad (by simpa using hb3)
        refine wp_f rfl ?_
        refine awp_skip ?_
        refine at_norm ?_
        refine awp_region ?_
        refine st_pop rfl rfl rfl rfl ?_
        refine st_pop rfl rfl rfl rfl ?_
        refine st_pop rfl rfl rfl rfl ?_
        refine st_idxR (n := k) rfl rfl rfl rfl rfl rfl rfl rfl rfl (by omega) ?_
        refine st_storeR (rowI (kdK s ns k ++ [(nodeP s nd ((kdK s ns k).getD nd.a.toNat 0) ((kdK s ns k).getD nd.b.toNat 0)).1]) ns.length) rfl rfl rfl rfl rfl rfl rfl rfl rfl (by rw [rowI_len (by omega)]; omega) (rowI_set hkl (by omega)) rfl ?_
        refine st_nil ?_
        refine ab_norm ?_
        refine at_norm ?_
        refine awp_region ?_
        refine st_pop rfl rfl rfl rfl ?_
        refine st_pop rfl rfl rfl rfl ?_
        refine st_nil ?_
        refine at_norm ?_
        refine ⟨k + 1, by omega, wk_frl (wk_cons rfl (wk_cons rfl (wk_cons rfl (wk_cons rfl (wk_cons rfl (wk_cons (wrap_succ (by omega)) wk_nil)))))), ⟨_, by rw [kdK_at hnd]; rfl⟩, rfl, by omega⟩
      · try simp only [decide_eq_true_eq, decide_eq_false_iff_not, Bool.not_eq_true', Bool.not_eq_false', Int.not_lt, Int.not_le] at hb3
        have hkk : k = k0 := by
          rcases Nat.lt_or_ge k k0 with q | q
          · have he := hE k q; rw [kErr_at hnd] at he; exact absurd he hb3
          · omega
        subst hkk
        refine wp_t rfl ?_
        refine wp_reg ?_
        refine st_pop rfl rfl rfl rfl ?_
        refine st_pop rfl rfl rfl rfl ?_
        refine st_pop rfl rfl rfl rfl ?_
        refine st_pop rfl rfl rfl rfl ?_
        refine st_pop rfl rfl rfl rfl ?_
        refine st_nil ?_
        refine awp_ret ?_
        refine at_ret ?_
        refine ab_ret ?_
        refine at_ret ?_
        refine at_ret ?_
        refine ab_ret ?_
        refine at_ret ?_
        refine ret_ret rfl rfl ?_
        refine bigR _ _ (.refl _) rfl rfl ⟨_, rfl⟩ (ks_ok _) ⟨?_, rfl⟩
        rw [kErr_at hnd]
  · try simp only [decide_eq_true_eq, decide_eq_false_iff_not, Bool.not_eq_true', Bool.not_eq_false', Int.not_lt, Int.not_le] at hb1
    simp_all
theorem ok_exprK (n : Nat) (ns : List Nod) : okL n [.ptr 0 0, .agg [.l none 63 (ns.map Nod.av)]] = okL n [.ptr 0 0] := by
  simp only [okL, ok, clean_okLL _ (nods_clean ns)]; simp
theorem chkOk_c (s : KS) (ns : List Nod) (hns : ∀ n ∈ ns, n.fit) (hsz : ns.length ≤ maxI) (hr : rightE ns = true) (hE : ∀ k, k < ns.length → kErr s ns k = 0) (H : AH) (b m : Nat) (hb : H.bs[b]? = some (.cells [.m m])) (hm : H.bs[m]? = some (mapB Ref.av kAV s)) : ACalls tt 12 [.ptr b 0, .agg [.l none 63 (ns.map Nod.av)]] H (fun r H' => r = .tup [.i .i64 ((kdK s ns ns.length).getD (ns.length - 1) 0), .i .i64 0, .i .i64 0] ∧ H' = H) :=
  acalls_ksR (by rw [ok_exprK]; rfl) rfl (chkOk0 s ns hns hsz hr hE) H b m hb hm (by simp only [renL, ren, clean_renLL _ (nods_clean ns)]; rfl)
/-- Where the kinds aren't right: an error. -/
theorem chkNo_c (s : KS) (ns : List Nod) (hns : ∀ n ∈ ns, n.fit) (hsz : ns.length ≤ maxI) (h : ¬ (rightE ns = true ∧ ∀ k, k < ns.length → kErr s ns k = 0)) : ∃ i e : Int, e ≠ 0 ∧ ∀ (H : AH) (b m : Nat), H.bs[b]? = some (.cells [.m m]) → H.bs[m]? = some (mapB Ref.av kAV s) → ACalls tt 12 [.ptr b 0, .agg [.l none 63 (ns.map Nod.av)]] H (fun r H' => r = .tup [.i .i64 0, .i .i64 i, .i .i64 e] ∧ H' = H) := by
  by_cases hr : rightE ns = true
  · rcases first_fail (p := fun k => kErr s ns k = 0) ns.length with q | ⟨k0, q1, q2, q3⟩
    · exact absurd ⟨hr, q⟩ h
    · exact ⟨k0, _, q3, fun H b m hb hm => acalls_ksR (by rw [ok_exprK]; rfl) rfl (chkErr0 s ns hns hsz hr k0 q1 q2 q3) H b m hb hm (by simp only [renL, ren, clean_renLL _ (nods_clean ns)]; rfl)⟩
  · exact ⟨0, 66, by decide, fun H b m hb hm => acalls_ksR (by rw [ok_exprK]; rfl) rfl (chkBad0 s ns hns hsz (by simpa using hr)) H b m hb hm (by simp only [renL, ren, clean_renLL _ (nods_clean ns)]; rfl)⟩
theorem typedA_c (ds : List Dec) (hds : ds.length ≤ 9223372036854775807) (ns : List Nod) (hns : ∀ n ∈ ns, n.fit ∧ inI n.value.int) (hsz : ns.length ≤ maxI) (l : List Att) (hl : ∀ a ∈ l, a.fit) (hsl : l.length ≤ 9223372036854775807) (x : Scn) (hx : inI x.now ∧ inI x.began) (c : Cel) (v : Val) (now : Int) (k0 : Nat) (d0 : Dec) (h0 : ds[k0]? = some d0) (hok : ∀ k d, k < k0 → ds[k]? = some d → (declP (ldK ds k) d).2 = 0) (hbad : (declP (ldK ds k0) d0).2 ≠ 0) : ∀ H, ACalls tt 4 [.l none 77 (ds.map Dec.av), .agg [.l none 63 (ns.map Nod.av), .l none 56 (l.map Att.av), .s x.sub, .s x.obj, .i .i64 x.now, .i .i64 x.began, .i .i64 c.scope, .s c.owner, .s c.name, .i .i64 v.kind, .i .i64 v.int, .s v.text, .b v.bool, .f v.rate, .i .i64 now]] H (fun res_ H' => res_ = .b true ∧ H' = H) := by
  refine body_calc (T := tt) Try.func4 rfl Try.ntmps4 rfl rfl (by simp [cleanL, clean, atts_clean, nods_clean, decs_clean]) (by rfl) ?_
  refine wp_reg ?_
  refine st_box rfl rfl rfl rfl rfl rfl rfl rfl rfl ?_
  refine st_pop rfl rfl rfl rfl ?_
  refine st_nil ?_
  refine awp_seq ?_
  refine wp_reg ?_
  refine st_calc (xs := []) _ rfl rfl rfl rfl Try.func5 rfl rfl rfl (alive_c _) ?_
  refine st_pop rfl rfl rfl rfl ?_
  refine st_nil ?_
  refine wp_bit 17 rfl fun b hb1 => ?_
  cases b
  · try simp only [decide_eq_true_eq, decide_eq_false_iff_not, Bool.not_eq_true', Bool.not_eq_false', Int.not_lt, Int.not_le] at hb1
    refine wp_f rfl ?_
    refine awp_skip ?_
    refine at_norm ?_
    refine wp_reg ?_
    refine st_pop rfl rfl rfl rfl ?_
    refine st_calc (xs := [.tmp 19]) _ rfl rfl rfl rfl Try.func11 rfl rfl rfl (loadErr_c ds hds k0 d0 h0 hok hbad _) ?_
    refine st_pop rfl rfl rfl rfl ?_
    refine st_pop rfl rfl rfl rfl ?_
    refine st_pop rfl rfl rfl rfl ?_
    refine st_pop rfl rfl rfl rfl ?_
    refine st_pop rfl rfl rfl rfl ?_
    refine st_nil ?_
    refine awp_seq ?_
    refine wp_reg ?_
    refine st_pop rfl rfl rfl rfl ?_
    refine st_pop rfl rfl rfl rfl ?_
    refine st_nil ?_
    refine wp_bit 24 rfl fun b hb2 => ?_
    cases b
    · try simp only [decide_eq_true_eq, decide_eq_false_iff_not, Bool.not_eq_true', Bool.not_eq_false', Int.not_lt, Int.not_le] at hb2
      exact absurd hb2 hbad
    · try simp only [decide_eq_true_eq, decide_eq_false_iff_not, Bool.not_eq_true', Bool.not_eq_false', Int.not_lt, Int.not_le] at hb2
      refine wp_t rfl ?_
      refine wp_reg ?_
      refine st_pop rfl rfl rfl rfl ?_
      refine st_nil ?_
      refine awp_ret ?_
      refine at_ret ?_
      refine ret_ret rfl rfl ?_
      exact .refl _
  · try simp only [decide_eq_true_eq, decide_eq_false_iff_not, Bool.not_eq_true', Bool.not_eq_false', Int.not_lt, Int.not_le] at hb1
    cases hb1
theorem typedB_c (ds : List Dec) (hds : ds.length ≤ 9223372036854775807) (ns : List Nod) (hns : ∀ n ∈ ns, n.fit ∧ inI n.value.int) (hsz : ns.length ≤ maxI) (l : List Att) (hl : ∀ a ∈ l, a.fit) (hsl : l.length ≤ 9223372036854775807) (x : Scn) (hx : inI x.now ∧ inI x.began) (c : Cel) (v : Val) (now : Int) (hok : ∀ k d, ds[k]? = some d → (declP (ldK ds k) d).2 = 0) (hbad : ¬ (rightE ns = true ∧ ∀ k, k < ns.length → kErr (ldK ds ds.length) ns k = 0)) : ∀ H, ACalls tt 4 [.l none 77 (ds.map Dec.av), .agg [.l none 63 (ns.map Nod.av), .l none 56 (l.map Att.av), .s x.sub, .s x.obj, .i .i64 x.now, .i .i64 x.began, .i .i64 c.scope, .s c.owner, .s c.name, .i .i64 v.kind, .i .i64 v.int, .s v.text, .b v.bool, .f v.rate, .i .i64 now]] H (fun res_ H' => res_ = .b true ∧ H' = H) := by
  obtain ⟨i, e, he, hch⟩ := chkNo_c (ldK ds ds.length) ns (fun n hn => (hns n hn).1) hsz hbad
  refine body_calc (T := tt) Try.func4 rfl Try.ntmps4 rfl rfl (by simp [cleanL, clean, atts_clean, nods_clean, decs_clean]) (by rfl) ?_
  refine wp_reg ?_
  refine st_box rfl rfl rfl rfl rfl rfl rfl rfl rfl ?_
  refine st_pop rfl rfl rfl rfl ?_
  refine st_nil ?_
  refine awp_seq ?_
  refine wp_reg ?_
  refine st_calc (xs := []) _ rfl rfl rfl rfl Try.func5 rfl rfl rfl (alive_c _) ?_
  refine st_pop rfl rfl rfl rfl ?_
  refine st_nil ?_
  refine wp_bit 17 rfl fun b hb1 => ?_
  cases b
  · try simp only [decide_eq_true_eq, decide_eq_false_iff_not, Bool.not_eq_true', Bool.not_eq_false', Int.not_lt, Int.not_le] at hb1
    refine wp_f rfl ?_
    refine awp_skip ?_
    refine at_norm ?_
    refine wp_reg ?_
    refine st_pop rfl rfl rfl rfl ?_
    refine st_calcW (xs := [.tmp 19]) _ rfl rfl rfl rfl Try.func11 rfl rfl rfl (loadOk_c ds hds hok _ 1 rfl) rfl ?_
    refine st_pop rfl rfl rfl rfl ?_
    refine st_pop rfl rfl rfl rfl ?_
    refine st_pop rfl rfl rfl rfl ?_
    refine st_pop rfl rfl rfl rfl ?_
    refine st_pop rfl rfl rfl rfl ?_
    refine st_nil ?_
    refine awp_seq ?_
    refine wp_reg ?_
    refine st_pop rfl rfl rfl rfl ?_
    refine st_pop rfl rfl rfl rfl ?_
    refine st_nil ?_
    refine wp_bit 24 rfl fun b hb2 => ?_
    cases b
    · try simp only [decide_eq_true_eq, decide_eq_false_iff_not, Bool.not_eq_true', Bool.not_eq_false', Int.not_lt, Int.not_le] at hb2
      refine wp_f rfl ?_
      refine awp_skip ?_
      refine at_norm ?_
      refine wp_reg ?_
      refine st_pop rfl rfl rfl rfl ?_
      refine st_pop rfl rfl rfl rfl ?_
      refine st_pop rfl rfl rfl rfl ?_
      refine st_calc (xs := [.tmp 26, .tmp 28]) _ rfl rfl rfl rfl Try.func12 rfl rfl rfl (hch _ 2 1 rfl rfl) ?_
      refine st_pop rfl rfl rfl rfl ?_
      refine st_pop rfl rfl rfl rfl ?_
      refine st_pop rfl rfl rfl rfl ?_
      refine st_pop rfl rfl rfl rfl ?_
      refine st_pop rfl rfl rfl rfl ?_
      refine st_pop rfl rfl rfl rfl ?_
      refine st_pop rfl rfl rfl rfl ?_
      refine st_nil ?_
      refine awp_seq ?_
      refine wp_reg ?_
      refine st_pop rfl rfl rfl rfl ?_
      refine st_pop rfl rfl rfl rfl ?_
      refine st_nil ?_
      refine wp_bit 34 rfl fun b hb3 => ?_
      cases b
      · try simp only [decide_eq_true_eq, decide_eq_false_iff_not, Bool.not_eq_true', Bool.not_eq_false', Int.not_lt, Int.not_le] at hb3
        exact absurd hb3 he
      · try simp only [decide_eq_true_eq, decide_eq_false_iff_not, Bool.not_eq_true', Bool.not_eq_false', Int.not_lt, Int.not_le] at hb3
        refine wp_t rfl ?_
        refine wp_reg ?_
        refine st_pop rfl rfl rfl rfl ?_
        refine st_nil ?_
        refine awp_ret ?_
        refine at_ret ?_
        refine ret_ret rfl rfl ?_
        exact .refl _
    · try simp only [decide_eq_true_eq, decide_eq_false_iff_not, Bool.not_eq_true', Bool.not_eq_false', Int.not_lt, Int.not_le] at hb2
      exact absurd hb2 (by decide)
  · try simp only [decide_eq_true_eq, decide_eq_false_iff_not, Bool.not_eq_true', Bool.not_eq_false', Int.not_lt, Int.not_le] at hb1
    cases hb1
theorem typedC_c (ds : List Dec) (hds : ds.length ≤ 9223372036854775807) (ns : List Nod) (hns : ∀ n ∈ ns, n.fit ∧ inI n.value.int) (hsz : ns.length ≤ maxI) (l : List Att) (hl : ∀ a ∈ l, a.fit) (hsl : l.length ≤ 9223372036854775807) (x : Scn) (hx : inI x.now ∧ inI x.began) (c : Cel) (v : Val) (now : Int) (hok : ∀ k d, ds[k]? = some d → (declP (ldK ds k) d).2 = 0) (hr : rightE ns = true) (hE : ∀ k, k < ns.length → kErr (ldK ds ds.length) ns k = 0) (kd : Int) (hkd : (kdK (ldK ds ds.length) ns ns.length).getD (ns.length - 1) 0 = kd) : ∀ H, ACalls tt 4 [.l none 77 (ds.map Dec.av), .agg [.l none 63 (ns.map Nod.av), .l none 56 (l.map Att.av), .s x.sub, .s x.obj, .i .i64 x.now, .i .i64 x.began, .i .i64 c.scope, .s c.owner, .s c.name, .i .i64 v.kind, .i .i64 v.int, .s v.text, .b v.bool, .f v.rate, .i .i64 now]] H (fun res_ H' => res_ = .b true ∧ H' = H) := by
  refine body_calc (T := tt) Try.func4 rfl Try.ntmps4 rfl rfl (by simp [cleanL, clean, atts_clean, nods_clean, decs_clean]) (by rfl) ?_
  refine wp_reg ?_
  refine st_box rfl rfl rfl rfl rfl rfl rfl rfl rfl ?_
  refine st_pop rfl rfl rfl rfl ?_
  refine st_nil ?_
  refine awp_seq ?_
  refine wp_reg ?_
  refine st_calc (xs := []) _ rfl rfl rfl rfl Try.func5 rfl rfl rfl (alive_c _) ?_
  refine st_pop rfl rfl rfl rfl ?_
  refine st_nil ?_
  refine wp_bit 17 rfl fun b hb1 => ?_
  cases b
  · try simp only [decide_eq_true_eq, decide_eq_false_iff_not, Bool.not_eq_true', Bool.not_eq_false', Int.not_lt, Int.not_le] at hb1
    refine wp_f rfl ?_
    refine awp_skip ?_
    refine at_norm ?_
    refine wp_reg ?_
    refine st_pop rfl rfl rfl rfl ?_
    refine st_calcW (xs := [.tmp 19]) _ rfl rfl rfl rfl Try.func11 rfl rfl rfl (loadOk_c ds hds hok _ 1 rfl) rfl ?_
    refine st_pop rfl rfl rfl rfl ?_
    refine st_pop rfl rfl rfl rfl ?_
    refine st_pop rfl rfl rfl rfl ?_
    refine st_pop rfl rfl rfl rfl ?_
    refine st_pop rfl rfl rfl rfl ?_
    refine st_nil ?_
    refine awp_seq ?_
    refine wp_reg ?_
    refine st_pop rfl rfl rfl rfl ?_
    refine st_pop rfl rfl rfl rfl ?_
    refine st_nil ?_
    refine wp_bit 24 rfl fun b hb2 => ?_
    cases b
    · try simp only [decide_eq_true_eq, decide_eq_false_iff_not, Bool.not_eq_true', Bool.not_eq_false', Int.not_lt, Int.not_le] at hb2
      refine wp_f rfl ?_
      refine awp_skip ?_
      refine at_norm ?_
      refine wp_reg ?_
      refine st_pop rfl rfl rfl rfl ?_
      refine st_pop rfl rfl rfl rfl ?_
      refine st_pop rfl rfl rfl rfl ?_
      refine st_calc (xs := [.tmp 26, .tmp 28]) _ rfl rfl rfl rfl Try.func12 rfl rfl rfl (chkOk_c (ldK ds ds.length) ns (fun n hn => (hns n hn).1) hsz hr hE _ 2 1 rfl rfl) ?_
      refine st_pop rfl rfl rfl rfl ?_
      refine st_pop rfl rfl rfl rfl ?_
      refine st_val 30 (.i .i64 kd) rfl (by rw [hkd]) ?_
      refine st_pop rfl rfl rfl rfl ?_
      refine st_pop rfl rfl rfl rfl ?_
      refine st_pop rfl rfl rfl rfl ?_
      refine st_pop rfl rfl rfl rfl ?_
      refine st_pop rfl rfl rfl rfl ?_
      refine st_nil ?_
      refine awp_seq ?_
      refine wp_reg ?_
      refine st_pop rfl rfl rfl rfl ?_
      refine st_pop rfl rfl rfl rfl ?_
      refine st_nil ?_
      refine wp_bit 34 rfl fun b hb3 => ?_
      cases b
      · try simp only [decide_eq_true_eq, decide_eq_false_iff_not, Bool.not_eq_true', Bool.not_eq_false', Int.not_lt, Int.not_le] at hb3
        refine wp_f rfl ?_
        refine awp_skip ?_
        refine at_norm ?_
        refine wp_reg ?_
        refine st_calcW (xs := []) _ rfl rfl rfl rfl Try.func13 rfl rfl rfl (new_c _ 3 rfl) rfl ?_
        refine st_pop rfl rfl rfl rfl ?_
        refine st_nil ?_
        refine awp_seq ?_
        refine wp_reg ?_
        refine st_pop rfl rfl rfl rfl ?_
        refine st_pop rfl rfl rfl rfl ?_
        refine st_pop rfl rfl rfl rfl ?_
        refine st_val 38 (.i .i64 ((l.length : Nat) : Int)) rfl (by simp) ?_
        refine st_pop rfl rfl rfl rfl ?_
        refine st_nil ?_
        refine awp_block ?_
        refine wp_loop (α := Nat) (fun k => frl [(3, .ptr 0 0), (5, .ptr 2 0), (7, .i .i64 kd), (10, .ptr 4 0), (38, .i .i64 ((l.length : Nat) : Int)), (39, .i .i64 ((k : Nat) : Int))]) (fun k => ⟨[.cells [.l none 63 (ns.map Nod.av), .l none 56 (l.map Att.av), .s x.sub, .s x.obj, .i .i64 x.now, .i .i64 x.began, .i .i64 c.scope, .s c.owner, .s c.name, .i .i64 v.kind, .i .i64 v.int, .s v.text, .b v.bool, .f v.rate, .i .i64 now], mapB Ref.av kAV (ldK ds ds.length), .cells [.m 1], mapB Cel.av Hld.agg (tyK (ldK ds ds.length) l k), .cells [.m 3]], []⟩) (fun k => k ≤ l.length) (fun k => l.length - k) 0 (Nat.zero_le _) (wk_frl (wk_cons rfl (wk_cons rfl (wk_cons rfl (wk_cons rfl (wk_cons rfl (wk_cons rfl wk_nil))))))) rfl ?_
        intro k hk
        refine wp_reg ?_
        refine st_pop rfl rfl rfl rfl ?_
        refine st_nil ?_
        refine awp_seq ?_
        refine wp_bit 40 rfl fun b hb4 => ?_
        cases b
        · try simp only [decide_eq_true_eq, decide_eq_false_iff_not, Bool.not_eq_true', Bool.not_eq_false', Int.not_lt, Int.not_le] at hb4
          have hV := ok_evE (ns := ns) (x := x) (tyK_ok (s := (ldK ds ds.length)) hl k) hx hns
          have hO := of_evE (s := (ldK ds ds.length)) hr (tyK_ok (s := (ldK ds ds.length)) hl k) hx hns (tyK_typed k) hE (ldK_ok ds _)
          rw [hkd] at hO
          refine wp_f rfl ?_
          refine awp_exit ?_
          refine at_exit ?_
          refine at_exit ?_
          refine ab_hit ?_
          refine at_norm ?_
          refine wp_reg ?_
          refine st_pop rfl rfl rfl rfl ?_
          refine st_pop rfl rfl rfl rfl ?_
          refine st_pop rfl rfl rfl rfl ?_
          refine st_pop rfl rfl rfl rfl ?_
          refine st_pop rfl rfl rfl rfl ?_
          refine st_calc (xs := [.tmp 91, .tmp 92, .tmp 94]) _ rfl rfl rfl rfl Try.func7 rfl rfl rfl (value_c ns x (tyK (ldK ds ds.length) l k) (tyK_ok hl k) hx hns hsz _ 4 3 rfl rfl) ?_
          refine st_pop rfl rfl rfl rfl ?_
          refine st_pop rfl rfl rfl rfl ?_
          refine st_pop rfl rfl rfl rfl ?_
          refine st_alloc rfl rfl rfl rfl rfl rfl rfl ?_
          refine st_store rfl rfl rfl rfl rfl rfl rfl rfl rfl rfl rfl rfl rfl ?_
          refine st_pop rfl rfl rfl rfl ?_
          refine st_nil ?_
          refine awp_seq ?_
          refine wp_reg ?_
          refine st_pop rfl rfl rfl rfl ?_
          refine st_pop rfl rfl rfl rfl ?_
          refine st_nil ?_
          refine wp_bit 99 rfl fun b hb5 => ?_
          cases b
          · try simp only [decide_eq_true_eq, decide_eq_false_iff_not, Bool.not_eq_true', Bool.not_eq_false', Int.not_lt, Int.not_le] at hb5
            refine wp_f rfl ?_
            refine awp_skip ?_
            refine at_norm ?_
            refine wp_reg ?_
            refine st_pop rfl rfl rfl rfl ?_
            refine st_pop rfl rfl rfl rfl ?_
            refine st_pop rfl rfl rfl rfl ?_
            refine st_pop rfl rfl rfl rfl ?_
            refine st_pop rfl rfl rfl rfl ?_
            refine st_nil ?_
            refine awp_ret ?_
            refine ret_ret rfl rfl ?_
            refine wk_b ?_
            generalize evE ns (getS (tyK (ldK ds ds.length) l k)) x = p at *
            obtain ⟨w, why⟩ := p
            clear hns hl hE hok
            rcases hV with ⟨q0, hg⟩ | ⟨q1, q2⟩
            · simp only at q0
              subst q0
              have := hO.2 rfl
              first | rfl | (simp_all; done) | (exfalso; simp_all; done)
            · simp only at q1 q2
              subst q1
              have h9 := hO.1
              simp only at h9
              first | rfl | (simp_all [zeroVal]; done) | (exfalso; omega) | (simp_all [zeroVal]; omega) | (simp [zeroVal]; decide)
          · try simp only [decide_eq_true_eq, decide_eq_false_iff_not, Bool.not_eq_true', Bool.not_eq_false', Int.not_lt, Int.not_le] at hb5
            refine wp_t rfl ?_
            refine wp_reg ?_
            refine st_pop rfl rfl rfl rfl ?_
            refine st_pop rfl rfl rfl rfl ?_
            refine st_pop rfl rfl rfl rfl ?_
            refine st_bit 102 rfl fun b hb6 => ?_
            cases b
            · try simp only [decide_eq_true_eq, decide_eq_false_iff_not, Bool.not_eq_true', Bool.not_eq_false', Int.not_lt, Int.not_le] at hb6
              refine st_skip rfl rfl rfl ?_
              refine st_skip rfl rfl rfl ?_
              refine st_pop rfl rfl rfl rfl ?_
              refine st_pop rfl rfl rfl rfl ?_
              refine st_skip rfl rfl rfl ?_
              refine st_skip rfl rfl rfl ?_
              refine st_skip rfl rfl rfl ?_
              refine st_pop rfl rfl rfl rfl ?_
              refine st_pop rfl rfl rfl rfl ?_
              refine st_nil ?_
              refine awp_ret ?_
              refine at_ret ?_
              refine ret_ret rfl rfl ?_
              refine wk_b ?_
              generalize evE ns (getS (tyK (ldK ds ds.length) l k)) x = p at *
              obtain ⟨w, why⟩ := p
              clear hns hl hE hok
              rcases hV with ⟨q0, hg⟩ | ⟨q1, q2⟩
              · simp only at q0
                subst q0
                have := hO.2 rfl
                first | rfl | (simp_all; done) | (exfalso; simp_all; done)
              · simp only at q1 q2
                subst q1
                have h9 := hO.1
                simp only at h9
                first | rfl | (simp_all [zeroVal]; done) | (exfalso; omega) | (simp_all [zeroVal]; omega) | (simp [zeroVal]; decide)
            · try simp only [decide_eq_true_eq, decide_eq_false_iff_not, Bool.not_eq_true', Bool.not_eq_false', Int.not_lt, Int.not_le] at hb6
              refine st_pop rfl rfl rfl rfl ?_
              refine st_pop rfl rfl rfl rfl ?_
              refine st_pop rfl rfl rfl rfl ?_
              refine st_pop rfl rfl rfl rfl ?_
              refine st_bit 106 rfl fun b hb7 => ?_
              cases b
              · try simp only [decide_eq_true_eq, decide_eq_false_iff_not, Bool.not_eq_true', Bool.not_eq_false', Int.not_lt, Int.not_le] at hb7
                refine st_skip rfl rfl rfl ?_
                refine st_skip rfl rfl rfl ?_
                refine st_skip rfl rfl rfl ?_
                refine st_pop rfl rfl rfl rfl ?_
                refine st_pop rfl rfl rfl rfl ?_
                refine st_nil ?_
                refine awp_ret ?_
                refine at_ret ?_
                refine ret_ret rfl rfl ?_
                refine wk_b ?_
                generalize evE ns (getS (tyK (ldK ds ds.length) l k)) x = p at *
                obtain ⟨w, why⟩ := p
                clear hns hl hE hok
                rcases hV with ⟨q0, hg⟩ | ⟨q1, q2⟩
                · simp only at q0
                  subst q0
                  have := hO.2 rfl
                  first | rfl | (simp_all; done) | (exfalso; simp_all; done)
                · simp only at q1 q2
                  subst q1
                  have h9 := hO.1
                  simp only at h9
                  first | rfl | (simp_all [zeroVal]; done) | (exfalso; omega) | (simp_all [zeroVal]; omega) | (simp [zeroVal]; decide)
              · try simp only [decide_eq_true_eq, decide_eq_false_iff_not, Bool.not_eq_true', Bool.not_eq_false', Int.not_lt, Int.not_le] at hb7
                refine st_pop rfl rfl rfl rfl ?_
                refine st_pop rfl rfl rfl rfl ?_
                refine st_pop rfl rfl rfl rfl ?_
                refine st_pop rfl rfl rfl rfl ?_
                refine st_pop rfl rfl rfl rfl ?_
                refine st_nil ?_
                refine awp_ret ?_
                refine at_ret ?_
                refine ret_ret rfl rfl ?_
                refine wk_b ?_
                generalize evE ns (getS (tyK (ldK ds ds.length) l k)) x = p at *
                obtain ⟨w, why⟩ := p
                clear hns hl hE hok
                rcases hV with ⟨q0, hg⟩ | ⟨q1, q2⟩
                · simp only at q0
                  subst q0
                  have := hO.2 rfl
                  first | rfl | (simp_all; done) | (exfalso; simp_all; done)
                · simp only at q1 q2
                  subst q1
                  have h9 := hO.1
                  simp only at h9
                  first | rfl | (simp_all [zeroVal]; done) | (exfalso; omega) | (simp_all [zeroVal]; omega) | (simp [zeroVal]; decide)
        · try simp only [decide_eq_true_eq, decide_eq_false_iff_not, Bool.not_eq_true', Bool.not_eq_false', Int.not_lt, Int.not_le] at hb4
          obtain ⟨a, ha⟩ : ∃ a, l[k]? = some a := ⟨_, List.getElem?_eq_getElem (by omega)⟩
          have haf := hl a (List.mem_of_getElem? ha)
          refine wp_t rfl ?_
          refine awp_skip ?_
          refine at_norm ?_
          refine awp_seq ?_
          refine awp_block ?_
          refine wp_reg ?_
          refine st_pop rfl rfl rfl rfl ?_
          refine st_pop rfl rfl rfl rfl ?_
          refine st_nil ?_
          refine wp_open [.op 16, .bar, .bar, .op 3, .bar] (D := [0, 0, 2, 0, 14, 30, 62, 126, 0, 256, 0, 1792, 3840, 7936, 16128, 32766, 65535, 131071, 262143, 262143, 524287, 2097151]) (by kernel_rfl) (by kernel_rfl) (by kernel_rfl) ?_
          refine ad_op rfl rfl ?_
          refine do_pop rfl rfl rfl rfl rfl (by kernel_rfl) ?_
          refine do_pop rfl rfl rfl rfl rfl (by kernel_rfl) ?_
          refine do_pop rfl rfl rfl rfl rfl (by kernel_rfl) ?_
          refine do_pop rfl rfl rfl rfl rfl (by kernel_rfl) ?_
          refine do_idxA (n := k) a.av rfl rfl rfl rfl rfl rfl rfl rfl (by simp [ha]) ?_
          refine do_pop rfl rfl rfl rfl rfl (by kernel_rfl) ?_
          refine do_pop rfl rfl rfl rfl rfl (by kernel_rfl) ?_
          refine do_pop rfl rfl rfl rfl rfl (by kernel_rfl) ?_
          refine do_pop rfl rfl rfl rfl rfl (by kernel_rfl) ?_
          refine do_pop rfl rfl rfl rfl rfl (by kernel_rfl) ?_
          refine do_pop rfl rfl rfl rfl rfl (by kernel_rfl) ?_
          refine do_idxA (n := k) a.av rfl rfl rfl rfl rfl rfl rfl rfl (by simp [ha]) ?_
          refine do_pop rfl rfl rfl rfl rfl (by kernel_rfl) ?_
          refine do_pop rfl rfl rfl rfl rfl (by kernel_rfl) ?_
          refine do_pop rfl rfl rfl rfl rfl (by kernel_rfl) ?_
          refine do_pop rfl rfl rfl rfl rfl (by kernel_rfl) ?_
          refine do_nil ?_
          refine ad_bar ?_
          refine st_calc (xs := [.tmp 43, .tmp 58]) _ rfl rfl rfl rfl Try.func14 rfl rfl rfl (kind_c (ldK ds ds.length) ⟨a.c.scope, a.c.name⟩ _ 2 1 rfl rfl) ?_
          refine st_nil ?_
          refine ad_bar ?_
          refine st_pop rfl rfl rfl rfl ?_
          refine st_nil ?_
          refine ad_op rfl rfl ?_
          refine do_pop rfl rfl rfl rfl rfl (by kernel_rfl) ?_
          refine do_pop rfl rfl rfl rfl rfl (by kernel_rfl) ?_
          refine do_pop rfl rfl rfl rfl rfl (by kernel_rfl) ?_
          refine do_nil ?_
          refine ad_bar ?_
          refine st_pop rfl rfl rfl rfl ?_
          refine st_nil ?_
          refine ad_nil ?_
          refine wp_reg ?_
          refine st_pop rfl rfl rfl rfl ?_
          refine st_pop rfl rfl rfl rfl ?_
          refine st_bit 63 rfl fun b hb8 => ?_
          cases b
          · try simp only [decide_eq_true_eq, decide_eq_false_iff_not, Bool.not_eq_true', Bool.not_eq_false', Int.not_lt, Int.not_le] at hb8
            refine st_skip rfl rfl rfl ?_
            refine st_skip rfl rfl rfl ?_
            refine st_skip rfl rfl rfl ?_
            refine st_skip rfl rfl rfl ?_
            refine st_skip rfl rfl rfl ?_
            refine st_skip rfl rfl rfl ?_
            refine st_skip rfl rfl rfl ?_
            refine st_skip rfl rfl rfl ?_
            refine st_skip rfl rfl rfl ?_
            refine st_pop rfl rfl rfl rfl ?_
            refine st_nil ?_
            refine wp_f rfl ?_
            refine awp_skip ?_
            refine ab_norm ?_
            refine at_norm ?_
            refine awp_region ?_
            refine st_pop rfl rfl rfl rfl ?_
            refine st_pop rfl rfl rfl rfl ?_
            refine st_nil ?_
            refine at_norm ?_
            refine ⟨k + 1, by omega, wk_frl (wk_cons rfl (wk_cons rfl (wk_cons rfl (wk_cons rfl (wk_cons rfl (wk_cons (wrap_succ (by omega)) wk_nil)))))), by rw [tyK_no ha (by simp_all)], by omega⟩
          · try simp only [decide_eq_true_eq, decide_eq_false_iff_not, Bool.not_eq_true', Bool.not_eq_false', Int.not_lt, Int.not_le] at hb8
            refine st_pop rfl rfl rfl rfl ?_
            refine st_pop rfl rfl rfl rfl ?_
            refine st_pop rfl rfl rfl rfl ?_
            refine st_pop rfl rfl rfl rfl ?_
            refine st_idxA (n := k) a.av rfl rfl rfl rfl rfl rfl rfl rfl (by simp [ha]) ?_
            refine st_pop rfl rfl rfl rfl ?_
            refine st_pop rfl rfl rfl rfl ?_
            refine st_pop rfl rfl rfl rfl ?_
            refine st_pop rfl rfl rfl rfl ?_
            refine st_pop rfl rfl rfl rfl ?_
            refine st_nil ?_
            refine wp_bit 73 rfl fun b hb9 => ?_
            cases b
            · try simp only [decide_eq_true_eq, decide_eq_false_iff_not, Bool.not_eq_true', Bool.not_eq_false', Int.not_lt, Int.not_le] at hb9
              refine wp_f rfl ?_
              refine awp_skip ?_
              refine ab_norm ?_
              refine at_norm ?_
              refine awp_region ?_
              refine st_pop rfl rfl rfl rfl ?_
              refine st_pop rfl rfl rfl rfl ?_
              refine st_nil ?_
              refine at_norm ?_
              refine ⟨k + 1, by omega, wk_frl (wk_cons rfl (wk_cons rfl (wk_cons rfl (wk_cons rfl (wk_cons rfl (wk_cons (wrap_succ (by omega)) wk_nil)))))), by rw [tyK_no ha (by simp_all)], by omega⟩
            · try simp only [decide_eq_true_eq, decide_eq_false_iff_not, Bool.not_eq_true', Bool.not_eq_false', Int.not_lt, Int.not_le] at hb9
              have hcy : kindP (ldK ds ds.length) ⟨a.c.scope, a.c.name⟩ ≠ 0 ∧ kindP (ldK ds ds.length) ⟨a.c.scope, a.c.name⟩ = a.v.kind := by simp_all
              refine wp_t rfl ?_
              refine awp_open [.op 13, .bar] (D := [0, 0, 2, 0, 14, 30, 62, 0, 128, 0, 896, 1920, 3968, 8191]) (by kernel_rfl) (by kernel_rfl) (by kernel_rfl) ?_
              refine ad_op rfl rfl ?_
              refine do_pop rfl rfl rfl rfl rfl (by kernel_rfl) ?_
              refine do_pop rfl rfl rfl rfl rfl (by kernel_rfl) ?_
              refine do_pop rfl rfl rfl rfl rfl (by kernel_rfl) ?_
              refine do_pop rfl rfl rfl rfl rfl (by kernel_rfl) ?_
              refine do_idxA (n := k) a.av rfl rfl rfl rfl rfl rfl rfl rfl (by simp [ha]) ?_
              refine do_pop rfl rfl rfl rfl rfl (by kernel_rfl) ?_
              refine do_pop rfl rfl rfl rfl rfl (by kernel_rfl) ?_
              refine do_pop rfl rfl rfl rfl rfl (by kernel_rfl) ?_
              refine do_pop rfl rfl rfl rfl rfl (by kernel_rfl) ?_
              refine do_pop rfl rfl rfl rfl rfl (by kernel_rfl) ?_
              refine do_idxA (n := k) a.av rfl rfl rfl rfl rfl rfl rfl rfl (by simp [ha]) ?_
              refine do_pop rfl rfl rfl rfl rfl (by kernel_rfl) ?_
              refine do_pop rfl rfl rfl rfl rfl (by kernel_rfl) ?_
              refine do_nil ?_
              refine ad_bar ?_
              refine st_calcW (xs := [.tmp 74, .tmp 80, .tmp 86]) _ rfl rfl rfl rfl Try.func15 rfl rfl rfl (set_c (tyK (ldK ds ds.length) l k) (tyK_ok hl k) a.c a.v haf.2.1 _ 4 3 rfl rfl) rfl ?_
              refine st_nil ?_
              refine ad_nil ?_
              refine ab_norm ?_
              refine at_norm ?_
              refine awp_region ?_
              refine st_pop rfl rfl rfl rfl ?_
              refine st_pop rfl rfl rfl rfl ?_
              refine st_nil ?_
              refine at_norm ?_
              refine ⟨k + 1, by omega, wk_frl (wk_cons rfl (wk_cons rfl (wk_cons rfl (wk_cons rfl (wk_cons rfl (wk_cons (wrap_succ (by omega)) wk_nil)))))), by rw [tyK_yes ha hcy], by omega⟩
      · try simp only [decide_eq_true_eq, decide_eq_false_iff_not, Bool.not_eq_true', Bool.not_eq_false', Int.not_lt, Int.not_le] at hb3
        exact absurd hb3 (by decide)
    · try simp only [decide_eq_true_eq, decide_eq_false_iff_not, Bool.not_eq_true', Bool.not_eq_false', Int.not_lt, Int.not_le] at hb2
      exact absurd hb2 (by decide)
  · try simp only [decide_eq_true_eq, decide_eq_false_iff_not, Bool.not_eq_true', Bool.not_eq_false', Int.not_lt, Int.not_le] at hb1
    cases hb1
theorem evalTyped_c (ds : List Dec) (hds : ds.length ≤ 9223372036854775807) (ns : List Nod) (hns : ∀ n ∈ ns, n.fit ∧ inI n.value.int) (hsz : ns.length ≤ maxI) (l : List Att) (hl : ∀ a ∈ l, a.fit) (hsl : l.length ≤ 9223372036854775807) (x : Scn) (hx : inI x.now ∧ inI x.began) (c : Cel) (v : Val) (now : Int) : ∀ H, ACalls tt 4 [.l none 77 (ds.map Dec.av), .agg [.l none 63 (ns.map Nod.av), .l none 56 (l.map Att.av), .s x.sub, .s x.obj, .i .i64 x.now, .i .i64 x.began, .i .i64 c.scope, .s c.owner, .s c.name, .i .i64 v.kind, .i .i64 v.int, .s v.text, .b v.bool, .f v.rate, .i .i64 now]] H (fun r H' => r = .b true ∧ H' = H) := by
  intro H
  rcases first_fail (p := fun k => ∀ d, ds[k]? = some d → (declP (ldK ds k) d).2 = 0) ds.length with q | ⟨k0, q1, q2, q3⟩
  · have hok : ∀ k d, ds[k]? = some d → (declP (ldK ds k) d).2 = 0 := fun k d hd => q k (List.getElem?_eq_some_iff.1 hd).1 d hd
    by_cases h : rightE ns = true ∧ ∀ k, k < ns.length → kErr (ldK ds ds.length) ns k = 0
    · exact typedC_c ds hds ns hns hsz l hl hsl x hx c v now hok h.1 h.2 _ rfl H
    · exact typedB_c ds hds ns hns hsz l hl hsl x hx c v now hok h H
  · have hd0 : ds[k0]? = some ds[k0] := List.getElem?_eq_getElem q1
    refine typedA_c ds hds ns hns hsz l hl hsl x hx c v now k0 ds[k0] hd0 (fun k d hk hd => q2 k hk d hd) (fun e => q3 fun d hd => ?_) H
    rw [hd0] at hd; cases hd; exact e
end Go.Proofs.Ytlclgpiabjlpbaa.Am

