/- Walks: package reads and the reference's layer 7: At; the law's helpers. -/
import Derived.Test.YtlcjjgfopalefaaRd
import Derived.Test.YtlcjjgfopalefaaS
import Derived.Test.YtlcjjgfopalefaaSt
namespace Go.Proofs.Ytlcjjgfopalefaa.Am
open Go.RowKit
set_option linter.unusedVariables false
set_option linter.unusedSimpArgs false
set_option maxRecDepth 100000

theorem at_c (r : Ref) (s o : ByteArray) : ∀ H, ACalls tt 23 [.agg r.av, .s s, .s o] H (fun res_ H' => res_ = .agg (atC r s o).av ∧ H' = H) := by
  refine body_calc (T := tt) Try.func23 rfl Try.ntmps23 rfl rfl (by rfl) (by rfl) ?_
  refine wp_reg ?_
  refine st_box rfl rfl rfl rfl rfl rfl rfl rfl rfl ?_
  refine st_alloc rfl rfl rfl rfl rfl rfl rfl ?_
  refine st_nil ?_
  refine awp_seq ?_
  refine wp_reg ?_
  refine st_pop rfl rfl rfl rfl ?_
  refine st_pop rfl rfl rfl rfl ?_
  refine st_nil ?_
  refine awp_block ?_
  refine wp_reg ?_
  refine st_pop rfl rfl rfl rfl ?_
  refine st_pop rfl rfl rfl rfl ?_
  refine st_nil ?_
  refine wp_bit 9 rfl fun b hb1 => ?_
  cases b
  · try simp only [decide_eq_true_eq, decide_eq_false_iff_not, Bool.not_eq_true', Bool.not_eq_false', Int.not_lt, Int.not_le] at hb1
    refine wp_f rfl ?_
    refine wp_reg ?_
    refine st_pop rfl rfl rfl rfl ?_
    refine st_pop rfl rfl rfl rfl ?_
    refine st_nil ?_
    refine wp_bit 17 rfl fun b hb2 => ?_
    cases b
    · try simp only [decide_eq_true_eq, decide_eq_false_iff_not, Bool.not_eq_true', Bool.not_eq_false', Int.not_lt, Int.not_le] at hb2
      refine wp_f rfl ?_
      refine wp_reg ?_
      refine st_pop rfl rfl rfl rfl ?_
      refine st_pop rfl rfl rfl rfl ?_
      refine st_nil ?_
      refine wp_bit 25 rfl fun b hb3 => ?_
      cases b
      · try simp only [decide_eq_true_eq, decide_eq_false_iff_not, Bool.not_eq_true', Bool.not_eq_false', Int.not_lt, Int.not_le] at hb3
        refine wp_f rfl ?_
        refine awp_skip ?_
        refine ab_norm ?_
        refine at_norm ?_
        refine wp_reg ?_
        refine st_pop rfl rfl rfl rfl ?_
        refine st_store rfl rfl rfl rfl rfl rfl rfl rfl rfl rfl rfl rfl rfl ?_
        refine st_nil ?_
        refine awp_ret ?_
        refine ret_ret rfl rfl ?_
        refine wk_agg ?_; simp_all [atC, Cel.av, cel0]
      · try simp only [decide_eq_true_eq, decide_eq_false_iff_not, Bool.not_eq_true', Bool.not_eq_false', Int.not_lt, Int.not_le] at hb3
        refine wp_t rfl ?_
        refine wp_reg ?_
        refine st_pop rfl rfl rfl rfl ?_
        refine st_pop rfl rfl rfl rfl ?_
        refine st_pop rfl rfl rfl rfl ?_
        refine st_pop rfl rfl rfl rfl ?_
        refine st_pop rfl rfl rfl rfl ?_
        refine st_store rfl rfl rfl rfl rfl rfl rfl rfl rfl rfl rfl rfl rfl ?_
        refine st_nil ?_
        refine awp_ret ?_
        refine ab_ret ?_
        refine at_ret ?_
        refine ret_ret rfl rfl ?_
        refine wk_agg ?_; simp_all [atC, Cel.av, cel0]
    · try simp only [decide_eq_true_eq, decide_eq_false_iff_not, Bool.not_eq_true', Bool.not_eq_false', Int.not_lt, Int.not_le] at hb2
      refine wp_t rfl ?_
      refine wp_reg ?_
      refine st_pop rfl rfl rfl rfl ?_
      refine st_pop rfl rfl rfl rfl ?_
      refine st_pop rfl rfl rfl rfl ?_
      refine st_pop rfl rfl rfl rfl ?_
      refine st_pop rfl rfl rfl rfl ?_
      refine st_pop rfl rfl rfl rfl ?_
      refine st_store rfl rfl rfl rfl rfl rfl rfl rfl rfl rfl rfl rfl rfl ?_
      refine st_nil ?_
      refine awp_ret ?_
      refine ab_ret ?_
      refine at_ret ?_
      refine ret_ret rfl rfl ?_
      refine wk_agg ?_; simp_all [atC, Cel.av, cel0]
  · try simp only [decide_eq_true_eq, decide_eq_false_iff_not, Bool.not_eq_true', Bool.not_eq_false', Int.not_lt, Int.not_le] at hb1
    refine wp_t rfl ?_
    refine wp_reg ?_
    refine st_pop rfl rfl rfl rfl ?_
    refine st_pop rfl rfl rfl rfl ?_
    refine st_pop rfl rfl rfl rfl ?_
    refine st_pop rfl rfl rfl rfl ?_
    refine st_pop rfl rfl rfl rfl ?_
    refine st_pop rfl rfl rfl rfl ?_
    refine st_store rfl rfl rfl rfl rfl rfl rfl rfl rfl rfl rfl rfl rfl ?_
    refine st_nil ?_
    refine awp_ret ?_
    refine ab_ret ?_
    refine at_ret ?_
    refine ret_ret rfl rfl ?_
    refine wk_agg ?_; simp_all [atC, Cel.av, cel0]
theorem refAt_c (r : Ref) (s o : ByteArray) : ∀ H, ACalls tt 24 [.agg r.av, .s s, .s o] H (fun res_ H' => res_ = .agg (atC r s o).av ∧ H' = H) := by
  refine body_calc (T := tt) Try.func24 rfl Try.ntmps24 rfl rfl (by rfl) (by rfl) ?_
  refine wp_reg ?_
  refine st_box rfl rfl rfl rfl rfl rfl rfl rfl rfl ?_
  refine st_alloc rfl rfl rfl rfl rfl rfl rfl ?_
  refine st_nil ?_
  refine wp_reg ?_
  refine st_pop rfl rfl rfl rfl ?_
  refine st_pop rfl rfl rfl rfl ?_
  refine st_pop rfl rfl rfl rfl ?_
  refine st_pop rfl rfl rfl rfl ?_
  refine st_pop rfl rfl rfl rfl ?_
  refine st_alloc rfl rfl rfl rfl rfl rfl rfl ?_
  refine st_store rfl rfl rfl rfl rfl rfl rfl rfl rfl rfl rfl rfl rfl ?_
  refine st_nil ?_
  refine awp_seq ?_
  refine wp_reg ?_
  refine st_pop rfl rfl rfl rfl ?_
  refine st_pop rfl rfl rfl rfl ?_
  refine st_nil ?_
  refine awp_block ?_
  refine wp_reg ?_
  refine st_pop rfl rfl rfl rfl ?_
  refine st_pop rfl rfl rfl rfl ?_
  refine st_nil ?_
  refine wp_bit 16 rfl fun b hb1 => ?_
  cases b
  · try simp only [decide_eq_true_eq, decide_eq_false_iff_not, Bool.not_eq_true', Bool.not_eq_false', Int.not_lt, Int.not_le] at hb1
    refine wp_f rfl ?_
    refine wp_reg ?_
    refine st_pop rfl rfl rfl rfl ?_
    refine st_pop rfl rfl rfl rfl ?_
    refine st_nil ?_
    refine wp_bit 20 rfl fun b hb2 => ?_
    cases b
    · try simp only [decide_eq_true_eq, decide_eq_false_iff_not, Bool.not_eq_true', Bool.not_eq_false', Int.not_lt, Int.not_le] at hb2
      refine wp_f rfl ?_
      refine wp_reg ?_
      refine st_pop rfl rfl rfl rfl ?_
      refine st_pop rfl rfl rfl rfl ?_
      refine st_nil ?_
      refine wp_bit 24 rfl fun b hb3 => ?_
      cases b
      · try simp only [decide_eq_true_eq, decide_eq_false_iff_not, Bool.not_eq_true', Bool.not_eq_false', Int.not_lt, Int.not_le] at hb3
        refine wp_f rfl ?_
        refine awp_region ?_
        refine st_pop rfl rfl rfl rfl ?_
        refine st_store rfl rfl rfl rfl rfl rfl rfl rfl rfl rfl rfl rfl rfl ?_
        refine st_nil ?_
        refine ab_norm ?_
        refine at_norm ?_
        refine wp_reg ?_
        refine st_pop rfl rfl rfl rfl ?_
        refine st_store rfl rfl rfl rfl rfl rfl rfl rfl rfl rfl rfl rfl rfl ?_
        refine st_nil ?_
        refine awp_ret ?_
        refine ret_ret rfl rfl ?_
        refine wk_agg ?_; simp_all [atC, Cel.av, cel0]
      · try simp only [decide_eq_true_eq, decide_eq_false_iff_not, Bool.not_eq_true', Bool.not_eq_false', Int.not_lt, Int.not_le] at hb3
        refine wp_t rfl ?_
        refine awp_region ?_
        refine st_pop rfl rfl rfl rfl ?_
        refine st_store rfl rfl rfl rfl rfl rfl rfl rfl rfl rfl rfl rfl rfl ?_
        refine st_nil ?_
        refine ab_norm ?_
        refine at_norm ?_
        refine wp_reg ?_
        refine st_pop rfl rfl rfl rfl ?_
        refine st_store rfl rfl rfl rfl rfl rfl rfl rfl rfl rfl rfl rfl rfl ?_
        refine st_nil ?_
        refine awp_ret ?_
        refine ret_ret rfl rfl ?_
        refine wk_agg ?_; simp_all [atC, Cel.av, cel0]
    · try simp only [decide_eq_true_eq, decide_eq_false_iff_not, Bool.not_eq_true', Bool.not_eq_false', Int.not_lt, Int.not_le] at hb2
      refine wp_t rfl ?_
      refine awp_region ?_
      refine st_pop rfl rfl rfl rfl ?_
      refine st_pop rfl rfl rfl rfl ?_
      refine st_store rfl rfl rfl rfl rfl rfl rfl rfl rfl rfl rfl rfl rfl ?_
      refine st_nil ?_
      refine ab_norm ?_
      refine at_norm ?_
      refine wp_reg ?_
      refine st_pop rfl rfl rfl rfl ?_
      refine st_store rfl rfl rfl rfl rfl rfl rfl rfl rfl rfl rfl rfl rfl ?_
      refine st_nil ?_
      refine awp_ret ?_
      refine ret_ret rfl rfl ?_
      refine wk_agg ?_; simp_all [atC, Cel.av, cel0]
  · try simp only [decide_eq_true_eq, decide_eq_false_iff_not, Bool.not_eq_true', Bool.not_eq_false', Int.not_lt, Int.not_le] at hb1
    refine wp_t rfl ?_
    refine awp_region ?_
    refine st_pop rfl rfl rfl rfl ?_
    refine st_pop rfl rfl rfl rfl ?_
    refine st_store rfl rfl rfl rfl rfl rfl rfl rfl rfl rfl rfl rfl rfl ?_
    refine st_nil ?_
    refine ab_norm ?_
    refine at_norm ?_
    refine wp_reg ?_
    refine st_pop rfl rfl rfl rfl ?_
    refine st_store rfl rfl rfl rfl rfl rfl rfl rfl rfl rfl rfl rfl rfl ?_
    refine st_nil ?_
    refine awp_ret ?_
    refine ret_ret rfl rfl ?_
    refine wk_agg ?_; simp_all [atC, Cel.av, cel0]
theorem now_c  : ∀ H, ACalls tt 38 [] H (fun res_ H' => res_ = .agg [.l none 50 [nowN.av]] ∧ H' = H) := by
  refine body_calcZ (T := tt) Try.func38 rfl Try.ntmps38 rfl rfl (by rfl) (by rfl) ?_
  refine wp_reg ?_
  refine st_alloc rfl rfl rfl rfl rfl rfl rfl ?_
  refine st_nil ?_
  refine wp_reg ?_
  refine st_pop rfl rfl rfl rfl ?_
  refine st_bslice (E := 50) [.tmp 1] rfl rfl rfl rfl rfl rfl rfl (by simp [ev, upd, AV.sto, cellsOf, AV.flat]; rfl) rfl fun tk => ?_
  refine st_pop rfl rfl rfl rfl ?_
  refine st_store rfl rfl rfl rfl rfl rfl rfl rfl rfl rfl rfl rfl rfl ?_
  refine st_nil ?_
  refine awp_ret ?_
  refine ret_ret rfl rfl ?_
  exact .agg (.cons (.l _ _ _) .nil)
theorem load_c  : ∀ H, ACalls tt 39 [] H (fun res_ H' => res_ = .agg loadR.av ∧ H' = H) := by
  refine body_calc (T := tt) Try.func39 rfl Try.ntmps39 rfl rfl (by rfl) (by rfl) ?_
  refine wp_reg ?_
  refine st_alloc rfl rfl rfl rfl rfl rfl rfl ?_
  refine st_nil ?_
  refine wp_reg ?_
  refine st_pop rfl rfl rfl rfl ?_
  refine st_store rfl rfl rfl rfl rfl rfl rfl rfl rfl rfl rfl rfl rfl ?_
  refine st_nil ?_
  refine awp_ret ?_
  refine ret_ret rfl rfl ?_
  exact .refl _
theorem onceRef_tiny (rs : List Ref) (h1 : rs.length ≤ 1) (f : FuncId) : ∀ H, ACalls tt 34 [.l none 38 (rs.map Ref.av), .fn f []] H (fun res_ H' => res_ = .l none 38 ((dd rs).map Ref.av) ∧ H' = H) := by
  refine body_calcZ (T := tt) Try.func34 rfl Try.ntmps34 rfl rfl (by simp [cleanL, clean, refs_clean]) (by simp [clean, refs_clean]) ?_
  refine wp_reg ?_
  refine st_box rfl rfl rfl rfl rfl rfl rfl rfl rfl ?_
  refine st_pop rfl rfl rfl rfl ?_
  refine st_nil ?_
  refine wp_reg ?_
  refine st_pop rfl rfl rfl rfl ?_
  refine st_appendW (xs := []) (ys := rs.map Ref.av) rfl rfl rfl rfl rfl rfl rfl (.inl ⟨rfl, rfl⟩) (.inr ⟨none, rfl⟩) (by simp only [List.length_nil, List.length_map]; show (0 + rs.length) * 24 ≤ _; omega) (by simp [maxLen]; omega) ?_
  intro ts1
  refine st_alloc rfl rfl rfl rfl rfl rfl rfl ?_
  refine st_store rfl rfl rfl rfl rfl rfl rfl rfl rfl rfl rfl rfl rfl ?_
  refine st_nil ?_
  refine wp_reg ?_
  refine st_pop rfl rfl rfl rfl ?_
  refine st_pop rfl rfl rfl rfl ?_
  refine st_pop rfl rfl rfl rfl ?_
  refine st_calc (xs := [.tmp 12, .tmp 13]) (.tup []) rfl rfl rfl rfl Try.func45 rfl rfl rfl (sort_tiny_refs _ (rs.map Ref.av) (.inr ⟨none, rfl⟩) (by simpa using h1) _ _ _) ?_
  refine st_nil ?_
  refine wp_reg ?_
  refine st_pop rfl rfl rfl rfl ?_
  refine st_nil ?_
  refine awp_seq ?_
  refine wp_reg ?_
  refine st_pop rfl rfl rfl rfl ?_
  refine st_pop rfl rfl rfl rfl ?_
  refine st_val 16 (.i .i64 ((rs.length : Nat) : Int)) rfl (by simp) ?_
  refine st_pop rfl rfl rfl rfl ?_
  refine st_nil ?_
  refine awp_block ?_
  refine wp_loopD (α := Nat × AV × List Nat) (fun a => frl [(5, .ptr 1 0), (6, a.2.1), (15, .l none 38 (rs.map Ref.av)), (16, .i .i64 ((rs.length : Nat) : Int)), (17, .i .i64 ((a.1 : Nat) : Int))]) (fun a => ⟨[.cells [.fn f []], .cells [.l none 38 (rs.map Ref.av)]], a.2.2⟩) 2 (fun a => a.1 ≤ rs.length ∧ IsOwn ⟨[], a.2.2⟩ a.2.1 38 ((ddk rs a.1).map Ref.av)) (fun a => rs.length - a.1) (0, .nil, ts1) ⟨Nat.zero_le _, .inl ⟨rfl, rfl⟩⟩ (wk_frl (wk_cons rfl (wk_cons rfl (wk_cons rfl (wk_cons rfl (wk_cons rfl wk_nil)))))) rfl (fun a => rfl) (fun a ha => bb_frl (by simp [bbL, bb, refs_bb, own_bb ha.2 (refs_bb 2 _)])) (fun a _ => by simp [bbH, bbB, bbL, bb, refs_bb]) ?_
  rintro ⟨k, out, ts⟩ ⟨hk, hown⟩
  have hk : k ≤ rs.length := hk
  have hown : IsOwn ⟨[], ts⟩ out 38 ((ddk rs k).map Ref.av) := hown
  have hdl := ddk_len (rs := rs) k
  dsimp only
  refine wp_reg ?_
  refine st_pop rfl rfl rfl rfl ?_
  refine st_nil ?_
  refine awp_seq ?_
  refine wp_bit 18 rfl fun b hb1 => ?_
  cases b
  · try simp only [decide_eq_true_eq, decide_eq_false_iff_not, Bool.not_eq_true', Bool.not_eq_false', Int.not_lt, Int.not_le] at hb1
    refine wp_f rfl ?_
    refine awp_exit ?_
    refine at_exit ?_
    refine at_exit ?_
    refine ab_hit ?_
    refine at_norm ?_
    refine wp_reg ?_
    refine st_popx (out) rfl rfl rfl rfl ?_
    refine st_popx (out) rfl rfl rfl rfl ?_
    refine st_nil ?_
    refine awp_ret ?_
    refine ret_ret rfl (own_fo hown).1 ?_
    obtain rfl : k = rs.length := by omega
    exact own_fz hown
  · try simp only [decide_eq_true_eq, decide_eq_false_iff_not, Bool.not_eq_true', Bool.not_eq_false', Int.not_lt, Int.not_le] at hb1
    obtain ⟨r, hr⟩ : ∃ r, rs[k]? = some r := ⟨_, List.getElem?_eq_getElem (by omega)⟩
    refine wp_t rfl ?_
    refine awp_skip ?_
    refine at_norm ?_
    refine awp_seq ?_
    refine awp_block ?_
    refine wp_reg ?_
    refine st_pop rfl rfl rfl rfl ?_
    refine st_idxA (n := k) r.av rfl rfl rfl rfl rfl rfl rfl rfl (by simp [hr]) ?_
    refine st_pop rfl rfl rfl rfl ?_
    refine st_alloc rfl rfl rfl rfl rfl rfl rfl ?_
    refine st_pop rfl rfl rfl rfl ?_
    refine st_store rfl rfl rfl rfl rfl rfl rfl rfl rfl rfl rfl rfl rfl ?_
    refine st_nil ?_
    refine wp_regD (by kernel_rfl) ?_
    refine aq_pop rfl rfl rfl rfl ?_
    refine aq_pop rfl rfl rfl rfl ?_
    refine aq_pop rfl rfl rfl rfl ?_
    refine aq_bit 24 rfl fun b hb2 => ?_
    cases b
    · try simp only [decide_eq_true_eq, decide_eq_false_iff_not, Bool.not_eq_true', Bool.not_eq_false', Int.not_lt, Int.not_le] at hb2
      obtain ⟨r0, hr0⟩ : ∃ r0, rs[k - 1]? = some r0 := ⟨_, List.getElem?_eq_getElem (by omega)⟩
      refine aq_pop rfl rfl rfl rfl ?_
      refine aq_pop rfl rfl rfl rfl ?_
      refine aq_pop rfl rfl rfl rfl ?_
      refine aq_pop rfl rfl rfl rfl ?_
      refine aq_val 28 (.i .i64 ((k - 1 : Nat) : Int)) rfl (wrap_pred (by omega) (by omega)) ?_
      refine aq_idxA (n := k - 1) r0.av rfl rfl rfl rfl rfl rfl rfl rfl (by simp [hr0]) ?_
      refine aq_pop rfl rfl rfl rfl ?_
      refine aq_pop rfl rfl rfl rfl ?_
      refine aq_pop rfl rfl rfl rfl ?_
      refine aq_nil ?_
      refine wp_bit 32 rfl fun b hb3 => ?_
      cases b
      · try simp only [decide_eq_true_eq, decide_eq_false_iff_not, Bool.not_eq_true', Bool.not_eq_false', Int.not_lt, Int.not_le] at hb3
        have hdif : ¬ (k = 0 ∨ rs[k - 1]? ≠ some r) := by
          have he : r = r0 := ref_eq (by simpa using hb3)
          rw [hr0, he]; simp; omega
        refine wp_f rfl ?_
        refine awp_skip ?_
        refine ab_norm ?_
        refine at_norm ?_
        refine awp_region ?_
        refine st_pop rfl rfl rfl rfl ?_
        refine st_pop rfl rfl rfl rfl ?_
        refine st_nil ?_
        refine at_norm ?_
        refine ⟨(k + 1, out, ts), ⟨by dsimp only; omega, by rw [ddk_no hr hdif]; exact hown⟩, wk_frl (wk_cons rfl (wk_cons rfl (wk_cons rfl (wk_cons rfl (wk_cons (wrap_succ (by omega)) wk_nil))))), ⟨_, rfl⟩, rfl, by dsimp only; omega⟩
      · try simp only [decide_eq_true_eq, decide_eq_false_iff_not, Bool.not_eq_true', Bool.not_eq_false', Int.not_lt, Int.not_le] at hb3
        have hdif : k = 0 ∨ rs[k - 1]? ≠ some r := by
          first
            | exact .inl (by omega)
            | (refine .inr ?_; rw [hr0]; intro q; have q := Option.some.inj q; subst q; simp at hb3)
        refine wp_t rfl ?_
        refine awp_region ?_
        refine st_popx (out) rfl rfl rfl rfl ?_
        refine st_pop rfl rfl rfl rfl ?_
        refine st_bslice (E := 38) [.tmp 34] rfl rfl rfl rfl rfl rfl rfl (by simp [ev, upd, AV.sto, cellsOf, AV.flat]; rfl) rfl fun tk => ?_
        refine st_append (xs := (ddk rs k).map Ref.av) (ys := [r.av]) rfl rfl rfl rfl rfl rfl rfl (own_more hown) (.inr ⟨some tk, rfl⟩) (by simp only [List.length_map, List.length_cons, List.length_nil]; show (_ + 1) * 24 ≤ _; omega) (by simp [maxLen]; omega) ?_
        rintro r2 ⟨bs2, ts2⟩ hown2 hb2 -
        have hb2 : bs2 = _ := hb2
        subst hb2
        refine st_popx (r2) rfl rfl rfl rfl ?_
        refine st_nil ?_
        refine ab_norm ?_
        refine at_norm ?_
        refine awp_region ?_
        refine st_pop rfl rfl rfl rfl ?_
        refine st_pop rfl rfl rfl rfl ?_
        refine st_nil ?_
        refine at_norm ?_
        refine ⟨(k + 1, r2, ts2), ⟨by dsimp only; omega, by rw [ddk_yes hr hdif, List.map_append]; exact hown2⟩, wk_frl (wk_cons rfl (wk_cons rfl (wk_cons rfl (wk_cons rfl (wk_cons (wrap_succ (by omega)) wk_nil))))), ⟨_, rfl⟩, rfl, by dsimp only; omega⟩
    · try simp only [decide_eq_true_eq, decide_eq_false_iff_not, Bool.not_eq_true', Bool.not_eq_false', Int.not_lt, Int.not_le] at hb2
      have hdif : k = 0 ∨ rs[k - 1]? ≠ some r := .inl (by omega)
      refine aq_skip rfl rfl rfl ?_
      refine aq_skip rfl rfl rfl ?_
      refine aq_skip rfl rfl rfl ?_
      refine aq_skip rfl rfl rfl ?_
      refine aq_skip rfl rfl rfl ?_
      refine aq_skip rfl rfl rfl ?_
      refine aq_skip rfl rfl rfl ?_
      refine aq_pop rfl rfl rfl rfl ?_
      refine aq_nil ?_
      refine wp_t rfl ?_
      refine awp_region ?_
      refine st_popx (out) rfl rfl rfl rfl ?_
      refine st_pop rfl rfl rfl rfl ?_
      refine st_bslice (E := 38) [.tmp 34] rfl rfl rfl rfl rfl rfl rfl (by simp [ev, upd, AV.sto, cellsOf, AV.flat]; rfl) rfl fun tk => ?_
      refine st_append (xs := (ddk rs k).map Ref.av) (ys := [r.av]) rfl rfl rfl rfl rfl rfl rfl (own_more hown) (.inr ⟨some tk, rfl⟩) (by simp only [List.length_map, List.length_cons, List.length_nil]; show (_ + 1) * 24 ≤ _; omega) (by simp [maxLen]; omega) ?_
      rintro r2 ⟨bs2, ts2⟩ hown2 hb2 -
      have hb2 : bs2 = _ := hb2
      subst hb2
      refine st_popx (r2) rfl rfl rfl rfl ?_
      refine st_nil ?_
      refine ab_norm ?_
      refine at_norm ?_
      refine awp_region ?_
      refine st_pop rfl rfl rfl rfl ?_
      refine st_pop rfl rfl rfl rfl ?_
      refine st_nil ?_
      refine at_norm ?_
      refine ⟨(k + 1, r2, ts2), ⟨by dsimp only; omega, by rw [ddk_yes hr hdif, List.map_append]; exact hown2⟩, wk_frl (wk_cons rfl (wk_cons rfl (wk_cons rfl (wk_cons rfl (wk_cons (wrap_succ (by omega)) wk_nil))))), ⟨_, rfl⟩, rfl, by dsimp only; omega⟩
theorem onceCell_tiny (rs : List Cel) (h1 : rs.length ≤ 1) (f : FuncId) : ∀ H, ACalls tt 40 [.l none 44 (rs.map Cel.av), .fn f []] H (fun res_ H' => res_ = .l none 44 ((dd rs).map Cel.av) ∧ H' = H) := by
  refine body_calcZ (T := tt) Try.func40 rfl Try.ntmps40 rfl rfl (by simp [cleanL, clean, cels_clean]) (by simp [clean, cels_clean]) ?_
  refine wp_reg ?_
  refine st_box rfl rfl rfl rfl rfl rfl rfl rfl rfl ?_
  refine st_pop rfl rfl rfl rfl ?_
  refine st_nil ?_
  refine wp_reg ?_
  refine st_pop rfl rfl rfl rfl ?_
  refine st_appendW (xs := []) (ys := rs.map Cel.av) rfl rfl rfl rfl rfl rfl rfl (.inl ⟨rfl, rfl⟩) (.inr ⟨none, rfl⟩) (by simp only [List.length_nil, List.length_map]; show (0 + rs.length) * 40 ≤ _; omega) (by simp [maxLen]; omega) ?_
  intro ts1
  refine st_alloc rfl rfl rfl rfl rfl rfl rfl ?_
  refine st_store rfl rfl rfl rfl rfl rfl rfl rfl rfl rfl rfl rfl rfl ?_
  refine st_nil ?_
  refine wp_reg ?_
  refine st_pop rfl rfl rfl rfl ?_
  refine st_pop rfl rfl rfl rfl ?_
  refine st_pop rfl rfl rfl rfl ?_
  refine st_calc (xs := [.tmp 12, .tmp 13]) (.tup []) rfl rfl rfl rfl Try.func45 rfl rfl rfl (sort_tiny_cels _ (rs.map Cel.av) (.inr ⟨none, rfl⟩) (by simpa using h1) _ _ _) ?_
  refine st_nil ?_
  refine wp_reg ?_
  refine st_pop rfl rfl rfl rfl ?_
  refine st_nil ?_
  refine awp_seq ?_
  refine wp_reg ?_
  refine st_pop rfl rfl rfl rfl ?_
  refine st_pop rfl rfl rfl rfl ?_
  refine st_val 16 (.i .i64 ((rs.length : Nat) : Int)) rfl (by simp) ?_
  refine st_pop rfl rfl rfl rfl ?_
  refine st_nil ?_
  refine awp_block ?_
  refine wp_loopD (α := Nat × AV × List Nat) (fun a => frl [(5, .ptr 1 0), (6, a.2.1), (15, .l none 44 (rs.map Cel.av)), (16, .i .i64 ((rs.length : Nat) : Int)), (17, .i .i64 ((a.1 : Nat) : Int))]) (fun a => ⟨[.cells [.fn f []], .cells [.l none 44 (rs.map Cel.av)]], a.2.2⟩) 2 (fun a => a.1 ≤ rs.length ∧ IsOwn ⟨[], a.2.2⟩ a.2.1 44 ((ddk rs a.1).map Cel.av)) (fun a => rs.length - a.1) (0, .nil, ts1) ⟨Nat.zero_le _, .inl ⟨rfl, rfl⟩⟩ (wk_frl (wk_cons rfl (wk_cons rfl (wk_cons rfl (wk_cons rfl (wk_cons rfl wk_nil)))))) rfl (fun a => rfl) (fun a ha => bb_frl (by simp [bbL, bb, cels_bb, own_bb ha.2 (cels_bb 2 _)])) (fun a _ => by simp [bbH, bbB, bbL, bb, cels_bb]) ?_
  rintro ⟨k, out, ts⟩ ⟨hk, hown⟩
  have hk : k ≤ rs.length := hk
  have hown : IsOwn ⟨[], ts⟩ out 44 ((ddk rs k).map Cel.av) := hown
  have hdl := ddk_len (rs := rs) k
  dsimp only
  refine wp_reg ?_
  refine st_pop rfl rfl rfl rfl ?_
  refine st_nil ?_
  refine awp_seq ?_
  refine wp_bit 18 rfl fun b hb1 => ?_
  cases b
  · try simp only [decide_eq_true_eq, decide_eq_false_iff_not, Bool.not_eq_true', Bool.not_eq_false', Int.not_lt, Int.not_le] at hb1
    refine wp_f rfl ?_
    refine awp_exit ?_
    refine at_exit ?_
    refine at_exit ?_
    refine ab_hit ?_
    refine at_norm ?_
    refine wp_reg ?_
    refine st_popx (out) rfl rfl rfl rfl ?_
    refine st_popx (out) rfl rfl rfl rfl ?_
    refine st_nil ?_
    refine awp_ret ?_
    refine ret_ret rfl (own_fo hown).1 ?_
    obtain rfl : k = rs.length := by omega
    exact own_fz hown
  · try simp only [decide_eq_true_eq, decide_eq_false_iff_not, Bool.not_eq_true', Bool.not_eq_false', Int.not_lt, Int.not_le] at hb1
    obtain ⟨r, hr⟩ : ∃ r, rs[k]? = some r := ⟨_, List.getElem?_eq_getElem (by omega)⟩
    refine wp_t rfl ?_
    refine awp_skip ?_
    refine at_norm ?_
    refine awp_seq ?_
    refine awp_block ?_
    refine wp_reg ?_
    refine st_pop rfl rfl rfl rfl ?_
    refine st_idxA (n := k) r.av rfl rfl rfl rfl rfl rfl rfl rfl (by simp [hr]) ?_
    refine st_pop rfl rfl rfl rfl ?_
    refine st_alloc rfl rfl rfl rfl rfl rfl rfl ?_
    refine st_pop rfl rfl rfl rfl ?_
    refine st_store rfl rfl rfl rfl rfl rfl rfl rfl rfl rfl rfl rfl rfl ?_
    refine st_nil ?_
    refine wp_regD (by kernel_rfl) ?_
    refine aq_pop rfl rfl rfl rfl ?_
    refine aq_pop rfl rfl rfl rfl ?_
    refine aq_pop rfl rfl rfl rfl ?_
    refine aq_bit 24 rfl fun b hb2 => ?_
    cases b
    · try simp only [decide_eq_true_eq, decide_eq_false_iff_not, Bool.not_eq_true', Bool.not_eq_false', Int.not_lt, Int.not_le] at hb2
      obtain ⟨r0, hr0⟩ : ∃ r0, rs[k - 1]? = some r0 := ⟨_, List.getElem?_eq_getElem (by omega)⟩
      refine aq_pop rfl rfl rfl rfl ?_
      refine aq_pop rfl rfl rfl rfl ?_
      refine aq_pop rfl rfl rfl rfl ?_
      refine aq_pop rfl rfl rfl rfl ?_
      refine aq_val 28 (.i .i64 ((k - 1 : Nat) : Int)) rfl (wrap_pred (by omega) (by omega)) ?_
      refine aq_idxA (n := k - 1) r0.av rfl rfl rfl rfl rfl rfl rfl rfl (by simp [hr0]) ?_
      refine aq_pop rfl rfl rfl rfl ?_
      refine aq_pop rfl rfl rfl rfl ?_
      refine aq_pop rfl rfl rfl rfl ?_
      refine aq_nil ?_
      refine wp_bit 32 rfl fun b hb3 => ?_
      cases b
      · try simp only [decide_eq_true_eq, decide_eq_false_iff_not, Bool.not_eq_true', Bool.not_eq_false', Int.not_lt, Int.not_le] at hb3
        have hdif : ¬ (k = 0 ∨ rs[k - 1]? ≠ some r) := by
          have he : r = r0 := cel_eq (by simpa using hb3)
          rw [hr0, he]; simp; omega
        refine wp_f rfl ?_
        refine awp_skip ?_
        refine ab_norm ?_
        refine at_norm ?_
        refine awp_region ?_
        refine st_pop rfl rfl rfl rfl ?_
        refine st_pop rfl rfl rfl rfl ?_
        refine st_nil ?_
        refine at_norm ?_
        refine ⟨(k + 1, out, ts), ⟨by dsimp only; omega, by rw [ddk_no hr hdif]; exact hown⟩, wk_frl (wk_cons rfl (wk_cons rfl (wk_cons rfl (wk_cons rfl (wk_cons (wrap_succ (by omega)) wk_nil))))), ⟨_, rfl⟩, rfl, by dsimp only; omega⟩
      · try simp only [decide_eq_true_eq, decide_eq_false_iff_not, Bool.not_eq_true', Bool.not_eq_false', Int.not_lt, Int.not_le] at hb3
        have hdif : k = 0 ∨ rs[k - 1]? ≠ some r := by
          first
            | exact .inl (by omega)
            | (refine .inr ?_; rw [hr0]; intro q; have q := Option.some.inj q; subst q; simp at hb3)
        refine wp_t rfl ?_
        refine awp_region ?_
        refine st_popx (out) rfl rfl rfl rfl ?_
        refine st_pop rfl rfl rfl rfl ?_
        refine st_bslice (E := 44) [.tmp 34] rfl rfl rfl rfl rfl rfl rfl (by simp [ev, upd, AV.sto, cellsOf, AV.flat]; rfl) rfl fun tk => ?_
        refine st_append (xs := (ddk rs k).map Cel.av) (ys := [r.av]) rfl rfl rfl rfl rfl rfl rfl (own_more hown) (.inr ⟨some tk, rfl⟩) (by simp only [List.length_map, List.length_cons, List.length_nil]; show (_ + 1) * 40 ≤ _; omega) (by simp [maxLen]; omega) ?_
        rintro r2 ⟨bs2, ts2⟩ hown2 hb2 -
        have hb2 : bs2 = _ := hb2
        subst hb2
        refine st_popx (r2) rfl rfl rfl rfl ?_
        refine st_nil ?_
        refine ab_norm ?_
        refine at_norm ?_
        refine awp_region ?_
        refine st_pop rfl rfl rfl rfl ?_
        refine st_pop rfl rfl rfl rfl ?_
        refine st_nil ?_
        refine at_norm ?_
        refine ⟨(k + 1, r2, ts2), ⟨by dsimp only; omega, by rw [ddk_yes hr hdif, List.map_append]; exact hown2⟩, wk_frl (wk_cons rfl (wk_cons rfl (wk_cons rfl (wk_cons rfl (wk_cons (wrap_succ (by omega)) wk_nil))))), ⟨_, rfl⟩, rfl, by dsimp only; omega⟩
    · try simp only [decide_eq_true_eq, decide_eq_false_iff_not, Bool.not_eq_true', Bool.not_eq_false', Int.not_lt, Int.not_le] at hb2
      have hdif : k = 0 ∨ rs[k - 1]? ≠ some r := .inl (by omega)
      refine aq_skip rfl rfl rfl ?_
      refine aq_skip rfl rfl rfl ?_
      refine aq_skip rfl rfl rfl ?_
      refine aq_skip rfl rfl rfl ?_
      refine aq_skip rfl rfl rfl ?_
      refine aq_skip rfl rfl rfl ?_
      refine aq_skip rfl rfl rfl ?_
      refine aq_pop rfl rfl rfl rfl ?_
      refine aq_nil ?_
      refine wp_t rfl ?_
      refine awp_region ?_
      refine st_popx (out) rfl rfl rfl rfl ?_
      refine st_pop rfl rfl rfl rfl ?_
      refine st_bslice (E := 44) [.tmp 34] rfl rfl rfl rfl rfl rfl rfl (by simp [ev, upd, AV.sto, cellsOf, AV.flat]; rfl) rfl fun tk => ?_
      refine st_append (xs := (ddk rs k).map Cel.av) (ys := [r.av]) rfl rfl rfl rfl rfl rfl rfl (own_more hown) (.inr ⟨some tk, rfl⟩) (by simp only [List.length_map, List.length_cons, List.length_nil]; show (_ + 1) * 40 ≤ _; omega) (by simp [maxLen]; omega) ?_
      rintro r2 ⟨bs2, ts2⟩ hown2 hb2 -
      have hb2 : bs2 = _ := hb2
      subst hb2
      refine st_popx (r2) rfl rfl rfl rfl ?_
      refine st_nil ?_
      refine ab_norm ?_
      refine at_norm ?_
      refine awp_region ?_
      refine st_pop rfl rfl rfl rfl ?_
      refine st_pop rfl rfl rfl rfl ?_
      refine st_nil ?_
      refine at_norm ?_
      refine ⟨(k + 1, r2, ts2), ⟨by dsimp only; omega, by rw [ddk_yes hr hdif, List.map_append]; exact hown2⟩, wk_frl (wk_cons rfl (wk_cons rfl (wk_cons rfl (wk_cons rfl (wk_cons (wrap_succ (by omega)) wk_nil))))), ⟨_, rfl⟩, rfl, by dsimp only; omega⟩
theorem of_c (ns : List Nod) (hns : ∀ n ∈ ns, n.fit) (hsz : ns.length ≤ maxI) (res : List Ref) (hO : rightE ns = true → ∀ H, ACalls tt 34 [.l none 38 ((refsK ns ns.length).map Ref.av), .fn 35 []] H (fun r H' => r = .l none 38 (res.map Ref.av) ∧ H' = H)) : ∀ H, ACalls tt 16 [.agg [.l none 50 (ns.map Nod.av)]] H (fun res_ H' => res_ = ofAV (rightE ns) res (tickK ns ns.length) ∧ H' = H) := by
  refine body_calcZ (T := tt) Try.func16 rfl Try.ntmps16 rfl rfl (exprAV_clean ns) (by cases hq : rightE ns <;> simp [ofAV, clean, cleanL, refs_clean, cleanLL]) ?_
  refine wp_reg ?_
  refine st_box rfl rfl rfl rfl rfl rfl rfl rfl rfl ?_
  refine st_pop rfl rfl rfl rfl ?_
  refine st_pop rfl rfl rfl rfl ?_
  refine st_nil ?_
  refine awp_seq ?_
  refine wp_reg ?_
  refine st_pop rfl rfl rfl rfl ?_
  refine st_calc (xs := [.tmp 8]) _ rfl rfl rfl rfl Try.func33 rfl rfl rfl (right_c ns hns hsz _) ?_
  refine st_pop rfl rfl rfl rfl ?_
  refine st_nil ?_
  refine wp_bit 10 rfl fun b hb1 => ?_
  cases b
  · try simp only [decide_eq_true_eq, decide_eq_false_iff_not, Bool.not_eq_true', Bool.not_eq_false', Int.not_lt, Int.not_le] at hb1
    have hr : rightE ns = true := by simpa using hb1
    refine wp_f rfl ?_
    refine awp_skip ?_
    refine at_norm ?_
    refine wp_reg ?_
    refine st_pop rfl rfl rfl rfl ?_
    refine st_nil ?_
    refine wp_reg ?_
    refine st_pop rfl rfl rfl rfl ?_
    refine st_nil ?_
    refine awp_seq ?_
    refine wp_reg ?_
    refine st_pop rfl rfl rfl rfl ?_
    refine st_pop rfl rfl rfl rfl ?_
    refine st_pop rfl rfl rfl rfl ?_
    refine st_val 13 (.i .i64 ((ns.length : Nat) : Int)) rfl (by simp) ?_
    refine st_pop rfl rfl rfl rfl ?_
    refine st_nil ?_
    refine awp_block ?_
    refine wp_loopD (α := Nat × AV × List Nat) (fun a => frl [(4, a.2.1), (5, .b (tickK ns a.1)), (12, .l none 50 (ns.map Nod.av)), (13, .i .i64 ((ns.length : Nat) : Int)), (14, .i .i64 ((a.1 : Nat) : Int))]) (fun a => ⟨[.cells [.l none 50 (ns.map Nod.av)]], a.2.2⟩) 1 (fun a => a.1 ≤ ns.length ∧ IsOwn ⟨[], a.2.2⟩ a.2.1 38 ((refsK ns a.1).map Ref.av)) (fun a => ns.length - a.1) (0, .nil, []) ⟨Nat.zero_le _, .inl ⟨rfl, rfl⟩⟩ (wk_frl (wk_cons rfl (wk_cons rfl (wk_cons rfl (wk_cons rfl (wk_cons rfl wk_nil)))))) rfl (fun a => rfl) (fun a ha => bb_frl (by simp [bbL, bb, nods_bb, own_bb ha.2 (refs_bb 1 _)])) (fun a _ => by simp [bbH, bbB, bbL, bb, nods_bb]) ?_
    rintro ⟨k, out, ts⟩ ⟨hk, hown⟩
    have hk : k ≤ ns.length := hk
    have hown : IsOwn ⟨[], ts⟩ out 38 ((refsK ns k).map Ref.av) := hown
    have hdl := refsK_len (ns := ns) k
    have hn64 : ns.length ≤ 64 := right_len hr
    dsimp only
    refine wp_reg ?_
    refine st_pop rfl rfl rfl rfl ?_
    refine st_nil ?_
    refine awp_seq ?_
    refine wp_bit 15 rfl fun b hb2 => ?_
    cases b
    · try simp only [decide_eq_true_eq, decide_eq_false_iff_not, Bool.not_eq_true', Bool.not_eq_false', Int.not_lt, Int.not_le] at hb2
      have hlast : k = ns.length := by omega
      refine wp_f rfl ?_
      refine awp_exit ?_
      refine at_exit ?_
      refine at_exit ?_
      refine ab_hit ?_
      refine at_norm ?_
      refine wp_reg ?_
      refine st_popx (out) rfl rfl rfl rfl ?_
      refine st_calc (xs := [.tmp 31, .func 35]) _ rfl rfl rfl rfl Try.func34 rfl rfl rfl (ACalls.args (hO hr _) (.cons (hlast ▸ own_wk hown) (.cons (.refl _) .nil))) ?_
      refine st_pop rfl rfl rfl rfl ?_
      refine st_pop rfl rfl rfl rfl ?_
      refine st_pop rfl rfl rfl rfl ?_
      refine st_nil ?_
      refine awp_ret ?_
      refine ret_ret rfl rfl ?_
      rw [hr, ← hlast]; exact .refl _
    · try simp only [decide_eq_true_eq, decide_eq_false_iff_not, Bool.not_eq_true', Bool.not_eq_false', Int.not_lt, Int.not_le] at hb2
      obtain ⟨nd, hnd⟩ : ∃ nd, ns[k]? = some nd := ⟨_, List.getElem?_eq_getElem (by omega)⟩
      refine wp_t rfl ?_
      refine awp_skip ?_
      refine at_norm ?_
      refine awp_seq ?_
      refine awp_block ?_
      refine wp_reg ?_
      refine st_idxA (n := k) nd.av rfl rfl rfl rfl rfl rfl rfl rfl (by simp [hnd]) ?_
      refine st_pop rfl rfl rfl rfl ?_
      refine st_alloc rfl rfl rfl rfl rfl rfl rfl ?_
      refine st_store rfl rfl rfl rfl rfl rfl rfl rfl rfl rfl rfl rfl rfl ?_
      refine st_nil ?_
      refine wp_reg ?_
      refine st_pop rfl rfl rfl rfl ?_
      refine st_pop rfl rfl rfl rfl ?_
      refine st_nil ?_
      refine awp_block ?_
      refine awp_seq ?_
      refine wp_reg ?_
      refine st_pop rfl rfl rfl rfl ?_
      refine st_pop rfl rfl rfl rfl ?_
      refine st_nil ?_
      refine wp_bit 20 rfl fun b hb3 => ?_
      cases b
      · try simp only [decide_eq_true_eq, decide_eq_false_iff_not, Bool.not_eq_true', Bool.not_eq_false', Int.not_lt, Int.not_le] at hb3
        refine wp_f rfl ?_
        refine awp_region ?_
        refine st_pop rfl rfl rfl rfl ?_
        refine st_pop rfl rfl rfl rfl ?_
        refine st_nil ?_
        refine at_norm ?_
        refine wp_bit 20 rfl fun b hb4 => ?_
        cases b
        · try simp only [decide_eq_true_eq, decide_eq_false_iff_not, Bool.not_eq_true', Bool.not_eq_false', Int.not_lt, Int.not_le] at hb4
          refine wp_f rfl ?_
          refine wp_reg ?_
          refine st_pop rfl rfl rfl rfl ?_
          refine st_pop rfl rfl rfl rfl ?_
          refine st_nil ?_
          refine wp_bit 28 rfl fun b hb5 => ?_
          cases b
          · try simp only [decide_eq_true_eq, decide_eq_false_iff_not, Bool.not_eq_true', Bool.not_eq_false', Int.not_lt, Int.not_le] at hb5
            refine wp_f rfl ?_
            refine awp_skip ?_
            refine ab_norm ?_
            refine ab_norm ?_
            refine at_norm ?_
            refine awp_region ?_
            refine st_pop rfl rfl rfl rfl ?_
            refine st_pop rfl rfl rfl rfl ?_
            refine st_nil ?_
            refine at_norm ?_
            refine ⟨(k + 1, out, ts), ⟨by dsimp only; omega, by rw [refsK_no hnd (by omega) (by omega)]; exact hown⟩, wk_frl (wk_cons rfl (wk_cons (bq (by rw [tickK_at hnd]; simp [*])) (wk_cons rfl (wk_cons rfl (wk_cons (wrap_succ (by omega)) wk_nil))))), ⟨_, rfl⟩, rfl, by dsimp only; omega⟩
          · try simp only [decide_eq_true_eq, decide_eq_false_iff_not, Bool.not_eq_true', Bool.not_eq_false', Int.not_lt, Int.not_le] at hb5
            refine wp_t rfl ?_
            refine awp_region ?_
            refine st_pop rfl rfl rfl rfl ?_
            refine st_nil ?_
            refine ab_norm ?_
            refine ab_norm ?_
            refine at_norm ?_
            refine awp_region ?_
            refine st_pop rfl rfl rfl rfl ?_
            refine st_pop rfl rfl rfl rfl ?_
            refine st_nil ?_
            refine at_norm ?_
            refine ⟨(k + 1, out, ts), ⟨by dsimp only; omega, by rw [refsK_no hnd (by omega) (by omega)]; exact hown⟩, wk_frl (wk_cons rfl (wk_cons (bq (by rw [tickK_at hnd]; simp [*])) (wk_cons rfl (wk_cons rfl (wk_cons (wrap_succ (by omega)) wk_nil))))), ⟨_, rfl⟩, rfl, by dsimp only; omega⟩
        · try simp only [decide_eq_true_eq, decide_eq_false_iff_not, Bool.not_eq_true', Bool.not_eq_false', Int.not_lt, Int.not_le] at hb4
          refine wp_t rfl ?_
          refine awp_region ?_
          refine st_popx (out) rfl rfl rfl rfl ?_
          refine st_pop rfl rfl rfl rfl ?_
          refine st_pop rfl rfl rfl rfl ?_
          refine st_bslice (E := 38) [.tmp 25] rfl rfl rfl rfl rfl rfl rfl (by simp [ev, upd, AV.sto, cellsOf, AV.flat]; rfl) rfl fun tk => ?_
          refine st_append (xs := (refsK ns k).map Ref.av) (ys := [nd.ref.av]) rfl rfl rfl rfl rfl rfl rfl (own_more hown) (.inr ⟨some tk, rfl⟩) (by simp only [List.length_map, List.length_cons, List.length_nil]; show (_ + 1) * 24 ≤ _; omega) (by simp [maxLen]; omega) ?_
          rintro r2 ⟨bs2, ts2⟩ hown2 hb2 -
          have hb2 : bs2 = _ := hb2
          subst hb2
          refine st_popx (r2) rfl rfl rfl rfl ?_
          refine st_nil ?_
          refine ab_norm ?_
          refine ab_norm ?_
          refine at_norm ?_
          refine awp_region ?_
          refine st_pop rfl rfl rfl rfl ?_
          refine st_pop rfl rfl rfl rfl ?_
          refine st_nil ?_
          refine at_norm ?_
          refine ⟨(k + 1, r2, ts2), ⟨by dsimp only; omega, by rw [refsK_yes hnd (by omega), List.map_append]; exact hown2⟩, wk_frl (wk_cons rfl (wk_cons (bq (by rw [tickK_at hnd]; simp [*])) (wk_cons rfl (wk_cons rfl (wk_cons (wrap_succ (by omega)) wk_nil))))), ⟨_, rfl⟩, rfl, by dsimp only; omega⟩
      · try simp only [decide_eq_true_eq, decide_eq_false_iff_not, Bool.not_eq_true', Bool.not_eq_false', Int.not_lt, Int.not_le] at hb3
        refine wp_t rfl ?_
        refine awp_skip ?_
        refine at_norm ?_
        refine wp_t rfl ?_
        refine awp_region ?_
        refine st_popx (out) rfl rfl rfl rfl ?_
        refine st_pop rfl rfl rfl rfl ?_
        refine st_pop rfl rfl rfl rfl ?_
        refine st_bslice (E := 38) [.tmp 25] rfl rfl rfl rfl rfl rfl rfl (by simp [ev, upd, AV.sto, cellsOf, AV.flat]; rfl) rfl fun tk => ?_
        refine st_append (xs := (refsK ns k).map Ref.av) (ys := [nd.ref.av]) rfl rfl rfl rfl rfl rfl rfl (own_more hown) (.inr ⟨some tk, rfl⟩) (by simp only [List.length_map, List.length_cons, List.length_nil]; show (_ + 1) * 24 ≤ _; omega) (by simp [maxLen]; omega) ?_
        rintro r2 ⟨bs2, ts2⟩ hown2 hb2 -
        have hb2 : bs2 = _ := hb2
        subst hb2
        refine st_popx (r2) rfl rfl rfl rfl ?_
        refine st_nil ?_
        refine ab_norm ?_
        refine ab_norm ?_
        refine at_norm ?_
        refine awp_region ?_
        refine st_pop rfl rfl rfl rfl ?_
        refine st_pop rfl rfl rfl rfl ?_
        refine st_nil ?_
        refine at_norm ?_
        refine ⟨(k + 1, r2, ts2), ⟨by dsimp only; omega, by rw [refsK_yes hnd (by omega), List.map_append]; exact hown2⟩, wk_frl (wk_cons rfl (wk_cons (bq (by rw [tickK_at hnd]; simp [*])) (wk_cons rfl (wk_cons rfl (wk_cons (wrap_succ (by omega)) wk_nil))))), ⟨_, rfl⟩, rfl, by dsimp only; omega⟩
  · try simp only [decide_eq_true_eq, decide_eq_false_iff_not, Bool.not_eq_true', Bool.not_eq_false', Int.not_lt, Int.not_le] at hb1
    have hr : rightE ns = false := by simpa using hb1
    refine wp_t rfl ?_
    refine wp_reg ?_
    refine st_pop rfl rfl rfl rfl ?_
    refine st_pop rfl rfl rfl rfl ?_
    refine st_nil ?_
    refine awp_ret ?_
    refine at_ret ?_
    refine ret_ret rfl rfl ?_
    rw [hr]; exact .tup (.cons (.nil _) (.cons (.refl _) .nil))
theorem cells_c (rs : List Ref) (hsz : rs.length ≤ 1000000000000) (s o : ByteArray) (res : List Cel) (hO : ∀ H, ACalls tt 40 [.l none 44 ((celsK rs s o rs.length).map Cel.av), .fn 41 []] H (fun r H' => r = .l none 44 (res.map Cel.av) ∧ H' = H)) : ∀ H, ACalls tt 20 [.l none 38 (rs.map Ref.av), .s s, .s o] H (fun res_ H' => res_ = .l none 44 (res.map Cel.av) ∧ H' = H) := by
  refine body_calcZ (T := tt) Try.func20 rfl Try.ntmps20 rfl rfl (by simp [cleanL, clean, refs_clean]) (by simp [clean, cels_clean]) ?_
  refine wp_reg ?_
  refine st_pop rfl rfl rfl rfl ?_
  refine st_nil ?_
  refine wp_reg ?_
  refine st_pop rfl rfl rfl rfl ?_
  refine st_nil ?_
  refine awp_seq ?_
  refine wp_reg ?_
  refine st_pop rfl rfl rfl rfl ?_
  refine st_pop rfl rfl rfl rfl ?_
  refine st_val 12 (.i .i64 ((rs.length : Nat) : Int)) rfl (by simp) ?_
  refine st_pop rfl rfl rfl rfl ?_
  refine st_nil ?_
  refine awp_block ?_
  refine wp_loopD (α := Nat × AV × List Nat) (fun a => frl [(1, .s s), (2, .s o), (7, a.2.1), (11, .l none 38 (rs.map Ref.av)), (12, .i .i64 ((rs.length : Nat) : Int)), (13, .i .i64 ((a.1 : Nat) : Int))]) (fun a => ⟨[], a.2.2⟩) 0 (fun a => a.1 ≤ rs.length ∧ IsOwn ⟨[], a.2.2⟩ a.2.1 44 ((celsK rs s o a.1).map Cel.av)) (fun a => rs.length - a.1) (0, .nil, []) ⟨Nat.zero_le _, .inl ⟨rfl, rfl⟩⟩ (wk_frl (wk_cons rfl (wk_cons rfl (wk_cons rfl (wk_cons rfl (wk_cons rfl (wk_cons rfl wk_nil))))))) rfl (fun a => rfl) (fun a ha => bb_frl (by simp [bbL, bb, refs_bb, own_bb ha.2 (cels_bb 0 _)])) (fun a _ => by simp [bbH]) ?_
  rintro ⟨k, out, ts⟩ ⟨hk, hown⟩
  have hk : k ≤ rs.length := hk
  have hown : IsOwn ⟨[], ts⟩ out 44 ((celsK rs s o k).map Cel.av) := hown
  have hdl := celsK_len (rs := rs) (s := s) (o := o) k
  dsimp only
  refine wp_reg ?_
  refine st_pop rfl rfl rfl rfl ?_
  refine st_nil ?_
  refine awp_seq ?_
  refine wp_bit 14 rfl fun b hb1 => ?_
  cases b
  · try simp only [decide_eq_true_eq, decide_eq_false_iff_not, Bool.not_eq_true', Bool.not_eq_false', Int.not_lt, Int.not_le] at hb1
    have hlast : k = rs.length := by omega
    refine wp_f rfl ?_
    refine awp_exit ?_
    refine at_exit ?_
    refine at_exit ?_
    refine ab_hit ?_
    refine at_norm ?_
    refine wp_reg ?_
    refine st_popx (out) rfl rfl rfl rfl ?_
    refine st_calc (xs := [.tmp 29, .func 41]) _ rfl rfl rfl rfl Try.func40 rfl rfl rfl (ACalls.args (hO _) (.cons (hlast ▸ own_wk hown) (.cons (.refl _) .nil))) ?_
    refine st_pop rfl rfl rfl rfl ?_
    refine st_nil ?_
    refine awp_ret ?_
    refine ret_ret rfl rfl ?_
    exact .refl _
  · try simp only [decide_eq_true_eq, decide_eq_false_iff_not, Bool.not_eq_true', Bool.not_eq_false', Int.not_lt, Int.not_le] at hb1
    obtain ⟨r, hr⟩ : ∃ r, rs[k]? = some r := ⟨_, List.getElem?_eq_getElem (by omega)⟩
    refine wp_t rfl ?_
    refine awp_skip ?_
    refine at_norm ?_
    refine awp_seq ?_
    refine awp_block ?_
    refine wp_reg ?_
    refine st_idxA (n := k) r.av rfl rfl rfl rfl rfl rfl rfl rfl (by simp [hr]) ?_
    refine st_pop rfl rfl rfl rfl ?_
    refine st_alloc rfl rfl rfl rfl rfl rfl rfl ?_
    refine st_store rfl rfl rfl rfl rfl rfl rfl rfl rfl rfl rfl rfl rfl ?_
    refine st_nil ?_
    refine wp_reg ?_
    refine st_pop rfl rfl rfl rfl ?_
    refine st_pop rfl rfl rfl rfl ?_
    refine st_pop rfl rfl rfl rfl ?_
    refine st_calc (xs := [.tmp 17, .tmp 18, .tmp 19]) _ rfl rfl rfl rfl Try.func23 rfl rfl rfl (at_c r s o _) ?_
    refine st_alloc rfl rfl rfl rfl rfl rfl rfl ?_
    refine st_store rfl rfl rfl rfl rfl rfl rfl rfl rfl rfl rfl rfl rfl ?_
    refine st_nil ?_
    refine wp_reg ?_
    refine st_pop rfl rfl rfl rfl ?_
    refine st_pop rfl rfl rfl rfl ?_
    refine st_pop rfl rfl rfl rfl ?_
    refine st_nil ?_
    refine wp_bit 23 rfl fun b hb2 => ?_
    cases b
    · try simp only [decide_eq_true_eq, decide_eq_false_iff_not, Bool.not_eq_true', Bool.not_eq_false', Int.not_lt, Int.not_le] at hb2
      refine wp_f rfl ?_
      refine awp_skip ?_
      refine ab_norm ?_
      refine at_norm ?_
      refine awp_region ?_
      refine st_pop rfl rfl rfl rfl ?_
      refine st_pop rfl rfl rfl rfl ?_
      refine st_nil ?_
      refine at_norm ?_
      refine ⟨(k + 1, out, ts), ⟨by dsimp only; omega, by rw [celsK_no hr (by omega)]; exact hown⟩, wk_frl (wk_cons rfl (wk_cons rfl (wk_cons rfl (wk_cons rfl (wk_cons rfl (wk_cons (wrap_succ (by omega)) wk_nil)))))), ⟨_, rfl⟩, rfl, by dsimp only; omega⟩
    · try simp only [decide_eq_true_eq, decide_eq_false_iff_not, Bool.not_eq_true', Bool.not_eq_false', Int.not_lt, Int.not_le] at hb2
      refine wp_t rfl ?_
      refine awp_region ?_
      refine st_popx (out) rfl rfl rfl rfl ?_
      refine st_pop rfl rfl rfl rfl ?_
      refine st_bslice (E := 44) [.tmp 25] rfl rfl rfl rfl rfl rfl rfl (by simp [ev, upd, AV.sto, cellsOf, AV.flat]; rfl) rfl fun tk => ?_
      refine st_append (xs := (celsK rs s o k).map Cel.av) (ys := [(atC r s o).av]) rfl rfl rfl rfl rfl rfl rfl (own_more hown) (.inr ⟨some tk, rfl⟩) (by simp only [List.length_map, List.length_cons, List.length_nil]; show (_ + 1) * 40 ≤ _; omega) (by simp [maxLen]; omega) ?_
      rintro r2 ⟨bs2, ts2⟩ hown2 hb2 -
      have hb2 : bs2 = _ := hb2
      subst hb2
      refine st_popx (r2) rfl rfl rfl rfl ?_
      refine st_nil ?_
      refine ab_norm ?_
      refine at_norm ?_
      refine awp_region ?_
      refine st_pop rfl rfl rfl rfl ?_
      refine st_pop rfl rfl rfl rfl ?_
      refine st_nil ?_
      refine at_norm ?_
      refine ⟨(k + 1, r2, ts2), ⟨by dsimp only; omega, by rw [celsK_yes hr (by omega), List.map_append]; exact hown2⟩, wk_frl (wk_cons rfl (wk_cons rfl (wk_cons rfl (wk_cons rfl (wk_cons rfl (wk_cons (wrap_succ (by omega)) wk_nil)))))), ⟨_, rfl⟩, rfl, by dsimp only; omega⟩
theorem of_now : ∀ H, ACalls tt 16 [.agg [.l none 50 [nowN.av]]] H (fun r H' => r = .tup [.l none 38 [], .b true] ∧ H' = H) := by
  have h := of_c [nowN] (fun n hn => by obtain rfl := List.mem_singleton.1 hn; exact nod0_fit _ rfl rfl (by decide)) (by decide) [] (fun _ => onceRef_tiny [] (by decide) _)
  rw [right_now] at h
  exact h
theorem of_load : ∀ H, ACalls tt 16 [.agg [.l none 50 [loadN.av]]] H (fun r H' => r = .tup [.l none 38 [loadR.av], .b false] ∧ H' = H) := by
  have h := of_c [loadN] (fun n hn => by obtain rfl := List.mem_singleton.1 hn; exact nod0_fit _ rfl rfl (by decide)) (by decide) [loadR] (fun _ => onceRef_tiny [loadR] (by decide) _)
  rw [right_load] at h
  exact h
theorem cells_load : ∀ H, ACalls tt 20 [.l none 38 [loadR.av], .s annB, .s fileB] H (fun r H' => r = .l none 44 [loadC.av] ∧ H' = H) := by
  have h := cells_c [loadR] (by decide) annB fileB [loadC] (by
    have h2 := onceCell_tiny [loadC] (by decide) 41
    rw [show celsK [loadR] annB fileB [loadR].length = [loadC] from cels_load]
    exact h2)
  exact h
theorem alive_c  : ∀ H, ACalls tt 18 [] H (fun res_ H' => res_ = .b true ∧ H' = H) := by
  refine body_calc (T := tt) Try.func18 rfl Try.ntmps18 rfl rfl (by rfl) (by rfl) ?_
  refine wp_reg ?_
  refine st_pop rfl rfl rfl rfl ?_
  refine st_nil ?_
  refine wp_reg ?_
  refine st_calc (xs := []) _ rfl rfl rfl rfl Try.func38 rfl rfl rfl (now_c _) ?_
  refine st_calc (xs := [.tmp 7]) _ rfl rfl rfl rfl Try.func16 rfl rfl rfl (of_now _) ?_
  refine st_pop rfl rfl rfl rfl ?_
  refine st_pop rfl rfl rfl rfl ?_
  refine st_pop rfl rfl rfl rfl ?_
  refine st_pop rfl rfl rfl rfl ?_
  refine st_pop rfl rfl rfl rfl ?_
  refine st_nil ?_
  refine wp_reg ?_
  refine st_calc (xs := []) _ rfl rfl rfl rfl Try.func39 rfl rfl rfl (load_c _) ?_
  refine st_pop rfl rfl rfl rfl ?_
  refine st_bslice (E := 50) [.tmp 13] rfl rfl rfl rfl rfl rfl rfl (by simp [ev, upd, AV.sto, cellsOf, AV.flat]; rfl) rfl fun tk => ?_
  refine st_pop rfl rfl rfl rfl ?_
  refine st_calc (xs := [.tmp 15]) _ rfl rfl rfl rfl Try.func16 rfl rfl rfl (ACalls.args (of_load _) (.cons (.agg (.cons (.l _ _ _) .nil)) .nil)) ?_
  refine st_pop rfl rfl rfl rfl ?_
  refine st_pop rfl rfl rfl rfl ?_
  refine st_pop rfl rfl rfl rfl ?_
  refine st_pop rfl rfl rfl rfl ?_
  refine st_pop rfl rfl rfl rfl ?_
  refine st_nil ?_
  refine wp_reg ?_
  refine st_pop rfl rfl rfl rfl ?_
  refine st_calc (xs := [.tmp 19, _, _]) _ rfl rfl rfl rfl Try.func20 rfl rfl rfl (cells_load _) ?_
  refine st_pop rfl rfl rfl rfl ?_
  refine st_nil ?_
  refine wp_regD (by kernel_rfl) ?_
  refine aq_pop rfl rfl rfl rfl ?_
  refine aq_pop rfl rfl rfl rfl ?_
  refine aq_pop rfl rfl rfl rfl ?_
  refine aq_pop rfl rfl rfl rfl ?_
  refine aq_bit 24 rfl fun b hb1 => ?_
  cases b
  · try simp only [decide_eq_true_eq, decide_eq_false_iff_not, Bool.not_eq_true', Bool.not_eq_false', Int.not_lt, Int.not_le] at hb1
    refine aq_skip rfl rfl rfl ?_
    refine aq_pop rfl rfl rfl rfl ?_
    refine aq_pop rfl rfl rfl rfl ?_
    refine aq_skip rfl rfl rfl ?_
    refine aq_skip rfl rfl rfl ?_
    refine aq_skip rfl rfl rfl ?_
    refine aq_pop rfl rfl rfl rfl ?_
    refine aq_pop rfl rfl rfl rfl ?_
    refine aq_skip rfl rfl rfl ?_
    refine aq_skip rfl rfl rfl ?_
    refine aq_skip rfl rfl rfl ?_
    refine aq_skip rfl rfl rfl ?_
    refine aq_skip rfl rfl rfl ?_
    refine aq_pop rfl rfl rfl rfl ?_
    refine aq_pop rfl rfl rfl rfl ?_
    refine aq_skip rfl rfl rfl ?_
    refine aq_skip rfl rfl rfl ?_
    refine aq_pop rfl rfl rfl rfl ?_
    refine aq_pop rfl rfl rfl rfl ?_
    refine aq_skip rfl rfl rfl ?_
    refine aq_skip rfl rfl rfl ?_
    refine aq_skip rfl rfl rfl ?_
    refine aq_pop rfl rfl rfl rfl ?_
    refine aq_pop rfl rfl rfl rfl ?_
    refine aq_skip rfl rfl rfl ?_
    refine aq_skip rfl rfl rfl ?_
    refine aq_skip rfl rfl rfl ?_
    refine aq_skip rfl rfl rfl ?_
    refine aq_skip rfl rfl rfl ?_
    refine aq_pop rfl rfl rfl rfl ?_
    refine aq_pop rfl rfl rfl rfl ?_
    refine aq_nil ?_
    refine awp_ret ?_
    refine ret_ret rfl rfl ?_
    first
      | exact .refl _
      | (refine wk_b ?_; simp_all; done)
      | (exfalso; simp_all; done)
      | (refine wk_b ?_; simp_all [loadR, loadC]; done)
  · try simp only [decide_eq_true_eq, decide_eq_false_iff_not, Bool.not_eq_true', Bool.not_eq_false', Int.not_lt, Int.not_le] at hb1
    refine aq_pop rfl rfl rfl rfl ?_
    refine aq_pop rfl rfl rfl rfl ?_
    refine aq_pop rfl rfl rfl rfl ?_
    refine aq_bit 27 rfl fun b hb2 => ?_
    cases b
    · try simp only [decide_eq_true_eq, decide_eq_false_iff_not, Bool.not_eq_true', Bool.not_eq_false', Int.not_lt, Int.not_le] at hb2
      refine aq_skip rfl rfl rfl ?_
      refine aq_skip rfl rfl rfl ?_
      refine aq_skip rfl rfl rfl ?_
      refine aq_pop rfl rfl rfl rfl ?_
      refine aq_pop rfl rfl rfl rfl ?_
      refine aq_skip rfl rfl rfl ?_
      refine aq_skip rfl rfl rfl ?_
      refine aq_skip rfl rfl rfl ?_
      refine aq_skip rfl rfl rfl ?_
      refine aq_skip rfl rfl rfl ?_
      refine aq_pop rfl rfl rfl rfl ?_
      refine aq_pop rfl rfl rfl rfl ?_
      refine aq_skip rfl rfl rfl ?_
      refine aq_skip rfl rfl rfl ?_
      refine aq_pop rfl rfl rfl rfl ?_
      refine aq_pop rfl rfl rfl rfl ?_
      refine aq_skip rfl rfl rfl ?_
      refine aq_skip rfl rfl rfl ?_
      refine aq_skip rfl rfl rfl ?_
      refine aq_pop rfl rfl rfl rfl ?_
      refine aq_pop rfl rfl rfl rfl ?_
      refine aq_skip rfl rfl rfl ?_
      refine aq_skip rfl rfl rfl ?_
      refine aq_skip rfl rfl rfl ?_
      refine aq_skip rfl rfl rfl ?_
      refine aq_skip rfl rfl rfl ?_
      refine aq_pop rfl rfl rfl rfl ?_
      refine aq_pop rfl rfl rfl rfl ?_
      refine aq_nil ?_
      refine awp_ret ?_
      refine ret_ret rfl rfl ?_
      first
        | exact .refl _
        | (refine wk_b ?_; simp_all; done)
        | (exfalso; simp_all; done)
        | (refine wk_b ?_; simp_all [loadR, loadC]; done)
    · try simp only [decide_eq_true_eq, decide_eq_false_iff_not, Bool.not_eq_true', Bool.not_eq_false', Int.not_lt, Int.not_le] at hb2
      refine aq_pop rfl rfl rfl rfl ?_
      refine aq_pop rfl rfl rfl rfl ?_
      refine aq_pop rfl rfl rfl rfl ?_
      refine aq_pop rfl rfl rfl rfl ?_
      refine aq_pop rfl rfl rfl rfl ?_
      refine aq_bit 32 rfl fun b hb3 => ?_
      cases b
      · try simp only [decide_eq_true_eq, decide_eq_false_iff_not, Bool.not_eq_true', Bool.not_eq_false', Int.not_lt, Int.not_le] at hb3
        refine aq_skip rfl rfl rfl ?_
        refine aq_skip rfl rfl rfl ?_
        refine aq_skip rfl rfl rfl ?_
        refine aq_skip rfl rfl rfl ?_
        refine aq_skip rfl rfl rfl ?_
        refine aq_pop rfl rfl rfl rfl ?_
        refine aq_pop rfl rfl rfl rfl ?_
        refine aq_skip rfl rfl rfl ?_
        refine aq_skip rfl rfl rfl ?_
        refine aq_pop rfl rfl rfl rfl ?_
        refine aq_pop rfl rfl rfl rfl ?_
        refine aq_skip rfl rfl rfl ?_
        refine aq_skip rfl rfl rfl ?_
        refine aq_skip rfl rfl rfl ?_
        refine aq_pop rfl rfl rfl rfl ?_
        refine aq_pop rfl rfl rfl rfl ?_
        refine aq_skip rfl rfl rfl ?_
        refine aq_skip rfl rfl rfl ?_
        refine aq_skip rfl rfl rfl ?_
        refine aq_skip rfl rfl rfl ?_
        refine aq_skip rfl rfl rfl ?_
        refine aq_pop rfl rfl rfl rfl ?_
        refine aq_pop rfl rfl rfl rfl ?_
        refine aq_nil ?_
        refine awp_ret ?_
        refine ret_ret rfl rfl ?_
        first
          | exact .refl _
          | (refine wk_b ?_; simp_all; done)
          | (exfalso; simp_all; done)
          | (refine wk_b ?_; simp_all [loadR, loadC]; done)
      · try simp only [decide_eq_true_eq, decide_eq_false_iff_not, Bool.not_eq_true', Bool.not_eq_false', Int.not_lt, Int.not_le] at hb3
        refine aq_pop rfl rfl rfl rfl ?_
        refine aq_idxA (n := 0) loadR.av rfl rfl rfl rfl rfl rfl rfl rfl rfl ?_
        refine aq_pop rfl rfl rfl rfl ?_
        refine aq_calc (xs := []) _ rfl rfl rfl rfl Try.func39 rfl rfl rfl (load_c _) rfl rfl ?_
        refine aq_pop rfl rfl rfl rfl ?_
        refine aq_pop rfl rfl rfl rfl ?_
        refine aq_pop rfl rfl rfl rfl ?_
        refine aq_bit 39 rfl fun b hb4 => ?_
        cases b
        · try simp only [decide_eq_true_eq, decide_eq_false_iff_not, Bool.not_eq_true', Bool.not_eq_false', Int.not_lt, Int.not_le] at hb4
          refine aq_skip rfl rfl rfl ?_
          refine aq_skip rfl rfl rfl ?_
          refine aq_pop rfl rfl rfl rfl ?_
          refine aq_pop rfl rfl rfl rfl ?_
          refine aq_skip rfl rfl rfl ?_
          refine aq_skip rfl rfl rfl ?_
          refine aq_skip rfl rfl rfl ?_
          refine aq_pop rfl rfl rfl rfl ?_
          refine aq_pop rfl rfl rfl rfl ?_
          refine aq_skip rfl rfl rfl ?_
          refine aq_skip rfl rfl rfl ?_
          refine aq_skip rfl rfl rfl ?_
          refine aq_skip rfl rfl rfl ?_
          refine aq_skip rfl rfl rfl ?_
          refine aq_pop rfl rfl rfl rfl ?_
          refine aq_pop rfl rfl rfl rfl ?_
          refine aq_nil ?_
          refine awp_ret ?_
          refine ret_ret rfl rfl ?_
          first
            | exact .refl _
            | (refine wk_b ?_; simp_all; done)
            | (exfalso; simp_all; done)
            | (refine wk_b ?_; simp_all [loadR, loadC]; done)
        · try simp only [decide_eq_true_eq, decide_eq_false_iff_not, Bool.not_eq_true', Bool.not_eq_false', Int.not_lt, Int.not_le] at hb4
          refine aq_pop rfl rfl rfl rfl ?_
          refine aq_pop rfl rfl rfl rfl ?_
          refine aq_pop rfl rfl rfl rfl ?_
          refine aq_pop rfl rfl rfl rfl ?_
          refine aq_bit 43 rfl fun b hb5 => ?_
          cases b
          · try simp only [decide_eq_true_eq, decide_eq_false_iff_not, Bool.not_eq_true', Bool.not_eq_false', Int.not_lt, Int.not_le] at hb5
            refine aq_skip rfl rfl rfl ?_
            refine aq_skip rfl rfl rfl ?_
            refine aq_skip rfl rfl rfl ?_
            refine aq_pop rfl rfl rfl rfl ?_
            refine aq_pop rfl rfl rfl rfl ?_
            refine aq_skip rfl rfl rfl ?_
            refine aq_skip rfl rfl rfl ?_
            refine aq_skip rfl rfl rfl ?_
            refine aq_skip rfl rfl rfl ?_
            refine aq_skip rfl rfl rfl ?_
            refine aq_pop rfl rfl rfl rfl ?_
            refine aq_pop rfl rfl rfl rfl ?_
            refine aq_nil ?_
            refine awp_ret ?_
            refine ret_ret rfl rfl ?_
            first
              | exact .refl _
              | (refine wk_b ?_; simp_all; done)
              | (exfalso; simp_all; done)
              | (refine wk_b ?_; simp_all [loadR, loadC]; done)
          · try simp only [decide_eq_true_eq, decide_eq_false_iff_not, Bool.not_eq_true', Bool.not_eq_false', Int.not_lt, Int.not_le] at hb5
            refine aq_pop rfl rfl rfl rfl ?_
            refine aq_pop rfl rfl rfl rfl ?_
            refine aq_pop rfl rfl rfl rfl ?_
            refine aq_pop rfl rfl rfl rfl ?_
            refine aq_pop rfl rfl rfl rfl ?_
            refine aq_bit 48 rfl fun b hb6 => ?_
            cases b
            · try simp only [decide_eq_true_eq, decide_eq_false_iff_not, Bool.not_eq_true', Bool.not_eq_false', Int.not_lt, Int.not_le] at hb6
              refine aq_skip rfl rfl rfl ?_
              refine aq_skip rfl rfl rfl ?_
              refine aq_skip rfl rfl rfl ?_
              refine aq_skip rfl rfl rfl ?_
              refine aq_skip rfl rfl rfl ?_
              refine aq_pop rfl rfl rfl rfl ?_
              refine aq_pop rfl rfl rfl rfl ?_
              refine aq_nil ?_
              refine awp_ret ?_
              refine ret_ret rfl rfl ?_
              first
                | exact .refl _
                | (refine wk_b ?_; simp_all; done)
                | (exfalso; simp_all; done)
                | (refine wk_b ?_; simp_all [loadR, loadC]; done)
            · try simp only [decide_eq_true_eq, decide_eq_false_iff_not, Bool.not_eq_true', Bool.not_eq_false', Int.not_lt, Int.not_le] at hb6
              refine aq_pop rfl rfl rfl rfl ?_
              refine aq_idxA (n := 0) loadC.av rfl rfl rfl rfl rfl rfl rfl rfl rfl ?_
              refine aq_pop rfl rfl rfl rfl ?_
              refine aq_pop rfl rfl rfl rfl ?_
              refine aq_pop rfl rfl rfl rfl ?_
              refine aq_pop rfl rfl rfl rfl ?_
              refine aq_pop rfl rfl rfl rfl ?_
              refine aq_nil ?_
              refine awp_ret ?_
              refine ret_ret rfl rfl ?_
              first
                | exact .refl _
                | (refine wk_b ?_; simp_all; done)
                | (exfalso; simp_all; done)
                | (refine wk_b ?_; simp_all [loadR, loadC]; done)
theorem readsUnlike_c (a b : Ref) (n1 n2 : ByteArray) : ∀ H, ACalls tt 7 [.agg a.av, .agg b.av, .agg [.s n1, .s n2]] H (fun res_ H' => res_ = .b true ∧ H' = H) := by
  refine body_calc (T := tt) Try.func7 rfl Try.ntmps7 rfl rfl (by rfl) (by rfl) ?_
  refine wp_reg ?_
  refine st_box rfl rfl rfl rfl rfl rfl rfl rfl rfl ?_
  refine st_box rfl rfl rfl rfl rfl rfl rfl rfl rfl ?_
  refine st_box rfl rfl rfl rfl rfl rfl rfl rfl rfl ?_
  refine st_pop rfl rfl rfl rfl ?_
  refine st_nil ?_
  refine wp_regD (by kernel_rfl) ?_
  refine aq_pop rfl rfl rfl rfl ?_
  refine aq_pop rfl rfl rfl rfl ?_
  refine aq_pop rfl rfl rfl rfl ?_
  refine aq_pop rfl rfl rfl rfl ?_
  refine aq_pop rfl rfl rfl rfl ?_
  refine aq_pop rfl rfl rfl rfl ?_
  refine aq_nil ?_
  refine awp_seq ?_
  refine wp_reg ?_
  refine st_calc (xs := []) _ rfl rfl rfl rfl Try.func18 rfl rfl rfl (alive_c _) ?_
  refine st_pop rfl rfl rfl rfl ?_
  refine st_nil ?_
  refine wp_bit 19 rfl fun b hb1 => ?_
  cases b
  · try simp only [decide_eq_true_eq, decide_eq_false_iff_not, Bool.not_eq_true', Bool.not_eq_false', Int.not_lt, Int.not_le] at hb1
    refine wp_f rfl ?_
    refine awp_skip ?_
    refine at_norm ?_
    refine wp_reg ?_
    refine st_pop rfl rfl rfl rfl ?_
    refine st_pop rfl rfl rfl rfl ?_
    refine st_pop rfl rfl rfl rfl ?_
    refine st_calc (xs := [.tmp 20, .tmp 21, .tmp 22]) _ rfl rfl rfl rfl Try.func23 rfl rfl rfl (at_c a n1 n2 _) ?_
    refine st_alloc rfl rfl rfl rfl rfl rfl rfl ?_
    refine st_store rfl rfl rfl rfl rfl rfl rfl rfl rfl rfl rfl rfl rfl ?_
    refine st_nil ?_
    refine wp_reg ?_
    refine st_pop rfl rfl rfl rfl ?_
    refine st_pop rfl rfl rfl rfl ?_
    refine st_pop rfl rfl rfl rfl ?_
    refine st_calc (xs := [.tmp 24, .tmp 25, .tmp 26]) _ rfl rfl rfl rfl Try.func23 rfl rfl rfl (at_c b n1 n2 _) ?_
    refine st_alloc rfl rfl rfl rfl rfl rfl rfl ?_
    refine st_store rfl rfl rfl rfl rfl rfl rfl rfl rfl rfl rfl rfl rfl ?_
    refine st_nil ?_
    refine wp_reg ?_
    refine st_pop rfl rfl rfl rfl ?_
    refine st_pop rfl rfl rfl rfl ?_
    refine st_pop rfl rfl rfl rfl ?_
    refine st_pop rfl rfl rfl rfl ?_
    refine st_bit 31 rfl fun b hb2 => ?_
    cases b
    · try simp only [decide_eq_true_eq, decide_eq_false_iff_not, Bool.not_eq_true', Bool.not_eq_false', Int.not_lt, Int.not_le] at hb2
      refine st_skip rfl rfl rfl ?_
      refine st_skip rfl rfl rfl ?_
      refine st_skip rfl rfl rfl ?_
      refine st_pop rfl rfl rfl rfl ?_
      refine st_pop rfl rfl rfl rfl ?_
      refine st_nil ?_
      refine wp_reg ?_
      refine st_pop rfl rfl rfl rfl ?_
      refine st_pop rfl rfl rfl rfl ?_
      refine st_pop rfl rfl rfl rfl ?_
      refine st_pop rfl rfl rfl rfl ?_
      refine st_bit 39 rfl fun b hb3 => ?_
      cases b
      · try simp only [decide_eq_true_eq, decide_eq_false_iff_not, Bool.not_eq_true', Bool.not_eq_false', Int.not_lt, Int.not_le] at hb3
        refine st_skip rfl rfl rfl ?_
        refine st_skip rfl rfl rfl ?_
        refine st_skip rfl rfl rfl ?_
        refine st_pop rfl rfl rfl rfl ?_
        refine st_pop rfl rfl rfl rfl ?_
        refine st_nil ?_
        refine awp_seq ?_
        refine wp_regD (by kernel_rfl) ?_
        refine aq_pop rfl rfl rfl rfl ?_
        refine aq_pop rfl rfl rfl rfl ?_
        refine aq_skip rfl rfl rfl ?_
        refine aq_pop rfl rfl rfl rfl ?_
        refine aq_pop rfl rfl rfl rfl ?_
        refine aq_skip rfl rfl rfl ?_
        refine aq_skip rfl rfl rfl ?_
        refine aq_skip rfl rfl rfl ?_
        refine aq_skip rfl rfl rfl ?_
        refine aq_skip rfl rfl rfl ?_
        refine aq_skip rfl rfl rfl ?_
        refine aq_skip rfl rfl rfl ?_
        refine aq_pop rfl rfl rfl rfl ?_
        refine aq_nil ?_
        refine wp_f rfl ?_
        refine awp_skip ?_
        refine at_norm ?_
        refine wp_reg ?_
        refine st_pop rfl rfl rfl rfl ?_
        refine st_pop rfl rfl rfl rfl ?_
        refine st_pop rfl rfl rfl rfl ?_
        refine st_calc (xs := [.tmp 57, .tmp 58, .tmp 59]) _ rfl rfl rfl rfl Try.func23 rfl rfl rfl (at_c a n2 n1 _) ?_
        refine st_alloc rfl rfl rfl rfl rfl rfl rfl ?_
        refine st_store rfl rfl rfl rfl rfl rfl rfl rfl rfl rfl rfl rfl rfl ?_
        refine st_nil ?_
        refine wp_reg ?_
        refine st_pop rfl rfl rfl rfl ?_
        refine st_pop rfl rfl rfl rfl ?_
        refine st_pop rfl rfl rfl rfl ?_
        refine st_pop rfl rfl rfl rfl ?_
        refine st_pop rfl rfl rfl rfl ?_
        refine st_pop rfl rfl rfl rfl ?_
        refine st_bit 66 rfl fun b hb4 => ?_
        cases b
        · try simp only [decide_eq_true_eq, decide_eq_false_iff_not, Bool.not_eq_true', Bool.not_eq_false', Int.not_lt, Int.not_le] at hb4
          refine st_skip rfl rfl rfl ?_
          refine st_skip rfl rfl rfl ?_
          refine st_skip rfl rfl rfl ?_
          refine st_skip rfl rfl rfl ?_
          refine st_skip rfl rfl rfl ?_
          refine st_skip rfl rfl rfl ?_
          refine st_skip rfl rfl rfl ?_
          refine st_skip rfl rfl rfl ?_
          refine st_pop rfl rfl rfl rfl ?_
          refine st_pop rfl rfl rfl rfl ?_
          refine st_skip rfl rfl rfl ?_
          refine st_skip rfl rfl rfl ?_
          refine st_skip rfl rfl rfl ?_
          refine st_skip rfl rfl rfl ?_
          refine st_skip rfl rfl rfl ?_
          refine st_skip rfl rfl rfl ?_
          refine st_skip rfl rfl rfl ?_
          refine st_skip rfl rfl rfl ?_
          refine st_skip rfl rfl rfl ?_
          refine st_pop rfl rfl rfl rfl ?_
          refine st_pop rfl rfl rfl rfl ?_
          refine st_nil ?_
          refine awp_ret ?_
          refine ret_ret rfl rfl ?_
          refine wk_b ?_
          have la := atC_facts a n1 n2
          have lb := atC_facts b n1 n2
          have lc := atC_facts a n2 n1
          grind
        · try simp only [decide_eq_true_eq, decide_eq_false_iff_not, Bool.not_eq_true', Bool.not_eq_false', Int.not_lt, Int.not_le] at hb4
          refine st_pop rfl rfl rfl rfl ?_
          refine st_pop rfl rfl rfl rfl ?_
          refine st_pop rfl rfl rfl rfl ?_
          refine st_pop rfl rfl rfl rfl ?_
          refine st_bit 70 rfl fun b hb5 => ?_
          cases b
          · try simp only [decide_eq_true_eq, decide_eq_false_iff_not, Bool.not_eq_true', Bool.not_eq_false', Int.not_lt, Int.not_le] at hb5
            refine st_pop rfl rfl rfl rfl ?_
            refine st_pop rfl rfl rfl rfl ?_
            refine st_pop rfl rfl rfl rfl ?_
            refine st_pop rfl rfl rfl rfl ?_
            refine st_pop rfl rfl rfl rfl ?_
            refine st_pop rfl rfl rfl rfl ?_
            refine st_bit 76 rfl fun b hb6 => ?_
            cases b
            · try simp only [decide_eq_true_eq, decide_eq_false_iff_not, Bool.not_eq_true', Bool.not_eq_false', Int.not_lt, Int.not_le] at hb6
              refine st_skip rfl rfl rfl ?_
              refine st_skip rfl rfl rfl ?_
              refine st_skip rfl rfl rfl ?_
              refine st_skip rfl rfl rfl ?_
              refine st_skip rfl rfl rfl ?_
              refine st_skip rfl rfl rfl ?_
              refine st_skip rfl rfl rfl ?_
              refine st_skip rfl rfl rfl ?_
              refine st_skip rfl rfl rfl ?_
              refine st_pop rfl rfl rfl rfl ?_
              refine st_pop rfl rfl rfl rfl ?_
              refine st_nil ?_
              refine awp_ret ?_
              refine ret_ret rfl rfl ?_
              refine wk_b ?_
              have la := atC_facts a n1 n2
              have lb := atC_facts b n1 n2
              have lc := atC_facts a n2 n1
              grind
            · try simp only [decide_eq_true_eq, decide_eq_false_iff_not, Bool.not_eq_true', Bool.not_eq_false', Int.not_lt, Int.not_le] at hb6
              refine st_pop rfl rfl rfl rfl ?_
              refine st_pop rfl rfl rfl rfl ?_
              refine st_pop rfl rfl rfl rfl ?_
              refine st_skip rfl rfl rfl ?_
              refine st_skip rfl rfl rfl ?_
              refine st_skip rfl rfl rfl ?_
              refine st_skip rfl rfl rfl ?_
              refine st_skip rfl rfl rfl ?_
              refine st_pop rfl rfl rfl rfl ?_
              refine st_pop rfl rfl rfl rfl ?_
              refine st_pop rfl rfl rfl rfl ?_
              refine st_nil ?_
              refine awp_ret ?_
              refine ret_ret rfl rfl ?_
              refine wk_b ?_
              have la := atC_facts a n1 n2
              have lb := atC_facts b n1 n2
              have lc := atC_facts a n2 n1
              grind
          · try simp only [decide_eq_true_eq, decide_eq_false_iff_not, Bool.not_eq_true', Bool.not_eq_false', Int.not_lt, Int.not_le] at hb5
            refine st_skip rfl rfl rfl ?_
            refine st_skip rfl rfl rfl ?_
            refine st_skip rfl rfl rfl ?_
            refine st_pop rfl rfl rfl rfl ?_
            refine st_pop rfl rfl rfl rfl ?_
            refine st_pop rfl rfl rfl rfl ?_
            refine st_pop rfl rfl rfl rfl ?_
            refine st_pop rfl rfl rfl rfl ?_
            refine st_pop rfl rfl rfl rfl ?_
            refine st_skip rfl rfl rfl ?_
            refine st_skip rfl rfl rfl ?_
            refine st_skip rfl rfl rfl ?_
            refine st_skip rfl rfl rfl ?_
            refine st_skip rfl rfl rfl ?_
            refine st_pop rfl rfl rfl rfl ?_
            refine st_pop rfl rfl rfl rfl ?_
            refine st_pop rfl rfl rfl rfl ?_
            refine st_nil ?_
            refine awp_ret ?_
            refine ret_ret rfl rfl ?_
            refine wk_b ?_
            have la := atC_facts a n1 n2
            have lb := atC_facts b n1 n2
            have lc := atC_facts a n2 n1
            grind
      · try simp only [decide_eq_true_eq, decide_eq_false_iff_not, Bool.not_eq_true', Bool.not_eq_false', Int.not_lt, Int.not_le] at hb3
        refine st_pop rfl rfl rfl rfl ?_
        refine st_pop rfl rfl rfl rfl ?_
        refine st_pop rfl rfl rfl rfl ?_
        refine st_pop rfl rfl rfl rfl ?_
        refine st_pop rfl rfl rfl rfl ?_
        refine st_nil ?_
        refine awp_seq ?_
        refine wp_regD (by kernel_rfl) ?_
        refine aq_pop rfl rfl rfl rfl ?_
        refine aq_pop rfl rfl rfl rfl ?_
        refine aq_skip rfl rfl rfl ?_
        refine aq_pop rfl rfl rfl rfl ?_
        refine aq_pop rfl rfl rfl rfl ?_
        refine aq_skip rfl rfl rfl ?_
        refine aq_skip rfl rfl rfl ?_
        refine aq_skip rfl rfl rfl ?_
        refine aq_skip rfl rfl rfl ?_
        refine aq_skip rfl rfl rfl ?_
        refine aq_skip rfl rfl rfl ?_
        refine aq_skip rfl rfl rfl ?_
        refine aq_pop rfl rfl rfl rfl ?_
        refine aq_nil ?_
        refine wp_f rfl ?_
        refine awp_skip ?_
        refine at_norm ?_
        refine wp_reg ?_
        refine st_pop rfl rfl rfl rfl ?_
        refine st_pop rfl rfl rfl rfl ?_
        refine st_pop rfl rfl rfl rfl ?_
        refine st_calc (xs := [.tmp 57, .tmp 58, .tmp 59]) _ rfl rfl rfl rfl Try.func23 rfl rfl rfl (at_c a n2 n1 _) ?_
        refine st_alloc rfl rfl rfl rfl rfl rfl rfl ?_
        refine st_store rfl rfl rfl rfl rfl rfl rfl rfl rfl rfl rfl rfl rfl ?_
        refine st_nil ?_
        refine wp_reg ?_
        refine st_pop rfl rfl rfl rfl ?_
        refine st_pop rfl rfl rfl rfl ?_
        refine st_pop rfl rfl rfl rfl ?_
        refine st_pop rfl rfl rfl rfl ?_
        refine st_pop rfl rfl rfl rfl ?_
        refine st_pop rfl rfl rfl rfl ?_
        refine st_bit 66 rfl fun b hb7 => ?_
        cases b
        · try simp only [decide_eq_true_eq, decide_eq_false_iff_not, Bool.not_eq_true', Bool.not_eq_false', Int.not_lt, Int.not_le] at hb7
          refine st_skip rfl rfl rfl ?_
          refine st_skip rfl rfl rfl ?_
          refine st_skip rfl rfl rfl ?_
          refine st_skip rfl rfl rfl ?_
          refine st_skip rfl rfl rfl ?_
          refine st_skip rfl rfl rfl ?_
          refine st_skip rfl rfl rfl ?_
          refine st_skip rfl rfl rfl ?_
          refine st_pop rfl rfl rfl rfl ?_
          refine st_pop rfl rfl rfl rfl ?_
          refine st_skip rfl rfl rfl ?_
          refine st_skip rfl rfl rfl ?_
          refine st_skip rfl rfl rfl ?_
          refine st_skip rfl rfl rfl ?_
          refine st_skip rfl rfl rfl ?_
          refine st_skip rfl rfl rfl ?_
          refine st_skip rfl rfl rfl ?_
          refine st_skip rfl rfl rfl ?_
          refine st_skip rfl rfl rfl ?_
          refine st_pop rfl rfl rfl rfl ?_
          refine st_pop rfl rfl rfl rfl ?_
          refine st_nil ?_
          refine awp_ret ?_
          refine ret_ret rfl rfl ?_
          refine wk_b ?_
          have la := atC_facts a n1 n2
          have lb := atC_facts b n1 n2
          have lc := atC_facts a n2 n1
          grind
        · try simp only [decide_eq_true_eq, decide_eq_false_iff_not, Bool.not_eq_true', Bool.not_eq_false', Int.not_lt, Int.not_le] at hb7
          refine st_pop rfl rfl rfl rfl ?_
          refine st_pop rfl rfl rfl rfl ?_
          refine st_pop rfl rfl rfl rfl ?_
          refine st_pop rfl rfl rfl rfl ?_
          refine st_bit 70 rfl fun b hb8 => ?_
          cases b
          · try simp only [decide_eq_true_eq, decide_eq_false_iff_not, Bool.not_eq_true', Bool.not_eq_false', Int.not_lt, Int.not_le] at hb8
            refine st_pop rfl rfl rfl rfl ?_
            refine st_pop rfl rfl rfl rfl ?_
            refine st_pop rfl rfl rfl rfl ?_
            refine st_pop rfl rfl rfl rfl ?_
            refine st_pop rfl rfl rfl rfl ?_
            refine st_pop rfl rfl rfl rfl ?_
            refine st_bit 76 rfl fun b hb9 => ?_
            cases b
            · try simp only [decide_eq_true_eq, decide_eq_false_iff_not, Bool.not_eq_true', Bool.not_eq_false', Int.not_lt, Int.not_le] at hb9
              refine st_skip rfl rfl rfl ?_
              refine st_skip rfl rfl rfl ?_
              refine st_skip rfl rfl rfl ?_
              refine st_skip rfl rfl rfl ?_
              refine st_skip rfl rfl rfl ?_
              refine st_skip rfl rfl rfl ?_
              refine st_skip rfl rfl rfl ?_
              refine st_skip rfl rfl rfl ?_
              refine st_skip rfl rfl rfl ?_
              refine st_pop rfl rfl rfl rfl ?_
              refine st_pop rfl rfl rfl rfl ?_
              refine st_nil ?_
              refine awp_ret ?_
              refine ret_ret rfl rfl ?_
              refine wk_b ?_
              have la := atC_facts a n1 n2
              have lb := atC_facts b n1 n2
              have lc := atC_facts a n2 n1
              grind
            · try simp only [decide_eq_true_eq, decide_eq_false_iff_not, Bool.not_eq_true', Bool.not_eq_false', Int.not_lt, Int.not_le] at hb9
              refine st_pop rfl rfl rfl rfl ?_
              refine st_pop rfl rfl rfl rfl ?_
              refine st_pop rfl rfl rfl rfl ?_
              refine st_skip rfl rfl rfl ?_
              refine st_skip rfl rfl rfl ?_
              refine st_skip rfl rfl rfl ?_
              refine st_skip rfl rfl rfl ?_
              refine st_skip rfl rfl rfl ?_
              refine st_pop rfl rfl rfl rfl ?_
              refine st_pop rfl rfl rfl rfl ?_
              refine st_pop rfl rfl rfl rfl ?_
              refine st_nil ?_
              refine awp_ret ?_
              refine ret_ret rfl rfl ?_
              refine wk_b ?_
              have la := atC_facts a n1 n2
              have lb := atC_facts b n1 n2
              have lc := atC_facts a n2 n1
              grind
          · try simp only [decide_eq_true_eq, decide_eq_false_iff_not, Bool.not_eq_true', Bool.not_eq_false', Int.not_lt, Int.not_le] at hb8
            refine st_skip rfl rfl rfl ?_
            refine st_skip rfl rfl rfl ?_
            refine st_skip rfl rfl rfl ?_
            refine st_pop rfl rfl rfl rfl ?_
            refine st_pop rfl rfl rfl rfl ?_
            refine st_pop rfl rfl rfl rfl ?_
            refine st_pop rfl rfl rfl rfl ?_
            refine st_pop rfl rfl rfl rfl ?_
            refine st_pop rfl rfl rfl rfl ?_
            refine st_skip rfl rfl rfl ?_
            refine st_skip rfl rfl rfl ?_
            refine st_skip rfl rfl rfl ?_
            refine st_skip rfl rfl rfl ?_
            refine st_skip rfl rfl rfl ?_
            refine st_pop rfl rfl rfl rfl ?_
            refine st_pop rfl rfl rfl rfl ?_
            refine st_pop rfl rfl rfl rfl ?_
            refine st_nil ?_
            refine awp_ret ?_
            refine ret_ret rfl rfl ?_
            refine wk_b ?_
            have la := atC_facts a n1 n2
            have lb := atC_facts b n1 n2
            have lc := atC_facts a n2 n1
            grind
    · try simp only [decide_eq_true_eq, decide_eq_false_iff_not, Bool.not_eq_true', Bool.not_eq_false', Int.not_lt, Int.not_le] at hb2
      refine st_pop rfl rfl rfl rfl ?_
      refine st_pop rfl rfl rfl rfl ?_
      refine st_pop rfl rfl rfl rfl ?_
      refine st_pop rfl rfl rfl rfl ?_
      refine st_pop rfl rfl rfl rfl ?_
      refine st_nil ?_
      refine wp_reg ?_
      refine st_pop rfl rfl rfl rfl ?_
      refine st_pop rfl rfl rfl rfl ?_
      refine st_pop rfl rfl rfl rfl ?_
      refine st_pop rfl rfl rfl rfl ?_
      refine st_bit 39 rfl fun b hb10 => ?_
      cases b
      · try simp only [decide_eq_true_eq, decide_eq_false_iff_not, Bool.not_eq_true', Bool.not_eq_false', Int.not_lt, Int.not_le] at hb10
        refine st_skip rfl rfl rfl ?_
        refine st_skip rfl rfl rfl ?_
        refine st_skip rfl rfl rfl ?_
        refine st_pop rfl rfl rfl rfl ?_
        refine st_pop rfl rfl rfl rfl ?_
        refine st_nil ?_
        refine awp_seq ?_
        refine wp_regD (by kernel_rfl) ?_
        refine aq_pop rfl rfl rfl rfl ?_
        refine aq_pop rfl rfl rfl rfl ?_
        refine aq_bit 45 rfl fun b hb11 => ?_
        cases b
        · try simp only [decide_eq_true_eq, decide_eq_false_iff_not, Bool.not_eq_true', Bool.not_eq_false', Int.not_lt, Int.not_le] at hb11
          refine aq_skip rfl rfl rfl ?_
          refine aq_pop rfl rfl rfl rfl ?_
          refine aq_pop rfl rfl rfl rfl ?_
          refine aq_skip rfl rfl rfl ?_
          refine aq_skip rfl rfl rfl ?_
          refine aq_skip rfl rfl rfl ?_
          refine aq_skip rfl rfl rfl ?_
          refine aq_skip rfl rfl rfl ?_
          refine aq_skip rfl rfl rfl ?_
          refine aq_skip rfl rfl rfl ?_
          refine aq_pop rfl rfl rfl rfl ?_
          refine aq_nil ?_
          refine wp_f rfl ?_
          refine awp_skip ?_
          refine at_norm ?_
          refine wp_reg ?_
          refine st_pop rfl rfl rfl rfl ?_
          refine st_pop rfl rfl rfl rfl ?_
          refine st_pop rfl rfl rfl rfl ?_
          refine st_calc (xs := [.tmp 57, .tmp 58, .tmp 59]) _ rfl rfl rfl rfl Try.func23 rfl rfl rfl (at_c a n2 n1 _) ?_
          refine st_alloc rfl rfl rfl rfl rfl rfl rfl ?_
          refine st_store rfl rfl rfl rfl rfl rfl rfl rfl rfl rfl rfl rfl rfl ?_
          refine st_nil ?_
          refine wp_reg ?_
          refine st_pop rfl rfl rfl rfl ?_
          refine st_pop rfl rfl rfl rfl ?_
          refine st_pop rfl rfl rfl rfl ?_
          refine st_pop rfl rfl rfl rfl ?_
          refine st_pop rfl rfl rfl rfl ?_
          refine st_pop rfl rfl rfl rfl ?_
          refine st_bit 66 rfl fun b hb12 => ?_
          cases b
          · try simp only [decide_eq_true_eq, decide_eq_false_iff_not, Bool.not_eq_true', Bool.not_eq_false', Int.not_lt, Int.not_le] at hb12
            refine st_skip rfl rfl rfl ?_
            refine st_skip rfl rfl rfl ?_
            refine st_skip rfl rfl rfl ?_
            refine st_skip rfl rfl rfl ?_
            refine st_skip rfl rfl rfl ?_
            refine st_skip rfl rfl rfl ?_
            refine st_skip rfl rfl rfl ?_
            refine st_skip rfl rfl rfl ?_
            refine st_pop rfl rfl rfl rfl ?_
            refine st_pop rfl rfl rfl rfl ?_
            refine st_skip rfl rfl rfl ?_
            refine st_skip rfl rfl rfl ?_
            refine st_skip rfl rfl rfl ?_
            refine st_skip rfl rfl rfl ?_
            refine st_skip rfl rfl rfl ?_
            refine st_skip rfl rfl rfl ?_
            refine st_skip rfl rfl rfl ?_
            refine st_skip rfl rfl rfl ?_
            refine st_skip rfl rfl rfl ?_
            refine st_pop rfl rfl rfl rfl ?_
            refine st_pop rfl rfl rfl rfl ?_
            refine st_nil ?_
            refine awp_ret ?_
            refine ret_ret rfl rfl ?_
            refine wk_b ?_
            have la := atC_facts a n1 n2
            have lb := atC_facts b n1 n2
            have lc := atC_facts a n2 n1
            grind
          · try simp only [decide_eq_true_eq, decide_eq_false_iff_not, Bool.not_eq_true', Bool.not_eq_false', Int.not_lt, Int.not_le] at hb12
            refine st_pop rfl rfl rfl rfl ?_
            refine st_pop rfl rfl rfl rfl ?_
            refine st_pop rfl rfl rfl rfl ?_
            refine st_pop rfl rfl rfl rfl ?_
            refine st_bit 70 rfl fun b hb13 => ?_
            cases b
            · try simp only [decide_eq_true_eq, decide_eq_false_iff_not, Bool.not_eq_true', Bool.not_eq_false', Int.not_lt, Int.not_le] at hb13
              refine st_pop rfl rfl rfl rfl ?_
              refine st_pop rfl rfl rfl rfl ?_
              refine st_pop rfl rfl rfl rfl ?_
              refine st_pop rfl rfl rfl rfl ?_
              refine st_pop rfl rfl rfl rfl ?_
              refine st_pop rfl rfl rfl rfl ?_
              refine st_bit 76 rfl fun b hb14 => ?_
              cases b
              · try simp only [decide_eq_true_eq, decide_eq_false_iff_not, Bool.not_eq_true', Bool.not_eq_false', Int.not_lt, Int.not_le] at hb14
                refine st_skip rfl rfl rfl ?_
                refine st_skip rfl rfl rfl ?_
                refine st_skip rfl rfl rfl ?_
                refine st_skip rfl rfl rfl ?_
                refine st_skip rfl rfl rfl ?_
                refine st_skip rfl rfl rfl ?_
                refine st_skip rfl rfl rfl ?_
                refine st_skip rfl rfl rfl ?_
                refine st_skip rfl rfl rfl ?_
                refine st_pop rfl rfl rfl rfl ?_
                refine st_pop rfl rfl rfl rfl ?_
                refine st_nil ?_
                refine awp_ret ?_
                refine ret_ret rfl rfl ?_
                refine wk_b ?_
                have la := atC_facts a n1 n2
                have lb := atC_facts b n1 n2
                have lc := atC_facts a n2 n1
                grind
              · try simp only [decide_eq_true_eq, decide_eq_false_iff_not, Bool.not_eq_true', Bool.not_eq_false', Int.not_lt, Int.not_le] at hb14
                refine st_pop rfl rfl rfl rfl ?_
                refine st_pop rfl rfl rfl rfl ?_
                refine st_pop rfl rfl rfl rfl ?_
                refine st_bit 79 rfl fun b hb15 => ?_
                cases b
                · try simp only [decide_eq_true_eq, decide_eq_false_iff_not, Bool.not_eq_true', Bool.not_eq_false', Int.not_lt, Int.not_le] at hb15
                  refine st_pop rfl rfl rfl rfl ?_
                  refine st_pop rfl rfl rfl rfl ?_
                  refine st_pop rfl rfl rfl rfl ?_
                  refine st_pop rfl rfl rfl rfl ?_
                  refine st_pop rfl rfl rfl rfl ?_
                  refine st_pop rfl rfl rfl rfl ?_
                  refine st_pop rfl rfl rfl rfl ?_
                  refine st_pop rfl rfl rfl rfl ?_
                  refine st_nil ?_
                  refine awp_ret ?_
                  refine ret_ret rfl rfl ?_
                  refine wk_b ?_
                  have la := atC_facts a n1 n2
                  have lb := atC_facts b n1 n2
                  have lc := atC_facts a n2 n1
                  grind
                · try simp only [decide_eq_true_eq, decide_eq_false_iff_not, Bool.not_eq_true', Bool.not_eq_false', Int.not_lt, Int.not_le] at hb15
                  refine st_skip rfl rfl rfl ?_
                  refine st_skip rfl rfl rfl ?_
                  refine st_skip rfl rfl rfl ?_
                  refine st_skip rfl rfl rfl ?_
                  refine st_skip rfl rfl rfl ?_
                  refine st_pop rfl rfl rfl rfl ?_
                  refine st_pop rfl rfl rfl rfl ?_
                  refine st_pop rfl rfl rfl rfl ?_
                  refine st_nil ?_
                  refine awp_ret ?_
                  refine ret_ret rfl rfl ?_
                  refine wk_b ?_
                  have la := atC_facts a n1 n2
                  have lb := atC_facts b n1 n2
                  have lc := atC_facts a n2 n1
                  grind
            · try simp only [decide_eq_true_eq, decide_eq_false_iff_not, Bool.not_eq_true', Bool.not_eq_false', Int.not_lt, Int.not_le] at hb13
              refine st_skip rfl rfl rfl ?_
              refine st_skip rfl rfl rfl ?_
              refine st_skip rfl rfl rfl ?_
              refine st_pop rfl rfl rfl rfl ?_
              refine st_pop rfl rfl rfl rfl ?_
              refine st_pop rfl rfl rfl rfl ?_
              refine st_pop rfl rfl rfl rfl ?_
              refine st_pop rfl rfl rfl rfl ?_
              refine st_pop rfl rfl rfl rfl ?_
              refine st_bit 79 rfl fun b hb16 => ?_
              cases b
              · try simp only [decide_eq_true_eq, decide_eq_false_iff_not, Bool.not_eq_true', Bool.not_eq_false', Int.not_lt, Int.not_le] at hb16
                refine st_pop rfl rfl rfl rfl ?_
                refine st_pop rfl rfl rfl rfl ?_
                refine st_pop rfl rfl rfl rfl ?_
                refine st_pop rfl rfl rfl rfl ?_
                refine st_pop rfl rfl rfl rfl ?_
                refine st_pop rfl rfl rfl rfl ?_
                refine st_pop rfl rfl rfl rfl ?_
                refine st_pop rfl rfl rfl rfl ?_
                refine st_nil ?_
                refine awp_ret ?_
                refine ret_ret rfl rfl ?_
                refine wk_b ?_
                have la := atC_facts a n1 n2
                have lb := atC_facts b n1 n2
                have lc := atC_facts a n2 n1
                grind
              · try simp only [decide_eq_true_eq, decide_eq_false_iff_not, Bool.not_eq_true', Bool.not_eq_false', Int.not_lt, Int.not_le] at hb16
                refine st_skip rfl rfl rfl ?_
                refine st_skip rfl rfl rfl ?_
                refine st_skip rfl rfl rfl ?_
                refine st_skip rfl rfl rfl ?_
                refine st_skip rfl rfl rfl ?_
                refine st_pop rfl rfl rfl rfl ?_
                refine st_pop rfl rfl rfl rfl ?_
                refine st_pop rfl rfl rfl rfl ?_
                refine st_nil ?_
                refine awp_ret ?_
                refine ret_ret rfl rfl ?_
                refine wk_b ?_
                have la := atC_facts a n1 n2
                have lb := atC_facts b n1 n2
                have lc := atC_facts a n2 n1
                grind
        · try simp only [decide_eq_true_eq, decide_eq_false_iff_not, Bool.not_eq_true', Bool.not_eq_false', Int.not_lt, Int.not_le] at hb11
          refine aq_pop rfl rfl rfl rfl ?_
          refine aq_pop rfl rfl rfl rfl ?_
          refine aq_pop rfl rfl rfl rfl ?_
          refine aq_skip rfl rfl rfl ?_
          refine aq_skip rfl rfl rfl ?_
          refine aq_skip rfl rfl rfl ?_
          refine aq_skip rfl rfl rfl ?_
          refine aq_skip rfl rfl rfl ?_
          refine aq_skip rfl rfl rfl ?_
          refine aq_skip rfl rfl rfl ?_
          refine aq_pop rfl rfl rfl rfl ?_
          refine aq_nil ?_
          refine wp_f rfl ?_
          refine awp_skip ?_
          refine at_norm ?_
          refine wp_reg ?_
          refine st_pop rfl rfl rfl rfl ?_
          refine st_pop rfl rfl rfl rfl ?_
          refine st_pop rfl rfl rfl rfl ?_
          refine st_calc (xs := [.tmp 57, .tmp 58, .tmp 59]) _ rfl rfl rfl rfl Try.func23 rfl rfl rfl (at_c a n2 n1 _) ?_
          refine st_alloc rfl rfl rfl rfl rfl rfl rfl ?_
          refine st_store rfl rfl rfl rfl rfl rfl rfl rfl rfl rfl rfl rfl rfl ?_
          refine st_nil ?_
          refine wp_reg ?_
          refine st_pop rfl rfl rfl rfl ?_
          refine st_pop rfl rfl rfl rfl ?_
          refine st_pop rfl rfl rfl rfl ?_
          refine st_pop rfl rfl rfl rfl ?_
          refine st_pop rfl rfl rfl rfl ?_
          refine st_pop rfl rfl rfl rfl ?_
          refine st_bit 66 rfl fun b hb17 => ?_
          cases b
          · try simp only [decide_eq_true_eq, decide_eq_false_iff_not, Bool.not_eq_true', Bool.not_eq_false', Int.not_lt, Int.not_le] at hb17
            refine st_skip rfl rfl rfl ?_
            refine st_skip rfl rfl rfl ?_
            refine st_skip rfl rfl rfl ?_
            refine st_skip rfl rfl rfl ?_
            refine st_skip rfl rfl rfl ?_
            refine st_skip rfl rfl rfl ?_
            refine st_skip rfl rfl rfl ?_
            refine st_skip rfl rfl rfl ?_
            refine st_pop rfl rfl rfl rfl ?_
            refine st_pop rfl rfl rfl rfl ?_
            refine st_skip rfl rfl rfl ?_
            refine st_skip rfl rfl rfl ?_
            refine st_skip rfl rfl rfl ?_
            refine st_skip rfl rfl rfl ?_
            refine st_skip rfl rfl rfl ?_
            refine st_skip rfl rfl rfl ?_
            refine st_skip rfl rfl rfl ?_
            refine st_skip rfl rfl rfl ?_
            refine st_skip rfl rfl rfl ?_
            refine st_pop rfl rfl rfl rfl ?_
            refine st_pop rfl rfl rfl rfl ?_
            refine st_nil ?_
            refine awp_ret ?_
            refine ret_ret rfl rfl ?_
            refine wk_b ?_
            have la := atC_facts a n1 n2
            have lb := atC_facts b n1 n2
            have lc := atC_facts a n2 n1
            grind
          · try simp only [decide_eq_true_eq, decide_eq_false_iff_not, Bool.not_eq_true', Bool.not_eq_false', Int.not_lt, Int.not_le] at hb17
            refine st_pop rfl rfl rfl rfl ?_
            refine st_pop rfl rfl rfl rfl ?_
            refine st_pop rfl rfl rfl rfl ?_
            refine st_pop rfl rfl rfl rfl ?_
            refine st_bit 70 rfl fun b hb18 => ?_
            cases b
            · try simp only [decide_eq_true_eq, decide_eq_false_iff_not, Bool.not_eq_true', Bool.not_eq_false', Int.not_lt, Int.not_le] at hb18
              refine st_pop rfl rfl rfl rfl ?_
              refine st_pop rfl rfl rfl rfl ?_
              refine st_pop rfl rfl rfl rfl ?_
              refine st_pop rfl rfl rfl rfl ?_
              refine st_pop rfl rfl rfl rfl ?_
              refine st_pop rfl rfl rfl rfl ?_
              refine st_bit 76 rfl fun b hb19 => ?_
              cases b
              · try simp only [decide_eq_true_eq, decide_eq_false_iff_not, Bool.not_eq_true', Bool.not_eq_false', Int.not_lt, Int.not_le] at hb19
                refine st_skip rfl rfl rfl ?_
                refine st_skip rfl rfl rfl ?_
                refine st_skip rfl rfl rfl ?_
                refine st_skip rfl rfl rfl ?_
                refine st_skip rfl rfl rfl ?_
                refine st_skip rfl rfl rfl ?_
                refine st_skip rfl rfl rfl ?_
                refine st_skip rfl rfl rfl ?_
                refine st_skip rfl rfl rfl ?_
                refine st_pop rfl rfl rfl rfl ?_
                refine st_pop rfl rfl rfl rfl ?_
                refine st_nil ?_
                refine awp_ret ?_
                refine ret_ret rfl rfl ?_
                refine wk_b ?_
                have la := atC_facts a n1 n2
                have lb := atC_facts b n1 n2
                have lc := atC_facts a n2 n1
                grind
              · try simp only [decide_eq_true_eq, decide_eq_false_iff_not, Bool.not_eq_true', Bool.not_eq_false', Int.not_lt, Int.not_le] at hb19
                refine st_pop rfl rfl rfl rfl ?_
                refine st_pop rfl rfl rfl rfl ?_
                refine st_pop rfl rfl rfl rfl ?_
                refine st_bit 79 rfl fun b hb20 => ?_
                cases b
                · try simp only [decide_eq_true_eq, decide_eq_false_iff_not, Bool.not_eq_true', Bool.not_eq_false', Int.not_lt, Int.not_le] at hb20
                  refine st_pop rfl rfl rfl rfl ?_
                  refine st_pop rfl rfl rfl rfl ?_
                  refine st_pop rfl rfl rfl rfl ?_
                  refine st_pop rfl rfl rfl rfl ?_
                  refine st_pop rfl rfl rfl rfl ?_
                  refine st_pop rfl rfl rfl rfl ?_
                  refine st_pop rfl rfl rfl rfl ?_
                  refine st_pop rfl rfl rfl rfl ?_
                  refine st_nil ?_
                  refine awp_ret ?_
                  refine ret_ret rfl rfl ?_
                  refine wk_b ?_
                  have la := atC_facts a n1 n2
                  have lb := atC_facts b n1 n2
                  have lc := atC_facts a n2 n1
                  grind
                · try simp only [decide_eq_true_eq, decide_eq_false_iff_not, Bool.not_eq_true', Bool.not_eq_false', Int.not_lt, Int.not_le] at hb20
                  refine st_skip rfl rfl rfl ?_
                  refine st_skip rfl rfl rfl ?_
                  refine st_skip rfl rfl rfl ?_
                  refine st_skip rfl rfl rfl ?_
                  refine st_skip rfl rfl rfl ?_
                  refine st_pop rfl rfl rfl rfl ?_
                  refine st_pop rfl rfl rfl rfl ?_
                  refine st_pop rfl rfl rfl rfl ?_
                  refine st_nil ?_
                  refine awp_ret ?_
                  refine ret_ret rfl rfl ?_
                  refine wk_b ?_
                  have la := atC_facts a n1 n2
                  have lb := atC_facts b n1 n2
                  have lc := atC_facts a n2 n1
                  grind
            · try simp only [decide_eq_true_eq, decide_eq_false_iff_not, Bool.not_eq_true', Bool.not_eq_false', Int.not_lt, Int.not_le] at hb18
              refine st_skip rfl rfl rfl ?_
              refine st_skip rfl rfl rfl ?_
              refine st_skip rfl rfl rfl ?_
              refine st_pop rfl rfl rfl rfl ?_
              refine st_pop rfl rfl rfl rfl ?_
              refine st_pop rfl rfl rfl rfl ?_
              refine st_pop rfl rfl rfl rfl ?_
              refine st_pop rfl rfl rfl rfl ?_
              refine st_pop rfl rfl rfl rfl ?_
              refine st_bit 79 rfl fun b hb21 => ?_
              cases b
              · try simp only [decide_eq_true_eq, decide_eq_false_iff_not, Bool.not_eq_true', Bool.not_eq_false', Int.not_lt, Int.not_le] at hb21
                refine st_pop rfl rfl rfl rfl ?_
                refine st_pop rfl rfl rfl rfl ?_
                refine st_pop rfl rfl rfl rfl ?_
                refine st_pop rfl rfl rfl rfl ?_
                refine st_pop rfl rfl rfl rfl ?_
                refine st_pop rfl rfl rfl rfl ?_
                refine st_pop rfl rfl rfl rfl ?_
                refine st_pop rfl rfl rfl rfl ?_
                refine st_nil ?_
                refine awp_ret ?_
                refine ret_ret rfl rfl ?_
                refine wk_b ?_
                have la := atC_facts a n1 n2
                have lb := atC_facts b n1 n2
                have lc := atC_facts a n2 n1
                grind
              · try simp only [decide_eq_true_eq, decide_eq_false_iff_not, Bool.not_eq_true', Bool.not_eq_false', Int.not_lt, Int.not_le] at hb21
                refine st_skip rfl rfl rfl ?_
                refine st_skip rfl rfl rfl ?_
                refine st_skip rfl rfl rfl ?_
                refine st_skip rfl rfl rfl ?_
                refine st_skip rfl rfl rfl ?_
                refine st_pop rfl rfl rfl rfl ?_
                refine st_pop rfl rfl rfl rfl ?_
                refine st_pop rfl rfl rfl rfl ?_
                refine st_nil ?_
                refine awp_ret ?_
                refine ret_ret rfl rfl ?_
                refine wk_b ?_
                have la := atC_facts a n1 n2
                have lb := atC_facts b n1 n2
                have lc := atC_facts a n2 n1
                grind
      · try simp only [decide_eq_true_eq, decide_eq_false_iff_not, Bool.not_eq_true', Bool.not_eq_false', Int.not_lt, Int.not_le] at hb10
        refine st_pop rfl rfl rfl rfl ?_
        refine st_pop rfl rfl rfl rfl ?_
        refine st_pop rfl rfl rfl rfl ?_
        refine st_pop rfl rfl rfl rfl ?_
        refine st_pop rfl rfl rfl rfl ?_
        refine st_nil ?_
        refine awp_seq ?_
        refine wp_regD (by kernel_rfl) ?_
        refine aq_pop rfl rfl rfl rfl ?_
        refine aq_pop rfl rfl rfl rfl ?_
        refine aq_bit 45 rfl fun b hb22 => ?_
        cases b
        · try simp only [decide_eq_true_eq, decide_eq_false_iff_not, Bool.not_eq_true', Bool.not_eq_false', Int.not_lt, Int.not_le] at hb22
          refine aq_skip rfl rfl rfl ?_
          refine aq_pop rfl rfl rfl rfl ?_
          refine aq_pop rfl rfl rfl rfl ?_
          refine aq_skip rfl rfl rfl ?_
          refine aq_skip rfl rfl rfl ?_
          refine aq_skip rfl rfl rfl ?_
          refine aq_skip rfl rfl rfl ?_
          refine aq_skip rfl rfl rfl ?_
          refine aq_skip rfl rfl rfl ?_
          refine aq_skip rfl rfl rfl ?_
          refine aq_pop rfl rfl rfl rfl ?_
          refine aq_nil ?_
          refine wp_f rfl ?_
          refine awp_skip ?_
          refine at_norm ?_
          refine wp_reg ?_
          refine st_pop rfl rfl rfl rfl ?_
          refine st_pop rfl rfl rfl rfl ?_
          refine st_pop rfl rfl rfl rfl ?_
          refine st_calc (xs := [.tmp 57, .tmp 58, .tmp 59]) _ rfl rfl rfl rfl Try.func23 rfl rfl rfl (at_c a n2 n1 _) ?_
          refine st_alloc rfl rfl rfl rfl rfl rfl rfl ?_
          refine st_store rfl rfl rfl rfl rfl rfl rfl rfl rfl rfl rfl rfl rfl ?_
          refine st_nil ?_
          refine wp_reg ?_
          refine st_pop rfl rfl rfl rfl ?_
          refine st_pop rfl rfl rfl rfl ?_
          refine st_pop rfl rfl rfl rfl ?_
          refine st_pop rfl rfl rfl rfl ?_
          refine st_pop rfl rfl rfl rfl ?_
          refine st_pop rfl rfl rfl rfl ?_
          refine st_bit 66 rfl fun b hb23 => ?_
          cases b
          · try simp only [decide_eq_true_eq, decide_eq_false_iff_not, Bool.not_eq_true', Bool.not_eq_false', Int.not_lt, Int.not_le] at hb23
            refine st_skip rfl rfl rfl ?_
            refine st_skip rfl rfl rfl ?_
            refine st_skip rfl rfl rfl ?_
            refine st_skip rfl rfl rfl ?_
            refine st_skip rfl rfl rfl ?_
            refine st_skip rfl rfl rfl ?_
            refine st_skip rfl rfl rfl ?_
            refine st_skip rfl rfl rfl ?_
            refine st_pop rfl rfl rfl rfl ?_
            refine st_pop rfl rfl rfl rfl ?_
            refine st_skip rfl rfl rfl ?_
            refine st_skip rfl rfl rfl ?_
            refine st_skip rfl rfl rfl ?_
            refine st_skip rfl rfl rfl ?_
            refine st_skip rfl rfl rfl ?_
            refine st_skip rfl rfl rfl ?_
            refine st_skip rfl rfl rfl ?_
            refine st_skip rfl rfl rfl ?_
            refine st_skip rfl rfl rfl ?_
            refine st_pop rfl rfl rfl rfl ?_
            refine st_pop rfl rfl rfl rfl ?_
            refine st_nil ?_
            refine awp_ret ?_
            refine ret_ret rfl rfl ?_
            refine wk_b ?_
            have la := atC_facts a n1 n2
            have lb := atC_facts b n1 n2
            have lc := atC_facts a n2 n1
            grind
          · try simp only [decide_eq_true_eq, decide_eq_false_iff_not, Bool.not_eq_true', Bool.not_eq_false', Int.not_lt, Int.not_le] at hb23
            refine st_pop rfl rfl rfl rfl ?_
            refine st_pop rfl rfl rfl rfl ?_
            refine st_pop rfl rfl rfl rfl ?_
            refine st_pop rfl rfl rfl rfl ?_
            refine st_bit 70 rfl fun b hb24 => ?_
            cases b
            · try simp only [decide_eq_true_eq, decide_eq_false_iff_not, Bool.not_eq_true', Bool.not_eq_false', Int.not_lt, Int.not_le] at hb24
              refine st_pop rfl rfl rfl rfl ?_
              refine st_pop rfl rfl rfl rfl ?_
              refine st_pop rfl rfl rfl rfl ?_
              refine st_pop rfl rfl rfl rfl ?_
              refine st_pop rfl rfl rfl rfl ?_
              refine st_pop rfl rfl rfl rfl ?_
              refine st_bit 76 rfl fun b hb25 => ?_
              cases b
              · try simp only [decide_eq_true_eq, decide_eq_false_iff_not, Bool.not_eq_true', Bool.not_eq_false', Int.not_lt, Int.not_le] at hb25
                refine st_skip rfl rfl rfl ?_
                refine st_skip rfl rfl rfl ?_
                refine st_skip rfl rfl rfl ?_
                refine st_skip rfl rfl rfl ?_
                refine st_skip rfl rfl rfl ?_
                refine st_skip rfl rfl rfl ?_
                refine st_skip rfl rfl rfl ?_
                refine st_skip rfl rfl rfl ?_
                refine st_skip rfl rfl rfl ?_
                refine st_pop rfl rfl rfl rfl ?_
                refine st_pop rfl rfl rfl rfl ?_
                refine st_nil ?_
                refine awp_ret ?_
                refine ret_ret rfl rfl ?_
                refine wk_b ?_
                have la := atC_facts a n1 n2
                have lb := atC_facts b n1 n2
                have lc := atC_facts a n2 n1
                grind
              · try simp only [decide_eq_true_eq, decide_eq_false_iff_not, Bool.not_eq_true', Bool.not_eq_false', Int.not_lt, Int.not_le] at hb25
                refine st_pop rfl rfl rfl rfl ?_
                refine st_pop rfl rfl rfl rfl ?_
                refine st_pop rfl rfl rfl rfl ?_
                refine st_bit 79 rfl fun b hb26 => ?_
                cases b
                · try simp only [decide_eq_true_eq, decide_eq_false_iff_not, Bool.not_eq_true', Bool.not_eq_false', Int.not_lt, Int.not_le] at hb26
                  refine st_pop rfl rfl rfl rfl ?_
                  refine st_pop rfl rfl rfl rfl ?_
                  refine st_pop rfl rfl rfl rfl ?_
                  refine st_pop rfl rfl rfl rfl ?_
                  refine st_pop rfl rfl rfl rfl ?_
                  refine st_pop rfl rfl rfl rfl ?_
                  refine st_pop rfl rfl rfl rfl ?_
                  refine st_pop rfl rfl rfl rfl ?_
                  refine st_nil ?_
                  refine awp_ret ?_
                  refine ret_ret rfl rfl ?_
                  refine wk_b ?_
                  have la := atC_facts a n1 n2
                  have lb := atC_facts b n1 n2
                  have lc := atC_facts a n2 n1
                  grind
                · try simp only [decide_eq_true_eq, decide_eq_false_iff_not, Bool.not_eq_true', Bool.not_eq_false', Int.not_lt, Int.not_le] at hb26
                  refine st_skip rfl rfl rfl ?_
                  refine st_skip rfl rfl rfl ?_
                  refine st_skip rfl rfl rfl ?_
                  refine st_skip rfl rfl rfl ?_
                  refine st_skip rfl rfl rfl ?_
                  refine st_pop rfl rfl rfl rfl ?_
                  refine st_pop rfl rfl rfl rfl ?_
                  refine st_pop rfl rfl rfl rfl ?_
                  refine st_nil ?_
                  refine awp_ret ?_
                  refine ret_ret rfl rfl ?_
                  refine wk_b ?_
                  have la := atC_facts a n1 n2
                  have lb := atC_facts b n1 n2
                  have lc := atC_facts a n2 n1
                  grind
            · try simp only [decide_eq_true_eq, decide_eq_false_iff_not, Bool.not_eq_true', Bool.not_eq_false', Int.not_lt, Int.not_le] at hb24
              refine st_skip rfl rfl rfl ?_
              refine st_skip rfl rfl rfl ?_
              refine st_skip rfl rfl rfl ?_
              refine st_pop rfl rfl rfl rfl ?_
              refine st_pop rfl rfl rfl rfl ?_
              refine st_pop rfl rfl rfl rfl ?_
              refine st_pop rfl rfl rfl rfl ?_
              refine st_pop rfl rfl rfl rfl ?_
              refine st_pop rfl rfl rfl rfl ?_
              refine st_bit 79 rfl fun b hb27 => ?_
              cases b
              · try simp only [decide_eq_true_eq, decide_eq_false_iff_not, Bool.not_eq_true', Bool.not_eq_false', Int.not_lt, Int.not_le] at hb27
                refine st_pop rfl rfl rfl rfl ?_
                refine st_pop rfl rfl rfl rfl ?_
                refine st_pop rfl rfl rfl rfl ?_
                refine st_pop rfl rfl rfl rfl ?_
                refine st_pop rfl rfl rfl rfl ?_
                refine st_pop rfl rfl rfl rfl ?_
                refine st_pop rfl rfl rfl rfl ?_
                refine st_pop rfl rfl rfl rfl ?_
                refine st_nil ?_
                refine awp_ret ?_
                refine ret_ret rfl rfl ?_
                refine wk_b ?_
                have la := atC_facts a n1 n2
                have lb := atC_facts b n1 n2
                have lc := atC_facts a n2 n1
                grind
              · try simp only [decide_eq_true_eq, decide_eq_false_iff_not, Bool.not_eq_true', Bool.not_eq_false', Int.not_lt, Int.not_le] at hb27
                refine st_skip rfl rfl rfl ?_
                refine st_skip rfl rfl rfl ?_
                refine st_skip rfl rfl rfl ?_
                refine st_skip rfl rfl rfl ?_
                refine st_skip rfl rfl rfl ?_
                refine st_pop rfl rfl rfl rfl ?_
                refine st_pop rfl rfl rfl rfl ?_
                refine st_pop rfl rfl rfl rfl ?_
                refine st_nil ?_
                refine awp_ret ?_
                refine ret_ret rfl rfl ?_
                refine wk_b ?_
                have la := atC_facts a n1 n2
                have lb := atC_facts b n1 n2
                have lc := atC_facts a n2 n1
                grind
        · try simp only [decide_eq_true_eq, decide_eq_false_iff_not, Bool.not_eq_true', Bool.not_eq_false', Int.not_lt, Int.not_le] at hb22
          refine aq_pop rfl rfl rfl rfl ?_
          refine aq_pop rfl rfl rfl rfl ?_
          refine aq_pop rfl rfl rfl rfl ?_
          refine aq_bit 48 rfl fun b hb28 => ?_
          cases b
          · try simp only [decide_eq_true_eq, decide_eq_false_iff_not, Bool.not_eq_true', Bool.not_eq_false', Int.not_lt, Int.not_le] at hb28
            refine aq_skip rfl rfl rfl ?_
            refine aq_skip rfl rfl rfl ?_
            refine aq_skip rfl rfl rfl ?_
            refine aq_skip rfl rfl rfl ?_
            refine aq_skip rfl rfl rfl ?_
            refine aq_skip rfl rfl rfl ?_
            refine aq_skip rfl rfl rfl ?_
            refine aq_pop rfl rfl rfl rfl ?_
            refine aq_nil ?_
            refine wp_f rfl ?_
            refine awp_skip ?_
            refine at_norm ?_
            refine wp_reg ?_
            refine st_pop rfl rfl rfl rfl ?_
            refine st_pop rfl rfl rfl rfl ?_
            refine st_pop rfl rfl rfl rfl ?_
            refine st_calc (xs := [.tmp 57, .tmp 58, .tmp 59]) _ rfl rfl rfl rfl Try.func23 rfl rfl rfl (at_c a n2 n1 _) ?_
            refine st_alloc rfl rfl rfl rfl rfl rfl rfl ?_
            refine st_store rfl rfl rfl rfl rfl rfl rfl rfl rfl rfl rfl rfl rfl ?_
            refine st_nil ?_
            refine wp_reg ?_
            refine st_pop rfl rfl rfl rfl ?_
            refine st_pop rfl rfl rfl rfl ?_
            refine st_pop rfl rfl rfl rfl ?_
            refine st_pop rfl rfl rfl rfl ?_
            refine st_pop rfl rfl rfl rfl ?_
            refine st_pop rfl rfl rfl rfl ?_
            refine st_bit 66 rfl fun b hb29 => ?_
            cases b
            · try simp only [decide_eq_true_eq, decide_eq_false_iff_not, Bool.not_eq_true', Bool.not_eq_false', Int.not_lt, Int.not_le] at hb29
              refine st_skip rfl rfl rfl ?_
              refine st_skip rfl rfl rfl ?_
              refine st_skip rfl rfl rfl ?_
              refine st_skip rfl rfl rfl ?_
              refine st_skip rfl rfl rfl ?_
              refine st_skip rfl rfl rfl ?_
              refine st_skip rfl rfl rfl ?_
              refine st_skip rfl rfl rfl ?_
              refine st_pop rfl rfl rfl rfl ?_
              refine st_pop rfl rfl rfl rfl ?_
              refine st_skip rfl rfl rfl ?_
              refine st_skip rfl rfl rfl ?_
              refine st_skip rfl rfl rfl ?_
              refine st_skip rfl rfl rfl ?_
              refine st_skip rfl rfl rfl ?_
              refine st_skip rfl rfl rfl ?_
              refine st_skip rfl rfl rfl ?_
              refine st_skip rfl rfl rfl ?_
              refine st_skip rfl rfl rfl ?_
              refine st_pop rfl rfl rfl rfl ?_
              refine st_pop rfl rfl rfl rfl ?_
              refine st_nil ?_
              refine awp_ret ?_
              refine ret_ret rfl rfl ?_
              refine wk_b ?_
              have la := atC_facts a n1 n2
              have lb := atC_facts b n1 n2
              have lc := atC_facts a n2 n1
              grind
            · try simp only [decide_eq_true_eq, decide_eq_false_iff_not, Bool.not_eq_true', Bool.not_eq_false', Int.not_lt, Int.not_le] at hb29
              refine st_pop rfl rfl rfl rfl ?_
              refine st_pop rfl rfl rfl rfl ?_
              refine st_pop rfl rfl rfl rfl ?_
              refine st_pop rfl rfl rfl rfl ?_
              refine st_bit 70 rfl fun b hb30 => ?_
              cases b
              · try simp only [decide_eq_true_eq, decide_eq_false_iff_not, Bool.not_eq_true', Bool.not_eq_false', Int.not_lt, Int.not_le] at hb30
                refine st_pop rfl rfl rfl rfl ?_
                refine st_pop rfl rfl rfl rfl ?_
                refine st_pop rfl rfl rfl rfl ?_
                refine st_pop rfl rfl rfl rfl ?_
                refine st_pop rfl rfl rfl rfl ?_
                refine st_pop rfl rfl rfl rfl ?_
                refine st_bit 76 rfl fun b hb31 => ?_
                cases b
                · try simp only [decide_eq_true_eq, decide_eq_false_iff_not, Bool.not_eq_true', Bool.not_eq_false', Int.not_lt, Int.not_le] at hb31
                  refine st_skip rfl rfl rfl ?_
                  refine st_skip rfl rfl rfl ?_
                  refine st_skip rfl rfl rfl ?_
                  refine st_skip rfl rfl rfl ?_
                  refine st_skip rfl rfl rfl ?_
                  refine st_skip rfl rfl rfl ?_
                  refine st_skip rfl rfl rfl ?_
                  refine st_skip rfl rfl rfl ?_
                  refine st_skip rfl rfl rfl ?_
                  refine st_pop rfl rfl rfl rfl ?_
                  refine st_pop rfl rfl rfl rfl ?_
                  refine st_nil ?_
                  refine awp_ret ?_
                  refine ret_ret rfl rfl ?_
                  refine wk_b ?_
                  have la := atC_facts a n1 n2
                  have lb := atC_facts b n1 n2
                  have lc := atC_facts a n2 n1
                  grind
                · try simp only [decide_eq_true_eq, decide_eq_false_iff_not, Bool.not_eq_true', Bool.not_eq_false', Int.not_lt, Int.not_le] at hb31
                  refine st_pop rfl rfl rfl rfl ?_
                  refine st_pop rfl rfl rfl rfl ?_
                  refine st_pop rfl rfl rfl rfl ?_
                  refine st_bit 79 rfl fun b hb32 => ?_
                  cases b
                  · try simp only [decide_eq_true_eq, decide_eq_false_iff_not, Bool.not_eq_true', Bool.not_eq_false', Int.not_lt, Int.not_le] at hb32
                    refine st_pop rfl rfl rfl rfl ?_
                    refine st_pop rfl rfl rfl rfl ?_
                    refine st_pop rfl rfl rfl rfl ?_
                    refine st_pop rfl rfl rfl rfl ?_
                    refine st_pop rfl rfl rfl rfl ?_
                    refine st_pop rfl rfl rfl rfl ?_
                    refine st_pop rfl rfl rfl rfl ?_
                    refine st_pop rfl rfl rfl rfl ?_
                    refine st_nil ?_
                    refine awp_ret ?_
                    refine ret_ret rfl rfl ?_
                    refine wk_b ?_
                    have la := atC_facts a n1 n2
                    have lb := atC_facts b n1 n2
                    have lc := atC_facts a n2 n1
                    grind
                  · try simp only [decide_eq_true_eq, decide_eq_false_iff_not, Bool.not_eq_true', Bool.not_eq_false', Int.not_lt, Int.not_le] at hb32
                    refine st_skip rfl rfl rfl ?_
                    refine st_skip rfl rfl rfl ?_
                    refine st_skip rfl rfl rfl ?_
                    refine st_skip rfl rfl rfl ?_
                    refine st_skip rfl rfl rfl ?_
                    refine st_pop rfl rfl rfl rfl ?_
                    refine st_pop rfl rfl rfl rfl ?_
                    refine st_pop rfl rfl rfl rfl ?_
                    refine st_nil ?_
                    refine awp_ret ?_
                    refine ret_ret rfl rfl ?_
                    refine wk_b ?_
                    have la := atC_facts a n1 n2
                    have lb := atC_facts b n1 n2
                    have lc := atC_facts a n2 n1
                    grind
              · try simp only [decide_eq_true_eq, decide_eq_false_iff_not, Bool.not_eq_true', Bool.not_eq_false', Int.not_lt, Int.not_le] at hb30
                refine st_skip rfl rfl rfl ?_
                refine st_skip rfl rfl rfl ?_
                refine st_skip rfl rfl rfl ?_
                refine st_pop rfl rfl rfl rfl ?_
                refine st_pop rfl rfl rfl rfl ?_
                refine st_pop rfl rfl rfl rfl ?_
                refine st_pop rfl rfl rfl rfl ?_
                refine st_pop rfl rfl rfl rfl ?_
                refine st_pop rfl rfl rfl rfl ?_
                refine st_bit 79 rfl fun b hb33 => ?_
                cases b
                · try simp only [decide_eq_true_eq, decide_eq_false_iff_not, Bool.not_eq_true', Bool.not_eq_false', Int.not_lt, Int.not_le] at hb33
                  refine st_pop rfl rfl rfl rfl ?_
                  refine st_pop rfl rfl rfl rfl ?_
                  refine st_pop rfl rfl rfl rfl ?_
                  refine st_pop rfl rfl rfl rfl ?_
                  refine st_pop rfl rfl rfl rfl ?_
                  refine st_pop rfl rfl rfl rfl ?_
                  refine st_pop rfl rfl rfl rfl ?_
                  refine st_pop rfl rfl rfl rfl ?_
                  refine st_nil ?_
                  refine awp_ret ?_
                  refine ret_ret rfl rfl ?_
                  refine wk_b ?_
                  have la := atC_facts a n1 n2
                  have lb := atC_facts b n1 n2
                  have lc := atC_facts a n2 n1
                  grind
                · try simp only [decide_eq_true_eq, decide_eq_false_iff_not, Bool.not_eq_true', Bool.not_eq_false', Int.not_lt, Int.not_le] at hb33
                  refine st_skip rfl rfl rfl ?_
                  refine st_skip rfl rfl rfl ?_
                  refine st_skip rfl rfl rfl ?_
                  refine st_skip rfl rfl rfl ?_
                  refine st_skip rfl rfl rfl ?_
                  refine st_pop rfl rfl rfl rfl ?_
                  refine st_pop rfl rfl rfl rfl ?_
                  refine st_pop rfl rfl rfl rfl ?_
                  refine st_nil ?_
                  refine awp_ret ?_
                  refine ret_ret rfl rfl ?_
                  refine wk_b ?_
                  have la := atC_facts a n1 n2
                  have lb := atC_facts b n1 n2
                  have lc := atC_facts a n2 n1
                  grind
          · try simp only [decide_eq_true_eq, decide_eq_false_iff_not, Bool.not_eq_true', Bool.not_eq_false', Int.not_lt, Int.not_le] at hb28
            refine aq_pop rfl rfl rfl rfl ?_
            refine aq_pop rfl rfl rfl rfl ?_
            refine aq_pop rfl rfl rfl rfl ?_
            refine aq_pop rfl rfl rfl rfl ?_
            refine aq_pop rfl rfl rfl rfl ?_
            refine aq_pop rfl rfl rfl rfl ?_
            refine aq_pop rfl rfl rfl rfl ?_
            refine aq_pop rfl rfl rfl rfl ?_
            refine aq_nil ?_
            refine wp_bit 56 rfl fun b hb34 => ?_
            cases b
            · try simp only [decide_eq_true_eq, decide_eq_false_iff_not, Bool.not_eq_true', Bool.not_eq_false', Int.not_lt, Int.not_le] at hb34
              refine wp_f rfl ?_
              refine awp_skip ?_
              refine at_norm ?_
              refine wp_reg ?_
              refine st_pop rfl rfl rfl rfl ?_
              refine st_pop rfl rfl rfl rfl ?_
              refine st_pop rfl rfl rfl rfl ?_
              refine st_calc (xs := [.tmp 57, .tmp 58, .tmp 59]) _ rfl rfl rfl rfl Try.func23 rfl rfl rfl (at_c a n2 n1 _) ?_
              refine st_alloc rfl rfl rfl rfl rfl rfl rfl ?_
              refine st_store rfl rfl rfl rfl rfl rfl rfl rfl rfl rfl rfl rfl rfl ?_
              refine st_nil ?_
              refine wp_reg ?_
              refine st_pop rfl rfl rfl rfl ?_
              refine st_pop rfl rfl rfl rfl ?_
              refine st_pop rfl rfl rfl rfl ?_
              refine st_pop rfl rfl rfl rfl ?_
              refine st_pop rfl rfl rfl rfl ?_
              refine st_pop rfl rfl rfl rfl ?_
              refine st_bit 66 rfl fun b hb35 => ?_
              cases b
              · try simp only [decide_eq_true_eq, decide_eq_false_iff_not, Bool.not_eq_true', Bool.not_eq_false', Int.not_lt, Int.not_le] at hb35
                refine st_skip rfl rfl rfl ?_
                refine st_skip rfl rfl rfl ?_
                refine st_skip rfl rfl rfl ?_
                refine st_skip rfl rfl rfl ?_
                refine st_skip rfl rfl rfl ?_
                refine st_skip rfl rfl rfl ?_
                refine st_skip rfl rfl rfl ?_
                refine st_skip rfl rfl rfl ?_
                refine st_pop rfl rfl rfl rfl ?_
                refine st_pop rfl rfl rfl rfl ?_
                refine st_skip rfl rfl rfl ?_
                refine st_skip rfl rfl rfl ?_
                refine st_skip rfl rfl rfl ?_
                refine st_skip rfl rfl rfl ?_
                refine st_skip rfl rfl rfl ?_
                refine st_skip rfl rfl rfl ?_
                refine st_skip rfl rfl rfl ?_
                refine st_skip rfl rfl rfl ?_
                refine st_skip rfl rfl rfl ?_
                refine st_pop rfl rfl rfl rfl ?_
                refine st_pop rfl rfl rfl rfl ?_
                refine st_nil ?_
                refine awp_ret ?_
                refine ret_ret rfl rfl ?_
                refine wk_b ?_
                have la := atC_facts a n1 n2
                have lb := atC_facts b n1 n2
                have lc := atC_facts a n2 n1
                grind
              · try simp only [decide_eq_true_eq, decide_eq_false_iff_not, Bool.not_eq_true', Bool.not_eq_false', Int.not_lt, Int.not_le] at hb35
                refine st_pop rfl rfl rfl rfl ?_
                refine st_pop rfl rfl rfl rfl ?_
                refine st_pop rfl rfl rfl rfl ?_
                refine st_pop rfl rfl rfl rfl ?_
                refine st_bit 70 rfl fun b hb36 => ?_
                cases b
                · try simp only [decide_eq_true_eq, decide_eq_false_iff_not, Bool.not_eq_true', Bool.not_eq_false', Int.not_lt, Int.not_le] at hb36
                  refine st_pop rfl rfl rfl rfl ?_
                  refine st_pop rfl rfl rfl rfl ?_
                  refine st_pop rfl rfl rfl rfl ?_
                  refine st_pop rfl rfl rfl rfl ?_
                  refine st_pop rfl rfl rfl rfl ?_
                  refine st_pop rfl rfl rfl rfl ?_
                  refine st_bit 76 rfl fun b hb37 => ?_
                  cases b
                  · try simp only [decide_eq_true_eq, decide_eq_false_iff_not, Bool.not_eq_true', Bool.not_eq_false', Int.not_lt, Int.not_le] at hb37
                    refine st_skip rfl rfl rfl ?_
                    refine st_skip rfl rfl rfl ?_
                    refine st_skip rfl rfl rfl ?_
                    refine st_skip rfl rfl rfl ?_
                    refine st_skip rfl rfl rfl ?_
                    refine st_skip rfl rfl rfl ?_
                    refine st_skip rfl rfl rfl ?_
                    refine st_skip rfl rfl rfl ?_
                    refine st_skip rfl rfl rfl ?_
                    refine st_pop rfl rfl rfl rfl ?_
                    refine st_pop rfl rfl rfl rfl ?_
                    refine st_nil ?_
                    refine awp_ret ?_
                    refine ret_ret rfl rfl ?_
                    refine wk_b ?_
                    have la := atC_facts a n1 n2
                    have lb := atC_facts b n1 n2
                    have lc := atC_facts a n2 n1
                    grind
                  · try simp only [decide_eq_true_eq, decide_eq_false_iff_not, Bool.not_eq_true', Bool.not_eq_false', Int.not_lt, Int.not_le] at hb37
                    refine st_pop rfl rfl rfl rfl ?_
                    refine st_pop rfl rfl rfl rfl ?_
                    refine st_pop rfl rfl rfl rfl ?_
                    refine st_bit 79 rfl fun b hb38 => ?_
                    cases b
                    · try simp only [decide_eq_true_eq, decide_eq_false_iff_not, Bool.not_eq_true', Bool.not_eq_false', Int.not_lt, Int.not_le] at hb38
                      refine st_pop rfl rfl rfl rfl ?_
                      refine st_pop rfl rfl rfl rfl ?_
                      refine st_pop rfl rfl rfl rfl ?_
                      refine st_pop rfl rfl rfl rfl ?_
                      refine st_pop rfl rfl rfl rfl ?_
                      refine st_pop rfl rfl rfl rfl ?_
                      refine st_pop rfl rfl rfl rfl ?_
                      refine st_pop rfl rfl rfl rfl ?_
                      refine st_nil ?_
                      refine awp_ret ?_
                      refine ret_ret rfl rfl ?_
                      refine wk_b ?_
                      have la := atC_facts a n1 n2
                      have lb := atC_facts b n1 n2
                      have lc := atC_facts a n2 n1
                      grind
                    · try simp only [decide_eq_true_eq, decide_eq_false_iff_not, Bool.not_eq_true', Bool.not_eq_false', Int.not_lt, Int.not_le] at hb38
                      refine st_skip rfl rfl rfl ?_
                      refine st_skip rfl rfl rfl ?_
                      refine st_skip rfl rfl rfl ?_
                      refine st_skip rfl rfl rfl ?_
                      refine st_skip rfl rfl rfl ?_
                      refine st_pop rfl rfl rfl rfl ?_
                      refine st_pop rfl rfl rfl rfl ?_
                      refine st_pop rfl rfl rfl rfl ?_
                      refine st_nil ?_
                      refine awp_ret ?_
                      refine ret_ret rfl rfl ?_
                      refine wk_b ?_
                      have la := atC_facts a n1 n2
                      have lb := atC_facts b n1 n2
                      have lc := atC_facts a n2 n1
                      grind
                · try simp only [decide_eq_true_eq, decide_eq_false_iff_not, Bool.not_eq_true', Bool.not_eq_false', Int.not_lt, Int.not_le] at hb36
                  refine st_skip rfl rfl rfl ?_
                  refine st_skip rfl rfl rfl ?_
                  refine st_skip rfl rfl rfl ?_
                  refine st_pop rfl rfl rfl rfl ?_
                  refine st_pop rfl rfl rfl rfl ?_
                  refine st_pop rfl rfl rfl rfl ?_
                  refine st_pop rfl rfl rfl rfl ?_
                  refine st_pop rfl rfl rfl rfl ?_
                  refine st_pop rfl rfl rfl rfl ?_
                  refine st_bit 79 rfl fun b hb39 => ?_
                  cases b
                  · try simp only [decide_eq_true_eq, decide_eq_false_iff_not, Bool.not_eq_true', Bool.not_eq_false', Int.not_lt, Int.not_le] at hb39
                    refine st_pop rfl rfl rfl rfl ?_
                    refine st_pop rfl rfl rfl rfl ?_
                    refine st_pop rfl rfl rfl rfl ?_
                    refine st_pop rfl rfl rfl rfl ?_
                    refine st_pop rfl rfl rfl rfl ?_
                    refine st_pop rfl rfl rfl rfl ?_
                    refine st_pop rfl rfl rfl rfl ?_
                    refine st_pop rfl rfl rfl rfl ?_
                    refine st_nil ?_
                    refine awp_ret ?_
                    refine ret_ret rfl rfl ?_
                    refine wk_b ?_
                    have la := atC_facts a n1 n2
                    have lb := atC_facts b n1 n2
                    have lc := atC_facts a n2 n1
                    grind
                  · try simp only [decide_eq_true_eq, decide_eq_false_iff_not, Bool.not_eq_true', Bool.not_eq_false', Int.not_lt, Int.not_le] at hb39
                    refine st_skip rfl rfl rfl ?_
                    refine st_skip rfl rfl rfl ?_
                    refine st_skip rfl rfl rfl ?_
                    refine st_skip rfl rfl rfl ?_
                    refine st_skip rfl rfl rfl ?_
                    refine st_pop rfl rfl rfl rfl ?_
                    refine st_pop rfl rfl rfl rfl ?_
                    refine st_pop rfl rfl rfl rfl ?_
                    refine st_nil ?_
                    refine awp_ret ?_
                    refine ret_ret rfl rfl ?_
                    refine wk_b ?_
                    have la := atC_facts a n1 n2
                    have lb := atC_facts b n1 n2
                    have lc := atC_facts a n2 n1
                    grind
            · try simp only [decide_eq_true_eq, decide_eq_false_iff_not, Bool.not_eq_true', Bool.not_eq_false', Int.not_lt, Int.not_le] at hb34
              refine wp_t rfl ?_
              refine wp_reg ?_
              refine st_pop rfl rfl rfl rfl ?_
              refine st_nil ?_
              refine awp_ret ?_
              refine at_ret ?_
              refine ret_ret rfl rfl ?_
              refine wk_b ?_
              have la := atC_facts a n1 n2
              have lb := atC_facts b n1 n2
              have lc := atC_facts a n2 n1
              grind
  · try simp only [decide_eq_true_eq, decide_eq_false_iff_not, Bool.not_eq_true', Bool.not_eq_false', Int.not_lt, Int.not_le] at hb1
    simp at hb1
end Go.Proofs.Ytlcjjgfopalefaa.Am

