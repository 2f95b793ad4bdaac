/- EvalBoth: && holds just if both do; else the first Why. What it reads is of bulk at most 1048576. -/
import Derived.Test.YtlclgpiabjlpbaaGreatL
import Derived.Test.YtlclgpiabjlpbaaGreatOe
import Derived.Test.YtlclgpiabjlpbaaGreatRows
import Derived.JoinedCond
namespace Go.Proofs.YtlclgpiabjlpbaaGreat.evalBoth
open Go.ChangeShapes Go.WideShapes Go.ChangeAt Go.RowKit Go.Proofs.YtlclgpiabjlpbaaGreat.Am
set_option linter.unusedVariables false

theorem own : ownKnob Tryz.prog.godebug = none := by kernel_rfl
theorem laidOut : laidOutB Tryz.prog = true := by kernel_rfl
theorem law {xa : List AV} (h : fitA 1048576 [.st [.st [.sl 66 nodSh], .sl 68 attSh, scnSh, celSh, valSh, .nu .i64], .st [.sl 66 nodSh]] xa) : ACalls tt 4 xa ⟨[], []⟩ fun r H' => r = .b true ∧ H' = ⟨[], []⟩ := by
  have hB : 1048576 ≤ maxLen := by decide
  simp only [fitA] at h
  obtain ⟨_, _, rfl, h1, _, _, rfl, h2, rfl⟩ := h
  obtain ⟨a, b, c, d, e, f, rfl, ha, hb, hc, hd, he, hf⟩ := fit_st6 h1
  obtain ⟨ns, rfl, n1, n2⟩ := fit_expr hB ha
  obtain ⟨l, rfl, l1, l2⟩ := fit_atts hB hb
  obtain ⟨x, rfl, x1⟩ := fit_scn hB hc
  obtain ⟨cl, rfl, _⟩ := fit_cel hB hd
  obtain ⟨v, rfl, _⟩ := fit_val hB he
  obtain ⟨n, rfl, _⟩ : ∃ n, f = [.i .i64 n] ∧ (Lit.int .i64 n).wf = true := by simpa only [fitS] using hf
  obtain ⟨ms, rfl, m1, m2⟩ := fit_expr hB h2
  exact evalBoth_c ns (fun n hn => (n1 n hn).1) (fun n hn => (n1 n hn).2) n2 l l1 (Nat.le_trans l2 hB) x x1 cl v n ms (fun n hn => (m1 n hn).1) (fun n hn => (m1 n hn).2) m2 _

theorem part_le {H : Type} {d : DataW H} {l : List (DataW H)} (h : d ∈ l) : Rows.uptoBulk d ≤ Rows.uptoBulkAll l := by
  induction l with
  | nil => cases h
  | cons x r ih =>
    simp only [Rows.uptoBulkAll]
    cases List.mem_cons.1 h with
    | inl e => subst e; omega
    | inr e => have := ih e; omega
theorem one_le {H : Type} (d : DataW H) : 1 ≤ Rows.uptoBulk d := by
  cases d with
  | lit l => cases l <;> simp [Rows.uptoBulk]
  | nil => simp [Rows.uptoBulk]
  | ptr d => simp [Rows.uptoBulk]
  | slice elems spare => simp [Rows.uptoBulk]
  | agg parts => simp [Rows.uptoBulk]
  | iface t d => simp [Rows.uptoBulk]
  | map entries => simp [Rows.uptoBulk]
  | held h => simp [Rows.uptoBulk]
theorem length_le {H : Type} (l : List (DataW H)) : l.length ≤ Rows.uptoBulkAll l := by
  induction l with
  | nil => simp [Rows.uptoBulkAll]
  | cons x r ih => have := one_le x; simp only [Rows.uptoBulkAll, List.length_cons]; omega
def bulk (H : Type) : Bulk H where
  be := Rows.uptoBulk
  ag := fun parts p hp => by have := part_le hp; simp only [Rows.uptoBulk]; omega
  sl := fun el sp p hp => by have := part_le hp; simp only [Rows.uptoBulk]; omega
  ln := fun el sp => by have := length_le el; simp only [Rows.uptoBulk]; omega
  tx := fun bytes => by simp [Rows.uptoBulk]

set_option maxRecDepth 100000 in
theorem contract (H : Type) (enc : TypeId × Value → H) (W : World) (base : Nat) (args : Array Value) (ds gs : List (DataW H)) (before : List MemPlace)
    (hval0 : ∀ (j : Nat) t v, Tryz.f4.params[j]? = some t → args[j]? = some v → Value.okWide Tryz.prog W .any base t v)
    (hW : DataW.Whole enc Tryz.prog Tryz.f4.params.toList Rows.evalBothSpec.vars false W args.toList ds gs before) (hk : Rows.uptoSmall H (ds ++ gs) = true) :
    Calls Tryz.prog 4 args W fun e W' => ∃ v, e = .returned v ∧ Rows.evalBothSpec.post enc Tryz.prog Tryz.f4 false true false false W args v W' := by
  have hval : ∀ (j : Nat) t v, Tryz.f4.params[j]? = some t → args[j]? = some v → Value.okWide Tryz.prog W .any base t v := hval0
  have hW' := hW
  obtain ⟨p, q, hA0, hV, rfl, hfz, hnd⟩ := hW
  have hA : DataW.TrodAll enc Tryz.prog W 0 (fun _ => true) true Tryz.f4.params.toList args.toList ds p := hA0
  rw [Tryz.params4] at hA hval
  obtain ⟨xa, k1, k2⟩ := open_args (T := tt) (B := 1048576) (vs := args.toList) (ss := [.st [.st [.sl 66 nodSh], .sl 68 attSh, scnSh, celSh, valSh, .nu .i64], .st [.sl 66 nodSh]]) (by kernel_rfl) (fun j t v h1 h2 => hval j t v (by simpa using h1) (by simpa using h2)) hA (fun d hd => .inr ⟨bulk H, Nat.le_trans (part_le (List.mem_append_left gs hd)) (of_decide_eq_true hk)⟩)
  have hst : ∀ {W' : World}, Below W.heap.size W W' → DataW.TrodAll enc Tryz.prog W' 0 (fun b => decide (b < W.heap.size)) true _ args.toList ds p := fun bel => trodAll_stays laidOut bel (by kernel_rfl) hA
  obtain ⟨rfl, rfl⟩ := trodVars_none hV
  obtain ⟨v0, vs0, d0, ds0, p0, q0, _, rfl, rfl, h0, r0⟩ := trodAll_cons hA
  obtain ⟨v1, vs1, d1, ds1, p1, q1, rfl, rfl, rfl, h1, r1⟩ := trodAll_cons r0
  obtain ⟨rfl, rfl, rfl⟩ := trodAll_nil r1
  clear hA0 hval0
  refine Am.Calls.mono' (law_calls (law k1) k2) fun e W' ⟨he, bel⟩ => ?_
  subst he
  exact ⟨_, rfl, _, _, _, [], _, [], hW', trodAll_mk1 (shut_bool Tryz.underlying4 _), hst bel, rfl, bel.frame _, fun h => by cases h⟩

set_option maxRecDepth 100000 in
theorem lifted (os : Os) (started : os.Started) (H : Type) (enc : TypeId × Value → H) (F : Stop.Interp) :
    ReturnsInHanded {} Tryz.checked os 4 .any ((Rows.OpenSpec.upto Rows.evalBothSpec).pre6 enc Tryz.prog Tryz.f4 Rows.evalBothUptoRow.domain false) (((Rows.OpenSpec.upto Rows.evalBothSpec).at F).post enc Tryz.prog Tryz.f4 false true false false) := by
  refine returnsInHanded_of_cond (C := Tryz.checked) (s := Rows.OpenSpec.upto Rows.evalBothSpec) (k := Rows.uptoSmall) rfl own started (by kernel_rfl) Tryz.func4
    (OpenSpec.witness (enc := enc) (C := Tryz.checked) (s := Rows.OpenSpec.upto Rows.evalBothSpec) (k := Rows.uptoSmall) rfl false ⟨#[], #[.agg #[.slice none 0 0, .slice none 0 0, .string ByteArray.empty, .string ByteArray.empty, .int .i64 0, .int .i64 0, .int .i64 0, .string ByteArray.empty, .string ByteArray.empty, .int .i64 0, .int .i64 0, .string ByteArray.empty, .bool false, .float .f64 0, .int .i64 0], .agg #[.slice none 0 0]], []⟩ 8 (by kernel_rfl) (by kernel_rfl) (by kernel_rfl)
      (x := ([.agg [.agg [.nil], .nil, .agg [.lit (.string []), .lit (.string []), .lit (.int .i64 0), .lit (.int .i64 0)], .agg [.lit (.int .i64 0), .lit (.string []), .lit (.string [])], .agg [.lit (.int .i64 0), .lit (.int .i64 0), .lit (.string []), .lit (.bool false), .lit (.float .f64 0)], .lit (.int .i64 0)], .agg [.nil]], [], [])) (by kernel_rfl) rfl (by kernel_rfl)) ?_
  intro W base args ds gs before hval hW _ hk _
  exact contract H enc W base args ds gs before hval hW hk

theorem over : Rows.evalBothUptoRow.holds Tryz.pinned (Rows.OpenSpec.upto Rows.evalBothSpec) :=
  OpenClaim.holds_of_cond 4 Tryz.f4 rfl rfl rfl rfl rfl rfl rfl ⟨rfl, rfl, rfl, rfl, rfl⟩ rfl rfl rfl rfl rfl (by kernel_rfl) Tryz.func4 (by kernel_rfl)
    (of_decide_eq_true (by kernel_rfl)) (by unfold Func.isWrapper; first | (rw [if_pos (by decide +kernel)]; kernel_rfl) | (rw [if_neg (by decide +kernel)]; exact ⟨rfl, rfl⟩))
    (fun os started H enc _ F => lifted os started H enc F)

theorem proved : Rows.EvalBothUptoSaid :=
  over
#print axioms proved
end Go.Proofs.YtlclgpiabjlpbaaGreat.evalBoth
