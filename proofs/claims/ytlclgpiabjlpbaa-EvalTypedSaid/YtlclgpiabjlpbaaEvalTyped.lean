/- EvalTyped: right kinds: a value of the kind, nothing Mixed. No condition. -/
import Derived.Test.YtlclgpiabjlpbaaK
import Derived.Test.YtlclgpiabjlpbaaOe
import Derived.Test.YtlclgpiabjlpbaaRows
import Derived.JoinedCond
namespace Go.Proofs.Ytlclgpiabjlpbaa.evalTyped
open Go.ChangeShapes Go.WideShapes Go.ChangeAt Go.RowKit Go.Proofs.Ytlclgpiabjlpbaa.Am
set_option linter.unusedVariables false

theorem own : ownKnob Try.prog.godebug = none := by kernel_rfl
theorem laidOut : laidOutB Try.prog = true := by kernel_rfl
def decSh : Sh := .st [refSh, .nu .i64]
theorem fit_decs {B : Nat} (hB : B ≤ maxLen) {E : TypeId} {xs : List AV} (h : fitS B (.sl E decSh) xs) : ∃ ds : List Dec, xs = [.l none E (ds.map Dec.av)] ∧ ds.length ≤ B := by
  unfold fitS at h
  obtain ⟨rows, rfl, h1, h2⟩ := h
  obtain ⟨ds, rfl, _⟩ := rows_map (f := Dec.av) (p := fun _ => True) (rows := rows) fun r hr => by
    have q := h2 r hr
    have e : ∃ a k, r = a ++ ([.i .i64 k] ++ []) ∧ fitS B refSh a := by
      simp only [decSh, fitS, fitSL] at q
      obtain ⟨a, _, rfl, ha, _, _, rfl, ⟨k, rfl, _⟩, rfl⟩ := q
      exact ⟨a, k, rfl, ha⟩
    obtain ⟨a, k, rfl, ha⟩ := e
    obtain ⟨r, rfl, _⟩ := fit_ref hB ha
    exact ⟨⟨r, k⟩, rfl, trivial⟩
  exact ⟨ds, rfl, by simpa using h1⟩
theorem law {xa : List AV} (h : fitA maxLen [.sl 77 decSh, .st [.st [.sl 63 nodSh], .sl 56 attSh, scnSh, celSh, valSh, .nu .i64]] xa) : ACalls tt 4 xa ⟨[], []⟩ fun r H' => r = .b true ∧ H' = ⟨[], []⟩ := by
  have hB : maxLen ≤ maxLen := by decide
  simp only [fitA] at h
  obtain ⟨_, _, rfl, h1, _, _, rfl, h2, rfl⟩ := h
  obtain ⟨ds, rfl, d2⟩ := fit_decs hB h1
  obtain ⟨a, b, c, d, e, f, rfl, ha, hb, hc, hd, he, hf⟩ := fit_st6 h2
  obtain ⟨ns, rfl, n1, n2⟩ := fit_expr hB ha
  obtain ⟨l, rfl, l1, l2⟩ := fit_atts hB hb
  obtain ⟨x, rfl, x1⟩ := fit_scn hB hc
  obtain ⟨cl, rfl, _⟩ := fit_cel hB hd
  obtain ⟨v, rfl, _⟩ := fit_val hB he
  obtain ⟨n, rfl, _⟩ : ∃ n, f = [.i .i64 n] ∧ (Lit.int .i64 n).wf = true := by simpa only [fitS] using hf
  exact evalTyped_c ds (Nat.le_trans d2 hB) ns (fun n hn => (n1 n hn).1) (Nat.le_trans n2 hB) l l1 (Nat.le_trans l2 hB) x x1 cl v n _

set_option maxRecDepth 100000 in
theorem contract (H : Type) (enc : TypeId × Value → H) (W : World) (base : Nat) (args : Array Value) (ds gs : List (DataW H)) (before : List MemPlace)
    (hval0 : ∀ (j : Nat) t v, Try.f4.params[j]? = some t → args[j]? = some v → Value.okWide Try.prog W .any base t v)
    (hW : DataW.Whole enc Try.prog Try.f4.params.toList Rows.evalTypedSpec.vars false W args.toList ds gs before) :
    Calls Try.prog 4 args W fun e W' => ∃ v, e = .returned v ∧ Rows.evalTypedSpec.post enc Try.prog Try.f4 false true false false W args v W' := by
  have hval : ∀ (j : Nat) t v, Try.f4.params[j]? = some t → args[j]? = some v → Value.okWide Try.prog W .any base t v := hval0
  have hW' := hW
  obtain ⟨p, q, hA0, hV, rfl, hfz, hnd⟩ := hW
  have hA : DataW.TrodAll enc Try.prog W 0 (fun _ => true) true Try.f4.params.toList args.toList ds p := hA0
  rw [Try.params4] at hA hval
  obtain ⟨xa, k1, k2⟩ := open_args (T := tt) (B := maxLen) (vs := args.toList) (ss := [.sl 77 decSh, .st [.st [.sl 63 nodSh], .sl 56 attSh, scnSh, celSh, valSh, .nu .i64]]) (by kernel_rfl) (fun j t v h1 h2 => hval j t v (by simpa using h1) (by simpa using h2)) hA (fun d _ => .inl (Nat.le_refl _))
  have hst : ∀ {W' : World}, Below W.heap.size W W' → DataW.TrodAll enc Try.prog W' 0 (fun b => decide (b < W.heap.size)) true _ args.toList ds p := fun bel => trodAll_stays laidOut bel (by kernel_rfl) hA
  obtain ⟨rfl, rfl⟩ := trodVars_none hV
  obtain ⟨v0, vs0, d0, ds0, p0, q0, _, rfl, rfl, h0, r0⟩ := trodAll_cons hA
  obtain ⟨v1, vs1, d1, ds1, p1, q1, rfl, rfl, rfl, h1, r1⟩ := trodAll_cons r0
  obtain ⟨rfl, rfl, rfl⟩ := trodAll_nil r1
  clear hA0 hval0
  refine Am.Calls.mono' (law_calls (law k1) k2) fun e W' ⟨he, bel⟩ => ?_
  subst he
  exact ⟨_, rfl, _, _, _, [], _, [], hW', trodAll_mk1 (shut_bool Try.underlying4 _), hst bel, rfl, bel.frame _, fun h => by cases h⟩

set_option maxRecDepth 100000 in
theorem lifted (os : Os) (started : os.Started) (H : Type) (enc : TypeId × Value → H) :
    ReturnsInHanded {} Try.checked os 4 .any (Rows.evalTypedSpec.pre6 enc Try.prog Try.f4 Rows.evalTypedRow.domain false) (Rows.evalTypedSpec.post enc Try.prog Try.f4 false true false false) := by
  refine returnsInHanded_of_change (C := Try.checked) own started (by kernel_rfl) Try.func4
    (ChangeSpec.witness6 (enc := enc) (C := Try.checked) false ⟨#[], #[.slice none 0 0, .agg #[.slice none 0 0, .slice none 0 0, .string ByteArray.empty, .string ByteArray.empty, .int .i64 0, .int .i64 0, .int .i64 0, .string ByteArray.empty, .string ByteArray.empty, .int .i64 0, .int .i64 0, .string ByteArray.empty, .bool false, .float .f64 0, .int .i64 0]], []⟩ 8 (by kernel_rfl) (by kernel_rfl) (by kernel_rfl) (by kernel_rfl)) ?_
  intro W base args ds gs before hval hW _ _
  exact contract H enc W base args ds gs before hval hW

theorem over : Rows.evalTypedRow.holds Try.pinned (OpenSpec.ofChange Rows.evalTypedSpec) :=
  OpenClaim.holds_of_wide 4 Try.f4 rfl rfl rfl rfl rfl rfl rfl ⟨rfl, rfl, rfl, rfl, rfl⟩ rfl rfl rfl rfl rfl (by kernel_rfl) Try.func4 (by kernel_rfl)
    (of_decide_eq_true (by kernel_rfl)) (by unfold Func.isWrapper; first | (rw [if_pos (by decide +kernel)]; kernel_rfl) | (rw [if_neg (by decide +kernel)]; exact ⟨rfl, rfl⟩))
    (fun os started H enc _ => lifted os started H enc)

theorem proved : Rows.EvalTypedSaid :=
  over
#print axioms proved
end Go.Proofs.Ytlclgpiabjlpbaa.evalTyped
