/- EvalRight: a value that is told is right; where none is told there is a Why; Holds tells the same. No condition. -/
import Derived.Test.YtlclgpiabjlpbaaL
import Derived.Test.YtlclgpiabjlpbaaOe
namespace Go.Proofs.Ytlclgpiabjlpbaa.evalRight
open Go.ChangeShapes Go.WideShapes Go.ChangeAt Go.RowKit Go.Proofs.Ytlclgpiabjlpbaa.Am

theorem own : ownKnob Try.prog.godebug = none := by kernel_rfl
theorem laidOut : laidOutB Try.prog = true := by kernel_rfl

theorem law {xa : List AV} (h : fitA [.st [.sl 63 nodSh], .sl 56 attSh, scnSh] xa) : ACalls tt 3 xa ⟨[], []⟩ fun r H' => r = .b true ∧ H' = ⟨[], []⟩ := by
  simp only [fitA] at h
  obtain ⟨_, _, rfl, h1, _, _, rfl, h2, _, _, rfl, h3, rfl⟩ := h
  obtain ⟨ns, rfl, n1, n2⟩ := fit_expr h1
  obtain ⟨l, rfl, l1, l2⟩ := fit_atts h2
  obtain ⟨x, rfl, x1⟩ := fit_scn h3
  exact evalRight_c ns n1 n2 l l1 l2 x x1 _

theorem three' {l : Array Value} (h : l.size = 3) : ∃ x y z, l = #[x, y, z] := by
  obtain ⟨l⟩ := l
  match l, h with
  | [x, y, z], _ => exact ⟨x, y, z, rfl⟩

set_option maxRecDepth 100000 in
theorem lifted (os : Os) (started : os.Started) (H : Type) (enc : TypeId × Value → H) :
    ReturnsInHanded {} Try.checked os 3 .any (Rows.evalRightSpec.pre6 enc Try.prog Try.f3 Rows.evalRightRow.domain false) (Rows.evalRightSpec.post enc Try.prog Try.f3 false true false false) := by
  refine returnsInHanded_of_change (C := Try.checked) own started (by kernel_rfl) Try.func3
    (ChangeSpec.witness6 (enc := enc) (C := Try.checked) false ⟨#[], #[.agg #[.slice none 0 0], .slice none 0 0, .agg #[.string ByteArray.empty, .string ByteArray.empty, .int .i64 0, .int .i64 0]], []⟩ 8 (by kernel_rfl) (by kernel_rfl) (by kernel_rfl) (by kernel_rfl)) ?_
  intro W base args ds gs before hval0 hW hcnd _
  have hval : ∀ (j : Nat) t v, Try.f3.params[j]? = some t → args[j]? = some v → Value.okWide Try.prog W .any base t v := hval0
  have hW' := hW
  obtain ⟨p, q, hA0, hV, rfl, hfz, hnd⟩ := hW
  have hA : DataW.TrodAll enc Try.prog W 0 (fun _ => true) true Try.f3.params.toList args.toList ds p := hA0
  rw [Try.params3] at hA hval
  obtain ⟨xa, k1, k2⟩ := open_args (T := tt) (vs := args.toList) (ss := [.st [.sl 63 nodSh], .sl 56 attSh, scnSh]) (by kernel_rfl) (fun j t v h1 h2 => hval j t v (by simpa using h1) (by simpa using h2)) hA
  have hst : ∀ {W' : World}, Below W.heap.size W W' → DataW.TrodAll enc Try.prog W' 0 (fun b => decide (b < W.heap.size)) true _ args.toList ds p := fun bel => trodAll_stays laidOut bel (by kernel_rfl) hA
  obtain ⟨rfl, rfl⟩ := trodVars_none hV
  obtain ⟨v0, vs0, d0, ds0, p0, q0, _, rfl, rfl, h0, r0⟩ := trodAll_cons hA
  obtain ⟨v1, vs1, d1, ds1, p1, q1, rfl, rfl, rfl, h1, r1⟩ := trodAll_cons r0
  obtain ⟨v2, vs2, d2, ds2, p2, q2, rfl, rfl, rfl, h2, r2⟩ := trodAll_cons r1
  obtain ⟨rfl, rfl, rfl⟩ := trodAll_nil r2
  clear hA0 hval0
  have hc := law_calls (law k1) k2
  refine Am.Calls.mono' hc fun e W' ⟨he, bel⟩ => ?_
  subst he
  exact ⟨_, rfl, _, _, _, [], _, [], hW', trodAll_mk1 (shut_bool Try.underlying4 _), hst bel, rfl, bel.frame _, fun h => by cases h⟩

theorem over : Rows.evalRightRow.holds Try.pinned (OpenSpec.ofChange Rows.evalRightSpec) :=
  OpenClaim.holds_of_wide 3 Try.f3 rfl rfl rfl rfl rfl rfl rfl ⟨rfl, rfl, rfl, rfl, rfl⟩ rfl rfl rfl rfl rfl (by kernel_rfl) Try.func3 (by kernel_rfl)
    (of_decide_eq_true (by kernel_rfl)) (by unfold Func.isWrapper; first | (rw [if_pos (by decide +kernel)]; kernel_rfl) | (rw [if_neg (by decide +kernel)]; exact ⟨rfl, rfl⟩))
    (fun os started H enc _ => lifted os started H enc)

theorem proved : Rows.EvalRightSaid :=
  over
#print axioms proved
end Go.Proofs.Ytlclgpiabjlpbaa.evalRight
