/- RateRights: rate.Right and the reference tell the same of every word, and so do rate.Neg and the reference; -2 is the contrary of 2. No condition. -/
import Derived.Test.YtlcjjgfopalefaaFl
import Derived.ProofKit
import Derived.OpenShut
namespace Go.Proofs.Ytlcjjgfopalefaa.rateRights
open Go.ChangeShapes Go.WideShapes Go.ChangeAt Go.RowKit

theorem own : ownKnob Try.prog.godebug = none := by kernel_rfl

set_option maxRecDepth 100000 in
set_option maxHeartbeats 1000000 in
theorem walk (a0 : Int) (w0 : (Lit.int .u64 a0).wf = true) (w : World) :
    Calls Try.prog 3 #[.int .u64 a0] w fun e w' => e = .returned (.bool true) ∧ Below w.heap.size w w' := by
  obtain ⟨h0, h1⟩ : 0 ≤ a0 ∧ a0 < 18446744073709551616 := by
    have := bounds_u64 w0; omega
  obtain ⟨n, rfl⟩ := Int.eq_ofNat_of_zero_le h0
  have hn : n < 18446744073709551616 := by omega
  have hr15 : Hid (Fm.isRate 4609434218613702656 = true) := by show _ = _; decide +kernel
  have hn2 : Hid (negR 4611686018427387904 = 13835058055282163712) := by show _ = _; decide +kernel
  have hq : (FloatKind.f64.format.order 13835058055282163712 13835058055282163712 == some .eq) = true := by decide +kernel
  clear h0 h1 w0
  go_enter Try.func3, Try.ntmps3
  go_wp2_with fail
  refine (frombits_any _ _).mono ?_; rintro e w' ⟨rfl, rfl⟩
  go_wp2_with fail
  refine (rateRight_any _ (by decide) _).mono ?_; rintro e w' ⟨rfl, rfl⟩
  rw [hr15.out]
  go_wp2_with fail
  refine (rateRight_any _ (by simpa using hn) _).mono ?_; rintro e w' ⟨rfl, rfl⟩
  go_wp2_with fail
  refine (refRight_any _ (by simpa using hn) _).mono ?_; rintro e w1 ⟨rfl, b1⟩
  go_wp2_with fail
  refine (rateNeg_any _ (by simpa using hn) _).mono ?_; rintro e w' ⟨rfl, rfl⟩
  go_wp2_with fail
  refine (refNeg_any _ (by simpa using hn) _).mono ?_; rintro e w2 ⟨rfl, b2⟩
  go_wp2_with fail
  refine (same_any _ _ _).mono ?_; rintro e w' ⟨rfl, rfl⟩
  rw [decide_eq_true rfl]
  go_wp2_with fail
  refine (rateNeg_any _ (by decide) _).mono ?_; rintro e w' ⟨rfl, rfl⟩
  rw [hn2.out]
  go_wp2_with fail
  go_ret
  exact ⟨rfl, b1.trans (b2.mono b1.size)⟩

set_option maxRecDepth 100000 in
theorem lifted (os : Os) (started : os.Started) (H : Type) (enc : TypeId × Value → H) :
    ReturnsInHanded {} Try.checked os 3 .any (Rows.rateRightsSpec.pre6 enc Try.prog Try.f3 Rows.rateRightsRow.domain false) (Rows.rateRightsSpec.post enc Try.prog Try.f3 false true false false) := by
  refine returnsInHanded_of_change (C := Try.checked) own started (by kernel_rfl) Try.func3
    (ChangeSpec.witness6 (enc := enc) (C := Try.checked) false ⟨#[], #[.int .u64 0], []⟩ 8 (by kernel_rfl) (by kernel_rfl) (by kernel_rfl) (by kernel_rfl)) ?_
  intro W base args ds gs before hval0 hW hcnd _
  have hval : ∀ (j : Nat) t v, Try.f3.params[j]? = some t → args[j]? = some v → Value.okWide Try.prog W .any base t v := hval0
  have hW' := hW
  obtain ⟨p, q, hA0, hV, rfl, hfz, hnd⟩ := hW
  have hA : DataW.TrodAll enc Try.prog W 0 (fun _ => true) true Try.f3.params.toList args.toList ds p := hA0
  rw [Try.params3] at hA hval
  obtain ⟨v0, vs0, d0, ds0, p0, q0, hargs, rfl, rfl, h0, r0⟩ := trodAll_cons hA
  obtain ⟨rfl, rfl, rfl⟩ := trodAll_nil r0
  obtain rfl : args = #[v0] := by cases args; simp_all
  obtain ⟨rfl, rfl⟩ := trodVars_none hV
  obtain ⟨a0, rfl, rfl, rfl, w0⟩ := open_int Try.underlying22 (hval 0 22 v0 rfl rfl) h0
  clear hA0 hval0
  simp only [List.append_nil] at hW'
  refine (walk a0 w0 W).mono fun e W' ⟨he, hg⟩ => ?_
  subst he
  exact ⟨_, rfl, _, _, _, [], [], [], hW', trodAll_cons_mk (shut_bool Try.underlying4 _) trodAll_mk0, trodAll_cons_mk (shut_int Try.underlying22 w0) trodAll_mk0, rfl, hg.frame _, fun h => by cases h⟩

theorem over : Rows.rateRightsRow.holds Try.pinned (OpenSpec.ofChange Rows.rateRightsSpec) :=
  OpenClaim.holds_of_wide 3 Try.f3 rfl rfl rfl rfl rfl rfl rfl ⟨rfl, rfl, rfl, rfl, rfl⟩ rfl rfl rfl rfl rfl (by kernel_rfl) Try.func3 (by kernel_rfl)
    (of_decide_eq_true (by kernel_rfl)) (by unfold Func.isWrapper; first | (rw [if_pos (by decide +kernel)]; kernel_rfl) | (rw [if_neg (by decide +kernel)]; exact ⟨rfl, rfl⟩))
    (fun os started H enc _ => lifted os started H enc)

theorem proved : Rows.RateRightsSaid :=
  over
#print axioms proved
end Go.Proofs.Ytlcjjgfopalefaa.rateRights
