/- ReadsUnlike: of unlike attributes the cells are unlike; in a session of others the environment's cells are the same. No condition. -/
import Derived.Test.YtlcjjgfopalefaaR
import Derived.ProofKit
import Derived.OpenShut
import Derived.ChangeOld
import Derived.Carry
namespace Go.Proofs.Ytlcjjgfopalefaa.readsUnlike
open Go.ChangeShapes Go.WideShapes Go.ChangeAt Go.RowKit Go.Proofs.Ytlcjjgfopalefaa.Am

theorem own : ownKnob Try.prog.godebug = none := by kernel_rfl
theorem laidOut : laidOutB Try.prog = true := by kernel_rfl

theorem walk (a b : Ref) (n1 n2 : ByteArray) (w : World) :
    Calls Try.prog 7 #[.agg #[.int .i64 a.scope, .string a.name], .agg #[.int .i64 b.scope, .string b.name], .agg #[.string n1, .string n2]] w fun e w' => e = .returned (.bool true) ∧ Below w.heap.size w w' := by
  have h := readsUnlike_c a b n1 n2 ⟨[], []⟩
  have hi : Inv tt w.heap.size { im := fun _ _ _ => False, bx := fun _ => none, tk := fun _ => none } ⟨[], []⟩ w :=
    ⟨Nat.le_refl _, (fun b c hb => by cases hb), (fun b b' c hb => by cases hb), (fun b x hb => by simp at hb), (fun c i x hx => hx.elim), (fun t ht => by cases ht), ⟨0, fun _ _ => rfl⟩, (fun t t' k k' ht => by cases ht)⟩
  have h2 := h w.heap.size _ w [.agg #[.int .i64 a.scope, .string a.name], .agg #[.int .i64 b.scope, .string b.name], .agg #[.string n1, .string n2]] hi
    ⟨_, _, rfl, ⟨[_, _], rfl, _, _, rfl, rfl, _, _, rfl, rfl, rfl⟩, _, _, rfl, ⟨[_, _], rfl, _, _, rfl, rfl, _, _, rfl, rfl, rfl⟩, _, _, rfl, ⟨[_, _], rfl, _, _, rfl, rfl, _, _, rfl, rfl, rfl⟩, rfl⟩
  refine Am.Calls.mono' (show Calls Try.prog _ _ w _ from h2) ?_
  rintro e w' ⟨r, v, G', H', rfl, ⟨rfl, _⟩, hr, _, _, hb⟩
  have hr : v = .bool true := hr
  exact ⟨by rw [hr], hb⟩

theorem two {α : Type} {l : List α} (h : l.length = 2) : ∃ x y, l = [x, y] := by
  match l, h with
  | [x, y], _ => exact ⟨x, y, rfl⟩
theorem two' {l : Array Value} (h : l.size = 2) : ∃ x y, l = #[x, y] := by
  obtain ⟨l⟩ := l
  obtain ⟨x, y, rfl⟩ := two (l := l) h
  exact ⟨x, y, rfl⟩

set_option maxRecDepth 100000 in
theorem lifted (os : Os) (started : os.Started) (H : Type) (enc : TypeId × Value → H) :
    ReturnsInHanded {} Try.checked os 7 .any (Rows.readsUnlikeSpec.pre6 enc Try.prog Try.f7 Rows.readsUnlikeRow.domain false) (Rows.readsUnlikeSpec.post enc Try.prog Try.f7 false true false false) := by
  refine returnsInHanded_of_change (C := Try.checked) own started (by kernel_rfl) Try.func7
    (ChangeSpec.witness6 (enc := enc) (C := Try.checked) false ⟨#[], #[.agg #[.int .i64 0, .string ByteArray.empty], .agg #[.int .i64 0, .string ByteArray.empty], .agg #[.string ByteArray.empty, .string ByteArray.empty]], []⟩ 8 (by kernel_rfl) (by kernel_rfl) (by kernel_rfl) (by kernel_rfl)) ?_
  intro W base args ds gs before hval0 hW hcnd _
  have hval : ∀ (j : Nat) t v, Try.f7.params[j]? = some t → args[j]? = some v → Value.okWide Try.prog W .any base t v := hval0
  have hW' := hW
  obtain ⟨p, q, hA0, hV, rfl, hfz, hnd⟩ := hW
  have hA : DataW.TrodAll enc Try.prog W 0 (fun _ => true) true Try.f7.params.toList args.toList ds p := hA0
  rw [Try.params7] at hA hval
  obtain ⟨v0, vs0, d0, ds0, p0, q0, hargs, rfl, rfl, h0, r0⟩ := trodAll_cons hA
  obtain ⟨v1, vs1, d1, ds1, p1, q1, rfl, rfl, rfl, h1, r1⟩ := trodAll_cons r0
  obtain ⟨v2, vs2, d2, ds2, p2, q2, rfl, rfl, rfl, h2, r2⟩ := trodAll_cons r1
  obtain ⟨rfl, rfl, rfl⟩ := trodAll_nil r2
  obtain rfl : args = #[v0, v1, v2] := by cases args; simp_all
  obtain ⟨rfl, rfl⟩ := trodVars_none hV
  have k0 := h0
  have k1 := h1
  have k2 := h2
  have lt0 : ∀ x ∈ p0, x.block < W.heap.size := by obtain ⟨m, hm⟩ := k0; exact DataW.trod_lt m _ _ _ hm
  have lt1 : ∀ x ∈ p1, x.block < W.heap.size := by obtain ⟨m, hm⟩ := k1; exact DataW.trod_lt m _ _ _ hm
  have lt2 : ∀ x ∈ p2, x.block < W.heap.size := by obtain ⟨m, hm⟩ := k2; exact DataW.trod_lt m _ _ _ hm
  have ref : ∀ {v d ps}, Value.okWide Try.prog W .any base 38 v → DataW.Trod enc Try.prog W 0 (fun _ => true) true 38 v d ps → ∃ r : Ref, v = .agg #[.int .i64 r.scope, .string r.name] := by
    intro v d ps hv h
    obtain ⟨cs, rfl, hs⟩ := okWide_struct Try.underlying38 hv
    obtain ⟨c0, c1, rfl⟩ := two' hs
    obtain ⟨m, hm⟩ := h
    obtain ⟨xs, n, _, _, _, hl, hx⟩ := DataW.trod_struct Try.underlying38 hm
    obtain ⟨y0, y1, rfl⟩ := two hl
    obtain ⟨i, hi, _⟩ := DataW.trod_int Try.underlying3 (hx 0 _ rfl)
    obtain ⟨s, hs, _⟩ := DataW.trod_string Try.underlying9 (hx 1 _ rfl)
    have hi : [c0] = [.int .i64 i] := hi
    have hs : [c1] = [.string s] := hs
    injection hi with hi _
    injection hs with hs _
    exact ⟨⟨i, s⟩, by rw [hi, hs]⟩
  obtain ⟨a, rfl⟩ := ref (hval 0 38 v0 rfl rfl) h0
  obtain ⟨b, rfl⟩ := ref (hval 1 38 v1 rfl rfl) h1
  obtain ⟨n1, n2, rfl⟩ : ∃ n1 n2 : ByteArray, v2 = .agg #[.string n1, .string n2] := by
    have hv := hval 2 52 v2 rfl rfl
    simp only [Value.okWide, Try.underlying52] at hv
    obtain ⟨cs, rfl, hs, _⟩ := hv
    obtain ⟨c0, c1, rfl⟩ := two' hs
    obtain ⟨m, hm⟩ := h2
    obtain ⟨xs, n, _, _, _, hl, hx⟩ := DataW.trod_array Try.underlying52 hm
    obtain ⟨y0, y1, rfl⟩ := two hl
    obtain ⟨s, hs, _⟩ := DataW.trod_string Try.underlying9 (hx 0 (by decide))
    obtain ⟨t, ht, _⟩ := DataW.trod_string Try.underlying9 (hx 1 (by decide))
    have hs : [c0] = [.string s] := hs
    have ht : [c1] = [.string t] := ht
    injection hs with hs _
    injection ht with ht _
    exact ⟨s, t, by rw [hs, ht]⟩
  clear hA0 hval0
  refine (walk a b n1 n2 W).mono fun e W' ⟨he, bel⟩ => ?_
  subst he
  exact ⟨_, rfl, _, _, _, [], _, [], hW', trodAll_mk1 (shut_bool Try.underlying4 _), (trodAll_cons_mk (Below.trod laidOut (by kernel_rfl) (of_decide_eq_true (by kernel_rfl)) k0 bel lt0) (trodAll_cons_mk (Below.trod laidOut (by kernel_rfl) (of_decide_eq_true (by kernel_rfl)) k1 bel lt1) (trodAll_cons_mk (Below.trod laidOut (by kernel_rfl) (of_decide_eq_true (by kernel_rfl)) k2 bel lt2) trodAll_mk0))), rfl, bel.frame _, fun h => by cases h⟩

theorem over : Rows.readsUnlikeRow.holds Try.pinned (OpenSpec.ofChange Rows.readsUnlikeSpec) :=
  OpenClaim.holds_of_wide 7 Try.f7 rfl rfl rfl rfl rfl rfl rfl ⟨rfl, rfl, rfl, rfl, rfl⟩ rfl rfl rfl rfl rfl (by kernel_rfl) Try.func7 (by kernel_rfl)
    (of_decide_eq_true (by kernel_rfl)) (by unfold Func.isWrapper; first | (rw [if_pos (by decide +kernel)]; kernel_rfl) | (rw [if_neg (by decide +kernel)]; exact ⟨rfl, rfl⟩))
    (fun os started H enc _ => lifted os started H enc)

theorem proved : Rows.ReadsUnlikeSaid :=
  over
#print axioms proved
end Go.Proofs.Ytlcjjgfopalefaa.readsUnlike
