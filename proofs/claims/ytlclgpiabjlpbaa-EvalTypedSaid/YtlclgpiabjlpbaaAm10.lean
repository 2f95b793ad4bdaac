/- A logic over the walk's rules, tenth part: what a body hands back; weaker readings of a value; calls that only compute; regions in whatever order. -/
import Derived.Test.YtlclgpiabjlpbaaAm9
namespace Go.Proofs.Ytlclgpiabjlpbaa.Am
open Go.RowKit
set_option linter.unusedVariables false

section
variable {T : TT}

/-! ### What a body hands back -/
def resOne (T : TT) (fr : FrA) (H : AH) : ResultVar → Option AV
  | .tmp t => some (fr t)
  | .cell a t => aload T t (fr a) H
def resL (T : TT) (fr : FrA) (H : AH) : List ResultVar → Option (List AV)
  | [] => some []
  | r :: rs => (resOne T fr H r).bind fun x => (resL T fr H rs).map fun xs => x :: xs
def packV : List AV → AV
  | [x] => x
  | xs => .tup xs
def resV (T : TT) (fr : FrA) (H : AH) (rs : List ResultVar) : Option AV := (resL T fr H rs).map packV

theorem load_addr {B : Nat} {G : Gh} {H : AH} {w : World} (hi : Inv T B G H w) {t : TypeId} {x r : AV} {y : Value} (hx : Rel T G x y) (h : aload T t x H = some r) :
    ∃ v, Rel T G r v ∧ (do loadVar t (← asAddr y) : Sem Value).run T.P w = .ok v w := by
  obtain ⟨v, h1, h2⟩ := aload_sound hi hx h
  have h3 := h2 w (.refl _ _)
  refine ⟨v, h1, ?_⟩
  unfold aload at h
  split at h
  · obtain ⟨c, _, rfl⟩ := hx
    simpa [Instr.loadAt, Instr.sureAddr, asAddr] using h3
  · obtain ⟨c, o, rfl, _⟩ := hx
    simpa [Instr.loadAt, Instr.sureAddr, asAddr] using h3
  · cases h

def resSem (tmps : Array Value) : ResultVar → Sem Value
  | .tmp t => pure (tmps.getD t undef)
  | .cell p t => do loadVar t (← asAddr (tmps.getD p undef))
theorem results_eq (fn : Func) (tmps : Array Value) : results fn tmps = (do
    let vs ← fn.results.mapM (resSem tmps)
    pure (if h : vs.size = 1 then vs[0] else .tuple vs)) := by
  rfl

theorem resL_sound {B N : Nat} {G : Gh} {H : AH} {w : World} {fr : FrA} {a : Act} (hi : Inv T B G H w) (hf : RelF T N G fr a) : ∀ (rs : List ResultVar) (xs : List AV), resL T fr H rs = some xs →
    ∃ vs : List Value, RelL T G xs vs ∧ (rs.mapM (resSem a.tmps)).run T.P w = .ok vs w
  | [], xs, h => by obtain rfl := Option.some.inj h; exact ⟨[], rfl, by simp⟩
  | r :: rs, xs, h => by
    simp only [resL, Option.bind_eq_some_iff, Option.map_eq_some_iff] at h
    obtain ⟨x, h1, ys, h2, rfl⟩ := h
    obtain ⟨vs, e1, e2⟩ := resL_sound hi hf rs ys h2
    cases r with
    | tmp t =>
      obtain rfl := Option.some.inj h1
      refine ⟨_, ⟨a.tmps.getD t undef, vs, rfl, hf.rel t, e1⟩, ?_⟩
      rw [List.mapM_cons]
      simp only [resSem, Sem.run_bind, Sem.run_pure, Result.andThen_ok]
      rw [e2]
      rfl
    | cell p t =>
      obtain ⟨v, q1, q2⟩ := load_addr hi (hf.rel p) h1
      refine ⟨_, ⟨v, vs, rfl, q1, e1⟩, ?_⟩
      rw [List.mapM_cons]
      rw [Sem.run_bind, show (resSem a.tmps (.cell p t)).run T.P w = _ from q2]
      simp only [Sem.run_bind, Sem.run_pure, Result.andThen_ok, e2]

theorem results_sound {B N : Nat} {G : Gh} {H : AH} {w : World} {fr : FrA} {a : Act} (hi : Inv T B G H w) (hf : RelF T N G fr a) {fn : Func} {rs : List ResultVar} (hrs : fn.results = rs.toArray) {x : AV} (h : resV T fr H rs = some x) :
    ∃ v, Rel T G x v ∧ (results fn a.tmps).run T.P w = .ok v w := by
  simp only [resV, Option.map_eq_some_iff] at h
  obtain ⟨xs, h1, rfl⟩ := h
  obtain ⟨vs, e1, e2⟩ := resL_sound hi hf rs xs h1
  have hl := e1.length
  have hm : (results fn a.tmps).run T.P w = .ok (if h : vs.toArray.size = 1 then vs.toArray[0] else .tuple vs.toArray) w := by
    rw [results_eq, hrs, List.mapM_toArray]
    simp only [Sem.run_bind, Sem.run_map]
    rw [e2]
    rfl
  rw [hm]
  match xs, vs, e1, hl with
  | [], [], _, _ => exact ⟨_, ⟨[], rfl, rfl⟩, rfl⟩
  | [x], [v], e1, _ => obtain ⟨v', vs', q, hr, _⟩ := e1; injection q with q _; subst q; exact ⟨v, hr, rfl⟩
  | x :: y :: xs, u :: v :: vs, e1, _ => exact ⟨_, ⟨_, rfl, e1⟩, rfl⟩

def fr0 (args : List AV) : FrA := fun k => (args[k]?).getD .u

/-- A function by its body. -/
theorem acalls_body {f : FuncId} {fn : Func} {c : Code} (hf : T.P.funcs[f]? = some fn) (hb : fn.body = some c) {args : List AV} {H : AH} {R : AV → AH → Prop} {n : Nat} (hn : fn.ntmps = n) (hle : args.length ≤ n) {rs : List ResultVar} (hrs : fn.results = rs.toArray)
    (h : AWp T n c (fun e fr' H' => (e = .ret ∨ e = .normal) ∧ ∃ r, resV T fr' H' rs = some r ∧ R r H') (fr0 args) H) : ACalls T f args H R := by
  intro B G w vs hi ha
  subst hn
  have hl := ha.length
  refine calls_of_wp hf hb ?_
  have hrf : RelF T fn.ntmps G (fr0 args) { tmps := vs.toArray ++ Array.replicate (fn.ntmps - vs.toArray.size) undef, defers := [] } := by
    refine ⟨by simp; omega, rfl, fun k => ?_⟩
    unfold fr0
    by_cases hk : k < args.length
    · have hx : args[k]? = some args[k] := List.getElem?_eq_getElem hk
      obtain ⟨v, hv, hr⟩ := ha.get k _ hx
      rw [hx]
      rw [Array.getD_eq_getD_getElem?, Array.getElem?_append_left (by simp; omega)]
      simp only [List.getElem?_toArray, hv]
      exact hr
    · rw [List.getElem?_eq_none (by omega)]; exact trivial
  refine wp_mono (h B G w _ hi hrf) fun e a' w' ⟨fr', H', G', ⟨he, r, hr, hR⟩, hf', hi', hg, hb'⟩ => ?_
  obtain ⟨v, h1, h2⟩ := results_sound hi' hf' hrs hr
  rcases he with rfl | rfl
  · exact ⟨hf'.df, v, h2, r, v, G', H', rfl, hR, h1, hi', hg, hb'⟩
  · exact ⟨hf'.df, v, h2, r, v, G', H', rfl, hR, h1, hi', hg, hb'⟩

/-! ### Weaker readings -/
mutual
inductive Wk : AV → AV → Prop
  | refl (x : AV) : Wk x x
  | l (t : Option Nat) (E : TypeId) (es : List (List AV)) : Wk (.l t E es) (.l none E es)
  | nil (E : TypeId) : Wk .nil (.l none E [])
  | tup {xs ys : List AV} : WkL xs ys → Wk (.tup xs) (.tup ys)
  | agg {xs ys : List AV} : WkL xs ys → Wk (.agg xs) (.agg ys)
inductive WkL : List AV → List AV → Prop
  | nil : WkL [] []
  | cons {x y : AV} {xs ys : List AV} : Wk x y → WkL xs ys → WkL (x :: xs) (y :: ys)
end

mutual
theorem Wk.rel {G : Gh} : ∀ {x y : AV} (_ : Wk x y) {v : Value}, Rel T G x v → Rel T G y v
  | _, _, .refl x, _, h => h
  | _, _, .l t E es, _, h => by
    obtain ⟨A, cap, h1, h2, h3, h4, h5, h6⟩ := h
    exact ⟨A, cap, h1, h2, h3, h4, h5, fun tt ht => by cases ht⟩
  | _, _, .nil E, _, h => by
    cases h
    exact ⟨none, 0, rfl, Nat.le_refl _, Nat.zero_le _, by simp, fun q => absurd rfl q, fun tt ht => by cases ht⟩
  | _, _, .tup hw, _, h => by obtain ⟨vs, rfl, hr⟩ := h; exact ⟨vs, rfl, WkL.rel hw hr⟩
  | _, _, .agg hw, _, h => by obtain ⟨vs, rfl, hr⟩ := h; exact ⟨vs, rfl, WkL.rel hw hr⟩
theorem WkL.rel {G : Gh} : ∀ {xs ys : List AV} (_ : WkL xs ys) {vs : List Value}, RelL T G xs vs → RelL T G ys vs
  | _, _, .nil, _, h => h
  | _, _, .cons h1 h2, _, h => by obtain ⟨v, vs', rfl, hr, hrs⟩ := h; exact ⟨v, vs', rfl, Wk.rel h1 hr, WkL.rel h2 hrs⟩
end

theorem ACalls.args {f : FuncId} {xs ys : List AV} {H : AH} {R : AV → AH → Prop} (h : ACalls T f ys H R) (hw : WkL xs ys) : ACalls T f xs H R :=
  fun B G w vs hi ha => h B G w vs hi (WkL.rel hw ha)
theorem ACalls.res {f : FuncId} {xs : List AV} {H : AH} {R R' : AV → AH → Prop} (h : ACalls T f xs H R) (hr : ∀ r H', R r H' → ∃ r', Wk r r' ∧ R' r' H') : ACalls T f xs H R' :=
  fun B G w vs hi ha => Calls.mono' (h B G w vs hi ha) fun e w' ⟨r, v, G', H', he, hR, hrel, x⟩ => by
    obtain ⟨r', h1, h2⟩ := hr r H' hR
    exact ⟨r', v, G', H', he, h2, Wk.rel h1 hrel, x⟩

/-! ### Values that lead to no box and to no row -/
mutual
def clean : AV → Bool
  | .u | .ptr _ _ | .arr _ _ _ | .m _ | .cp _ => false
  | .l (some _) _ _ => false
  | .l none _ es => cleanLL es
  | .fn _ cs => cleanL cs
  | .ifc _ x => clean x
  | .agg cs => cleanL cs
  | .tup cs => cleanL cs
  | _ => true
def cleanL : List AV → Bool
  | [] => true
  | x :: xs => clean x && cleanL xs
def cleanLL : List (List AV) → Bool
  | [] => true
  | x :: xs => cleanL x && cleanLL xs
end
theorem cleanL_get : ∀ {xs : List AV}, cleanL xs = true → ∀ {i : Nat} {x : AV}, xs[i]? = some x → clean x = true
  | [], _, i, x, h => by simp at h
  | y :: ys, hc, 0, x, h => by simp only [cleanL, Bool.and_eq_true] at hc; simp at h; subst h; exact hc.1
  | y :: ys, hc, i + 1, x, h => by simp only [cleanL, Bool.and_eq_true] at hc; exact cleanL_get hc.2 (by simpa using h)
theorem cleanLL_get : ∀ {xs : List (List AV)}, cleanLL xs = true → ∀ {i : Nat} {x : List AV}, xs[i]? = some x → cleanL x = true
  | [], _, i, x, h => by simp at h
  | y :: ys, hc, 0, x, h => by simp only [cleanLL, Bool.and_eq_true] at hc; simp at h; subst h; exact hc.1
  | y :: ys, hc, i + 1, x, h => by simp only [cleanLL, Bool.and_eq_true] at hc; exact cleanLL_get hc.2 (by simpa using h)
theorem cleanLL_map {α : Type} {g : α → List AV} : ∀ {xs : List α}, (∀ x ∈ xs, cleanL (g x) = true) → cleanLL (xs.map g) = true
  | [], _ => rfl
  | x :: xs, h => by simp only [List.map_cons, cleanLL, Bool.and_eq_true]; exact ⟨h x (by simp), cleanLL_map fun y hy => h y (by simp [hy])⟩

mutual
theorem clean_rel {G G' : Gh} (h : ∀ c i x, clean x = true → G.im c i x → G'.im c i x) : ∀ (x : AV) (v : Value), clean x = true → Rel T G x v → Rel T G' x v
  | .u, _, hc, _ => by cases hc
  | .b _, _, _, e => e
  | .i _ _, _, _, e => e
  | .f _, _, _, e => e
  | .s _, _, _, e => e
  | .np, _, _, e => e
  | .ptr _ _, _, hc, _ => by cases hc
  | .cp _, _, hc, _ => by cases hc
  | .nil, _, _, e => e
  | .l (some _) _ _, _, hc, _ => by cases hc
  | .l none _ es, _, hc, e => by
    obtain ⟨A, cap, e1, e2, e3, e4, e5, e6⟩ := e
    exact ⟨A, cap, e1, e2, e3, e4, fun hne => by
      obtain ⟨c, o, q1, q2⟩ := e5 hne
      exact ⟨c, o, q1, fun i j x y hx hy => h _ _ _ (cleanL_get (cleanLL_get hc hx) hy) (q2 i j x y hx hy)⟩, fun tt ht => by cases ht⟩
  | .arr _ _ _, _, hc, _ => by cases hc
  | .m _, _, hc, _ => by cases hc
  | .nm, _, _, e => e
  | .fn _ caps, _, hc, e => by obtain ⟨vs, e1, e2⟩ := e; exact ⟨vs, e1, cleanL_rel h caps vs hc e2⟩
  | .nf, _, _, e => e
  | .ni, _, _, e => e
  | .ifc _ x, _, hc, e => by obtain ⟨y, e1, e2⟩ := e; exact ⟨y, e1, clean_rel h x y hc e2⟩
  | .agg cs, _, hc, e => by obtain ⟨vs, e1, e2⟩ := e; exact ⟨vs, e1, cleanL_rel h cs vs hc e2⟩
  | .tup cs, _, hc, e => by obtain ⟨vs, e1, e2⟩ := e; exact ⟨vs, e1, cleanL_rel h cs vs hc e2⟩
  | .k _, _, _, e => e
theorem cleanL_rel {G G' : Gh} (h : ∀ c i x, clean x = true → G.im c i x → G'.im c i x) : ∀ (xs : List AV) (vs : List Value), cleanL xs = true → RelL T G xs vs → RelL T G' xs vs
  | [], _, _, e => e
  | x :: xs, _, hc, e => by
    simp only [cleanL, Bool.and_eq_true] at hc
    obtain ⟨v, vs', e1, e2, e3⟩ := e
    exact ⟨v, vs', e1, clean_rel h x v hc.1 e2, cleanL_rel h xs vs' hc.2 e3⟩
end

/-- A call that only computes: whatever the heap. -/
theorem acalls_frame {f : FuncId} {args : List AV} {R : AV → Prop} (hargs : cleanL args = true) (h : ACalls T f args ⟨[], []⟩ (fun r _ => ∃ r', Wk r r' ∧ clean r' = true ∧ R r')) (H : AH) :
    ACalls T f args H (fun r H' => R r ∧ H' = H) := by
  intro B G w vs hi ha
  let G0 : Gh := { im := fun c i x => clean x = true ∧ G.im c i x, bx := fun _ => none, tk := fun _ => none, kp := fun _ => none }
  have hcl : ∀ c i x, clean x = true → G.im c i x → G0.im c i x := fun c i x hc hx => ⟨hc, hx⟩
  have hi0 : Inv T w.heap.size G0 ⟨[], []⟩ w := by
    refine ⟨Nat.le_refl _, (fun b c hb => by cases hb), (fun b b' c hb => by cases hb), (fun b x hb => by simp at hb), fun c i x hx => ?_, (fun t ht => by cases ht), ⟨0, fun _ _ => rfl⟩, (fun t t' k k' ht => by cases ht), (fun c o ho => by cases ho)⟩
    obtain ⟨hc, hx⟩ := hx
    obtain ⟨⟨v, hv, hr⟩, h2, _⟩ := hi.im c i x hx
    exact ⟨⟨v, hv, clean_rel hcl x v hc hr⟩, h2, (fun b hb => by cases hb)⟩
  refine Calls.mono' (h w.heap.size G0 w vs hi0 (cleanL_rel hcl args vs hargs ha)) fun e w' ⟨r, v, G1, H1, he, ⟨r', hwk, hrc, hR⟩, hrel, hi1, hle1, hb1⟩ => ?_
  let G2 : Gh := { G with im := fun c i x => G.im c i x ∨ (w.heap.size ≤ c ∧ clean x = true ∧ G1.im c i x) }
  have hle : G.le B G2 := ⟨fun _ _ _ hx => .inl hx, fun c i x hc hx => by
    rcases hx with hx | ⟨hx, _⟩
    · exact hx
    · have := hi.hB; omega, fun _ _ hx => hx, fun _ _ hx => hx, fun _ => rfl, fun c i x hc hx => by
    rcases hx with hx | ⟨hx, _⟩
    · exact hx
    · have := hi.kp_lt hc; omega⟩
  have hcl2 : ∀ c i x, clean x = true → G1.im c i x → G2.im c i x := by
    intro c i x hc hx
    by_cases hlt : c < w.heap.size
    · exact .inl (hle1.lo c i x hlt hx).2
    · exact .inr ⟨by omega, hc, hx⟩
  have hib := hi.below hb1
  have hi2 : Inv T B G2 H w' := by
    refine ⟨hib.hB, hib.bx, hib.inj, fun b x hb => ?_, fun c i x hx => ?_, fun t ht => ?_, hib.fs, hib.ne, hib.kp⟩
    · obtain ⟨c, hc, hx⟩ := hib.bs b x hb
      exact ⟨c, hc, hx.mono hle⟩
    · rcases hx with hx | ⟨hc, hcx, hx⟩
      · obtain ⟨⟨u, hu, hr⟩, h2, h3⟩ := hib.im c i x hx
        exact ⟨⟨u, hu, Rel.mono hle _ _ hr⟩, h2, h3⟩
      · obtain ⟨⟨u, hu, hr⟩, h2, _⟩ := hi1.im c i x hx
        exact ⟨⟨u, hu, clean_rel hcl2 x u hcx hr⟩, h2, fun b hb => by have := (hi.bx b c hb).2.2; omega⟩
    · obtain ⟨k, xs, h1, h2, h3⟩ := hib.tk t ht
      obtain ⟨k', xs', h1', h2', _⟩ := hi.tk t ht
      rw [h1] at h1'; obtain rfl := Option.some.inj h1'
      refine ⟨k, xs, h1, h2, fun c hc => ⟨(h3 c hc).1, fun i hi' => ?_⟩⟩
      rintro ⟨zz, hz | ⟨hz, _⟩⟩
      · exact (h3 c hc).2 i hi' ⟨zz, hz⟩
      · have := (h2'.lt c hc).2; omega
  exact ⟨r', v, G2, H, he, ⟨hR, rfl⟩, clean_rel hcl2 r' v hrc (Wk.rel hwk hrel), hi2, hle, hb1.mono hi.hB⟩

/-- What was shown of a call over the model itself. -/
theorem acalls_lift {f : FuncId} {args : List AV} {r : AV} (ha : args.all AV.plain = true) (hr : r.plain = true) (h : ∀ w, Calls T.P f (args.map toV).toArray w fun e w' => e = .returned (toV r) ∧ Below w.heap.size w w') (H : AH) :
    ACalls T f args H (fun r' H' => r' = r ∧ H' = H) := by
  intro B G w vs hi hvs
  rw [hvs.eqV ha]
  refine Calls.mono' (h w) fun e w' ⟨he, hb⟩ => ⟨r, toV r, G, H, he, ⟨rfl, rfl⟩, Rel.toV hr, hi.below hb, .refl _, hb.mono hi.hB⟩
end
end Go.Proofs.Ytlclgpiabjlpbaa.Am
