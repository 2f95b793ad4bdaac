/- A logic over the walk's rules, eleventh part: regions whose order is open. -/
import Derived.Test.YtlclgpiabjlpbaaAm10
import Derived.Deep.Quiet
import Derived.StillTail
namespace Go.Proofs.Ytlclgpiabjlpbaa.Am
open Go.RowKit
set_option linter.unusedVariables false

section
variable {T : TT}

/-- A value that is what it is: no slice, no address in it. -/
def rig : AV → Bool
  | .agg cs => cs.all AV.plain
  | .tup cs => cs.all AV.plain
  | x => x.plain
def toVd : AV → Value
  | .agg cs => .agg (cs.map toV).toArray
  | .tup cs => .tuple (cs.map toV).toArray
  | x => toV x
theorem rig_eq {G : Gh} {x : AV} {v : Value} (hr : rig x = true) (h : Rel T G x v) : v = toVd x := by
  cases x with
  | agg cs => obtain ⟨vs, rfl, hs⟩ := h; rw [hs.eqV hr]; rfl
  | tup cs => obtain ⟨vs, rfl, hs⟩ := h; rw [hs.eqV hr]; rfl
  | _ => exact h.eqV hr
theorem rig_rel {G : Gh} {x : AV} (hr : rig x = true) : Rel T G x (toVd x) := by
  cases x with
  | agg cs => exact ⟨_, rfl, RelL.toV hr⟩
  | tup cs => exact ⟨_, rfl, RelL.toV hr⟩
  | _ => exact Rel.toV hr

/-- What a quiet operation yields. -/
def AQ1 (T : TT) (o : Oper) (fr : FrA) (H : AH) (r : AV) : Prop :=
  pop T o.op fr H = some r ∨
  (∃ (f : FuncId) (xs : List Operand) (ts : Array TypeId) (fn : Func), o.op = .call { callee := .value (.func f), args := xs.toArray, argTypes := ts } ∧ T.P.funcs[f]? = some fn ∧ fn.body.isNone = false ∧ (fn.name == "runtime.NumGoroutine") = false ∧
    rig r = true ∧ cleanL (xs.map (ev fr)) = true ∧ ACalls T f (xs.map (ev fr)) ⟨[], []⟩ (fun r' _ => r' = r)) ∨
  ∃ (t : Nat) (f : FuncId) (caps : List AV) (xs : List Operand) (ts : Array TypeId) (fn : Func), o.op = .call { callee := .value (.tmp t), args := xs.toArray, argTypes := ts } ∧ fr t = .fn f caps ∧ T.P.funcs[f]? = some fn ∧ fn.body.isNone = false ∧ (fn.name == "runtime.NumGoroutine") = false ∧
    rig r = true ∧ cleanL (xs.map (ev fr) ++ caps) = true ∧ ACalls T f (xs.map (ev fr) ++ caps) ⟨[], []⟩ (fun r' _ => r' = r)

def AQ (T : TT) (N : Nat) (ops : Array Oper) (H : AH) (K : FrA → Prop) : List Oper → FrA → Prop
  | [], fr => K fr
  | o :: rest, fr => okD N o.dst = true ∧
    match aw ops fr o with
    | some true => ∃ r, AQ1 T o fr H r ∧ AQ T N ops H K rest (updO fr o.dst r)
    | some false => AQ T N ops H K rest (updO fr o.dst (.tup []))
    | none => False

theorem inv_empty {B : Nat} {G : Gh} {H : AH} {w : World} (hi : Inv T B G H w) : ∃ G0 : Gh, Inv T w.heap.size G0 ⟨[], []⟩ w ∧ ∀ c i x, clean x = true → G.im c i x → G0.im c i x := by
  have hcl : ∀ c i x, clean x = true → G.im c i x → (clean x = true ∧ G.im c i x) := fun c i x hc hx => ⟨hc, hx⟩
  refine ⟨{ im := fun c i x => clean x = true ∧ G.im c i x, bx := fun _ => none, tk := fun _ => none, kp := fun _ => none }, ?_, hcl⟩
  refine ⟨Nat.le_refl _, (fun b c hb => by cases hb), (fun b b' c hb => by cases hb), (fun b x hb => by simp at hb), fun c i x hx => ?_, (fun t ht => by cases ht), ⟨0, fun _ _ => rfl⟩, (fun t t' k k' ht => by cases ht), (fun c o ho => by cases ho)⟩
  obtain ⟨hc, hx⟩ := hx
  obtain ⟨⟨v, hv, hr⟩, h2, _⟩ := hi.im c i x hx
  exact ⟨⟨v, hv, clean_rel hcl x v hc hr⟩, h2, (fun b hb => by cases hb)⟩

theorem below_chain {w w1 w2 : World} (h : Below w.heap.size w w1) (k : Below w1.heap.size w1 w2) : Below w.heap.size w w2 := h.trans (k.mono h.size)

theorem aq1_sound {B N : Nat} {G : Gh} {H : AH} {w : World} {fr : FrA} {a : Act} (hi : Inv T B G H w) (hf : RelF T N G fr a) {o : Oper} {r : AV} (h : AQ1 T o fr H r) :
    ∃ v, Rel T G r v ∧ ∀ w1, Below w.heap.size w w1 → o.quietAt T.P a (fun w' => Below w.heap.size w w') w1 v := by
  rcases h with h | ⟨f, xs, ts, fn, ho, hfn, hb, hnm, hr, hcl, hc⟩ | ⟨t, f, caps, xs, ts, fn, ho, ht, hfn, hb, hnm, hr, hcl, hc⟩
  · obtain ⟨v, h1, h2⟩ := pop_sound hi hf o h
    refine ⟨v, h1, fun w1 hb => ?_⟩
    unfold Oper.quietAt
    rw [h2 w1 hb]
    exact ⟨rfl, rfl⟩
  · refine ⟨toVd r, rig_rel hr, fun w1 hb1 => ?_⟩
    have hrun : (execOp a.eval o).run T.P w1 = .ok (.enter f (xs.map a.eval).toArray) w1 := by
      have h1 : fn.name ≠ "runtime.NumGoroutine" := by simpa using hnm
      have h2 : ¬ fn.body = none := by intro e; rw [e] at hb; simp at hb
      simp [execOp, ho, resolve, Act.eval, Deferred.ofValue, invoke, callFunc, hfn, h1, h2]
    unfold Oper.quietAt
    rw [hrun]
    refine ⟨rfl, ?_⟩
    obtain ⟨G0, hi0, hcl0⟩ := inv_empty (hi.below hb1)
    refine Calls.mono' (hc w1.heap.size G0 w1 _ hi0 (cleanL_rel hcl0 _ _ hcl (map_rel hf xs))) fun e w' ⟨r', v, G', H', he, hr', hrel, _, _, hb2⟩ => ?_
    subst hr'
    exact ⟨by rw [he, rig_eq hr hrel], below_chain hb1 hb2⟩
  · have hc0 := hf.rel t
    rw [ht] at hc0
    obtain ⟨cvs, hcv, hcr⟩ := hc0
    refine ⟨toVd r, rig_rel hr, fun w1 hb1 => ?_⟩
    have hrun : (execOp a.eval o).run T.P w1 = .ok (.enter f (xs.map a.eval ++ cvs).toArray) w1 := by
      have h1 : fn.name ≠ "runtime.NumGoroutine" := by simpa using hnm
      have h2 : ¬ fn.body = none := by intro e; rw [e] at hb; simp at hb
      have h3 : a.eval (.tmp t) = .func (.func f) #[] cvs.toArray := hcv
      simp [execOp, ho, resolve, h3, Deferred.ofValue, invoke, callFunc, hfn, h1, h2]
    unfold Oper.quietAt
    rw [hrun]
    refine ⟨rfl, ?_⟩
    obtain ⟨G0, hi0, hcl0⟩ := inv_empty (hi.below hb1)
    refine Calls.mono' (hc w1.heap.size G0 w1 _ hi0 (cleanL_rel hcl0 _ _ hcl ((map_rel hf xs).append hcr))) fun e w' ⟨r', v, G', H', he, hr', hrel, _, _, hb2⟩ => ?_
    subst hr'
    exact ⟨by rw [he, rig_eq hr hrel], below_chain hb1 hb2⟩

theorem aq_sound {B N : Nat} {G : Gh} {H : AH} {w : World} (hi : Inv T B G H w) {ops : Array Oper} {K : FrA → Prop} {Q : Act → Prop} (hQ : ∀ fr' a', K fr' → RelF T N G fr' a' → Q a') : ∀ (l : List Oper) (fr : FrA) (a : Act), RelF T N G fr a → AQ T N ops H K l fr →
    wpQuiet T.P ops (fun w' => Below w.heap.size w w') Q l a
  | [], fr, a, hf, h => hQ fr a h hf
  | o :: rest, fr, a, hf, h => by
    obtain ⟨hd, h⟩ := h
    unfold wpQuiet
    split at h
    · rename_i e
      rw [if_pos (aw_sound hf e)]
      obtain ⟨r, h1, h2⟩ := h
      obtain ⟨v, q1, q2⟩ := aq1_sound hi hf h1
      exact ⟨v, q2, aq_sound hi hQ rest _ _ (hf.put hd q1) h2⟩
    · rename_i e
      rw [if_neg (by rw [aw_sound hf e]; simp)]
      exact aq_sound hi hQ rest _ _ (hf.put hd (x := .tup []) ⟨[], rfl, rfl⟩) h
    · exact h.elim

/-- A region whose order is open, of quiet operations. -/
theorem awp_draw {N : Nat} {Q : Exit → FrA → AH → Prop} {fr : FrA} {H : AH} {id : Nat} {l : List Oper} (hB : Region.lexB .any l.toArray = true) (h : AQ T N l.toArray H (fun fr' => Q .normal fr' H) l fr) : AWp T N (.region id l.toArray true) Q fr H := by
  intro B G w a hi hf
  refine wp_region_quiet (C := fun w' => Below w.heap.size w w') T.mix hB (Below.refl _ w).drew ?_
  simp only
  refine aq_sound hi (K := fun fr' => Q .normal fr' H) (fun fr' a' hk hf' w' hb => ?_) l fr a hf h
  exact ⟨fr', H, G, hk, hf', hi.below hb, .refl _, hb.mono hi.hB⟩

/-- Operations that leave the world as it is. -/
def AS (T : TT) (N : Nat) (ops : Array Oper) (H : AH) (K : FrA → Prop) : List Oper → FrA → Prop
  | [], fr => K fr
  | o :: rest, fr => okD N o.dst = true ∧
    match aw ops fr o with
    | some true => match pop T o.op fr H with
      | some r => AS T N ops H K rest (updO fr o.dst r)
      | none => False
    | some false => AS T N ops H K rest (updO fr o.dst (.tup []))
    | none => False
theorem as_sound {B N : Nat} {G : Gh} {H : AH} {w : World} (hi : Inv T B G H w) {ops : Array Oper} {K : FrA → Prop} {Q : Act → Prop} (hQ : ∀ fr' a', K fr' → RelF T N G fr' a' → Q a') : ∀ (l : List Oper) (fr : FrA) (a : Act), RelF T N G fr a → AS T N ops H K l fr → wpStill T.P ops w Q l a
  | [], fr, a, hf, h => hQ fr a h hf
  | o :: rest, fr, a, hf, h => by
    obtain ⟨hd, h⟩ := h
    unfold wpStill
    split at h
    · rename_i e
      rw [if_pos (aw_sound hf e)]
      split at h
      · rename_i r hr
        obtain ⟨v, q1, q2⟩ := pop_sound hi hf o hr
        unfold Oper.still
        rw [q2 w (.refl _ _), Oper.stillUpon_value]
        exact as_sound hi hQ rest _ _ (hf.put hd q1) h
      · exact h.elim
    · rename_i e
      rw [if_neg (by rw [aw_sound hf e]; simp)]
      exact as_sound hi hQ rest _ _ (hf.put hd (x := .tup []) ⟨[], rfl, rfl⟩) h
    · exact h.elim

/-- A region whose order is open but for its tail. -/
theorem awp_draw_tail {N : Nat} {Q : Exit → FrA → AH → Prop} {fr : FrA} {H : AH} {id : Nat} {l : List Oper} (n : Nat) (hB : Region.lexTailB .any l.toArray n = true) (h : AS T N l.toArray H (fun fr' => AOps T N l.toArray (Q .normal) (l.drop n) fr' H) (l.take n) fr) :
    AWp T N (.region id l.toArray true) Q fr H := by
  intro B G w a hi hf
  have hb : Below w.heap.size w w.drew := (Below.refl _ w).drew
  refine wp_region_still_tail n T.mix hB ?_
  refine as_sound (hi.below hb) (fun fr' a' hk hf' => ?_) _ fr a hf h
  exact aops_sound _ fr' H hk B G w.drew a' _ (hi.below hb) hf' fun e a2 w2 hp => Post.trans (.refl _) (hb.mono hi.hB) hp
end
end Go.Proofs.Ytlclgpiabjlpbaa.Am
