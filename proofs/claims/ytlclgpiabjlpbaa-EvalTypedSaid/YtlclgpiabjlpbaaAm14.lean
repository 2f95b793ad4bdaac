/- A logic over the walk's rules, fourteenth part: steps in regions whose order is open. -/
import Derived.Test.YtlclgpiabjlpbaaAm13
namespace Go.Proofs.Ytlclgpiabjlpbaa.Am
open Go.RowKit
set_option linter.unusedVariables false

section
variable {T : TT} {N : Nat} {ops : Array Oper} {K : FrA → Prop} {o : Oper} {rest : List Oper} {fr : FrA} {H : AH} {d : Nat}
theorem aq_nil (h : K fr) : AQ T N ops H K [] fr := h
theorem aq_bit {l : List Oper} (d : Nat) {b : Bool} (h : fr d = .b b) (k : ∀ b', b = b' → AQ T N ops H K l (upd fr d (.b b'))) : AQ T N ops H K l fr := by
  have := k b rfl
  rwa [upd_same h] at this
theorem aq_val {l : List Oper} (d : Nat) {x : AV} (y : AV) (h : fo (fr d) = some x) (e : x = y) (k : AQ T N ops H K l (upd fr d y)) : AQ T N ops H K l fr := by
  rwa [upd_same ((fo_eq h).trans e)] at k
theorem aq_op {x : AV} (hd : o.dst = some d) (hn : Nat.blt d N = true) (hw : aw ops fr o = some true) (h : AQ1 T o fr H x) (k : AQ T N ops H K rest (upd fr d x)) : AQ T N ops H K (o :: rest) fr := by
  refine ⟨by rw [hd]; simpa [okD] using hn, ?_⟩
  rw [hw, hd]
  exact ⟨x, h, k⟩
theorem aq_pop {x : AV} (hd : o.dst = some d) (hn : Nat.blt d N = true) (hw : aw ops fr o = some true) (h : (pop T o.op fr H).bind fo = some x) (k : AQ T N ops H K rest (upd fr d x)) : AQ T N ops H K (o :: rest) fr := by
  obtain ⟨y, h1, h2⟩ := Option.bind_eq_some_iff.1 h
  rw [← fo_eq h2] at k
  exact aq_op hd hn hw (.inl h1) k
theorem aq_popx (x : AV) (hd : o.dst = some d) (hn : Nat.blt d N = true) (hw : aw ops fr o = some true) (h : pop T o.op fr H = some x) (k : AQ T N ops H K rest (upd fr d x)) : AQ T N ops H K (o :: rest) fr :=
  aq_op hd hn hw (.inl h) k
theorem aq_skip (hd : o.dst = some d) (hn : Nat.blt d N = true) (hw : aw ops fr o = some false) (k : AQ T N ops H K rest (upd fr d (.tup []))) : AQ T N ops H K (o :: rest) fr := by
  refine ⟨by rw [hd]; simpa [okD] using hn, ?_⟩
  rw [hw, hd]
  exact k
theorem aq_idxA {t : TypeId} {x i : Operand} {tk : Option Nat} {E : TypeId} {es : List (List AV)} {kk : IntKind} {n : Nat} (e : List AV) (hd : o.dst = some d) (hn : Nat.blt d N = true) (hw : aw ops fr o = some true)
    (ho : o.op = .indexAddr t x i) (hx : ev fr x = .l tk E es) (hk : T.kd t = some (.slice E)) (hkn : T.kn E = true) (hi : ev fr i = .i kk (n : Nat)) (he : es[n]? = some e) (k : AQ T N ops H K rest (upd fr d (.cp e))) : AQ T N ops H K (o :: rest) fr :=
  aq_op hd hn hw (.inl (by simp [pop, ho, aidxA, hx, hk, hi, hkn, he])) k
theorem aq_idxS {t : TypeId} {x i : Operand} {s : ByteArray} {kk : IntKind} {n : Nat} (c : UInt8) (hd : o.dst = some d) (hn : Nat.blt d N = true) (hw : aw ops fr o = some true)
    (ho : o.op = .index t x i) (hx : ev fr x = .s s) (hk : T.kd t = some .string) (hi : ev fr i = .i kk (n : Nat)) (he : s[n]? = some c) (k : AQ T N ops H K rest (upd fr d (.i .u8 c.toNat))) : AQ T N ops H K (o :: rest) fr :=
  aq_op hd hn hw (.inl (by simp [pop, ho, aidx, hx, hk, hi, he])) k
/-- A call that only computes. -/
theorem aq_calc {f : FuncId} {xs : List Operand} {ts : Array TypeId} {fn : Func} (y : AV) (hd : o.dst = some d) (hn : Nat.blt d N = true) (hw : aw ops fr o = some true)
    (ho : o.op = .call { callee := .value (.func f), args := xs.toArray, argTypes := ts }) (hf : T.P.funcs[f]? = some fn) (hb : fn.body.isNone = false) (hnm : (fn.name == "runtime.NumGoroutine") = false)
    {args : List AV} (ha : xs.map (ev fr) = args) (h : ACalls T f args ⟨[], []⟩ fun r H' => r = y ∧ H' = ⟨[], []⟩) (hr : rig y = true) (hc : cleanL args = true) (k : AQ T N ops H K rest (upd fr d y)) : AQ T N ops H K (o :: rest) fr :=
  aq_op hd hn hw (.inr (.inl ⟨f, xs, ts, fn, ho, hf, hb, hnm, hr, by rw [ha]; exact hc, by rw [ha]; exact h.mono fun _ _ q => q.1⟩)) k
/-- A call of a function value that only computes. -/
theorem aq_calcv {t : Nat} {f : FuncId} {caps : List AV} {xs : List Operand} {ts : Array TypeId} {fn : Func} (y : AV) (hd : o.dst = some d) (hn : Nat.blt d N = true) (hw : aw ops fr o = some true)
    (ho : o.op = .call { callee := .value (.tmp t), args := xs.toArray, argTypes := ts }) (ht : fo (fr t) = some (.fn f caps)) (hf : T.P.funcs[f]? = some fn) (hb : fn.body.isNone = false) (hnm : (fn.name == "runtime.NumGoroutine") = false)
    {args : List AV} (ha : xs.map (ev fr) ++ caps = args) (h : ACalls T f args ⟨[], []⟩ fun r H' => r = y ∧ H' = ⟨[], []⟩) (hr : rig y = true) (hc : cleanL args = true) (k : AQ T N ops H K rest (upd fr d y)) : AQ T N ops H K (o :: rest) fr :=
  aq_op hd hn hw (.inr (.inr ⟨t, f, caps, xs, ts, fn, ho, fo_eq ht, hf, hb, hnm, hr, by rw [ha]; exact hc, by rw [ha]; exact h.mono fun _ _ q => q.1⟩)) k
theorem wp_regD {Q : Exit → FrA → AH → Prop} {id : Nat} {l : List Oper} {y : Code} (hB : Region.lexB .any l.toArray = true) (h : AQ T N l.toArray H (fun fr' => AWp T N y Q fr' H) l fr) : AWp T N (.seq (.region id l.toArray true) y) Q fr H :=
  awp_seq (awp_draw hB h)
end

section
variable {T : TT} {N : Nat} {ops : Array Oper} {K : FrA → Prop} {o : Oper} {rest : List Oper} {fr : FrA} {H : AH} {d : Nat}
theorem as_nil (h : K fr) : AS T N ops H K [] fr := h
theorem as_bit {l : List Oper} (d : Nat) {b : Bool} (h : fr d = .b b) (k : ∀ b', b = b' → AS T N ops H K l (upd fr d (.b b'))) : AS T N ops H K l fr := by
  have := k b rfl
  rwa [upd_same h] at this
theorem as_val {l : List Oper} (d : Nat) {x : AV} (y : AV) (h : fo (fr d) = some x) (e : x = y) (k : AS T N ops H K l (upd fr d y)) : AS T N ops H K l fr := by
  rwa [upd_same ((fo_eq h).trans e)] at k
theorem as_popx (x : AV) (hd : o.dst = some d) (hn : Nat.blt d N = true) (hw : aw ops fr o = some true) (h : pop T o.op fr H = some x) (k : AS T N ops H K rest (upd fr d x)) : AS T N ops H K (o :: rest) fr := by
  refine ⟨by rw [hd]; simpa [okD] using hn, ?_⟩
  rw [hw, hd]
  simp only [h]
  exact k
theorem as_pop {x : AV} (hd : o.dst = some d) (hn : Nat.blt d N = true) (hw : aw ops fr o = some true) (h : (pop T o.op fr H).bind fo = some x) (k : AS T N ops H K rest (upd fr d x)) : AS T N ops H K (o :: rest) fr := by
  obtain ⟨y, h1, h2⟩ := Option.bind_eq_some_iff.1 h
  rw [← fo_eq h2] at k
  exact as_popx _ hd hn hw h1 k
theorem as_skip (hd : o.dst = some d) (hn : Nat.blt d N = true) (hw : aw ops fr o = some false) (k : AS T N ops H K rest (upd fr d (.tup []))) : AS T N ops H K (o :: rest) fr := by
  refine ⟨by rw [hd]; simpa [okD] using hn, ?_⟩
  rw [hw, hd]
  exact k
theorem as_idxA {t : TypeId} {x i : Operand} {tk : Option Nat} {E : TypeId} {es : List (List AV)} {kk : IntKind} {n : Nat} (e : List AV) (hd : o.dst = some d) (hn : Nat.blt d N = true) (hw : aw ops fr o = some true)
    (ho : o.op = .indexAddr t x i) (hx : ev fr x = .l tk E es) (hk : T.kd t = some (.slice E)) (hkn : T.kn E = true) (hi : ev fr i = .i kk (n : Nat)) (he : es[n]? = some e) (k : AS T N ops H K rest (upd fr d (.cp e))) : AS T N ops H K (o :: rest) fr :=
  as_popx (.cp e) hd hn hw (by simp [pop, ho, aidxA, hx, hk, hi, hkn, he]) k
theorem as_idxS {t : TypeId} {x i : Operand} {s : ByteArray} {kk : IntKind} {n : Nat} (c : UInt8) (hd : o.dst = some d) (hn : Nat.blt d N = true) (hw : aw ops fr o = some true)
    (ho : o.op = .index t x i) (hx : ev fr x = .s s) (hk : T.kd t = some .string) (hi : ev fr i = .i kk (n : Nat)) (he : s[n]? = some c) (k : AS T N ops H K rest (upd fr d (.i .u8 c.toNat))) : AS T N ops H K (o :: rest) fr :=
  as_popx (.i .u8 c.toNat) hd hn hw (by simp [pop, ho, aidx, hx, hk, hi, he]) k
/-- A region whose order is open but for its last 'm' operations. -/
theorem wp_regT {Q : Exit → FrA → AH → Prop} {id : Nat} {l : List Oper} {y : Code} (n : Nat) {l1 l2 : List Oper} (hB : Region.lexTailB .any l.toArray n = true) (h1 : l.take n = l1) (h2 : l.drop n = l2) (h : AS T N l.toArray H (fun fr' => AOps T N l.toArray (AWp T N y Q) l2 fr' H) l1 fr) : AWp T N (.seq (.region id l.toArray true) y) Q fr H := by
  subst h1; subst h2
  exact awp_seq (awp_draw_tail n hB h)
end
section
variable {T : TT} {N : Nat} {fr : FrA} {H : AH}
theorem wp_regT1 {Q : Exit → FrA → AH → Prop} {id : Nat} {l : List Oper} (n : Nat) {l1 l2 : List Oper} (hB : Region.lexTailB .any l.toArray n = true) (h1 : l.take n = l1) (h2 : l.drop n = l2) (h : AS T N l.toArray H (fun fr' => AOps T N l.toArray (Q .normal) l2 fr' H) l1 fr) : AWp T N (.region id l.toArray true) Q fr H := by
  subst h1; subst h2
  exact awp_draw_tail n hB h
theorem wp_regD1 {Q : Exit → FrA → AH → Prop} {id : Nat} {l : List Oper} (hB : Region.lexB .any l.toArray = true) (h : AQ T N l.toArray H (fun fr' => Q .normal fr' H) l fr) : AWp T N (.region id l.toArray true) Q fr H :=
  awp_draw hB h
end
theorem bq {a b : Bool} (h : a = b) : AV.b a = .b b := congrArg _ h
theorem iq {k : IntKind} {a b : Int} (h : a = b) : AV.i k a = .i k b := congrArg _ h
/-- Behind a piece of code: only on, a frame, a heap. -/
def MidQ (F : FrA) (H : AH) : Exit → FrA → AH → Prop := fun e fr' H' => e = .normal ∧ Wkr F fr' ∧ H' = H
theorem mid_to {T : TT} {N : Nat} {F : FrA} {H : AH} {K : FrA → AH → Prop} {Q : Exit → FrA → AH → Prop} {c : Code} (hK : K = AWp T N c Q) (h : AWp T N c Q F H) : ∀ e fr' H', MidQ F H e fr' H' → athen K Q e fr' H' := by
  rintro e fr' H' ⟨rfl, hw, rfl⟩
  subst hK
  exact wp_wk hw h
end Go.Proofs.Ytlclgpiabjlpbaa.Am
