/- A logic over the walk's rules, eighteenth part: calls of function values. -/
import Derived.Test.YtlclgpiabjlpbaaAm17
namespace Go.Proofs.Ytlclgpiabjlpbaa.Am
open Go.RowKit
set_option linter.unusedVariables false

section
variable {T : TT} {N : Nat} {o : Oper} {fr : FrA} {H : AH} {K : AV → AH → Prop}
/-- A call of a function value. -/
theorem aop_callv (t : Nat) (f : FuncId) (caps : List AV) (xs : List Operand) (ts : Array TypeId) (fn : Func)
    (ho : o.op = .call { callee := .value (.tmp t), args := xs.toArray, argTypes := ts }) (ht : fr t = .fn f caps) (hf : T.P.funcs[f]? = some fn) (hb : fn.body.isNone = false) (hnm : (fn.name == "runtime.NumGoroutine") = false)
    (h : ACalls T f (xs.map (ev fr) ++ caps) H K) : AOp T N o fr H K := by
  intro B G w a next Q' hi hfr hn
  have hargs : RelL T G (xs.map (ev fr)) (xs.map a.eval) := map_rel hfr xs
  have hc0 := hfr.rel t
  rw [ht] at hc0
  obtain ⟨cvs, hcv, hcr⟩ := hc0
  have hc := h B G w _ hi (hargs.append hcr)
  have hrun : (execOp a.eval o).run T.P w = .ok (.enter f (xs.map a.eval ++ cvs).toArray) w := by
    have h1 : fn.name ≠ "runtime.NumGoroutine" := by simpa using hnm
    have h2 : ¬ fn.body = none := by intro e; rw [e] at hb; simp at hb
    have h3 : a.eval (.tmp t) = .func (.func f) #[] cvs.toArray := hcv
    simp [execOp, ho, resolve, h3, Deferred.ofValue, invoke, callFunc, hf, h1, h2]
  unfold Oper.wp
  rw [hrun, Oper.upon_enter]
  refine Calls.mono' hc fun e w' ⟨r, v, G', H', he, hk, hr, hi', hg, hbl⟩ => ?_
  subst he
  exact hn r v H' G' w' hk hr hi' hg hbl
end
section
variable {T : TT} {N : Nat} {ops : Array Oper} {K : FrA → AH → Prop} {o : Oper} {rest : List Oper} {fr : FrA} {H : AH} {d : Nat}
theorem st_callv {t : Nat} {f : FuncId} {caps : List AV} {xs : List Operand} {ts : Array TypeId} {fn : Func} {R : AV → AH → Prop} (hd : o.dst = some d) (hn : Nat.blt d N = true) (hw : aw ops fr o = some true)
    (ho : o.op = .call { callee := .value (.tmp t), args := xs.toArray, argTypes := ts }) (ht : fo (fr t) = some (.fn f caps)) (hf : T.P.funcs[f]? = some fn) (hb : fn.body.isNone = false) (hnm : (fn.name == "runtime.NumGoroutine") = false)
    {args : List AV} (ha : xs.map (ev fr) ++ caps = args) (h : ACalls T f args H R) (k : ∀ r H', R r H' → AOps T N ops K rest (upd fr d r) H') : AOps T N ops K (o :: rest) fr H :=
  st_op hd hn hw (aop_callv t f caps xs ts fn ho (fo_eq ht) hf hb hnm (by rw [ha]; exact h.mono k))
end
end Go.Proofs.Ytlclgpiabjlpbaa.Am
