/- A logic over the walk's rules, second part: what a call, a piece of code and an operation come to, and the rules of code. -/
import Derived.Test.YtlclgpiabjlpbaaAm1
import Derived.Deep.Quiet
namespace Go.Proofs.Ytlclgpiabjlpbaa.Am
open Go.RowKit
set_option linter.unusedVariables false

abbrev FrA := Nat → AV

/-- What a call comes to. -/
def ACalls (T : TT) (f : FuncId) (args : List AV) (H : AH) (R : AV → AH → Prop) : Prop :=
  ∀ (B : Nat) (G : Gh) (w : World) (vs : List Value), Inv T B G H w → RelL T G args vs →
    Calls T.P f vs.toArray w fun e w' => ∃ r v G' H', e = .returned v ∧ R r H' ∧ Rel T G' r v ∧ Inv T B G' H' w' ∧ G.le B G' ∧ Below B w w'

theorem Calls.mono' {P : Program} {f : FuncId} {args : Array Value} {w : World} {R R' : Ending → World → Prop} (h : Calls P f args w R) (hr : ∀ e w', R e w' → R' e w') : Calls P f args w R' :=
  fun cs => let ⟨e, w', fr, r, x⟩ := h cs; ⟨e, w', fr, hr _ _ r, x⟩

theorem ACalls.mono {T : TT} {f : FuncId} {args : List AV} {H : AH} {R R' : AV → AH → Prop} (h : ACalls T f args H R) (hr : ∀ r H', R r H' → R' r H') : ACalls T f args H R' :=
  fun B G w vs hi ha => Calls.mono' (h B G w vs hi ha) fun _ _ ⟨r, v, G', H', e, q, x⟩ => ⟨r, v, G', H', e, hr _ _ q, x⟩

section
variable (T : TT) (N : Nat)

def Post (B : Nat) (G : Gh) (w : World) (Q : Exit → FrA → AH → Prop) : Exit → Act → World → Prop :=
  fun e a' w' => ∃ fr' H' G', Q e fr' H' ∧ RelF T N G' fr' a' ∧ Inv T B G' H' w' ∧ G.le B G' ∧ Below B w w'

/-- What a piece of code comes to. -/
def AWp (c : Code) (Q : Exit → FrA → AH → Prop) (fr : FrA) (H : AH) : Prop :=
  ∀ (B : Nat) (G : Gh) (w : World) (a : Act), Inv T B G H w → RelF T N G fr a → c.wp T.P (Post T N B G w Q) a w
end

def athen (K : FrA → AH → Prop) (Q : Exit → FrA → AH → Prop) : Exit → FrA → AH → Prop
  | .normal, fr, H => K fr H
  | e, fr, H => Q e fr H
def ablock (id : Nat) (Q : Exit → FrA → AH → Prop) : Exit → FrA → AH → Prop
  | .exit id', fr, H => if id' = id then Q .normal fr H else Q (.exit id') fr H
  | e, fr, H => Q e fr H

def ofV : Value → AV
  | .bool x => .b x
  | .int k n => .i k n
  | .float .f64 x => .f x
  | .string x => .s x
  | .pointer none => .np
  | .slice none 0 0 => .nil
  | .map none => .nm
  | .nilFunc => .nf
  | .nilIface => .ni
  | _ => .u
def ev (fr : FrA) : Operand → AV
  | .tmp t => fr t
  | .const v => ofV v
  | .func f => .fn f []
  | .global _ => .u

section
variable {T : TT} {N : Nat}

theorem Rel.ofV (G : Gh) (v : Value) : Rel T G (Am.ofV v) v := by
  unfold Am.ofV
  split <;> simp [Rel]
theorem RelF.ev {G : Gh} {fr : FrA} {a : Act} (h : RelF T N G fr a) (x : Operand) : Rel T G (ev fr x) (a.eval x) := by
  cases x with
  | tmp t => exact h.rel t
  | const v => exact Rel.ofV G v
  | func f => exact ⟨[], rfl, rfl⟩
  | global g => trivial

theorem Post.trans {B : Nat} {G G1 : Gh} {w w1 : World} {Q : Exit → FrA → AH → Prop} {e : Exit} {a : Act} {w2 : World} (hG : G.le B G1) (hb : Below B w w1) (h : Post T N B G1 w1 Q e a w2) : Post T N B G w Q e a w2 := by
  obtain ⟨fr, H, G2, q, hf, hi, hg, hb2⟩ := h
  exact ⟨fr, H, G2, q, hf, hi, hG.trans hg, hb.trans hb2⟩

variable {Q : Exit → FrA → AH → Prop} {fr : FrA} {H : AH}

theorem AWp.mono {c : Code} {Q' : Exit → FrA → AH → Prop} (h : AWp T N c Q fr H) (hq : ∀ e fr H, Q e fr H → Q' e fr H) : AWp T N c Q' fr H :=
  fun B G w a hi hf => wp_mono (h B G w a hi hf) fun _ _ _ ⟨fr', H', G', q, x⟩ => ⟨fr', H', G', hq _ _ _ q, x⟩

theorem awp_skip (h : Q .normal fr H) : AWp T N .skip Q fr H :=
  fun B G w a hi hf => wp_skip ⟨fr, H, G, h, hf, hi, .refl _, .refl _ _⟩
theorem awp_ret (h : Q .ret fr H) : AWp T N .ret Q fr H :=
  fun B G w a hi hf => wp_ret ⟨fr, H, G, h, hf, hi, .refl _, .refl _ _⟩
theorem awp_exit {id : Nat} (h : Q (.exit id) fr H) : AWp T N (.exit id) Q fr H :=
  fun B G w a hi hf => wp_exit ⟨fr, H, G, h, hf, hi, .refl _, .refl _ _⟩

theorem awp_seq {x y : Code} (h : AWp T N x (athen (AWp T N y Q) Q) fr H) : AWp T N (.seq x y) Q fr H := by
  intro B G w a hi hf
  refine wp_seq (wp_mono (h B G w a hi hf) fun e a1 w1 ⟨fr1, H1, G1, q, hf1, hi1, hg, hb⟩ => ?_)
  cases e with
  | normal => exact wp_mono (q B G1 w1 a1 hi1 hf1) fun _ _ _ hp => Post.trans hg hb hp
  | exit id => exact ⟨fr1, H1, G1, q, hf1, hi1, hg, hb⟩
  | goto l => exact ⟨fr1, H1, G1, q, hf1, hi1, hg, hb⟩
  | ret => exact ⟨fr1, H1, G1, q, hf1, hi1, hg, hb⟩
  | panic ch => exact ⟨fr1, H1, G1, q, hf1, hi1, hg, hb⟩
  | outgrown => exact ⟨fr1, H1, G1, q, hf1, hi1, hg, hb⟩

theorem awp_cond {c : Operand} {x y : Code} (t : Bool) (hc : ev fr c = .b t) (ht : t = true → AWp T N x Q fr H) (hn : t = false → AWp T N y Q fr H) :
    AWp T N (.cond c x y) Q fr H := by
  intro B G w a hi hf
  have h := hf.ev c
  rw [hc] at h
  exact wp_cond_split h (fun e => ht e B G w a hi hf) (fun e => hn e B G w a hi hf)

theorem awp_block {id : Nat} {c : Code} (h : AWp T N c (ablock id Q) fr H) : AWp T N (.block id c) Q fr H := by
  intro B G w a hi hf
  refine wp_block (wp_mono (h B G w a hi hf) fun e a1 w1 ⟨fr1, H1, G1, q, x⟩ => ?_)
  cases e with
  | exit id' =>
    by_cases e : id' = id
    · simp only [ablock, e, if_true] at q
      simp only [Exit.inBlock, e, if_true]
      exact ⟨fr1, H1, G1, q, x⟩
    · simp only [ablock, e, if_false] at q
      simp only [Exit.inBlock, e, if_false]
      exact ⟨fr1, H1, G1, q, x⟩
  | normal => exact ⟨fr1, H1, G1, q, x⟩
  | goto l => exact ⟨fr1, H1, G1, q, x⟩
  | ret => exact ⟨fr1, H1, G1, q, x⟩
  | panic ch => exact ⟨fr1, H1, G1, q, x⟩
  | outgrown => exact ⟨fr1, H1, G1, q, x⟩

theorem awp_loop {c : Code} (I : FrA → AH → Prop) (μ : FrA → AH → Nat) (h0 : I fr H)
    (round : ∀ fr H, I fr H → AWp T N c (athen (fun fr' H' => I fr' H' ∧ μ fr' H' < μ fr H) Q) fr H) : AWp T N (.loop c) Q fr H := by
  have key : ∀ n fr H, μ fr H < n → I fr H → ∀ (B : Nat) (G : Gh) (w : World) (a : Act) (Q' : Exit → Act → World → Prop), Inv T B G H w → RelF T N G fr a → (∀ e a' w', Post T N B G w Q e a' w' → Q' e a' w') → Code.rounds T.P c Q' n a w := by
    intro n
    induction n with
    | zero => intro fr H hn; omega
    | succ n ih =>
      intro fr H hn hI B G w a Q' hi hf hq
      rw [rounds_succ]
      refine wp_mono (round fr H hI B G w a hi hf) fun e a1 w1 ⟨fr1, H1, G1, q, hf1, hi1, hg, hb⟩ => ?_
      cases e with
      | normal =>
        obtain ⟨hI1, hlt⟩ := q
        exact ih fr1 H1 (by omega) hI1 B G1 w1 a1 Q' hi1 hf1 fun e a' w' hp => hq e a' w' (Post.trans hg hb hp)
      | exit id => exact hq _ _ _ ⟨fr1, H1, G1, q, hf1, hi1, hg, hb⟩
      | goto l => exact hq _ _ _ ⟨fr1, H1, G1, q, hf1, hi1, hg, hb⟩
      | ret => exact hq _ _ _ ⟨fr1, H1, G1, q, hf1, hi1, hg, hb⟩
      | panic ch => exact hq _ _ _ ⟨fr1, H1, G1, q, hf1, hi1, hg, hb⟩
      | outgrown => exact hq _ _ _ ⟨fr1, H1, G1, q, hf1, hi1, hg, hb⟩
  exact fun B G w a hi hf => wp_loop_rounds (μ fr H + 1) (key (μ fr H + 1) fr H (by omega) h0 B G w a _ hi hf fun _ _ _ h => h)

end

/-! ### Operations -/
/-- What an operation comes to. -/
def AOp (T : TT) (N : Nat) (o : Oper) (fr : FrA) (H : AH) (K : AV → AH → Prop) : Prop :=
  ∀ (B : Nat) (G : Gh) (w : World) (a : Act) (next : Act → World → Prop) (Q' : Exit → Act → World → Prop), Inv T B G H w → RelF T N G fr a →
    (∀ r v H' G' w', K r H' → Rel T G' r v → Inv T B G' H' w' → G.le B G' → Below B w w' → next (a.put o.dst v) w') → o.wp T.P a w next Q'

/-- Is a guarded operation carried out? -/
def aw (ops : Array Oper) (fr : FrA) (o : Oper) : Option Bool :=
  match o.guard with
  | none => some true
  | some (j, want) =>
    match (ops[j]?).bind (·.dst) with
    | some d => match fr d with
      | .b t => some (t == want)
      | .tup [] => some false
      | _ => none
    | none => none

theorem aw_sound {T : TT} {N : Nat} {G : Gh} {fr : FrA} {a : Act} (h : RelF T N G fr a) {ops : Array Oper} {o : Oper} {t : Bool} (e : aw ops fr o = some t) : Region.wanted o (yielded ops a.tmps) = t := by
  unfold aw at e
  unfold Region.wanted
  split at e
  · rename_i hg; rw [hg]; exact Option.some.inj e
  · rename_i j want hg
    rw [hg]
    split at e
    · rename_i d hd
      split at e
      · rename_i x hx
        have hr := h.rel d
        rw [hx] at hr
        have hy : yielded ops a.tmps j = some x := by
          have hr' : a.tmps.getD d undef = .bool x := hr
          simp only [yielded, hd, Option.bind_some]
          rw [Array.getD_eq_getD_getElem?] at hr'
          cases hq : a.tmps[d]? with
          | none => rw [hq] at hr'; simp [undef] at hr'
          | some z => rw [hq] at hr'; simp at hr'; rw [hr']
        simp only [hy]
        simpa using Option.some.inj e
      · rename_i hx
        have hr := h.rel d
        rw [hx] at hr
        obtain ⟨vs, hr, hv⟩ := hr
        have hv : vs = [] := hv
        subst hv
        have hy : yielded ops a.tmps j = none := by
          simp only [yielded, hd, Option.bind_some]
          rw [Array.getD_eq_getD_getElem?] at hr
          cases hq : a.tmps[d]? with
          | none => simp
          | some z => rw [hq] at hr; simp at hr; rw [hr]
        obtain rfl := Option.some.inj e
        simp [hy]
      · cases e
    · cases e

/-- What a list of operations comes to, in the order of the text. -/
def AOps (T : TT) (N : Nat) (ops : Array Oper) (K : FrA → AH → Prop) : List Oper → FrA → AH → Prop
  | [], fr, H => K fr H
  | o :: rest, fr, H => okD N o.dst = true ∧
    match aw ops fr o with
    | some true => AOp T N o fr H fun r H' => AOps T N ops K rest (updO fr o.dst r) H'
    | some false => AOps T N ops K rest (updO fr o.dst (.tup [])) H
    | none => False

theorem aops_sound {T : TT} {N : Nat} {ops : Array Oper} {Q : Exit → FrA → AH → Prop} : ∀ (l : List Oper) (fr : FrA) (H : AH), AOps T N ops (Q .normal) l fr H →
    ∀ (B : Nat) (G : Gh) (w : World) (a : Act) (Q' : Exit → Act → World → Prop), Inv T B G H w → RelF T N G fr a → (∀ e a' w', Post T N B G w Q e a' w' → Q' e a' w') → wpList T.P ops Q' l a w
  | [], fr, H, h, B, G, w, a, Q', hi, hf, hq => hq _ _ _ ⟨fr, H, G, h, hf, hi, .refl _, .refl _ _⟩
  | o :: rest, fr, H, h, B, G, w, a, Q', hi, hf, hq => by
    obtain ⟨hd, h⟩ := h
    split at h
    · rename_i e
      have hw := aw_sound hf e
      unfold wpList
      rw [if_pos hw]
      refine .inl (h B G w a _ _ hi hf fun r v H' G' w' hk hr hi' hg hb => ?_)
      exact aops_sound rest _ _ hk B G' w' _ Q' hi' ((hf.mono hg).put hd hr) fun e a' w2 hp => hq e a' w2 (Post.trans hg hb hp)
    · rename_i e
      have hw := aw_sound hf e
      unfold wpList
      rw [if_neg (by rw [hw]; simp)]
      exact aops_sound rest _ _ h B G w _ Q' hi (hf.put hd (x := .tup []) ⟨[], rfl, rfl⟩) hq
    · exact h.elim

theorem awp_region {T : TT} {N : Nat} {Q : Exit → FrA → AH → Prop} {fr : FrA} {H : AH} {id : Nat} {l : List Oper} (h : AOps T N l.toArray (Q .normal) l fr H) : AWp T N (.region id l.toArray false) Q fr H :=
  fun B G w a hi hf => wp_region_lit (aops_sound l fr H h B G w a _ hi hf fun _ _ _ h => h)

/-- A call of a function by its number. -/
theorem aop_call {T : TT} {N : Nat} {o : Oper} {fr : FrA} {H : AH} {K : AV → AH → Prop} (f : FuncId) (xs : List Operand) (ts : Array TypeId) (fn : Func)
    (ho : o.op = .call { callee := .value (.func f), args := xs.toArray, argTypes := ts }) (hf : T.P.funcs[f]? = some fn) (hb : fn.body.isNone = false) (hnm : (fn.name == "runtime.NumGoroutine") = false)
    (h : ACalls T f (xs.map (ev fr)) H K) : AOp T N o fr H K := by
  intro B G w a next Q' hi hfr hn
  have hargs : RelL T G (xs.map (ev fr)) (xs.map a.eval) := by
    refine RelL.of (by simp) fun i x v hx hv => ?_
    simp only [List.getElem?_map, Option.map_eq_some_iff] at hx hv
    obtain ⟨y, hy, rfl⟩ := hx
    obtain ⟨z, hz, rfl⟩ := hv
    rw [hy] at hz
    exact Option.some.inj hz ▸ hfr.ev y
  have hc := h B G w _ hi hargs
  have hrun : (execOp a.eval o).run T.P w = .ok (.enter f (xs.map a.eval).toArray) w := by
    have h1 : fn.name ≠ "runtime.NumGoroutine" := by simpa using hnm
    have h2 : ¬ fn.body = none := by intro e; rw [e] at hb; simp at hb
    simp [execOp, ho, resolve, Act.eval, Deferred.ofValue, invoke, callFunc, hf, h1, h2]
  unfold Oper.wp
  rw [hrun, Oper.upon_enter]
  refine Calls.mono' hc fun e w' ⟨r, v, G', H', he, hk, hr, hi', hg, hbl⟩ => ?_
  subst he
  exact hn r v H' G' w' hk hr hi' hg hbl

end Go.Proofs.Ytlclgpiabjlpbaa.Am
