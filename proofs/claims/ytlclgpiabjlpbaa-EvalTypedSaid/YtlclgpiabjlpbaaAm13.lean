/- A logic over the walk's rules, thirteenth part: steps as rules that need no word of one's own. -/
import Derived.Test.YtlclgpiabjlpbaaAm12
namespace Go.Proofs.Ytlclgpiabjlpbaa.Am
open Go.RowKit
set_option linter.unusedVariables false

/-! ### Values brought to their form -/
def fo0 : AV → Option AV
  | .u => some .u
  | .b x => some (.b x)
  | .i k n => some (.i k n)
  | .f x => some (.f x)
  | .s x => some (.s x)
  | .np => some .np
  | .ptr b o => some (.ptr b o)
  | .cp cs => some (.cp cs)
  | .nil => some .nil
  | .l t E es => some (.l t E es)
  | .arr b n E => some (.arr b n E)
  | .m b => some (.m b)
  | .nm => some .nm
  | .fn f cs => some (.fn f cs)
  | .nf => some .nf
  | .ni => some .ni
  | .ifc t x => some (.ifc t x)
  | .agg cs => some (.agg cs)
  | .tup cs => some (.tup cs)
  | .k v => some (.k v)
theorem fo0_eq {x y : AV} (h : fo0 x = some y) : x = y := by
  cases x <;> exact Option.some.inj h
def foL0 : List AV → Option (List AV)
  | [] => some []
  | x :: xs => match fo0 x, foL0 xs with
    | some y, some ys => some (y :: ys)
    | _, _ => none
theorem foL0_eq : ∀ {x y : List AV}, foL0 x = some y → x = y
  | [], y, h => Option.some.inj h
  | x :: xs, y, h => by
    unfold foL0 at h
    split at h
    · rename_i a b ha hb
      rw [fo0_eq ha, foL0_eq hb]
      exact Option.some.inj h
    · cases h
def fo1 (x : AV) : Option AV :=
  match x with
  | .agg cs => (foL0 cs).map .agg
  | .cp cs => (foL0 cs).map .cp
  | x => fo0 x
theorem fo1_eq {x y : AV} (h : fo1 x = some y) : x = y := by
  unfold fo1 at h
  split at h
  · obtain ⟨z, h1, rfl⟩ := Option.map_eq_some_iff.1 h; rw [foL0_eq h1]
  · obtain ⟨z, h1, rfl⟩ := Option.map_eq_some_iff.1 h; rw [foL0_eq h1]
  · exact fo0_eq h
def foL1 : List AV → Option (List AV)
  | [] => some []
  | x :: xs => match fo1 x, foL1 xs with
    | some y, some ys => some (y :: ys)
    | _, _ => none
theorem foL1_eq : ∀ {x y : List AV}, foL1 x = some y → x = y
  | [], y, h => Option.some.inj h
  | x :: xs, y, h => by
    unfold foL1 at h
    split at h
    · rename_i a b ha hb
      rw [fo1_eq ha, foL1_eq hb]
      exact Option.some.inj h
    · cases h
def fo (x : AV) : Option AV :=
  match x with
  | .tup cs => (foL1 cs).map .tup
  | .fn f cs => (foL1 cs).map (.fn f)
  | x => fo1 x
theorem fo_eq {x y : AV} (h : fo x = some y) : x = y := by
  unfold fo at h
  split at h
  · obtain ⟨z, h1, rfl⟩ := Option.map_eq_some_iff.1 h; rw [foL1_eq h1]
  · obtain ⟨z, h1, rfl⟩ := Option.map_eq_some_iff.1 h; rw [foL1_eq h1]
  · exact fo1_eq h
/-- A list's spine brought to its form. -/
def foS {α : Type} : List α → Option (List α)
  | [] => some []
  | x :: xs => match foS xs with
    | some ys => some (x :: ys)
    | none => none
theorem foS_eq {α : Type} : ∀ {x y : List α}, foS x = some y → x = y
  | [], y, h => Option.some.inj h
  | x :: xs, y, h => by
    unfold foS at h
    split at h
    · rename_i b hb
      rw [foS_eq hb]
      exact Option.some.inj h
    · cases h

/-! ### Frames as lists -/
def frl (l : List (Nat × AV)) : FrA := fun k => match l.find? (fun p => Nat.beq p.1 k) with
  | some p => p.2
  | none => .u
def Wkr (F fr : FrA) : Prop := ∀ d, F d = .u ∨ fr d = F d
theorem wk_frl {l : List (Nat × AV)} {fr : FrA} (h : ∀ p ∈ l, fr p.1 = p.2) : Wkr (frl l) fr := by
  intro d
  unfold frl
  split
  · rename_i p hp
    have h1 := List.find?_some hp
    have h2 := h p (List.mem_of_find?_eq_some hp)
    have : p.1 = d := Nat.eq_of_beq_eq_true h1
    exact .inr (this ▸ h2)
  · exact .inl rfl
theorem wk_nil {fr : FrA} : ∀ p ∈ ([] : List (Nat × AV)), fr p.1 = p.2 := by simp
theorem wk_cons {fr : FrA} {d : Nat} {x : AV} {l : List (Nat × AV)} (h : fr d = x) (k : ∀ p ∈ l, fr p.1 = p.2) : ∀ p ∈ (d, x) :: l, fr p.1 = p.2 := by
  intro p hp
  rcases List.mem_cons.1 hp with rfl | hp
  · exact h
  · exact k p hp

section
variable {T : TT} {N : Nat} {ops : Array Oper} {K : FrA → AH → Prop} {o : Oper} {rest : List Oper} {fr : FrA} {H : AH}

theorem Wkr.relF {F fr : FrA} {G : Gh} {a : Act} (h : Wkr F fr) (hf : RelF T N G fr a) : RelF T N G F a :=
  ⟨hf.1, hf.2, fun k => by
    rcases h k with e | e
    · rw [e]; trivial
    · rw [← e]; exact hf.rel k⟩
theorem wp_wk {c : Code} {Q : Exit → FrA → AH → Prop} {F : FrA} (h : Wkr F fr) (k : AWp T N c Q F H) : AWp T N c Q fr H :=
  fun B G w a hi hf => k B G w a hi (h.relF hf)
/-- A part of the code, with what is known behind it. -/
theorem wp_mid {c : Code} {Q : Exit → FrA → AH → Prop} {Q' : Exit → FrA → AH → Prop} (h : AWp T N c Q' fr H) (hq : ∀ e fr H, Q' e fr H → Q e fr H) : AWp T N c Q fr H := h.mono hq

/-- A loop, by what it has ahead of each round. -/
theorem wp_loop {α : Type} {c : Code} {Q : Exit → FrA → AH → Prop} (F : α → FrA) (Hs : α → AH) (P : α → Prop) (μ : α → Nat) (a0 : α) (hP : P a0) (hw : Wkr (F a0) fr) (hH : H = Hs a0)
    (round : ∀ a, P a → AWp T N c (athen (fun fr' H' => ∃ a', P a' ∧ Wkr (F a') fr' ∧ H' = Hs a' ∧ μ a' < μ a) Q) (F a) (Hs a)) : AWp T N (.loop c) Q fr H := by
  subst hH
  have key : ∀ n a, μ a < n → P a → ∀ fr, Wkr (F a) fr → ∀ (B : Nat) (G : Gh) (w : World) (x : Act) (Q' : Exit → Act → World → Prop), Inv T B G (Hs a) w → RelF T N G fr x → (∀ e a' w', Post T N B G w Q e a' w' → Q' e a' w') → Code.rounds T.P c Q' n x w := by
    intro n
    induction n with
    | zero => intro a hn; omega
    | succ n ih =>
      intro a hn hP fr hw B G w x Q' hi hf hq
      rw [rounds_succ]
      refine wp_mono (round a hP B G w x hi (hw.relF hf)) fun e a1 w1 ⟨fr1, H1, G1, q, hf1, hi1, hg, hb⟩ => ?_
      cases e with
      | normal =>
        obtain ⟨a', h1, h2, rfl, h4⟩ := q
        exact ih a' (by omega) h1 fr1 h2 B G1 w1 a1 Q' hi1 hf1 fun e a' w' hp => hq e a' w' (Post.trans hg hb hp)
      | exit id => exact hq _ _ _ ⟨fr1, H1, G1, q, hf1, hi1, hg, hb⟩
      | goto l => exact hq _ _ _ ⟨fr1, H1, G1, q, hf1, hi1, hg, hb⟩
      | ret => exact hq _ _ _ ⟨fr1, H1, G1, q, hf1, hi1, hg, hb⟩
      | panic ch => exact hq _ _ _ ⟨fr1, H1, G1, q, hf1, hi1, hg, hb⟩
      | outgrown => exact hq _ _ _ ⟨fr1, H1, G1, q, hf1, hi1, hg, hb⟩
  exact fun B G w x hi hf => wp_loop_rounds (μ a0 + 1) (key (μ a0 + 1) a0 (by omega) hP fr hw B G w x _ hi hf fun _ _ _ h => h)

theorem st_nil (h : K fr H) : AOps T N ops K [] fr H := h
theorem upd_same {d : Nat} {x : AV} (h : fr d = x) : upd fr d x = fr := by
  funext k
  unfold upd
  split
  · rename_i e; rw [e, h]
  · rfl
/-- A bit is known from here on. -/
theorem st_bit {l : List Oper} (d : Nat) {b : Bool} (h : fr d = .b b) (k : ∀ b', b = b' → AOps T N ops K l (upd fr d (.b b')) H) : AOps T N ops K l fr H := by
  have := k b rfl
  rwa [upd_same h] at this
/-- A value under another name. -/
theorem st_val {l : List Oper} (d : Nat) {x : AV} (y : AV) (h : fo (fr d) = some x) (e : x = y) (k : AOps T N ops K l (upd fr d y) H) : AOps T N ops K l fr H := by
  rwa [upd_same ((fo_eq h).trans e)] at k
theorem wp_bit {c : Code} {Q : Exit → FrA → AH → Prop} (d : Nat) {b : Bool} (h : fr d = .b b) (k : ∀ b', b = b' → AWp T N c Q (upd fr d (.b b')) H) : AWp T N c Q fr H := by
  have := k b rfl
  rwa [upd_same h] at this
theorem wp_val {c : Code} {Q : Exit → FrA → AH → Prop} (d : Nat) {x : AV} (y : AV) (h : fo (fr d) = some x) (e : x = y) (k : AWp T N c Q (upd fr d y) H) : AWp T N c Q fr H := by
  rwa [upd_same ((fo_eq h).trans e)] at k

variable {d : Nat}
theorem st_op (hd : o.dst = some d) (hn : Nat.blt d N = true) (hw : aw ops fr o = some true) (h : AOp T N o fr H fun r H' => AOps T N ops K rest (upd fr d r) H') : AOps T N ops K (o :: rest) fr H := by
  refine ⟨by rw [hd]; simpa [okD] using hn, ?_⟩
  rw [hw, hd]
  exact h
theorem st_op0 (hd : o.dst = none) (hw : aw ops fr o = some true) (h : AOp T N o fr H fun r H' => AOps T N ops K rest fr H') : AOps T N ops K (o :: rest) fr H := by
  refine ⟨by rw [hd]; rfl, ?_⟩
  rw [hw, hd]
  exact h
theorem st_pop {x : AV} (hd : o.dst = some d) (hn : Nat.blt d N = true) (hw : aw ops fr o = some true) (h : (pop T o.op fr H).bind fo = some x) (k : AOps T N ops K rest (upd fr d x) H) : AOps T N ops K (o :: rest) fr H := by
  obtain ⟨y, h1, h2⟩ := Option.bind_eq_some_iff.1 h
  rw [← fo_eq h2] at k
  exact st_op hd hn hw (aop_pop h1 k)
theorem st_popx (x : AV) (hd : o.dst = some d) (hn : Nat.blt d N = true) (hw : aw ops fr o = some true) (h : pop T o.op fr H = some x) (k : AOps T N ops K rest (upd fr d x) H) : AOps T N ops K (o :: rest) fr H :=
  st_op hd hn hw (aop_pop h k)
theorem st_skip (hd : o.dst = some d) (hn : Nat.blt d N = true) (hw : aw ops fr o = some false) (k : AOps T N ops K rest (upd fr d (.tup [])) H) : AOps T N ops K (o :: rest) fr H := by
  refine ⟨by rw [hd]; simpa [okD] using hn, ?_⟩
  rw [hw, hd]
  exact k
theorem st_skip0 (hd : o.dst = none) (hw : aw ops fr o = some false) (k : AOps T N ops K rest fr H) : AOps T N ops K (o :: rest) fr H := by
  refine ⟨by rw [hd]; rfl, ?_⟩
  rw [hw, hd]
  exact k
theorem st_alloc {E : TypeId} {z z' : List AV} {bs : List ABox} (hd : o.dst = some d) (hn : Nat.blt d N = true) (hw : aw ops fr o = some true) (ho : o.op = .alloc E) (hz : T.zero E = some z) (hz' : foL0 z = some z') (hb : foS (H.bs ++ [.cells z']) = some bs)
    (k : AOps T N ops K rest (upd fr d (.ptr H.bs.length 0)) { H with bs := bs }) : AOps T N ops K (o :: rest) fr H := by
  rw [← foS_eq hb, ← foL0_eq hz'] at k
  exact st_op hd hn hw (aop_alloc E ho hz k)
theorem st_box {E : TypeId} {x : Operand} {y : AV} {z : List AV} {bs : List ABox} (hd : o.dst = some d) (hn : Nat.blt d N = true) (hw : aw ops fr o = some true) (ho : o.op = .box E x) (hy : fo (ev fr x) = some y) (hs : y.sto = true) (hz : foL0 (cellsOf y) = some z) (hfl : z.all AV.flat = true)
    (hb : foS (H.bs ++ [.cells z]) = some bs) (k : AOps T N ops K rest (upd fr d (.ptr H.bs.length 0)) { H with bs := bs }) : AOps T N ops K (o :: rest) fr H := by
  rw [← foS_eq hb, ← foL0_eq hz] at k
  rw [← foL0_eq hz] at hfl
  exact st_op hd hn hw (aop_box E x ho (fo_eq hy) hs hfl k)
theorem st_store {t : TypeId} {p x : Operand} {b off : Nat} {l z : List AV} {y : AV} {bs : List ABox} (hd : o.dst = none) (hw : aw ops fr o = some true) (ho : o.op = .store t p x) (hp : ev fr p = .ptr b off) (hb : H.bs[b]? = some (.cells l)) (hy : fo (ev fr x) = some y)
    (hst : y.sto = true) (hfl : (cellsOf y).all AV.flat = true) (hkn : T.kn t = true) (hsz : Nat.beq (cellsOf y).length (T.sz t) = true) (hle : Nat.ble (off + T.sz t) l.length = true) (hz : foL0 (aput l off (cellsOf y)) = some z) (hbs : foS (H.bs.set b (.cells z)) = some bs)
    (k : AOps T N ops K rest fr { H with bs := bs }) : AOps T N ops K (o :: rest) fr H := by
  rw [← foS_eq hbs, ← foL0_eq hz] at k
  exact st_op0 hd hw (aop_store t p x ho hp hb (fo_eq hy) hst hfl hkn (Nat.eq_of_beq_eq_true hsz) (Nat.le_of_ble_eq_true hle) k)
/-- A call of a function of which something is known. -/
theorem st_call {f : FuncId} {xs : List Operand} {ts : Array TypeId} {fn : Func} {R : AV → AH → Prop} (hd : o.dst = some d) (hn : Nat.blt d N = true) (hw : aw ops fr o = some true)
    (ho : o.op = .call { callee := .value (.func f), args := xs.toArray, argTypes := ts }) (hf : T.P.funcs[f]? = some fn) (hb : fn.body.isNone = false) (hnm : (fn.name == "runtime.NumGoroutine") = false)
    {args : List AV} (ha : xs.map (ev fr) = args) (h : ACalls T f args H R) (k : ∀ r H', R r H' → AOps T N ops K rest (upd fr d r) H') : AOps T N ops K (o :: rest) fr H :=
  st_op hd hn hw (aop_call f xs ts fn ho hf hb hnm (by rw [ha]; exact h.mono k))
/-- A call that only computes. -/
theorem st_calc {f : FuncId} {xs : List Operand} {ts : Array TypeId} {fn : Func} (y : AV) (hd : o.dst = some d) (hn : Nat.blt d N = true) (hw : aw ops fr o = some true)
    (ho : o.op = .call { callee := .value (.func f), args := xs.toArray, argTypes := ts }) (hf : T.P.funcs[f]? = some fn) (hb : fn.body.isNone = false) (hnm : (fn.name == "runtime.NumGoroutine") = false)
    {args : List AV} (ha : xs.map (ev fr) = args) (h : ACalls T f args H fun r H' => r = y ∧ H' = H) (k : AOps T N ops K rest (upd fr d y) H) : AOps T N ops K (o :: rest) fr H :=
  st_call hd hn hw ho hf hb hnm ha h (by rintro r H' ⟨rfl, rfl⟩; exact k)
/-- An element of a list, of a text. -/
theorem st_idxA {t : TypeId} {x i : Operand} {tk : Option Nat} {E : TypeId} {es : List (List AV)} {kk : IntKind} {n : Nat} (e : List AV) (hd : o.dst = some d) (hn : Nat.blt d N = true) (hw : aw ops fr o = some true)
    (ho : o.op = .indexAddr t x i) (hx : ev fr x = .l tk E es) (hk : T.kd t = some (.slice E)) (hkn : T.kn E = true) (hi : ev fr i = .i kk (n : Nat)) (he : es[n]? = some e) (k : AOps T N ops K rest (upd fr d (.cp e)) H) : AOps T N ops K (o :: rest) fr H :=
  st_op hd hn hw (aop_pop (r := .cp e) (by simp [pop, ho, aidxA, hx, hk, hi, hkn, he]) k)
theorem st_idxS {t : TypeId} {x i : Operand} {s : ByteArray} {kk : IntKind} {n : Nat} (c : UInt8) (hd : o.dst = some d) (hn : Nat.blt d N = true) (hw : aw ops fr o = some true)
    (ho : o.op = .index t x i) (hx : ev fr x = .s s) (hk : T.kd t = some .string) (hi : ev fr i = .i kk (n : Nat)) (he : s[n]? = some c) (k : AOps T N ops K rest (upd fr d (.i .u8 c.toNat)) H) : AOps T N ops K (o :: rest) fr H :=
  st_op hd hn hw (aop_pop (r := .i .u8 c.toNat) (by simp [pop, ho, aidx, hx, hk, hi, he]) k)
/-- Branches. -/
theorem wp_t {c : Operand} {x y : Code} {Q : Exit → FrA → AH → Prop} (hc : ev fr c = .b true) (h : AWp T N x Q fr H) : AWp T N (.cond c x y) Q fr H :=
  awp_cond true hc (fun _ => h) (fun e => by cases e)
theorem wp_f {c : Operand} {x y : Code} {Q : Exit → FrA → AH → Prop} (hc : ev fr c = .b false) (h : AWp T N y Q fr H) : AWp T N (.cond c x y) Q fr H :=
  awp_cond false hc (fun e => by cases e) (fun _ => h)
theorem wp_c {c : Operand} {x y : Code} {Q : Exit → FrA → AH → Prop} {t : Bool} (hc : ev fr c = .b t) (h1 : t = true → AWp T N x Q fr H) (h2 : t = false → AWp T N y Q fr H) : AWp T N (.cond c x y) Q fr H :=
  awp_cond t hc h1 h2
theorem wp_reg {Q : Exit → FrA → AH → Prop} {id : Nat} {l : List Oper} {y : Code} (h : AOps T N l.toArray (AWp T N y Q) l fr H) : AWp T N (.seq (.region id l.toArray false) y) Q fr H :=
  awp_seq (awp_region h)
end

/-! ### Leaves -/
theorem wk_i {k : IntKind} {a b : Int} (h : a = b) : Wk (.i k a) (.i k b) := h ▸ .refl _
theorem wk_b {a b : Bool} (h : a = b) : Wk (.b a) (.b b) := h ▸ .refl _
theorem wk_f {a b : Nat} (h : a = b) : Wk (.f a) (.f b) := h ▸ .refl _
theorem wk_s {a b : ByteArray} (h : a = b) : Wk (.s a) (.s b) := h ▸ .refl _
theorem wk_agg {a b : List AV} (h : a = b) : Wk (.agg a) (.agg b) := h ▸ .refl _

/-! ### What is left behind a piece of code -/
section
variable {T : TT} {N : Nat} {fr : FrA} {H : AH} {K : FrA → AH → Prop} {Q : Exit → FrA → AH → Prop}
theorem at_norm (h : K fr H) : athen K Q .normal fr H := h
theorem at_exit {id : Nat} (h : Q (.exit id) fr H) : athen K Q (.exit id) fr H := h
theorem at_ret (h : Q .ret fr H) : athen K Q .ret fr H := h
theorem ab_norm {id : Nat} (h : Q .normal fr H) : ablock id Q .normal fr H := h
theorem ab_ret {id : Nat} (h : Q .ret fr H) : ablock id Q .ret fr H := h
theorem ab_hit {id : Nat} (h : Q .normal fr H) : ablock id Q (.exit id) fr H := by simpa [ablock] using h
theorem ab_miss {id id' : Nat} (hi : Nat.beq id' id = false) (h : Q (.exit id') fr H) : ablock id Q (.exit id') fr H := by
  have : id' ≠ id := Nat.ne_of_beq_eq_false hi
  simpa [ablock, this] using h
def RetQ (T : TT) (rs : List ResultVar) (R : AV → AH → Prop) : Exit → FrA → AH → Prop := fun e fr' H' => (e = .ret ∨ e = .normal) ∧ ∃ r, resV T fr' H' rs = some r ∧ R r H'
theorem ret_ret {rs : List ResultVar} {R : AV → AH → Prop} {r r' : AV} (h : resV T fr H rs = some r) (hf : fo r = some r') (k : R r' H) : RetQ T rs R .ret fr H := ⟨.inl rfl, r, h, fo_eq hf ▸ k⟩
theorem ret_norm {rs : List ResultVar} {R : AV → AH → Prop} {r r' : AV} (h : resV T fr H rs = some r) (hf : fo r = some r') (k : R r' H) : RetQ T rs R .normal fr H := ⟨.inr rfl, r, h, fo_eq hf ▸ k⟩
theorem body_q {f : FuncId} {fn : Func} {c : Code} (hf : T.P.funcs[f]? = some fn) (hb : fn.body = some c) {args : List AV} {R : AV → AH → Prop} {n : Nat} (hn : fn.ntmps = n) (hle : Nat.ble args.length n = true) {rs : List ResultVar} (hrs : fn.results = rs.toArray)
    (h : AWp T n c (RetQ T rs R) (fr0 args) H) : ACalls T f args H R :=
  acalls_body hf hb hn (Nat.le_of_ble_eq_true hle) hrs h
/-- A function that only computes, by its body on an empty heap. -/
theorem body_calc {f : FuncId} {fn : Func} {c : Code} (hf : T.P.funcs[f]? = some fn) (hb : fn.body = some c) {args : List AV} {y : AV} {n : Nat} (hn : fn.ntmps = n) (hle : Nat.ble args.length n = true) {rs : List ResultVar} (hrs : fn.results = rs.toArray)
    (hargs : cleanL args = true) (hy : clean y = true) (h : AWp T n c (RetQ T rs fun r _ => Wk r y) (fr0 args) ⟨[], []⟩) (H : AH) : ACalls T f args H (fun r H' => r = y ∧ H' = H) :=
  acalls_frame (R := fun r => r = y) hargs ((body_q hf hb hn hle hrs h).mono fun r _ hr => ⟨y, hr, hy, rfl⟩) H
/-- A weaker reading of a value in a frame. -/
theorem wp_weak {c : Code} {d : Nat} {x y : AV} (h : fr d = x) (hw : Wk x y) (k : AWp T N c Q (upd fr d y) H) : AWp T N c Q fr H := by
  intro B G w a hi hf
  refine k B G w a hi ⟨hf.1, hf.2, fun j => ?_⟩
  have := hf.rel j
  unfold upd
  split
  · rename_i e; rw [e, h] at this; rw [e]; exact hw.rel this
  · exact this
end

section
variable {T : TT} {N : Nat} {ops : Array Oper} {K : FrA → AH → Prop} {o : Oper} {rest : List Oper} {fr : FrA} {H : AH} {d : Nat}
theorem st_append {t : TypeId} {s x : Operand} {E : TypeId} {z : List AV} {xs ys : List (List AV)} (hd : o.dst = some d) (hn : Nat.blt d N = true) (hw : aw ops fr o = some true)
    (ho : o.op = .call { callee := .builtin .append, args := #[s, x], argTypes := #[t, t] }) (hk : T.kd t = some (.slice E)) (hz : T.zero E = some z) (hsz : Nat.blt 0 (T.sz E) = true)
    (hs : IsOwn H (ev fr s) E xs) (hx : IsList (ev fr x) E ys) (hb : (xs.length + ys.length) * T.by_ E ≤ 140737488355328) (hm : xs.length + ys.length ≤ maxLen)
    (h : ∀ r H', IsOwn H' r E (xs ++ ys) → H'.bs = H.bs → (∀ t', t' ∈ H.ts → some t' ≠ tokOf (ev fr s) → t' ∈ H'.ts) → AOps T N ops K rest (upd fr d r) H') : AOps T N ops K (o :: rest) fr H :=
  st_op hd hn hw (aop_append t s x ho hk hz (by simpa using hsz) hs hx hb hm h)
theorem st_bslice {t : TypeId} (ps : List Operand) {E : TypeId} {z : List AV} (hd : o.dst = some d) (hn : Nat.blt d N = true) (hw : aw ops fr o = some true)
    (ho : o.op = .buildSlice t ps.length ((List.range' 0 ps.length).zip ps).toArray) (hk : T.kd t = some (.slice E)) (hz : T.zero E = some z) (hsz : Nat.blt 0 (T.sz E) = true)
    (hps : ∀ p ∈ ps, (ev fr p).sto = true ∧ (cellsOf (ev fr p)).all AV.flat = true ∧ (cellsOf (ev fr p)).length = T.sz E) (hlen : Nat.ble (ps.length * T.sz E) 16777216 = true)
    (h : ∀ t, AOps T N ops K rest (upd fr d (.l (some t) E (ps.map fun p => cellsOf (ev fr p)))) { H with ts := t :: H.ts }) : AOps T N ops K (o :: rest) fr H :=
  st_op hd hn hw (aop_bslice t ps ho hk hz (by simpa using hsz) hps (Nat.le_of_ble_eq_true hlen) h)
theorem st_make {t : TypeId} {x y : Operand} {E : TypeId} {z : AV} {k1 k2 : IntKind} {n : Nat} (hd : o.dst = some d) (hn : Nat.blt d N = true) (hw : aw ops fr o = some true)
    (ho : o.op = .makeSlice t x y) (hk : T.kd t = some (.slice E)) (hz : T.zero E = some [z]) (hx : ev fr x = .i k1 n) (hy : ev fr y = .i k2 n)
    (hb : T.by_ E * n ≤ 281474976710656) (hn63 : n ≤ 9223372036854775807) (h : AOps T N ops K rest (upd fr d (.arr H.bs.length n E)) { H with bs := H.bs ++ [.cells (List.replicate n z)] }) : AOps T N ops K (o :: rest) fr H :=
  st_op hd hn hw (aop_make t x y ho hk hz hx hy hb hn63 h)
end
end Go.Proofs.Ytlclgpiabjlpbaa.Am
