/- A logic over the walk's rules, twenty-second part: steps in regions that are cut into pieces; maps whose keys are structs. -/
import Derived.Test.YtlclgpiabjlpbaaAm21
import Derived.MapKept
namespace Go.Proofs.Ytlclgpiabjlpbaa.Am
open Go.RowKit
set_option linter.unusedVariables false
set_option linter.unusedSectionVars false
set_option linter.unusedSimpArgs false

/-! ### Pieces: the steps -/
/-- Which boxes an operation looks into. -/
def foot (op : Op) (fr : FrA) : List Nat :=
  match op with
  | .load _ x => match ev fr x with
    | .ptr b _ => [b]
    | _ => []
  | .call { callee := .builtin .len, args, argTypes } => match args[0]? with
    | some x => match ev fr x with
      | .m b => [b]
      | _ => []
    | none => []
  | _ => []
section
variable {T : TT} {N : Nat} {D : List Nat} {K : FrA → AH → Prop} {o : Oper} {rest : List Oper} {i : Nat} {acc : Acc} {fr : FrA} {H : AH} {d : Nat} {ts : List Nat}
theorem aload_same {t : TypeId} {x r : AV} {H' : AH} (hs : ∀ b o, x = .ptr b o → H'.bs[b]? = H.bs[b]?) (h : aload T t x H = some r) : aload T t x H' = some r := by
  unfold aload at h ⊢
  split at h
  · rename_i b o
    simp only [hs b o rfl]; exact h
  · exact h
  · cases h
theorem alen_same {t : TypeId} {x r : AV} {H' : AH} (hs : ∀ b, x = .m b → H'.bs[b]? = H.bs[b]?) (h : alen T t x H = some r) : alen T t x H' = some r := by
  unfold alen at h ⊢
  split at h
  · exact h
  · exact h
  · exact h
  · exact h
  · exact h
  · rename_i b hk
    simp only [hs b rfl]; exact h
  · cases h
theorem pop_foot {op : Op} {r : AV} {H' : AH} (hs : ∀ b, b ∈ foot op fr → H'.bs[b]? = H.bs[b]?) (h : pop T op fr H = some r) : pop T op fr H' = some r := by
  unfold pop at h ⊢
  split at h <;> first | exact h | skip
  · rename_i t x
    exact aload_same (fun b o e => hs b (by simp [foot, e])) h
  · rename_i args ats
    revert h hs
    simp only [foot]
    cases args[0]? with
    | none => intro _ h; cases h
    | some x =>
      cases ats[0]? with
      | none => intro _ h; cases h
      | some t => intro hs h; exact alen_same (fun b e => hs b (by simp [e])) h
theorem do_nil (h : K fr H) : ADo T N D K [] i acc fr H := h
theorem do_ar {r : AV} (rb : List Nat) (hd : o.dst = some d) (hn : Nat.blt d N = true) (hts : rdO o = ts) (h : AR T N o (frO ts fr) rb H r) (hc : chkQ D i rb acc = true) (k : ADo T N D K rest (i + 1) ((i, false, rb) :: acc) (upd fr d r) H) : ADo T N D K (o :: rest) i acc fr H := by
  subst hts
  refine ⟨by rw [hd]; simpa [okD] using hn, .inl ⟨r, rb, h, hc, ?_⟩⟩
  rw [hd]; exact k
theorem do_popx (x : AV) {rb : List Nat} (hd : o.dst = some d) (hn : Nat.blt d N = true) (hts : rdO o = ts) (h : pop T o.op (frO ts fr) H = some x) (hf : foS (foot o.op (frO ts fr)) = some rb) (hc : chkQ D i rb acc = true) (k : ADo T N D K rest (i + 1) ((i, false, rb) :: acc) (upd fr d x) H) : ADo T N D K (o :: rest) i acc fr H :=
  do_ar rb hd hn hts (fun H' hH => aop_pop (pop_foot (by rw [foS_eq hf]; exact hH) h) ⟨rfl, rfl⟩) hc k
theorem do_pop {x : AV} {rb : List Nat} (hd : o.dst = some d) (hn : Nat.blt d N = true) (hts : rdO o = ts) (h : (pop T o.op (frO ts fr) H).bind fo = some x) (hf : foS (foot o.op (frO ts fr)) = some rb) (hc : chkQ D i rb acc = true) (k : ADo T N D K rest (i + 1) ((i, false, rb) :: acc) (upd fr d x) H) : ADo T N D K (o :: rest) i acc fr H := by
  obtain ⟨y, h1, h2⟩ := Option.bind_eq_some_iff.1 h
  rw [← fo_eq h2] at k
  exact do_popx _ hd hn hts h1 hf hc k
/-- A slot is given a value. -/
theorem do_bit {l : List Oper} (d : Nat) {b : Bool} (h : fr d = .b b) (k : ∀ b', b = b' → ADo T N D K l i acc (upd fr d (.b b')) H) : ADo T N D K l i acc fr H := by
  have := k b rfl
  rwa [upd_same h] at this
theorem do_val {l : List Oper} (d : Nat) {x : AV} (y : AV) (h : fo (fr d) = some x) (e : x = y) (k : ADo T N D K l i acc (upd fr d y) H) : ADo T N D K l i acc fr H := by
  rwa [upd_same ((fo_eq h).trans e)] at k
theorem do_idxA {t : TypeId} {x ix : Operand} {tk : Option Nat} {E : TypeId} {es : List (List AV)} {kk : IntKind} {n : Nat} (e : List AV) (hd : o.dst = some d) (hn : Nat.blt d N = true) (hts : rdO o = ts)
    (ho : o.op = .indexAddr t x ix) (hx : ev (frO ts fr) x = .l tk E es) (hk : T.kd t = some (.slice E)) (hkn : T.kn E = true) (hi : ev (frO ts fr) ix = .i kk (n : Nat)) (he : es[n]? = some e) (k : ADo T N D K rest (i + 1) ((i, false, []) :: acc) (upd fr d (.cp e)) H) : ADo T N D K (o :: rest) i acc fr H :=
  do_ar [] hd hn hts (fun H' _ => aop_pop (r := .cp e) (by simp [pop, ho, aidxA, hx, hk, hi, hkn, he]) ⟨rfl, rfl⟩) (by simp [chkQ, disj]) k
theorem do_callH {f : FuncId} {xs : List Operand} {tys : Array TypeId} {fn : Func} (rb : List Nat) (y : AV) (hd : o.dst = some d) (hn : Nat.blt d N = true) (hts : rdO o = ts)
    (ho : o.op = .call { callee := .value (.func f), args := xs.toArray, argTypes := tys }) (hf : T.P.funcs[f]? = some fn) (hb : fn.body.isNone = false) (hnm : (fn.name == "runtime.NumGoroutine") = false)
    {args : List AV} (ha : xs.map (ev (frO ts fr)) = args) (h : ∀ H' : AH, (∀ b, b ∈ rb → H'.bs[b]? = H.bs[b]?) → ACalls T f args H' fun r H'' => r = y ∧ H'' = H') (hc : chkQ D i rb acc = true) (k : ADo T N D K rest (i + 1) ((i, false, rb) :: acc) (upd fr d y) H) : ADo T N D K (o :: rest) i acc fr H :=
  do_ar rb hd hn hts (fun H' hH => aop_call f xs tys fn ho hf hb hnm (by rw [ha]; exact (h H' hH).mono fun _ _ q => q)) hc k
theorem do_calc {f : FuncId} {xs : List Operand} {tys : Array TypeId} {fn : Func} (y : AV) (hd : o.dst = some d) (hn : Nat.blt d N = true) (hts : rdO o = ts)
    (ho : o.op = .call { callee := .value (.func f), args := xs.toArray, argTypes := tys }) (hf : T.P.funcs[f]? = some fn) (hb : fn.body.isNone = false) (hnm : (fn.name == "runtime.NumGoroutine") = false)
    {args : List AV} (ha : xs.map (ev (frO ts fr)) = args) (h : ∀ H' : AH, ACalls T f args H' fun r H'' => r = y ∧ H'' = H') (k : ADo T N D K rest (i + 1) ((i, false, []) :: acc) (upd fr d y) H) : ADo T N D K (o :: rest) i acc fr H :=
  do_callH [] y hd hn hts ho hf hb hnm ha (fun H' _ => h H') (by simp [chkQ, disj]) k
theorem do_callv {t : Nat} {f : FuncId} {caps : List AV} {xs : List Operand} {tys : Array TypeId} {fn : Func} (rb : List Nat) (y : AV) (hd : o.dst = some d) (hn : Nat.blt d N = true) (hts : rdO o = ts)
    (ho : o.op = .call { callee := .value (.tmp t), args := xs.toArray, argTypes := tys }) (ht : fo (frO ts fr t) = some (.fn f caps)) (hf : T.P.funcs[f]? = some fn) (hb : fn.body.isNone = false) (hnm : (fn.name == "runtime.NumGoroutine") = false)
    {args : List AV} (ha : xs.map (ev (frO ts fr)) ++ caps = args) (h : ∀ H' : AH, (∀ b, b ∈ rb → H'.bs[b]? = H.bs[b]?) → ACalls T f args H' fun r H'' => r = y ∧ H'' = H') (hc : chkQ D i rb acc = true) (k : ADo T N D K rest (i + 1) ((i, false, rb) :: acc) (upd fr d y) H) : ADo T N D K (o :: rest) i acc fr H :=
  do_ar rb hd hn hts (fun H' hH => aop_callv t f caps xs tys fn ho (fo_eq ht) hf hb hnm (by rw [ha]; exact (h H' hH).mono fun _ _ q => q)) hc k
/-- An operation that turns some boxes. -/
theorem do_w {r : AV} (wb : List Nat) (H' : AH) (hd : o.dst = some d) (hn : Nat.blt d N = true) (hts : rdO o = ts) (h : AOp T N o (frO ts fr) H fun r' H'' => r' = r ∧ H'' = H') (hw : ∀ b, b ∉ wb → H'.bs[b]? = H.bs[b]?) (hc : chkW D i wb acc = true) (k : ADo T N D K rest (i + 1) ((i, true, wb) :: acc) (upd fr d r) H') : ADo T N D K (o :: rest) i acc fr H := by
  subst hts
  refine ⟨by rw [hd]; simpa [okD] using hn, .inr ⟨r, wb, H', h, hw, hc, ?_⟩⟩
  rw [hd]; exact k
theorem do_w0 (wb : List Nat) (H' : AH) (hd : o.dst = none) (hts : rdO o = ts) (h : AOp T N o (frO ts fr) H fun r' H'' => r' = .u ∧ H'' = H') (hw : ∀ b, b ∉ wb → H'.bs[b]? = H.bs[b]?) (hc : chkW D i wb acc = true) (k : ADo T N D K rest (i + 1) ((i, true, wb) :: acc) fr H') : ADo T N D K (o :: rest) i acc fr H := by
  subst hts
  refine ⟨by rw [hd]; rfl, .inr ⟨.u, wb, H', h, hw, hc, ?_⟩⟩
  rw [hd]; exact k
theorem off_new {bs : List ABox} {x : ABox} : ∀ b, b ∉ [bs.length] → (bs ++ [x])[b]? = bs[b]? := by
  intro b hb
  have hne : b ≠ bs.length := by simpa using hb
  rcases Nat.lt_or_ge b bs.length with h | h
  · rw [List.getElem?_append_left h]
  · rw [List.getElem?_eq_none (by simp; omega), List.getElem?_eq_none (by omega)]
theorem off_set {bs : List ABox} {c : Nat} {x : ABox} : ∀ b, b ∉ [c] → (bs.set c x)[b]? = bs[b]? := by
  intro b hb
  have hne : b ≠ c := by simpa using hb
  rw [List.getElem?_set_ne (fun e => hne e.symm)]
theorem do_alloc {E : TypeId} {z z' : List AV} {bs : List ABox} (hd : o.dst = some d) (hn : Nat.blt d N = true) (hts : rdO o = ts) (ho : o.op = .alloc E) (hz : T.zero E = some z) (hz' : foL0 z = some z') (hb : foS (H.bs ++ [.cells z']) = some bs) (hc : chkW D i [H.bs.length] acc = true)
    (k : ADo T N D K rest (i + 1) ((i, true, [H.bs.length]) :: acc) (upd fr d (.ptr H.bs.length 0)) { H with bs := bs }) : ADo T N D K (o :: rest) i acc fr H := by
  rw [← foS_eq hb, ← foL0_eq hz'] at k
  exact do_w [H.bs.length] _ hd hn hts (aop_alloc E ho hz ⟨rfl, rfl⟩) off_new hc k
theorem do_store {t : TypeId} {p x : Operand} {b off : Nat} {l z : List AV} {y : AV} {bs : List ABox} (hd : o.dst = none) (hts : rdO o = ts) (ho : o.op = .store t p x) (hp : ev (frO ts fr) p = .ptr b off) (hb : H.bs[b]? = some (.cells l)) (hy : fo (ev (frO ts fr) x) = some y)
    (hst : y.sto = true) (hfl : (cellsOf y).all AV.flat = true) (hkn : T.kn t = true) (hsz : Nat.beq (cellsOf y).length (T.sz t) = true) (hle : Nat.ble (off + T.sz t) l.length = true) (hz : foL0 (aput l off (cellsOf y)) = some z) (hbs : foS (H.bs.set b (.cells z)) = some bs) (hc : chkW D i [b] acc = true)
    (k : ADo T N D K rest (i + 1) ((i, true, [b]) :: acc) fr { H with bs := bs }) : ADo T N D K (o :: rest) i acc fr H := by
  rw [← foS_eq hbs, ← foL0_eq hz] at k
  exact do_w0 [b] _ hd hts (aop_store t p x ho hp hb (fo_eq hy) hst hfl hkn (Nat.eq_of_beq_eq_true hsz) (Nat.le_of_ble_eq_true hle) ⟨rfl, rfl⟩) off_set hc k
/-- A call that turns some boxes. -/
theorem do_callW {f : FuncId} {xs : List Operand} {tys : Array TypeId} {fn : Func} (wb : List Nat) (y : AV) (H' : AH) (hd : o.dst = some d) (hn : Nat.blt d N = true) (hts : rdO o = ts)
    (ho : o.op = .call { callee := .value (.func f), args := xs.toArray, argTypes := tys }) (hf : T.P.funcs[f]? = some fn) (hb : fn.body.isNone = false) (hnm : (fn.name == "runtime.NumGoroutine") = false)
    {args : List AV} (ha : xs.map (ev (frO ts fr)) = args) (h : ACalls T f args H fun r H'' => r = y ∧ H'' = H') (hw : ∀ b, b ∉ wb → H'.bs[b]? = H.bs[b]?) (hc : chkW D i wb acc = true) (k : ADo T N D K rest (i + 1) ((i, true, wb) :: acc) (upd fr d y) H') : ADo T N D K (o :: rest) i acc fr H :=
  do_w wb H' hd hn hts (aop_call f xs tys fn ho hf hb hnm (by rw [ha]; exact h.mono fun _ _ q => q)) hw hc k

variable {ops : Array Oper} {p : List Seg} {s : Nat}
theorem ad_nil (h : K fr H) : AD T N ops D K [] s [] fr H := ⟨rfl, h⟩
theorem ad_op {n : Nat} {l1 l2 : List Oper} (h1 : rest.take n = l1) (h2 : rest.drop n = l2) (h : ADo T N D (fun fr' H' => AD T N ops D K p (s + n) l2 fr' H') l1 s [] fr H) : AD T N ops D K (.op n :: p) s rest fr H := by
  subst h1; subst h2; exact h
theorem ad_bar (h : AOps T N ops (fun fr' H' => AD T N ops D K p (s + 1) rest fr' H') [o] fr H) : AD T N ops D K (.bar :: p) s (o :: rest) fr H := h
end

section
variable {T : TT} {N : Nat} {ops : Array Oper} {K : FrA → AH → Prop} {o : Oper} {rest : List Oper} {fr : FrA} {H : AH} {d : Nat}
/-- A call with one outcome, and a heap behind it. -/
theorem st_calcW {f : FuncId} {xs : List Operand} {ts : Array TypeId} {fn : Func} (y : AV) {bs0 bs : List ABox} {ts0 : List Nat} (hd : o.dst = some d) (hn : Nat.blt d N = true) (hw : aw ops fr o = some true)
    (ho : o.op = .call { callee := .value (.func f), args := xs.toArray, argTypes := ts }) (hf : T.P.funcs[f]? = some fn) (hb : fn.body.isNone = false) (hnm : (fn.name == "runtime.NumGoroutine") = false)
    {args : List AV} (ha : xs.map (ev fr) = args) (h : ACalls T f args H fun r H' => r = y ∧ H' = ⟨bs0, ts0⟩) (hbs : foS bs0 = some bs) (k : AOps T N ops K rest (upd fr d y) ⟨bs, ts0⟩) : AOps T N ops K (o :: rest) fr H := by
  rw [← foS_eq hbs] at k
  exact st_call hd hn hw ho hf hb hnm ha h (by rintro r H' ⟨rfl, rfl⟩; exact k)
/-- A call of a function that the model has. -/
theorem aop_extern {K' : AV → AH → Prop} (f : FuncId) (xs : List Operand) (ts : Array TypeId) (args : List AV) (r : AV) (ho : o.op = .call { callee := .value (.func f), args := xs.toArray, argTypes := ts })
    (ha : xs.map (ev fr) = args) (hp : args.all AV.plain = true) (hr : r.plain = true) (h : ∀ w, (callFunc f (args.map toV).toArray).run T.P w = .ok (.value (toV r)) w) (k : K' r H) : AOp T N o fr H K' := by
  intro B G w a next Q' hi hf hn
  have hrl := map_rel hf xs
  rw [ha] at hrl
  have he : xs.map a.eval = args.map toV := hrl.eqV hp
  have hrun : (execOp a.eval o).run T.P w = .ok (.value (toV r)) w := by
    have h2 := h w
    rw [← he] at h2
    simp only [execOp, ho, resolve, Act.eval, Deferred.ofValue, invoke, Sem.run_bind, Sem.run_pure, Result.andThen_ok, List.map_toArray]
    simpa using h2
  unfold Oper.wp
  rw [hrun]
  exact hn r _ H G w k (Rel.toV hr) hi (.refl _) (.refl _ _)
theorem st_extern {f : FuncId} {xs : List Operand} {ts : Array TypeId} (args : List AV) (r : AV) (hd : o.dst = some d) (hn : Nat.blt d N = true) (hw : aw ops fr o = some true) (ho : o.op = .call { callee := .value (.func f), args := xs.toArray, argTypes := ts })
    (ha : xs.map (ev fr) = args) (hp : args.all AV.plain = true) (hr : r.plain = true) (h : ∀ w, (callFunc f (args.map toV).toArray).run T.P w = .ok (.value (toV r)) w) (k : AOps T N ops K rest (upd fr d r) H) : AOps T N ops K (o :: rest) fr H :=
  st_op hd hn hw (aop_extern f xs ts args r ho ha hp hr h k)
end

/-! ### Maps whose keys are structs -/
section
variable {κ ν : Type} [DecidableEq κ]
def mget : List (κ × ν) → κ → Option ν
  | [], _ => none
  | e :: r, k => if e.1 = k then some e.2 else mget r k
def mput : List (κ × ν) → κ → ν → List (κ × ν)
  | [], k, v => [(k, v)]
  | e :: r, k, v => if e.1 = k then (k, v) :: r else e :: mput r k v
def mdel : List (κ × ν) → κ → List (κ × ν)
  | [], _ => []
  | e :: r, k => if e.1 = k then r else e :: mdel r k
theorem mput_len {s : List (κ × ν)} {k : κ} {v : ν} : (mput s k v).length = if mget s k = none then s.length + 1 else s.length := by
  induction s with
  | nil => rfl
  | cons e r ih =>
    unfold mput mget
    split
    · simp
    · simp only [List.length_cons, ih]; split <;> rfl
theorem mput_get {s : List (κ × ν)} {k k' : κ} {v : ν} : mget (mput s k v) k' = if k = k' then some v else mget s k' := by
  induction s with
  | nil => unfold mput mget; split <;> simp_all [mget]
  | cons e r ih =>
    unfold mput
    split
    · rename_i h
      subst h
      simp only [mget]
      split
      · simp_all
      · rename_i h2; simp_all
    · rename_i h
      simp only [mget, ih]
      by_cases h2 : e.1 = k'
      · subst h2; rw [if_pos rfl, if_neg (fun q : k = e.1 => h q.symm)]; simp [mget]
      · simp [h2]
end

/-- The entries of a map as the logic has them. -/
def mapAV {κ ν : Type} (ka va : κ → List AV) (vb : ν → AV) (s : List (κ × ν)) : List (AV × AV) := s.map fun e => (.agg (ka e.1), vb e.2)

section
variable {T : TT} {G : Gh} {κ ν : Type} [DecidableEq κ]
/-- How keys and values of a map stand to the model's. -/
structure KeyTy (T : TT) (kt : TypeId) (ka : κ → List AV) where
  ks : List CK
  eqk : T.eqk kt = some ks
  nofl : nofl ks = true
  ck : ∀ a, ckL ks (ka a) = true
  inj : ∀ a b, ka a = ka b → a = b

theorem ckL_plain : ∀ {ks : List CK} {xs : List AV}, ckL ks xs = true → xs.all AV.plain = true
  | [], [], _ => rfl
  | k :: ks, x :: xs, h => by
    simp only [ckL, Bool.and_eq_true] at h
    have : x.plain = true := by cases k <;> cases x <;> simp [ck1] at h <;> rfl
    simp [this, ckL_plain h.2]
  | [], _ :: _, h | _ :: _, [], h => by simp [ckL] at h
def keyV (ka : κ → List AV) (k : κ) : Value := .agg ((ka k).map toV).toArray
theorem key_rel {kt : TypeId} {ka : κ → List AV} (K : KeyTy T kt ka) {k : κ} {v : Value} (h : Rel T G (.agg (ka k)) v) : v = keyV ka k := by
  obtain ⟨vs, rfl, hr⟩ := h
  rw [hr.eqV (ckL_plain (K.ck k))]; rfl
theorem key_of {kt : TypeId} {ka : κ → List AV} (K : KeyTy T kt ka) (k : κ) : Rel T G (.agg (ka k)) (keyV ka k) := ⟨_, rfl, RelL.toV (ckL_plain (K.ck k))⟩

theorem run_keyEq {kt : TypeId} {ka : κ → List AV} (K : KeyTy T kt ka) (a b : κ) (w : World) : (Op.equal kt (keyV ka a) (keyV ka b)).run T.P w = .ok (decide (b = a)) w := by
  obtain ⟨r, h1, h2⟩ := ckL_ceq K.nofl (K.ck a) (K.ck b)
  rw [show (Op.equal kt (keyV ka a) (keyV ka b)).run T.P w = .ok r w from (T.eq_ok kt K.ks _ _ r w K.eqk h1).1]
  congr 1
  rw [Bool.eq_iff_iff, h2, decide_eq_true_eq]
  exact ⟨fun e => (K.inj _ _ e).symm, fun e => by rw [e]⟩

/-- The keys of a map's entries. -/
def KeysAre (ka : κ → List AV) (s : List (κ × ν)) (ms : List MapEntry) : Prop := ms.map (·.key) = s.map fun e => keyV ka e.1
theorem run_findAsking {kt : TypeId} {ka : κ → List AV} (K : KeyTy T kt ka) (k : κ) (w : World) : ∀ (s : List (κ × ν)) (ms : List MapEntry) (i : Nat), KeysAre ka s ms →
    (mget s k = none ∧ (Instr.findAsking kt (keyV ka k) ms i).run T.P w = .ok none w ∧ (∀ v, mput s k v = s ++ [(k, v)]) ∧ mdel s k = s) ∨
    ∃ (j : Nat) (m : MapEntry) (v : ν), (Instr.findAsking kt (keyV ka k) ms i).run T.P w = .ok (some (i + j, m.val)) w ∧ ms[j]? = some m ∧ s[j]? = some (k, v) ∧ mget s k = some v ∧ (∀ v', mput s k v' = s.set j (k, v')) ∧ mdel s k = s.eraseIdx j
  | [], [], i, _ => .inl ⟨rfl, by simp [Instr.findAsking], fun v => rfl, rfl⟩
  | [], _ :: _, _, h => by simp [KeysAre] at h
  | _ :: _, [], _, h => by simp [KeysAre] at h
  | e :: s, m :: ms, i, h => by
    simp only [KeysAre, List.map_cons, List.cons.injEq] at h
    have h1 := run_keyEq K k e.1 w
    rw [← h.1] at h1
    by_cases hk : e.1 = k
    · right
      refine ⟨0, m, e.2, by simp [Instr.findAsking, h1, hk], rfl, by rw [← hk]; rfl, by simp [mget, hk], fun v' => by simp [mput, hk], by simp [mdel, hk]⟩
    · have h2 : decide (e.1 = k) = false := by simpa using hk
      rw [h2] at h1
      rcases run_findAsking K k w s ms (i + 1) h.2 with ⟨q1, q2, q3, q4⟩ | ⟨j, m', v, q1, q2, q3, q4, q5, q6⟩
      · exact .inl ⟨by simp [mget, hk, q1], by simp [Instr.findAsking, h1, q2], fun v => by simp [mput, hk, q3], by simp [mdel, hk, q4]⟩
      · refine .inr ⟨j + 1, m', v, ?_, by simpa using q2, by simpa using q3, by simp [mget, hk, q4], fun v' => by simp [mput, hk, q5], by simp [mdel, hk, q6]⟩
        simp only [Instr.findAsking, Sem.run_bind, h1, Result.andThen_ok, Bool.false_eq_true, if_false, q1]
        rw [show i + 1 + j = i + (j + 1) by omega]
theorem run_findKeyS {kt : TypeId} {ka : κ → List AV} (K : KeyTy T kt ka) (k : κ) (w : World) (ms : List MapEntry) : (Instr.findKey kt (keyV ka k) ms).run T.P w = (Instr.findAsking kt (keyV ka k) ms).run T.P w := by
  obtain ⟨_, fs, hu⟩ := T.ck_ok kt K.ks (ka k) true w K.eqk (K.ck k)
  unfold Instr.findKey
  simp only [Sem.run_bind, run_underlying hu, Result.andThen_ok]
  cases ms with
  | nil => simp [Instr.findNow, Instr.findAsking]
  | cons m ms => simp [Instr.findNow, Instr.sameNow, keyV]
theorem run_checkKeyS {kt : TypeId} {ka : κ → List AV} (K : KeyTy T kt ka) (k : κ) (em : Bool) (w : World) : (Instr.checkKey em 10000 kt (keyV ka k)).run T.P w = .ok () w :=
  (T.ck_ok kt K.ks (ka k) em w K.eqk (K.ck k)).1

/-- A box that holds a map. -/
def mapB (ka : κ → List AV) (va : ν → AV) (s : List (κ × ν)) : ABox := .map (s.map fun e => (.agg (ka e.1), va e.2))
theorem map_open {B : Nat} {H : AH} {w : World} (hi : Inv T B G H w) {kt : TypeId} {ka : κ → List AV} (K : KeyTy T kt ka) {va : ν → AV} {b c : Nat} {s : List (κ × ν)} (hb : H.bs[b]? = some (mapB ka va s)) (hc : G.bx b = some c) :
    ∃ (ms : List MapEntry) (clock : Nat), w.heap[c]? = some (.map ms.toArray clock) ∧ KeysAre ka s ms ∧ RelL T G (s.map fun e => va e.2) (ms.map (·.val)) ∧ (∀ e ∈ ms, e.born < clock) ∧ (ms.map (·.born)).Nodup := by
  obtain ⟨c', hc', ms, clock, h1, h2, h3, h4, h5⟩ := hi.bs b _ hb
  rw [hc] at hc'; obtain rfl := Option.some.inj hc'
  refine ⟨ms, clock, h1, ?_, by simpa [Function.comp_def] using h3, h4, h5⟩
  simp only [List.map_map, Function.comp_def] at h2
  have hl := h2.length
  apply List.ext_getElem?
  intro i
  have hl' : ms.length = s.length := by simpa using hl
  by_cases hi' : i < s.length
  · have hx : (s.map fun e => AV.agg (ka e.1))[i]? = some (.agg (ka s[i].1)) := by simp [hi']
    obtain ⟨v, hv, hr⟩ := h2.get i _ hx
    rw [hv, key_rel K hr]
    simp [hi']
  · rw [List.getElem?_eq_none (by simp; omega), List.getElem?_eq_none (by simp; omega)]
theorem map_close {w : World} {kt : TypeId} {ka : κ → List AV} (K : KeyTy T kt ka) {va : ν → AV} {c : Nat} {s : List (κ × ν)} {ms : List MapEntry} {clock : Nat} (h1 : w.heap[c]? = some (.map ms.toArray clock)) (h2 : KeysAre ka s ms) (h3 : RelL T G (s.map fun e => va e.2) (ms.map (·.val)))
    (h4 : ∀ e ∈ ms, e.born < clock) (h5 : (ms.map (·.born)).Nodup) : BoxOK T G w c (mapB ka va s) := by
  refine ⟨ms, clock, h1, ?_, by simpa [Function.comp_def] using h3, h4, h5⟩
  rw [show ms.map (·.key) = _ from h2]
  simp only [List.map_map, Function.comp_def]
  refine RelL.of (by simp) fun i x v hx hv => ?_
  simp only [List.getElem?_map, Option.map_eq_some_iff] at hx hv
  obtain ⟨e, he, rfl⟩ := hx
  obtain ⟨e', he', rfl⟩ := hv
  rw [he] at he'; obtain rfl := Option.some.inj he'
  exact key_of K _

/-- What a look-up yields. -/
def lookR (va : ν → AV) (z : AV) (ok : Bool) : Option ν → AV
  | some v => if ok then .tup [va v, .b true] else va v
  | none => if ok then .tup [z, .b false] else z
theorem zero_agg {t : TypeId} {z : List AV} (h : T.zero t = some z) (hl : z.length ≠ 1) : ∃ v, (∀ w, (zeroValue t).run T.P w = .ok v w) ∧ ∀ G, Rel T G (.agg z) v := by
  obtain ⟨h0, hp, i, v, h1, h2, _, _, h5⟩ := T.zero_ok t z h
  refine ⟨v, fun w => by simp [zeroValue, typeInfo, h1, h2], fun G => ?_⟩
  have hc : v.cells.size ≠ 1 := by have := congrArg List.length h5; simp at this; omega
  cases v <;> simp [Value.cells] at hc h5
  exact ⟨_, by rw [← h5], RelL.toV hp⟩
theorem run_lookup {B : Nat} {H : AH} {w : World} (hi : Inv T B G H w) {mt kt E : TypeId} {ka : κ → List AV} {va : ν → AV} (hm : T.kd mt = some (.map kt E)) (K : KeyTy T kt ka) {z : AV} {zv : Value} (hz : ∀ w, (zeroValue E).run T.P w = .ok zv w) (hzr : ∀ G, Rel T G z zv)
    {b : Nat} {s : List (κ × ν)} (hb : H.bs[b]? = some (mapB ka va s)) {k : κ} {x kv : Value} (hx : Rel T G (.m b) x) (hk : Rel T G (.agg (ka k)) kv) (ok : Bool) :
    ∃ v, Rel T G (lookR va z ok (mget s k)) v ∧ (Instr.lookup mt x kv ok).run T.P w = .ok v w := by
  obtain ⟨c, hc, rfl⟩ := hx
  rw [key_rel K hk]
  obtain ⟨ms, clock, h1, h2, h3, h4, h5⟩ := map_open hi K hb hc
  have hg : (getObj c).run T.P w = .ok (.map ms.toArray clock) w := by simp only [getObj, Sem.run, h1]
  have hf := run_findKeyS (T := T) K k w ms
  rcases run_findAsking K k w s ms 0 h2 with ⟨q1, q2, q3, q4⟩ | ⟨j, m, v, q1, q2, q3, q4, q5, q6⟩
  · rw [q2] at hf
    rw [q1]
    cases ok
    · exact ⟨zv, hzr G, by simp [Instr.lookup, run_underlying (T.kd_ok _ _ hm), hg, run_checkKeyS K, hf, hz]⟩
    · exact ⟨.tuple #[zv, .bool false], ⟨[zv, .bool false], rfl, zv, _, rfl, hzr G, _, _, rfl, rfl, rfl⟩, by simp [Instr.lookup, run_underlying (T.kd_ok _ _ hm), hg, run_checkKeyS K, hf, hz]⟩
  · rw [q1] at hf
    rw [q4]
    have hv : Rel T G (va v) m.val := by
      obtain ⟨u, hu, hr⟩ := h3.get j (va v) (by simp [q3])
      simp [q2] at hu
      rw [hu]; exact hr
    cases ok
    · exact ⟨m.val, hv, by simp [Instr.lookup, run_underlying (T.kd_ok _ _ hm), hg, run_checkKeyS K, hf]⟩
    · exact ⟨.tuple #[m.val, .bool true], ⟨[m.val, .bool true], rfl, m.val, _, rfl, hv, _, _, rfl, rfl, rfl⟩, by simp [Instr.lookup, run_underlying (T.kd_ok _ _ hm), hg, run_checkKeyS K, hf]⟩

theorem sameBits_plain : ∀ {xs : List AV} {ks : List CK}, nofl ks = true → ckL ks xs = true → ((xs.map toV).zip (xs.map toV)).all (fun (x, y) => Instr.sameBits 9999 x y) = true
  | [], [], _, _ => rfl
  | x :: xs, k :: ks, hn, h => by
    simp only [ckL, Bool.and_eq_true] at h
    have h1 : nofl ks = true := by cases k <;> simp_all [nofl]
    have h2 : Instr.sameBits 9999 (toV x) (toV x) = true := by
      cases k <;> cases x <;> simp [ck1] at h <;> simp [toV, Instr.sameBits]
      rename_i x
      obtain ⟨x⟩ := x
      show (x == x) = true
      simp
    simp only [List.map_cons, List.zip_cons_cons, List.all_cons, h2, sameBits_plain h1 h.2, Bool.and_self]
  | [], _ :: _, _, h | _ :: _, [], _, h => by simp [ckL] at h
theorem run_keyStays {kt : TypeId} {ka : κ → List AV} (K : KeyTy T kt ka) (k : κ) (w : World) : (Instr.keyThatStays (keyV ka k) (keyV ka k)).run T.P w = .ok (keyV ka k) w := by
  have : Instr.sameBits 10000 (keyV ka k) (keyV ka k) = true := by
    simp only [keyV, Instr.sameBits]
    have := sameBits_plain K.nofl (K.ck k)
    simpa using this
  simp [Instr.keyThatStays, this]

variable {N : Nat} {o : Oper} {fr : FrA} {H : AH} {K' : AV → AH → Prop}
theorem aop_lookup {mt kt E : TypeId} {ka : κ → List AV} {va : ν → AV} (x i : Operand) (ok : Bool) (ho : o.op = .lookup mt x i ok) (hm : T.kd mt = some (.map kt E)) (K : KeyTy T kt ka) {z : AV} {zv : Value} (hz : ∀ w, (zeroValue E).run T.P w = .ok zv w) (hzr : ∀ G, Rel T G z zv)
    {b : Nat} {s : List (κ × ν)} (hb : H.bs[b]? = some (mapB ka va s)) {k : κ} (hx : ev fr x = .m b) (hk : ev fr i = .agg (ka k)) (h : K' (lookR va z ok (mget s k)) H) : AOp T N o fr H K' := by
  intro B G w a next Q' hi hf hn
  obtain ⟨v, h1, h2⟩ := run_lookup hi hm K hz hzr hb (hx ▸ hf.ev x) (hk ▸ hf.ev i) ok
  unfold Oper.wp
  simp only [execOp, ho, Sem.run_bind, h2, Result.andThen_ok, Sem.run_pure]
  exact hn _ v H G w h h1 hi (.refl _) (.refl _ _)

theorem set_below {B c : Nat} {w : World} (hc : B ≤ c) (O : Obj) : Below B w { w with heap := w.heap.setIfInBounds c O } :=
  ⟨rfl, rfl, rfl, by simp, fun k hk => by
    show (w.heap.setIfInBounds c O)[k]? = w.heap[k]?
    rw [Array.getElem?_setIfInBounds_ne (by omega)]⟩

/-- A map with another content. -/
theorem map_set {B : Nat} {w : World} (hi : Inv T B G H w) {ka : κ → List AV} {va : ν → AV} {b c : Nat} {s s' : List (κ × ν)} (hb : H.bs[b]? = some (mapB ka va s)) (hc : G.bx b = some c) {kt : TypeId} (K : KeyTy T kt ka) {ms : List MapEntry} {clock : Nat}
    (h2 : KeysAre ka s' ms) (h3 : RelL T G (s'.map fun e => va e.2) (ms.map (·.val))) (h4 : ∀ e ∈ ms, e.born < clock) (h5 : (ms.map (·.born)).Nodup) :
    Inv T B G { H with bs := H.bs.set b (mapB ka va s') } { w with heap := w.heap.setIfInBounds c (.map ms.toArray clock) } := by
  have hlt := (hi.bx b c hc).2.2
  refine hi.setBox hb hc (by simp) (fun k hk => ?_) (map_close K ?_ h2 h3 h4 h5)
  · show (w.heap.setIfInBounds c _)[k]? = w.heap[k]?
    rw [Array.getElem?_setIfInBounds_ne (fun e => hk e.symm)]
  · show (w.heap.setIfInBounds c _)[c]? = _
    rw [Array.getElem?_setIfInBounds_self_of_lt hlt]

theorem aop_mapUpdate {mt kt E : TypeId} {ka : κ → List AV} {va : ν → AV} (m i x : Operand) (ho : o.op = .mapUpdate mt m i x) (hm : T.kd mt = some (.map kt E)) (K : KeyTy T kt ka)
    {b : Nat} {s : List (κ × ν)} (hb : H.bs[b]? = some (mapB ka va s)) {k : κ} {v : ν} (hx : ev fr m = .m b) (hk : ev fr i = .agg (ka k)) (hv : ev fr x = va v) (h : K' .u { H with bs := H.bs.set b (mapB ka va (mput s k v)) }) : AOp T N o fr H K' := by
  intro B G w a next Q' hi hf hn
  have hx1 := hx ▸ hf.ev m
  have hk1 := hk ▸ hf.ev i
  have hv1 := hv ▸ hf.ev x
  obtain ⟨c, hc, hme⟩ := hx1
  have hke := key_rel K hk1
  obtain ⟨ms, clock, h1, h2, h3, h4, h5⟩ := map_open hi K hb hc
  have hlt := (hi.bx b c hc).2.2
  have hB := (hi.bx b c hc).2.1
  have hg : (getObj c).run T.P w = .ok (.map ms.toArray clock) w := by simp only [getObj, Sem.run, h1]
  have hs : ∀ O, (setObj c O).run T.P w = .ok () { w with heap := w.heap.setIfInBounds c O } := fun O => MapKept.run_setObj_map O h1
  have hfk := run_findKeyS (T := T) K k w ms
  have hl : ms.length = s.length := by simpa using congrArg List.length h2
  unfold Oper.wp
  simp only [execOp, ho]
  rw [hme, hke]
  rcases run_findAsking K k w s ms 0 h2 with ⟨q1, q2, q3, q4⟩ | ⟨j, e, v0, q1, q2, q3, q4, q5, q6⟩
  · rw [q2] at hfk
    have hrun : (Instr.mapUpdate mt (.map (some c)) (keyV ka k) (a.eval x)).run T.P w = .ok () { w with heap := w.heap.setIfInBounds c (.map (ms ++ [(⟨keyV ka k, a.eval x, clock⟩ : MapEntry)]).toArray (clock + 1)) } := by
      simp [Instr.mapUpdate, run_underlying (T.kd_ok _ _ hm), hg, run_checkKeyS K, hfk, hs]
    simp only [Sem.run_bind, hrun, Result.andThen_ok, Sem.run_pure]
    rw [q3] at h
    refine hn _ undef _ G _ h trivial (map_set hi hb hc K ?_ ?_ ?_ ?_) (.refl _) (set_below hB _)
    · unfold KeysAre at h2 ⊢; simp [h2]
    · simp only [List.map_append, List.map_cons, List.map_nil]; exact h3.append ⟨_, _, rfl, hv1, rfl⟩
    · intro e he
      rcases List.mem_append.1 he with he | he
      · have := h4 e he; omega
      · simp at he; subst he; simp
    · simp only [List.map_append, List.map_cons, List.map_nil]
      refine List.nodup_append.2 ⟨h5, by simp, fun x hx y hy => ?_⟩
      simp at hy; subst hy
      obtain ⟨e, he, rfl⟩ := List.mem_map.1 hx
      have := h4 e he; omega
  · rw [q1] at hfk
    have hkj : e.key = keyV ka k := by
      have : (ms.map (·.key))[j]? = some (keyV ka k) := by rw [show ms.map (·.key) = _ from h2]; simp [q3]
      simpa [q2] using this
    have hrun : (Instr.mapUpdate mt (.map (some c)) (keyV ka k) (a.eval x)).run T.P w = .ok () { w with heap := w.heap.setIfInBounds c (.map (ms.set j (⟨keyV ka k, a.eval x, e.born⟩ : MapEntry)).toArray clock) } := by
      have hmod : ms.modify j (fun e => { e with key := keyV ka k, val := a.eval x }) = ms.set j (⟨keyV ka k, a.eval x, e.born⟩ : MapEntry) := by
        obtain ⟨hjl, hje⟩ := List.getElem?_eq_some_iff.1 q2
        apply List.ext_getElem?
        intro i
        simp only [List.getElem?_modify, List.getElem?_set]
        by_cases e1 : j = i
        · subst e1
          simp [hjl, hje]
        · simp [e1]
      simp only [Nat.zero_add] at hfk
      simp [Instr.mapUpdate, run_underlying (T.kd_ok _ _ hm), hg, run_checkKeyS K, hfk, hs, q2, hkj, run_keyStays K, hmod]
    simp only [Sem.run_bind, hrun, Result.andThen_ok, Sem.run_pure]
    rw [q5] at h
    refine hn _ undef _ G _ h trivial (map_set hi hb hc K ?_ ?_ ?_ ?_) (.refl _) (set_below hB _)
    · unfold KeysAre at h2 ⊢; rw [List.map_set, h2, List.map_set]
    · rw [List.map_set, List.map_set]; exact h3.set j hv1
    · intro e' he
      rcases List.mem_or_eq_of_mem_set he with he | rfl
      · exact h4 e' he
      · exact h4 e (List.mem_of_getElem? q2)
    · rw [List.map_set]
      have : (ms.map (·.born))[j]? = some e.born := by simp [q2]
      rw [show (ms.map (·.born)).set j e.born = ms.map (·.born) by
        apply List.ext_getElem?
        intro i
        rw [List.getElem?_set]
        split
        · rename_i e1; subst e1; split
          · exact this.symm
          · rename_i h7; rw [List.getElem?_eq_none (by simpa using h7)] 
        · rfl]
      exact h5

theorem map_erase {α β : Type} (f : α → β) (l : List α) (j : Nat) : (l.eraseIdx j).map f = (l.map f).eraseIdx j := by
  simp [List.eraseIdx_eq_take_drop_succ, List.map_take, List.map_drop]
theorem aop_delete {mt kt E : TypeId} {ka : κ → List AV} {va : ν → AV} {ts : Array TypeId} (m i : Operand) (ho : o.op = .call { callee := .builtin .delete, args := #[m, i], argTypes := ts }) (hts : ts[0]? = some mt) (hm : T.kd mt = some (.map kt E)) (K : KeyTy T kt ka)
    {b : Nat} {s : List (κ × ν)} (hb : H.bs[b]? = some (mapB ka va s)) {k : κ} (hx : ev fr m = .m b) (hk : ev fr i = .agg (ka k)) (h : K' (.tup []) { H with bs := H.bs.set b (mapB ka va (mdel s k)) }) : AOp T N o fr H K' := by
  intro B G w a next Q' hi hf hn
  have hx1 := hx ▸ hf.ev m
  have hk1 := hk ▸ hf.ev i
  obtain ⟨c, hc, hme⟩ := hx1
  have hke := key_rel K hk1
  obtain ⟨ms, clock, h1, h2, h3, h4, h5⟩ := map_open hi K hb hc
  have hlt := (hi.bx b c hc).2.2
  have hB := (hi.bx b c hc).2.1
  have hg : (getObj c).run T.P w = .ok (.map ms.toArray clock) w := by simp only [getObj, Sem.run, h1]
  have hs : ∀ O, (setObj c O).run T.P w = .ok () { w with heap := w.heap.setIfInBounds c O } := fun O => MapKept.run_setObj_map O h1
  have hfk := run_findKeyS (T := T) K k w ms
  have hexec : execOp a.eval o = (do pure (.value (← Builtin.delete_ ts o.type #[a.eval m, a.eval i]))) := by simp [execOp, ho, resolve, invoke, builtin]
  unfold Oper.wp
  rw [hexec, hme, hke]
  rcases run_findAsking K k w s ms 0 h2 with ⟨q1, q2, q3, q4⟩ | ⟨j, e, v0, q1, q2, q3, q4, q5, q6⟩
  · rw [q2] at hfk
    have hrun : (Builtin.delete_ ts o.type #[.map (some c), keyV ka k]).run T.P w = .ok (.tuple #[]) { w with heap := w.heap.setIfInBounds c (.map ms.toArray clock) } := by
      simp [Builtin.delete_, hts, run_underlying (T.kd_ok _ _ hm), hg, run_checkKeyS K, hfk, hs]
    simp only [Sem.run_bind, hrun, Result.andThen_ok, Sem.run_pure]
    rw [q4] at h
    exact hn _ _ _ G _ h ⟨[], rfl, rfl⟩ (map_set hi hb hc K h2 h3 h4 h5) (.refl _) (set_below hB _)
  · rw [q1] at hfk
    simp only [Nat.zero_add] at hfk
    have hjl := (List.getElem?_eq_some_iff.1 q2).1
    have hrun : (Builtin.delete_ ts o.type #[.map (some c), keyV ka k]).run T.P w = .ok (.tuple #[]) { w with heap := w.heap.setIfInBounds c (.map (ms.eraseIdx j).toArray clock) } := by
      simp [Builtin.delete_, hts, run_underlying (T.kd_ok _ _ hm), hg, run_checkKeyS K, hfk, hs, hjl, Array.eraseIdxIfInBounds]
    simp only [Sem.run_bind, hrun, Result.andThen_ok, Sem.run_pure]
    rw [q6] at h
    refine hn _ _ _ G _ h ⟨[], rfl, rfl⟩ (map_set hi hb hc K ?_ ?_ ?_ ?_) (.refl _) (set_below hB _)
    · unfold KeysAre at h2 ⊢; rw [map_erase, h2, map_erase]
    · rw [map_erase, map_erase, List.eraseIdx_eq_take_drop_succ, List.eraseIdx_eq_take_drop_succ]
      exact (h3.take _).append (h3.drop _)
    · exact fun e' he => h4 e' (List.mem_of_mem_eraseIdx he)
    · rw [map_erase]; exact h5.sublist (List.eraseIdx_sublist _ _)

theorem aop_makeMap (t : TypeId) (ho : o.op = .makeMap t none) (hk : K' (.m H.bs.length) { H with bs := H.bs ++ [.map []] }) : AOp T N o fr H K' := by
  intro B G w a next Q' hi hf hn
  have hrun : (execOp a.eval o).run T.P w = .ok (.value (.map (some w.heap.size))) (w.alloc (.map #[] 0)) := by
    have : (Instr.makeMap t none).run T.P w = .ok (.map (some w.heap.size)) (w.alloc (.map #[] 0)) := rfl
    simp [execOp, ho, this]
  have hb := below_one w (.map #[] 0)
  have hi' := hi.newBox hb (c := w.heap.size) (Nat.le_refl _) (by simp) (x := .map []) ⟨[], 0, heap_alloc_new w _, rfl, rfl, by simp, by simp⟩
  unfold Oper.wp
  rw [hrun]
  exact hn _ _ _ _ _ hk ⟨w.heap.size, by simp [Gh.addBox], rfl⟩ hi' (hi.le_addBox _) (hb.mono hi.hB)
end

/-! ### Their steps -/
section
variable {T : TT} {κ ν : Type} [DecidableEq κ] {N : Nat} {ops : Array Oper} {o : Oper} {rest : List Oper} {fr : FrA} {H : AH} {d : Nat}
theorem st_lookup {K : FrA → AH → Prop} {mt kt E : TypeId} {ka : κ → List AV} {va : ν → AV} {z : AV} {zv : Value} {x i : Operand} {ok : Bool} {b : Nat} (s : List (κ × ν)) (k : κ) (KT : KeyTy T kt ka) (hz : ∀ w, (zeroValue E).run T.P w = .ok zv w) (hzr : ∀ G, Rel T G z zv) (hd : o.dst = some d) (hn : Nat.blt d N = true) (hw : aw ops fr o = some true)
    (ho : o.op = .lookup mt x i ok) (hm : T.kd mt = some (.map kt E)) (hx : ev fr x = .m b) (hb : H.bs[b]? = some (mapB ka va s)) (hk : ev fr i = .agg (ka k)) {g : Option ν} (hg : mget s k = g) {r : AV} (hr : fo (lookR va z ok g) = some r) (h : AOps T N ops K rest (upd fr d r) H) : AOps T N ops K (o :: rest) fr H := by
  subst hg
  rw [← fo_eq hr] at h
  exact st_op hd hn hw (aop_lookup x i ok ho hm KT hz hzr hb hx hk h)
theorem do_lookup {D : List Nat} {j : Nat} {acc : Acc} {K : FrA → AH → Prop} {mt kt E : TypeId} {ka : κ → List AV} {va : ν → AV} {z : AV} {zv : Value} {x i : Operand} {ok : Bool} {b : Nat} {ts : List Nat} (s : List (κ × ν)) (k : κ) (KT : KeyTy T kt ka) (hz : ∀ w, (zeroValue E).run T.P w = .ok zv w) (hzr : ∀ G, Rel T G z zv) (hd : o.dst = some d) (hn : Nat.blt d N = true) (hts : rdO o = ts)
    (ho : o.op = .lookup mt x i ok) (hm : T.kd mt = some (.map kt E)) (hx : ev (frO ts fr) x = .m b) (hb : H.bs[b]? = some (mapB ka va s)) (hk : ev (frO ts fr) i = .agg (ka k)) {g : Option ν} (hg : mget s k = g) {r : AV} (hr : fo (lookR va z ok g) = some r) (hc : chkQ D j [b] acc = true) (h : ADo T N D K rest (j + 1) ((j, false, [b]) :: acc) (upd fr d r) H) : ADo T N D K (o :: rest) j acc fr H := by
  subst hg
  rw [← fo_eq hr] at h
  exact do_ar [b] hd hn hts (fun H' hH => aop_lookup x i ok ho hm KT hz hzr (s := s) (by rw [hH b (by simp)]; exact hb) hx hk ⟨rfl, rfl⟩) hc h
theorem do_mapUpdate {D : List Nat} {j : Nat} {acc : Acc} {K : FrA → AH → Prop} {mt kt E : TypeId} {ka : κ → List AV} {va : ν → AV} {m i x : Operand} {b : Nat} {ts : List Nat} {bs : List ABox} (s : List (κ × ν)) (k : κ) (v : ν) (KT : KeyTy T kt ka) (hd : o.dst = none) (hts : rdO o = ts)
    (ho : o.op = .mapUpdate mt m i x) (hm : T.kd mt = some (.map kt E)) (hx : ev (frO ts fr) m = .m b) (hb : H.bs[b]? = some (mapB ka va s)) (hk : ev (frO ts fr) i = .agg (ka k)) (hv : ev (frO ts fr) x = va v) (hbs : foS (H.bs.set b (mapB ka va (mput s k v))) = some bs) (hc : chkW D j [b] acc = true) (h : ADo T N D K rest (j + 1) ((j, true, [b]) :: acc) fr { H with bs := bs }) : ADo T N D K (o :: rest) j acc fr H := by
  rw [← foS_eq hbs] at h
  exact do_w0 [b] _ hd hts (aop_mapUpdate m i x ho hm KT hb hx hk hv ⟨rfl, rfl⟩) off_set hc h
theorem st_mapUpdate {K : FrA → AH → Prop} {mt kt E : TypeId} {ka : κ → List AV} {va : ν → AV} {m i x : Operand} {b : Nat} {bs : List ABox} (s : List (κ × ν)) (k : κ) (v : ν) (KT : KeyTy T kt ka) (hd : o.dst = none) (hw : aw ops fr o = some true)
    (ho : o.op = .mapUpdate mt m i x) (hm : T.kd mt = some (.map kt E)) (hx : ev fr m = .m b) (hb : H.bs[b]? = some (mapB ka va s)) (hk : ev fr i = .agg (ka k)) (hv : ev fr x = va v) (hbs : foS (H.bs.set b (mapB ka va (mput s k v))) = some bs) (h : AOps T N ops K rest fr { H with bs := bs }) : AOps T N ops K (o :: rest) fr H := by
  rw [← foS_eq hbs] at h
  exact st_op0 hd hw (aop_mapUpdate m i x ho hm KT hb hx hk hv h)
theorem st_delete {K : FrA → AH → Prop} {mt kt E : TypeId} {ka : κ → List AV} {va : ν → AV} {m i : Operand} {tys : Array TypeId} {b : Nat} {bs : List ABox} (s : List (κ × ν)) (k : κ) (KT : KeyTy T kt ka) (hd : o.dst = some d) (hn : Nat.blt d N = true) (hw : aw ops fr o = some true)
    (ho : o.op = .call { callee := .builtin .delete, args := #[m, i], argTypes := tys }) (hts : tys[0]? = some mt) (hm : T.kd mt = some (.map kt E)) (hx : ev fr m = .m b) (hb : H.bs[b]? = some (mapB ka va s)) (hk : ev fr i = .agg (ka k)) (hbs : foS (H.bs.set b (mapB ka va (mdel s k))) = some bs) (h : AOps T N ops K rest (upd fr d (.tup [])) { H with bs := bs }) : AOps T N ops K (o :: rest) fr H := by
  rw [← foS_eq hbs] at h
  exact st_op hd hn hw (aop_delete m i ho hts hm KT hb hx hk h)
theorem st_makeMap {K : FrA → AH → Prop} {t : TypeId} {bs : List ABox} (hd : o.dst = some d) (hn : Nat.blt d N = true) (hw : aw ops fr o = some true) (ho : o.op = .makeMap t none) (hb : foS (H.bs ++ [.map []]) = some bs) (k : AOps T N ops K rest (upd fr d (.m H.bs.length)) { H with bs := bs }) : AOps T N ops K (o :: rest) fr H := by
  rw [← foS_eq hb] at k
  exact st_op hd hn hw (aop_makeMap t ho k)
end
end Go.Proofs.Ytlclgpiabjlpbaa.Am
