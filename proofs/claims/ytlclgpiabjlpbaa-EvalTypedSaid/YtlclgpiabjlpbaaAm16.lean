/- A logic over the walk's rules, sixteenth part: what a call has laid out and hands back never changes any more; rows of one-cell things. -/
import Derived.Test.YtlclgpiabjlpbaaAm15
namespace Go.Proofs.Ytlclgpiabjlpbaa.Am
open Go.RowKit
set_option linter.unusedVariables false

section
variable {T : TT}
mutual
/-- A value at the end of a call, and what it is from then on. -/
inductive FZ (T : TT) (H : AH) : AV → AV → Prop
  | refl (x : AV) : FZ T H x x
  | l (t : Option Nat) (E : TypeId) (es : List (List AV)) : FZ T H (.l t E es) (.l none E es)
  | nil (E : TypeId) : FZ T H .nil (.l none E [])
  | arr {b n : Nat} {E : TypeId} {l : List AV} {es : List (List AV)} (hb : H.bs[b]? = some (.cells l)) (hl : ∃ zs, es.flatten ++ zs = l) (hs : ∀ e ∈ es, e.length = T.sz E) (hp : 0 < T.sz E) (hn : es.length = n) : FZ T H (.arr b n E) (.l none E es)
  | ptr {b : Nat} {l : List AV} (hb : H.bs[b]? = some (.cells l)) : FZ T H (.ptr b 0) (.cp l)
  | tup {xs ys : List AV} : FZL T H xs ys → FZ T H (.tup xs) (.tup ys)
  | agg {xs ys : List AV} : FZL T H xs ys → FZ T H (.agg xs) (.agg ys)
inductive FZL (T : TT) (H : AH) : List AV → List AV → Prop
  | nil : FZL T H [] []
  | cons {x y : AV} {xs ys : List AV} : FZ T H x y → FZL T H xs ys → FZL T H (x :: xs) (y :: ys)
end

mutual
theorem FZ.rel {G1 G2 : Gh} {H : AH} (hbx : ∀ b c l, G1.bx b = some c → H.bs[b]? = some (.cells l) → ∀ i x, l[i]? = some x → clean x = true → G2.im c i x)
    (hc2 : ∀ c i x, clean x = true → G1.im c i x → G2.im c i x) : ∀ {x y : AV} (_ : FZ T H x y) {v : Value}, clean y = true → Rel T G1 x v → Rel T G2 y v
  | _, _, .refl x, v, hc, h => clean_rel hc2 x v hc h
  | _, _, .l t E es, v, hc, h => by
    obtain ⟨A, cap, h1, h2, h3, h4, h5, h6⟩ := h
    exact clean_rel hc2 (.l none E es) v hc ⟨A, cap, h1, h2, h3, h4, h5, fun tt ht => by cases ht⟩
  | _, _, .nil E, v, hc, h => by
    cases h
    exact ⟨none, 0, rfl, Nat.le_refl _, Nat.zero_le _, by simp, fun q => absurd rfl q, fun tt ht => by cases ht⟩
  | _, _, .arr hb hl hs hp hn, v, hc, h => by
    rename_i b n E l es
    obtain ⟨c, h1, cap, rfl, h2, h3⟩ := h
    obtain ⟨zs, hl⟩ := hl
    subst hl; subst hn
    refine ⟨some ⟨c, 0, none⟩, cap, rfl, h2, h3, hs, fun hne => ⟨c, 0, rfl, fun i j x y hx hy => ?_⟩, fun tt ht => by cases ht⟩
    rw [Nat.zero_add]
    have hfl := flatten_at hp hs hx hy
    exact hbx b c _ h1 hb _ y (by rw [List.getElem?_append_left (List.getElem?_eq_some_iff.1 hfl).1]; exact hfl) (cleanL_get (cleanLL_get hc hx) hy)
  | _, _, .ptr hb, v, hc, h => by cases hc
  | _, _, .tup hw, v, hc, h => by obtain ⟨vs, rfl, hr⟩ := h; exact ⟨vs, rfl, FZL.rel hbx hc2 hw hc hr⟩
  | _, _, .agg hw, v, hc, h => by obtain ⟨vs, rfl, hr⟩ := h; exact ⟨vs, rfl, FZL.rel hbx hc2 hw hc hr⟩
theorem FZL.rel {G1 G2 : Gh} {H : AH} (hbx : ∀ b c l, G1.bx b = some c → H.bs[b]? = some (.cells l) → ∀ i x, l[i]? = some x → clean x = true → G2.im c i x)
    (hc2 : ∀ c i x, clean x = true → G1.im c i x → G2.im c i x) : ∀ {xs ys : List AV} (_ : FZL T H xs ys) {vs : List Value}, cleanL ys = true → RelL T G1 xs vs → RelL T G2 ys vs
  | _, _, .nil, _, _, h => h
  | _, _, .cons h1 h2, _, hc, h => by
    simp only [cleanL, Bool.and_eq_true] at hc
    obtain ⟨v, vs', rfl, hr, hrs⟩ := h
    exact ⟨v, vs', rfl, FZ.rel hbx hc2 h1 hc.1 hr, FZL.rel hbx hc2 h2 hc.2 hrs⟩
end

/-- A call that only computes, and what it hands back may be rows that it has laid out. -/
theorem acalls_frameZ {f : FuncId} {args : List AV} {R : AV → Prop} (hargs : cleanL args = true) (h : ACalls T f args ⟨[], []⟩ (fun r H' => ∃ r', FZ T H' r r' ∧ clean r' = true ∧ R r')) (H : AH) :
    ACalls T f args H (fun r H' => R r ∧ H' = H) := by
  intro B G w vs hi ha
  let G0 : Gh := { im := fun c i x => clean x = true ∧ G.im c i x, bx := fun _ => none, tk := fun _ => none, kp := fun _ => none }
  have hcl : ∀ c i x, clean x = true → G.im c i x → G0.im c i x := fun c i x hc hx => ⟨hc, hx⟩
  have hi0 : Inv T w.heap.size G0 ⟨[], []⟩ w := by
    refine ⟨Nat.le_refl _, (fun b c hb => by cases hb), (fun b b' c hb => by cases hb), (fun b x hb => by simp at hb), fun c i x hx => ?_, (fun t ht => by cases ht), ⟨0, fun _ _ => rfl⟩, (fun t t' k k' ht => by cases ht), (fun c o ho => by cases ho)⟩
    obtain ⟨hc, hx⟩ := hx
    obtain ⟨⟨v, hv, hr⟩, h2, _⟩ := hi.im c i x hx
    exact ⟨⟨v, hv, clean_rel hcl x v hc hr⟩, h2, (fun b hb => by cases hb)⟩
  refine Calls.mono' (h w.heap.size G0 w vs hi0 (cleanL_rel hcl args vs hargs ha)) fun e w' ⟨r, v, G1, H1, he, ⟨r', hwk, hrc, hR⟩, hrel, hi1, hle1, hb1⟩ => ?_
  let G2 : Gh := { G with im := fun c i x => G.im c i x ∨ (w.heap.size ≤ c ∧ clean x = true ∧ (G1.im c i x ∨ ∃ b l, G1.bx b = some c ∧ H1.bs[b]? = some (.cells l) ∧ l[i]? = some x)) }
  have hle : G.le B G2 := ⟨fun _ _ _ hx => .inl hx, fun c i x hc hx => by
    rcases hx with hx | ⟨hx, _⟩
    · exact hx
    · have := hi.hB; omega, fun _ _ hx => hx, fun _ _ hx => hx, fun _ => rfl, fun c i x hc hx => by
    rcases hx with hx | ⟨hx, _⟩
    · exact hx
    · have := hi.kp_lt hc; omega⟩
  have hcl2 : ∀ c i x, clean x = true → G1.im c i x → G2.im c i x := by
    intro c i x hc hx
    by_cases hlt : c < w.heap.size
    · exact .inl (hle1.lo c i x hlt hx).2
    · exact .inr ⟨by omega, hc, .inl hx⟩
  have hbx2 : ∀ b c l, G1.bx b = some c → H1.bs[b]? = some (.cells l) → ∀ i x, l[i]? = some x → clean x = true → G2.im c i x := by
    intro b c l hb hl i x hx hc
    exact .inr ⟨(hi1.bx b c hb).2.1, hc, .inr ⟨b, l, hb, hl, hx⟩⟩
  have hib := hi.below hb1
  have hi2 : Inv T B G2 H w' := by
    refine ⟨hib.hB, hib.bx, hib.inj, fun b x hb => ?_, fun c i x hx => ?_, fun t ht => ?_, hib.fs, hib.ne, hib.kp⟩
    · obtain ⟨c, hc, hx⟩ := hib.bs b x hb
      exact ⟨c, hc, hx.mono hle⟩
    · rcases hx with hx | ⟨hc, hcx, hx | ⟨b, l, hb, hl, hx⟩⟩
      · obtain ⟨⟨u, hu, hr⟩, h2, h3⟩ := hib.im c i x hx
        exact ⟨⟨u, hu, Rel.mono hle _ _ hr⟩, h2, h3⟩
      · obtain ⟨⟨u, hu, hr⟩, h2, _⟩ := hi1.im c i x hx
        exact ⟨⟨u, hu, clean_rel hcl2 x u hcx hr⟩, h2, fun b hb => by have := (hi.bx b c hb).2.2; omega⟩
      · obtain ⟨c', hc', hk⟩ := hi1.bs b _ hl
        rw [hb] at hc'; obtain rfl := Option.some.inj hc'
        obtain ⟨us, E, e1, e2, e3⟩ := hk
        obtain ⟨u, hu, hr⟩ := e2.get i x hx
        exact ⟨⟨u, by simp [World.cell?, e1, hu], clean_rel hcl2 x u hcx hr⟩, e3 x (List.mem_of_getElem? hx), fun b hb => by have := (hi.bx b c hb).2.2; omega⟩
    · obtain ⟨k, xs, h1, h2, h3⟩ := hib.tk t ht
      obtain ⟨k', xs', h1', h2', _⟩ := hi.tk t ht
      rw [h1] at h1'; obtain rfl := Option.some.inj h1'
      refine ⟨k, xs, h1, h2, fun c hc => ⟨(h3 c hc).1, fun i hi' => ?_⟩⟩
      rintro ⟨zz, hz | ⟨hz, _⟩⟩
      · exact (h3 c hc).2 i hi' ⟨zz, hz⟩
      · have := (h2'.lt c hc).2; omega
  exact ⟨r', v, G2, H, he, ⟨hR, rfl⟩, FZ.rel hbx2 hcl2 hwk hrc hrel, hi2, hle, hb1.mono hi.hB⟩

theorem body_calcZ {f : FuncId} {fn : Func} {c : Code} (hf : T.P.funcs[f]? = some fn) (hb : fn.body = some c) {args : List AV} {y : AV} {n : Nat} (hn : fn.ntmps = n) (hle : Nat.ble args.length n = true) {rs : List ResultVar} (hrs : fn.results = rs.toArray)
    (hargs : cleanL args = true) (hy : clean y = true) (h : AWp T n c (RetQ T rs fun r H => FZ T H r y) (fr0 args) ⟨[], []⟩) (H : AH) : ACalls T f args H (fun r H' => r = y ∧ H' = H) :=
  acalls_frameZ (R := fun r => r = y) hargs ((body_q hf hb hn hle hrs h).mono fun r _ hr => ⟨y, hr, hy, rfl⟩) H
end

/-! ### Rows of one-cell things -/
section
variable {T : TT} {N : Nat} {ops : Array Oper} {K : FrA → AH → Prop} {o : Oper} {rest : List Oper} {fr : FrA} {H : AH} {d : Nat}
theorem st_idxR {t : TypeId} {x i : Operand} {b m : Nat} {E : TypeId} {kk : IntKind} {n : Nat} (hd : o.dst = some d) (hn : Nat.blt d N = true) (hw : aw ops fr o = some true)
    (ho : o.op = .indexAddr t x i) (hx : ev fr x = .arr b m E) (hk : T.kd t = some (.slice E)) (hkn : T.kn E = true) (hs : T.sz E = 1) (hi : ev fr i = .i kk (n : Nat)) (hlt : n < m) (k : AOps T N ops K rest (upd fr d (.ptr b n)) H) : AOps T N ops K (o :: rest) fr H :=
  st_op hd hn hw (aop_pop (r := .ptr b n) (by simp [pop, ho, aidxA, hx, hk, hi, hkn, hlt, hs]) k)
theorem st_storeR {t : TypeId} {p x : Operand} {b off : Nat} {l : List AV} {y : AV} (l' : List AV) {bs : List ABox} (hd : o.dst = none) (hw : aw ops fr o = some true) (ho : o.op = .store t p x) (hp : ev fr p = .ptr b off) (hb : H.bs[b]? = some (.cells l)) (hy : fo (ev fr x) = some y)
    (hfl : y.flat = true) (hkn : T.kn t = true) (hsz : T.sz t = 1) (hle : off < l.length) (hz : l.set off y = l') (hbs : foS (H.bs.set b (.cells l')) = some bs)
    (k : AOps T N ops K rest fr { H with bs := bs }) : AOps T N ops K (o :: rest) fr H := by
  have hc : cellsOf y = [y] := by cases y <;> first | rfl | cases hfl
  have hst : y.sto = true := by cases y <;> first | rfl | cases hfl
  rw [← foS_eq hbs, ← hz] at k
  have hy' := fo_eq hy
  refine st_op0 hd hw (aop_store t p x ho hp hb hy' hst (by rw [hc]; simp [hfl]) hkn (by rw [hc, hsz]; rfl) (by omega) ?_)
  have : aput l off (cellsOf y) = l.set off y := by
    rw [hc, List.set_eq_take_append_cons_drop]
    simp [aput, hle]
  rw [this]
  exact k
theorem st_loadR {t : TypeId} {p : Operand} {b off : Nat} {l : List AV} (y : AV) (hd : o.dst = some d) (hn : Nat.blt d N = true) (hw : aw ops fr o = some true) (ho : o.op = .load t p) (hp : ev fr p = .ptr b off) (hb : H.bs[b]? = some (.cells l)) (hag : T.ag t = some false) (hy : l[off]? = some y)
    (k : AOps T N ops K rest (upd fr d y) H) : AOps T N ops K (o :: rest) fr H :=
  st_op hd hn hw (aop_pop (r := y) (by simp [pop, ho, aload, aload1, hp, hb, hag, hy]) k)
end
section
variable {T : TT} {N : Nat} {ops : Array Oper} {K : FrA → Prop} {o : Oper} {rest : List Oper} {fr : FrA} {H : AH} {d : Nat}
theorem as_idxR {t : TypeId} {x i : Operand} {b m : Nat} {E : TypeId} {kk : IntKind} {n : Nat} (hd : o.dst = some d) (hn : Nat.blt d N = true) (hw : aw ops fr o = some true)
    (ho : o.op = .indexAddr t x i) (hx : ev fr x = .arr b m E) (hk : T.kd t = some (.slice E)) (hkn : T.kn E = true) (hs : T.sz E = 1) (hi : ev fr i = .i kk (n : Nat)) (hlt : n < m) (k : AS T N ops H K rest (upd fr d (.ptr b n))) : AS T N ops H K (o :: rest) fr :=
  as_popx (.ptr b n) hd hn hw (by simp [pop, ho, aidxA, hx, hk, hi, hkn, hlt, hs]) k
theorem as_loadR {t : TypeId} {p : Operand} {b off : Nat} {l : List AV} (y : AV) (hd : o.dst = some d) (hn : Nat.blt d N = true) (hw : aw ops fr o = some true) (ho : o.op = .load t p) (hp : ev fr p = .ptr b off) (hb : H.bs[b]? = some (.cells l)) (hag : T.ag t = some false) (hy : l[off]? = some y)
    (k : AS T N ops H K rest (upd fr d y)) : AS T N ops H K (o :: rest) fr :=
  as_popx y hd hn hw (by simp [pop, ho, aload, aload1, hp, hb, hag, hy]) k
end

/-- A row of whole numbers, of which the first ones are told. -/
def rowC (xs : List Nat) (n : Nat) : List AV := xs.map (fun (x : Nat) => AV.i .i64 (x : Int)) ++ List.replicate (n - xs.length) (.i .i64 0)
theorem rowC_get {xs : List Nat} {n j x : Nat} (h : xs[j]? = some x) : (rowC xs n)[j]? = some (.i .i64 (x : Int)) := by
  have hl := (List.getElem?_eq_some_iff.1 h).1
  unfold rowC
  rw [List.getElem?_append_left (by simpa using hl), List.getElem?_map, h]
  rfl
theorem rowC_push {xs : List Nat} {n y : Nat} (h : xs.length < n) : (rowC xs n).set xs.length (.i .i64 (y : Int)) = rowC (xs ++ [y]) n := by
  unfold rowC
  obtain ⟨m, hm⟩ : ∃ m, n - xs.length = m + 1 := ⟨n - xs.length - 1, by omega⟩
  have hm2 : n - (xs ++ [y]).length = m := by simp; omega
  rw [hm, hm2, List.set_append_right _ _ (by simp)]
  simp [List.replicate_succ]
theorem rowC_last {xs : List Nat} {n x y : Nat} : (rowC (xs ++ [x]) n).set xs.length (.i .i64 (y : Int)) = rowC (xs ++ [y]) n := by
  unfold rowC
  simp [List.set_append_right]
theorem rowC_len {xs : List Nat} {n : Nat} (h : xs.length ≤ n) : (rowC xs n).length = n := by
  unfold rowC; simp; omega
theorem rowC_full {xs : List Nat} : rowC xs xs.length = (xs.map fun (x : Nat) => [AV.i .i64 (x : Int)]).flatten := by
  unfold rowC
  simp only [Nat.sub_self, List.replicate_zero, List.append_nil]
  induction xs with
  | nil => rfl
  | cons x xs ih => simp only [List.map_cons, List.flatten_cons, List.cons_append, List.nil_append, ih]
theorem rowC_zero {n : Nat} : rowC [] n = List.replicate n (.i .i64 0) := by simp [rowC]
end Go.Proofs.Ytlclgpiabjlpbaa.Am
