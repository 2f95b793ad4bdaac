/- A logic over the walk's rules, fifth part: 'pop': all operations that turn nothing, and that they yield what it says; a region of such operations, in whatever order. -/
import Derived.Test.YtlclgpiabjlpbaaAm4
namespace Go.Proofs.Ytlclgpiabjlpbaa.Am
open Go.RowKit
set_option linter.unusedVariables false

section
variable {T : TT} {G : Gh}

/-- Parts laid into cells. -/
def aput (z : List AV) (off : Nat) (cs : List AV) : List AV := z.take off ++ cs ++ z.drop (off + cs.length)
def afill (T : TT) (fl : Nat → Option (Nat × TypeId)) (z : List AV) : List (Nat × AV) → Option (List AV)
  | [] => some z
  | (k, x) :: rest => (fl k).bind fun p => if x.sto = true ∧ (cellsOf x).length = T.sz p.2 ∧ p.1 + T.sz p.2 ≤ z.length then afill T fl (aput z p.1 (cellsOf x)) rest else none

theorem foldl_put (cs : List Value) : ∀ (z : Array Value) (off k : Nat), off + k + cs.length ≤ z.size →
    ((cs.zipIdx k).foldl (fun a (x : Value × Nat) => a.setIfInBounds (off + x.2) x.1) z).toList = z.toList.take (off + k) ++ cs ++ z.toList.drop (off + k + cs.length) := by
  induction cs with
  | nil => intro z off k h; simp
  | cons c cs ih =>
    intro z off k h
    simp only [List.length_cons] at h
    rw [List.zipIdx_cons, List.foldl_cons, show (k + 1) = k + 1 from rfl, ih _ off (k + 1) (by simp; omega)]
    simp only [Array.toList_setIfInBounds, List.length_cons]
    have hk : off + k < z.toList.length := by simp; omega
    rw [show off + (k + 1) = off + k + 1 by omega, List.take_succ_eq_append_getElem (by simpa using hk), List.getElem_set_self, List.take_set_of_le (by omega), List.drop_set_of_lt (by omega)]
    simp [show off + k + 1 + cs.length = off + k + (cs.length + 1) by omega]

theorem RelL.aput {z cs : List AV} {vz vc : List Value} (h : RelL T G z vz) (k : RelL T G cs vc) (off : Nat) : RelL T G (Am.aput z off cs) (vz.take off ++ vc ++ vz.drop (off + vc.length)) := by
  rw [k.length]
  exact ((h.take off).append k).append (h.drop _)

theorem aput_length {z cs : List AV} {off : Nat} (h : off + cs.length ≤ z.length) : (aput z off cs).length = z.length := by
  unfold aput; simp; omega

theorem afill_sound {fl : Nat → Option (Nat × TypeId)} (pl : Nat → Option (Nat × Nat)) (hpl : ∀ k off ft, fl k = some (off, ft) → pl k = some (off, T.sz ft)) : ∀ (ps : List (Nat × AV)) (vs : List (Nat × Value)) (z r : List AV) (vz : List Value),
    ps.length = vs.length → (∀ (i : Nat) p v, ps[i]? = some p → vs[i]? = some v → p.1 = v.1 ∧ Rel T G p.2 v.2) → afill T fl z ps = some r → RelL T G z vz → ∃ vr, Instr.fill pl vz.toArray vs = some vr ∧ RelL T G r vr.toList
  | [], [], z, r, vz, _, _, h, hz => by obtain rfl := Option.some.inj h; exact ⟨_, rfl, by simpa using hz⟩
  | [], _ :: _, z, r, vz, hl, _, h, hz => by simp at hl
  | _ :: _, [], z, r, vz, hl, _, h, hz => by simp at hl
  | (k, x) :: ps, (k', v) :: vs, z, r, vz, hl, hr, h, hz => by
    simp only [afill, Option.bind_eq_some_iff] at h
    obtain ⟨⟨off, ft⟩, h1, h2⟩ := h
    obtain ⟨hkk, hxv⟩ := hr 0 (k, x) (k', v) rfl rfl
    simp only at hkk hxv
    subst hkk
    split at h2
    · rename_i hc
      obtain ⟨hst, hlen, hle⟩ := hc
      obtain ⟨hcl, hone⟩ := hxv.cells hst
      have hvl : v.cells.size = T.sz ft := by have := hcl.length; rw [hlen] at this; simpa using this
      have hzl := hz.length
      have e1 : off + v.cells.size ≤ vz.length := by rw [hvl, hzl]; exact hle
      have hf := foldl_put v.cells.toList vz.toArray off 0 (by simpa using e1)
      obtain ⟨vr, e2, e3⟩ := afill_sound pl hpl ps vs _ r _ (by simpa using hl) (fun i p u hp hu => hr (i + 1) p u (by simpa using hp) (by simpa using hu)) h2 (RelL.aput hz hcl off)
      refine ⟨vr, ?_, e3⟩
      simp only [Instr.fill, hpl _ _ _ h1]
      rw [if_neg (by simp [hvl]; omega)]
      rw [← e2]
      congr 1
      apply Array.ext'
      rw [← Array.foldl_toList, Array.toList_zipIdx]
      simp only [Nat.add_zero] at hf
      simpa using hf
    · cases h2

def abuild (T : TT) (t : TypeId) (ps : List (Nat × AV)) : Option AV :=
  if T.st t = true then (T.zero t).bind fun z => (afill T (T.fld t) z ps).map .agg else match T.kd t with
    | some (.array _ E) => if T.kn E = true then (T.zero t).bind fun z => (afill T (fun k => some (k * T.sz E, E)) z ps).map .agg else none
    | _ => none

theorem abuild_sound {t : TypeId} {ps : List (Nat × AV)} {r : AV} (h : abuild T t ps = some r) {vs : List (Nat × Value)} (hl : ps.length = vs.length) (hr : ∀ (i : Nat) p v, ps[i]? = some p → vs[i]? = some v → p.1 = v.1 ∧ Rel T G p.2 v.2) :
    ∃ v, Rel T G r v ∧ ∀ w, (Instr.build t vs.toArray).run T.P w = .ok v w := by
  unfold abuild at h
  split at h
  · rename_i hst
    simp only [Option.bind_eq_some_iff, Option.map_eq_some_iff] at h
    obtain ⟨z, hz, c, hc, rfl⟩ := h
    obtain ⟨hzl, hzp, i, v, hi, hiz, his, hib, hcz⟩ := T.zero_ok t z hz
    obtain ⟨fs, pl, hu, hrun, hpl⟩ := T.st_ok t hst
    have hzr : RelL T G z v.cells.toList := by rw [hcz]; exact RelL.toV hzp
    obtain ⟨vr, e1, e2⟩ := afill_sound (fun k => pl[k]?) hpl ps vs z c _ hl hr hc hzr
    refine ⟨.agg vr, ⟨vr.toList, by simp, e2⟩, fun w => ?_⟩
    simp only [Instr.build, zeroValue, typeInfo, Sem.run_bind, run_program, Result.andThen_ok, hi, Sem.run_pure, hiz, run_underlying hu, hrun w]
    have e1' : Instr.fill (fun x => pl[x]?) v.cells vs.toArray.toList = some vr := by simpa using e1
    simp only [e1']
    rfl
  · split at h
    · rename_i nn E hk
      split at h
      · rename_i hkn
        simp only [Option.bind_eq_some_iff, Option.map_eq_some_iff] at h
        obtain ⟨z, hz, c, hc, rfl⟩ := h
        obtain ⟨hzl, hzp, i, v, hi, hiz, his, hib, hcz⟩ := T.zero_ok t z hz
        have hu := T.kd_ok _ _ hk
        have hzr : RelL T G z v.cells.toList := by rw [hcz]; exact RelL.toV hzp
        obtain ⟨vr, e1, e2⟩ := afill_sound (fun k => some (k * T.sz E, T.sz E)) (fun k off ft q => by injection q with q; injection q with q1 q2; subst q1; subst q2; rfl) ps vs z c _ hl hr hc hzr
        refine ⟨.agg vr, ⟨vr.toList, by simp, e2⟩, fun w => ?_⟩
        simp only [Instr.build, zeroValue, typeInfo, Sem.run_bind, run_program, Result.andThen_ok, hi, Sem.run_pure, hiz, run_underlying hu, run_sizeOf E hkn]
        have e1' : Instr.fill (fun i => some (i * T.sz E, T.sz E)) v.cells vs.toArray.toList = some vr := by simpa using e1
        simp only [e1']
        rfl
      · cases h
    · cases h

def aun (op : UnOp) (x : AV) : Option AV :=
  match op, x with
  | .not, .b t => some (.b (!t))
  | .neg, .i k n => some (.i k (k.wrap (0 - n)))
  | .neg, .f x => some (.f (x ^^^ 9223372036854775808))
  | _, _ => none
theorem aun_sound {op : UnOp} {x r : AV} (h : aun op x = some r) {a : Value} (hx : Rel T G x a) : ∃ v, Rel T G r v ∧ ∀ w, (Op.unary op a).run T.P w = .ok v w := by
  unfold aun at h
  split at h
  · cases h; cases hx; exact ⟨_, rfl, fun w => by simp [Op.unary]⟩
  · cases h; cases hx; exact ⟨_, rfl, fun w => by simp [Op.unary, Op.intArith]⟩
  · cases h; cases hx; exact ⟨_, rfl, fun w => rfl⟩
  · cases h

def aconv (T : TT) (s d : TypeId) (x : AV) : Option AV :=
  match x with
  | .i _ n => match T.kd s, T.kd d with
    | some (.int _), some (.int k) => some (.i k (k.wrap n))
    | some (.int _), some (.float .f64) => some (.f (FloatKind.f64.nearest n))
    | _, _ => none
  | .f b => match T.kd s, T.kd d with
    | some (.float .f64), some (.int k) => match (FloatKind.f64.decode b).toInt .zero with
      | some n => if k.min ≤ n ∧ n ≤ k.max then some (.i k n) else none
      | none => none
    | _, _ => none
  | .s t => match T.kd s, T.kd d with
    | some .string, some .string => some (.s t)
    | _, _ => none
  | _ => none
theorem aconv_sound {s d : TypeId} {x r : AV} (h : aconv T s d x = some r) {a : Value} (hx : Rel T G x a) : ∃ v, Rel T G r v ∧ ∀ w, (convert s d a).run T.P w = .ok v w := by
  unfold aconv at h
  split at h
  · split at h
    · rename_i h1 h2
      cases h; cases hx
      exact ⟨_, rfl, fun w => by simp [convert, run_underlying (T.kd_ok _ _ h1), run_underlying (T.kd_ok _ _ h2), Conv.intToInt]⟩
    · rename_i h1 h2
      cases h; cases hx
      exact ⟨_, rfl, fun w => by simp [convert, run_underlying (T.kd_ok _ _ h1), run_underlying (T.kd_ok _ _ h2), Conv.intToFloat]⟩
    · cases h
  · split at h
    · rename_i h1 h2
      split at h
      · rename_i n hn
        split at h
        · rename_i hr
          cases h; cases hx
          refine ⟨_, rfl, fun w => ?_⟩
          simp only [convert, Sem.run_bind, run_underlying (T.kd_ok _ _ h1), run_underlying (T.kd_ok _ _ h2), Result.andThen_ok, Conv.floatToInt, hn]
          rw [if_pos hr]; rfl
        · cases h
      · cases h
    · cases h
  · split at h
    · rename_i h1 h2
      cases h; cases hx
      exact ⟨_, rfl, fun w => by simp [convert, run_underlying (T.kd_ok _ _ h1), run_underlying (T.kd_ok _ _ h2)]⟩
    · cases h
  · cases h

def alen (T : TT) (t : TypeId) (x : AV) (H : AH) : Option AV :=
  match T.kd t, x with
  | some .string, .s s => some (.i .i64 s.size)
  | some (.slice _), .l _ _ es => some (.i .i64 es.length)
  | some (.slice _), .nil => some (.i .i64 0)
  | some (.slice _), .arr _ n _ => some (.i .i64 n)
  | some (.map _ _), .nm => some (.i .i64 0)
  | some (.map _ _), .m b => match H.bs[b]? with
    | some (.map es) => some (.i .i64 es.length)
    | _ => none
  | _, _ => none
theorem alen_sound {B : Nat} {H : AH} {w : World} (hi : Inv T B G H w) {t ty : TypeId} {x r : AV} (h : alen T t x H = some r) {a : Value} (hx : Rel T G x a) (rest : Array TypeId) (ra : Array Value) (h0 : rest[0]? = some t) (h1 : ra[0]? = some a) :
    ∃ v, Rel T G r v ∧ ∀ w', Below w.heap.size w w' → (Builtin.len_ rest ty ra).run T.P w' = .ok v w' := by
  unfold alen at h
  split at h
  · rename_i hk; cases h; cases hx
    exact ⟨_, rfl, fun w' _ => by simp [Builtin.len_, h0, h1, run_underlying (T.kd_ok _ _ hk), goInt]⟩
  · rename_i hk; cases h; obtain ⟨A, cap, rfl, _⟩ := hx
    exact ⟨_, rfl, fun w' _ => by simp [Builtin.len_, h0, h1, run_underlying (T.kd_ok _ _ hk), goInt]⟩
  · rename_i hk; cases h; cases hx
    exact ⟨_, rfl, fun w' _ => by simp [Builtin.len_, h0, h1, run_underlying (T.kd_ok _ _ hk), goInt]⟩
  · rename_i hk; cases h; obtain ⟨c, _, cap, rfl, _⟩ := hx
    exact ⟨_, rfl, fun w' _ => by simp [Builtin.len_, h0, h1, run_underlying (T.kd_ok _ _ hk), goInt]⟩
  · rename_i hk; cases h; cases hx
    exact ⟨_, rfl, fun w' _ => by simp [Builtin.len_, h0, h1, run_underlying (T.kd_ok _ _ hk), goInt]⟩
  · rename_i b hk
    split at h
    · rename_i es hb
      cases h
      obtain ⟨c, hc, rfl⟩ := hx
      obtain ⟨c', hc', ms, clock, hh, hr, _⟩ := hi.bs b _ hb
      rw [hc] at hc'; obtain rfl := Option.some.inj hc'
      have hl : ms.length = es.length := by have := hr.length; simpa using this
      refine ⟨.int .i64 es.length, rfl, fun w' hb' => ?_⟩
      have hlt : c < w.heap.size := (Array.getElem?_eq_some_iff.1 hh).1
      have hh' := (hb'.block c hlt).trans hh
      have hg : (getObj c).run T.P w' = .ok (.map ms.toArray clock) w' := by simp only [getObj, Sem.run, hh']
      simp [Builtin.len_, h0, h1, run_underlying (T.kd_ok _ _ hk), goInt, hg, hl]
    · cases h
  · cases h

def amax (x y : AV) : Option AV :=
  match x, y with
  | .i k a, .i k' b => if k = k' then some (.i k (max a b)) else none
  | _, _ => none
def amin (x y : AV) : Option AV :=
  match x, y with
  | .i k a, .i k' b => if k = k' then some (.i k (min a b)) else none
  | _, _ => none
theorem amax_sound {x y r : AV} (h : amax x y = some r) {a b : Value} (hx : Rel T G x a) (hy : Rel T G y b) (ts : Array TypeId) (ty : TypeId) : ∃ v, Rel T G r v ∧ ∀ w, (Builtin.max_ ts ty #[a, b]).run T.P w = .ok v w := by
  unfold amax at h
  split at h
  · rename_i k n k' m
    split at h
    · rename_i hk
      subst hk
      obtain rfl := Option.some.inj h
      have hx : a = .int k n := hx
      have hy : b = .int k m := hy
      subst hx; subst hy
      exact ⟨_, rfl, fun w => by simp [Builtin.max_, Builtin.max2]; split <;> omega⟩
    · cases h
  · cases h
theorem amin_sound {x y r : AV} (h : amin x y = some r) {a b : Value} (hx : Rel T G x a) (hy : Rel T G y b) (ts : Array TypeId) (ty : TypeId) : ∃ v, Rel T G r v ∧ ∀ w, (Builtin.min_ ts ty #[a, b]).run T.P w = .ok v w := by
  unfold amin at h
  split at h
  · rename_i k n k' m
    split at h
    · rename_i hk
      subst hk
      obtain rfl := Option.some.inj h
      have hx : a = .int k n := hx
      have hy : b = .int k m := hy
      subst hx; subst hy
      exact ⟨_, rfl, fun w => by simp [Builtin.min_, Builtin.min2]; split <;> omega⟩
    · cases h
  · cases h

/-! ### All that turns nothing -/
def pop (T : TT) (op : Op) (fr : FrA) (H : AH) : Option AV :=
  match op with
  | .move x | .assign x => some (ev fr x)
  | .pick c a b => match ev fr c with
    | .b t => some (if t then ev fr a else ev fr b)
    | _ => none
  | .load t x => aload T t (ev fr x) H
  | .binOp op t x y _ => abin T op t (ev fr x) (ev fr y)
  | .unOp op _ x => aun op (ev fr x)
  | .convert s d x => aconv T s d (ev fr x)
  | .fieldAddr s x k => afield T s (ev fr x) k
  | .field s x k => afieldV T s (ev fr x) k
  | .indexAddr t x i => aidxA T t (ev fr x) (ev fr i)
  | .index t x i => aidx T t (ev fr x) (ev fr i)
  | .slice t x lo hi none => aslice T t (ev fr x) (lo.map (ev fr)) (hi.map (ev fr))
  | .build t ps => abuild T t (ps.toList.map fun p => (p.1, ev fr p.2))
  | .extract x k => match ev fr x with
    | .tup cs => cs[k]?
    | _ => none
  | .nilCheck x => match ev fr x with
    | .ptr b o => some (.ptr b o)
    | .cp cs => some (.cp cs)
    | .fn f cs => some (.fn f cs)
    | _ => none
  | .makeInterface t x => match T.kd t with
    | some (.interface _) => none
    | some _ => some (.ifc t (ev fr x))
    | none => none
  | .makeFunc (.func f) first caps => if first.size = 0 then some (.fn f (caps.toList.map (ev fr))) else none
  | .call { callee := .builtin .len, args, argTypes } => match args[0]?, argTypes[0]? with
    | some x, some t => alen T t (ev fr x) H
    | _, _ => none
  | .call { callee := .builtin .max, args, argTypes } => match args.toList with
    | [x, y] => amax (ev fr x) (ev fr y)
    | _ => none
  | .call { callee := .builtin .min, args, argTypes } => match args.toList with
    | [x, y] => amin (ev fr x) (ev fr y)
    | _ => none
  | _ => none

theorem map_rel {N : Nat} {fr : FrA} {a : Act} (hf : RelF T N G fr a) (xs : List Operand) : RelL T G (xs.map (ev fr)) (xs.map a.eval) := by
  refine RelL.of (by simp) fun i x v hx hv => ?_
  simp only [List.getElem?_map, Option.map_eq_some_iff] at hx hv
  obtain ⟨y, hy, rfl⟩ := hx
  obtain ⟨z, hz, rfl⟩ := hv
  rw [hy] at hz
  exact Option.some.inj hz ▸ hf.ev y
theorem relO_ev {N : Nat} {fr : FrA} {a : Act} (hf : RelF T N G fr a) (x : Option Operand) : RelO T G (x.map (ev fr)) (x.map a.eval) := by
  cases x with
  | none => trivial
  | some x => exact hf.ev x

theorem pop_sound {B N : Nat} {H : AH} {w : World} {fr : FrA} {a : Act} (hi : Inv T B G H w) (hf : RelF T N G fr a) (o : Oper) {r : AV} (h : pop T o.op fr H = some r) :
    ∃ v, Rel T G r v ∧ ∀ w', Below w.heap.size w w' → (execOp a.eval o).run T.P w' = .ok (.value v) w' := by
  unfold pop at h
  split at h
  · rename_i x ho; cases h; exact ⟨_, hf.ev x, fun w' _ => by simp [execOp, ho]⟩
  · rename_i x ho; cases h; exact ⟨_, hf.ev x, fun w' _ => by simp [execOp, ho]⟩
  · rename_i c x y ho
    split at h
    · rename_i t ht
      cases h
      have hc := hf.ev c
      rw [ht] at hc
      have hc' : a.eval c = .bool t := hc
      refine ⟨if t then a.eval x else a.eval y, by cases t <;> simp [hf.ev], fun w' _ => by simp [execOp, ho, hc', asBool]⟩
    · cases h
  · rename_i t x ho
    obtain ⟨v, h1, h2⟩ := aload_sound hi (hf.ev x) h
    exact ⟨v, h1, fun w' hb => by simp [execOp, ho, h2 w' hb]⟩
  · rename_i op t x y ty ho
    obtain ⟨v, h1, h2⟩ := abin_sound h (hf.ev x) (hf.ev y) x y
    refine ⟨v, h1, fun w' _ => ?_⟩
    have h3 := h2 w'
    simp only [execOp, ho]
    rw [Sem.run_bind, h3]; rfl
  · rename_i op t x ho
    obtain ⟨v, h1, h2⟩ := aun_sound h (hf.ev x)
    exact ⟨v, h1, fun w' _ => by simp [execOp, ho, h2 w']⟩
  · rename_i s d x ho
    obtain ⟨v, h1, h2⟩ := aconv_sound h (hf.ev x)
    exact ⟨v, h1, fun w' _ => by simp [execOp, ho, h2 w']⟩
  · rename_i s x k ho
    obtain ⟨v, h1, h2⟩ := afield_sound h (hf.ev x)
    exact ⟨v, h1, fun w' _ => by simp [execOp, ho, h2 w']⟩
  · rename_i s x k ho
    obtain ⟨v, h1, h2⟩ := afieldV_sound h (hf.ev x)
    exact ⟨v, h1, fun w' _ => by simp [execOp, ho, h2 w']⟩
  · rename_i t x i ho
    obtain ⟨v, h1, h2⟩ := aidxA_sound h (hf.ev x) (hf.ev i)
    exact ⟨v, h1, fun w' _ => by simp [execOp, ho, h2 w']⟩
  · rename_i t x i ho
    obtain ⟨v, h1, h2⟩ := aidx_sound h (hf.ev x) (hf.ev i)
    exact ⟨v, h1, fun w' _ => by simp [execOp, ho, h2 w']⟩
  · rename_i t x lo hh ho
    obtain ⟨v, h1, h2⟩ := aslice_sound h (hf.ev x) (relO_ev hf lo) (relO_ev hf hh)
    exact ⟨v, h1, fun w' _ => by simp [execOp, ho, h2 w']⟩
  · rename_i t ps ho
    have hr : ∀ (i : Nat) (p : Nat × AV) (v : Nat × Value), (ps.toList.map fun p => (p.1, ev fr p.2))[i]? = some p → (ps.toList.map fun p => (p.1, a.eval p.2))[i]? = some v → p.1 = v.1 ∧ Rel T G p.2 v.2 := by
      intro i p v hp hv
      rw [List.getElem?_map, Option.map_eq_some_iff] at hp hv
      obtain ⟨y, hy, rfl⟩ := hp
      obtain ⟨z, hz, rfl⟩ := hv
      rw [hy] at hz
      obtain rfl := Option.some.inj hz
      exact ⟨rfl, hf.ev _⟩
    obtain ⟨v, h1, h2⟩ := abuild_sound (G := G) h (by simp) hr
    refine ⟨v, h1, fun w' _ => ?_⟩
    have h3 := h2 w'
    have : (ps.toList.map fun p => (p.1, a.eval p.2)).toArray = ps.map fun p => (p.1, a.eval p.2) := by apply Array.ext'; rw [Array.toList_map]
    rw [this] at h3
    simp only [execOp, ho]
    rw [Sem.run_bind, h3]; rfl
  · rename_i x k ho
    split at h
    · rename_i cs hc
      have hx := hf.ev x
      rw [hc] at hx
      obtain ⟨vs, hv, hr⟩ := hx
      obtain ⟨v, h1, h2⟩ := hr.get k r h
      exact ⟨v, h2, fun w' _ => by simp [execOp, ho, hv, Instr.extract, h1]⟩
    · cases h
  · rename_i x ho
    have hx := hf.ev x
    split at h
    · rename_i b o' hc
      cases h
      rw [hc] at hx
      obtain ⟨c, h1, h2⟩ := hx
      exact ⟨a.eval x, ⟨c, h1, h2⟩, fun w' _ => by simp [execOp, ho, h2]⟩
    · rename_i cs hc
      cases h
      rw [hc] at hx
      obtain ⟨c, o', h2, h3⟩ := hx
      exact ⟨a.eval x, ⟨c, o', h2, h3⟩, fun w' _ => by simp [execOp, ho, h2]⟩
    · rename_i f cs hc
      cases h
      rw [hc] at hx
      obtain ⟨vs, h2, h3⟩ := hx
      exact ⟨a.eval x, ⟨vs, h2, h3⟩, fun w' _ => by simp [execOp, ho, h2]⟩
    · cases h
  · rename_i t x ho
    split at h
    · cases h
    · rename_i d hne hd
      cases h
      refine ⟨.iface t (a.eval x), ⟨_, rfl, hf.ev x⟩, fun w' _ => ?_⟩
      have hm : (Instr.makeInterface t (a.eval x)).run T.P w' = .ok (.iface t (a.eval x)) w' := by
        simp only [Instr.makeInterface, Sem.run_bind, run_underlying (T.kd_ok _ _ hd), Result.andThen_ok]
        cases d <;> first | rfl | (exact absurd rfl (hne _))
      simp [execOp, ho, hm]
    · cases h
  · rename_i f first caps ho
    split at h
    · rename_i h0
      cases h
      have h0' : first = #[] := by simpa using h0
      refine ⟨.func (.func f) #[] (caps.map a.eval), ⟨caps.toList.map a.eval, by apply congrArg; apply Array.ext'; simp, map_rel hf _⟩, fun w' _ => by simp [execOp, ho, Instr.makeFunc, h0']⟩
    · cases h
  · rename_i args ts ho
    split at h
    · rename_i x t hx ht
      have := alen_sound hi (ty := o.type) h (hf.ev x) ts (args.map a.eval) ht (by simp [hx])
      obtain ⟨v, h1, h2⟩ := this
      refine ⟨v, h1, fun w' hb => ?_⟩
      have := h2 w' hb
      simp [execOp, ho, resolve, invoke, builtin, this]
    · cases h
  · rename_i args ts ho
    split at h
    · rename_i x y hargs
      obtain ⟨v, h1, h2⟩ := amax_sound h (hf.ev x) (hf.ev y) ts o.type
      have ha : args = #[x, y] := by apply Array.ext'; simpa using hargs
      refine ⟨v, h1, fun w' hb => ?_⟩
      simp [execOp, ho, resolve, invoke, builtin, ha, h2 w']
    · cases h
  · rename_i args ts ho
    split at h
    · rename_i x y hargs
      obtain ⟨v, h1, h2⟩ := amin_sound h (hf.ev x) (hf.ev y) ts o.type
      have ha : args = #[x, y] := by apply Array.ext'; simpa using hargs
      refine ⟨v, h1, fun w' hb => ?_⟩
      simp [execOp, ho, resolve, invoke, builtin, ha, h2 w']
    · cases h
  · cases h

theorem aop_pop {N : Nat} {o : Oper} {fr : FrA} {H : AH} {K : AV → AH → Prop} {r : AV} (h : pop T o.op fr H = some r) (hk : K r H) : AOp T N o fr H K := by
  intro B G w a next Q' hi hf hn
  obtain ⟨v, h1, h2⟩ := pop_sound hi hf o h
  unfold Oper.wp
  rw [h2 w (.refl _ _)]
  exact hn r v H G w hk h1 hi (.refl _) (.refl _ _)
end
end Go.Proofs.Ytlclgpiabjlpbaa.Am
