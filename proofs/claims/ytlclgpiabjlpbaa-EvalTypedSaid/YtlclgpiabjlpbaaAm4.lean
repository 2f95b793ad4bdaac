/- A logic over the walk's rules, fourth part: addresses, indexes, slices, structs that are built; 'pop': all that turns nothing. -/
import Derived.Test.YtlclgpiabjlpbaaAm3
namespace Go.Proofs.Ytlclgpiabjlpbaa.Am
open Go.RowKit
set_option linter.unusedVariables false

section
variable {T : TT} {G : Gh}

def afield (T : TT) (s : TypeId) (x : AV) (k : Nat) : Option AV :=
  (T.fld s k).bind fun p => match x with
    | .ptr b o => some (.ptr b (o + p.1))
    | .cp cs => some (.cp (cs.drop p.1))
    | _ => none
theorem afield_sound {s : TypeId} {x r : AV} {k : Nat} (h : afield T s x k = some r) {a : Value} (hx : Rel T G x a) :
    ∃ v, Rel T G r v ∧ ∀ w, (Instr.fieldAt s a k).run T.P w = .ok v w := by
  unfold afield at h
  simp only [Option.bind_eq_some_iff] at h
  obtain ⟨⟨off, ft⟩, h1, h2⟩ := h
  obtain ⟨hk, hs, fs, fl, hu, hf, ho, ht⟩ := T.fld_ok _ _ _ _ h1
  have hrun : ∀ (c o : Nat) w, (Instr.fieldAt s (.pointer (some ⟨c, o, none⟩)) k).run T.P w = .ok (.pointer (some ⟨c, o + off, none⟩)) w := by
    intro c o w
    simp [Instr.fieldAt, run_underlying hu, hf, Instr.sureAddr, fieldPlace, ht, run_sizeOf ft hk, hs, ho, add_plain]
  split at h2
  · rename_i b o
    obtain rfl := Option.some.inj h2
    obtain ⟨c, hc, rfl⟩ := hx
    exact ⟨_, ⟨c, hc, rfl⟩, hrun c o⟩
  · rename_i cs
    obtain rfl := Option.some.inj h2
    obtain ⟨c, o, rfl, him⟩ := hx
    refine ⟨_, ⟨c, o + off, rfl, fun j y hj => ?_⟩, hrun c o⟩
    rw [List.getElem?_drop] at hj
    rw [Nat.add_assoc]
    exact him _ _ hj
  · cases h2

/-- A part of a struct's or an array's cells. -/
def apart (T : TT) (t : TypeId) (cs : List AV) (off : Nat) : Option AV :=
  match T.ag t with
  | some true => if off + T.sz t ≤ cs.length then some (.agg ((cs.drop off).take (T.sz t))) else none
  | some false => cs[off]?
  | none => none
theorem apart_sound {t : TypeId} {cs : List AV} {off : Nat} {r : AV} (h : apart T t cs off = some r) {vs : List Value} (hc : RelL T G cs vs) :
    ∃ v, Rel T G r v ∧ ∀ w, (part t vs.toArray off).run T.P w = .ok v w := by
  unfold apart at h
  split at h
  · rename_i hag
    split at h
    · rename_i hl
      obtain rfl := Option.some.inj h
      refine ⟨.agg (vs.toArray.extract off (off + T.sz t)), ⟨((vs.drop off).take (T.sz t)), ?_, (hc.drop off).take _⟩, fun w => ?_⟩
      · simp [List.extract_eq_take_drop]
      · simp [part, run_isAgg t _ hag, run_sizeOf t (T.ag_ok t _ hag).1]
    · cases h
  · rename_i hag
    obtain ⟨v, h1, h2⟩ := hc.get _ _ h
    exact ⟨v, h2, fun w => by simp [part, run_isAgg t _ hag, h1]⟩
  · cases h

def afieldV (T : TT) (s : TypeId) (x : AV) (k : Nat) : Option AV :=
  (T.fld s k).bind fun p => match x with
    | .agg cs => apart T p.2 cs p.1
    | _ => none
theorem afieldV_sound {s : TypeId} {x r : AV} {k : Nat} (h : afieldV T s x k = some r) {a : Value} (hx : Rel T G x a) :
    ∃ v, Rel T G r v ∧ ∀ w, (Instr.field s a k).run T.P w = .ok v w := by
  unfold afieldV at h
  simp only [Option.bind_eq_some_iff] at h
  obtain ⟨⟨off, ft⟩, h1, h2⟩ := h
  obtain ⟨hk, hs, fs, fl, hu, hf, ho, ht⟩ := T.fld_ok _ _ _ _ h1
  split at h2
  · obtain ⟨vs, rfl, hr⟩ := hx
    obtain ⟨v, e1, e2⟩ := apart_sound h2 hr
    exact ⟨v, e1, fun w => by simp [Instr.field, run_underlying hu, hf, ho, ht, asAgg, e2 w]⟩
  · cases h2

def aidxA (T : TT) (t : TypeId) (x ix : AV) : Option AV :=
  match ix with
  | .i _ n => match T.kd t, x with
    | some (.slice E), .l _ E' es => if E' = E ∧ T.kn E = true ∧ 0 ≤ n then (es[n.toNat]?).map .cp else none
    | some (.slice E), .arr b m E' => if E' = E ∧ T.kn E = true ∧ 0 ≤ n ∧ n.toNat < m then some (.ptr b (n.toNat * T.sz E)) else none
    | some (.array len E), .ptr b o => if T.kn E = true ∧ 0 ≤ n ∧ n.toNat < len then some (.ptr b (o + n.toNat * T.sz E)) else none
    | some (.array len E), .cp cs => if T.kn E = true ∧ 0 ≤ n ∧ n.toNat < len then some (.cp (cs.drop (n.toNat * T.sz E))) else none
    | _, _ => none
  | _ => none
theorem aidxA_sound {t : TypeId} {x ix r : AV} (h : aidxA T t x ix = some r) {a b : Value} (hx : Rel T G x a) (hy : Rel T G ix b) :
    ∃ v, Rel T G r v ∧ ∀ w, (Instr.indexAt t a b).run T.P w = .ok v w := by
  unfold aidxA at h
  split at h
  · rename_i k n
    cases hy
    split at h
    · rename_i E tt E' es hk
      split at h
      · rename_i hc
        obtain ⟨rfl, hkn, h0⟩ := hc
        simp only [Option.map_eq_some_iff] at h
        obtain ⟨e, he, rfl⟩ := h
        obtain ⟨A, cap, rfl, hl, hm, hsz, hne, htk⟩ := hx
        have hlt := (List.getElem?_eq_some_iff.1 he).1
        obtain ⟨c, o, rfl, him⟩ := hne (by intro q; rw [q] at hlt; simp at hlt)
        refine ⟨.pointer (some ⟨c, o + n.toNat * T.sz E', none⟩), ⟨c, _, rfl, fun j y hj => ?_⟩, fun w => ?_⟩
        · rw [Nat.add_assoc]; exact him _ _ _ _ he hj
        · have : n < (es.length : Int) := by omega
          simp [Instr.indexAt, asIntOf, run_underlying (T.kd_ok _ _ hk), h0, this, run_sizeOf E' hkn, add_plain]
      · cases h
    · rename_i E b m E' hk
      split at h
      · rename_i hc
        obtain ⟨rfl, hkn, h0, hlt⟩ := hc
        obtain rfl := Option.some.inj h
        obtain ⟨c, hc, cap, rfl, hm⟩ := hx
        refine ⟨.pointer (some ⟨c, n.toNat * T.sz E', none⟩), ⟨c, hc, rfl⟩, fun w => ?_⟩
        have : n < (m : Int) := by omega
        simp [Instr.indexAt, asIntOf, run_underlying (T.kd_ok _ _ hk), h0, this, run_sizeOf E' hkn, add_plain]
      · cases h
    · rename_i len E b o hk
      split at h
      · rename_i hc
        obtain ⟨hkn, h0, hlt⟩ := hc
        obtain rfl := Option.some.inj h
        obtain ⟨c, hc, rfl⟩ := hx
        refine ⟨.pointer (some ⟨c, o + n.toNat * T.sz E, none⟩), ⟨c, hc, rfl⟩, fun w => ?_⟩
        have : n < (len : Int) := by omega
        simp [Instr.indexAt, asIntOf, run_underlying (T.kd_ok _ _ hk), h0, this, run_sizeOf E hkn, add_plain, Instr.sureAddr]
      · cases h
    · rename_i len E cs hk
      split at h
      · rename_i hc
        obtain ⟨hkn, h0, hlt⟩ := hc
        obtain rfl := Option.some.inj h
        obtain ⟨c, o, rfl, him⟩ := hx
        refine ⟨.pointer (some ⟨c, o + n.toNat * T.sz E, none⟩), ⟨c, _, rfl, fun j y hj => ?_⟩, fun w => ?_⟩
        · rw [List.getElem?_drop] at hj; rw [Nat.add_assoc]; exact him _ _ hj
        · have : n < (len : Int) := by omega
          simp [Instr.indexAt, asIntOf, run_underlying (T.kd_ok _ _ hk), h0, this, run_sizeOf E hkn, add_plain, Instr.sureAddr]
      · cases h
    · cases h
  · cases h

def aidx (T : TT) (t : TypeId) (x ix : AV) : Option AV :=
  match ix with
  | .i _ n => match T.kd t, x with
    | some .string, .s s => if 0 ≤ n then (s[n.toNat]?).map fun c => .i .u8 c.toNat else none
    | some (.array len E), .agg cs => if 0 ≤ n ∧ n.toNat < len ∧ T.kn E = true then apart T E cs (n.toNat * T.sz E) else none
    | _, _ => none
  | _ => none
theorem aidx_sound {t : TypeId} {x ix r : AV} (h : aidx T t x ix = some r) {a b : Value} (hx : Rel T G x a) (hy : Rel T G ix b) :
    ∃ v, Rel T G r v ∧ ∀ w, (Instr.index t a b).run T.P w = .ok v w := by
  unfold aidx at h
  split at h
  · rename_i k n
    cases hy
    split at h
    · rename_i s hk
      split at h
      · rename_i h0
        simp only [Option.map_eq_some_iff] at h
        obtain ⟨c, hc, rfl⟩ := h
        cases hx
        exact ⟨_, rfl, fun w => by simp [Instr.index, asIntOf, run_underlying (T.kd_ok _ _ hk), h0, hc]⟩
      · cases h
    · rename_i len E cs hk
      split at h
      · rename_i hc
        obtain ⟨h0, hlt, hkn⟩ := hc
        obtain ⟨vs, rfl, hr⟩ := hx
        obtain ⟨v, e1, e2⟩ := apart_sound h hr
        have : n < (len : Int) := by omega
        exact ⟨v, e1, fun w => by simp [Instr.index, asIntOf, run_underlying (T.kd_ok _ _ hk), h0, this, run_sizeOf E hkn, e2 w]⟩
      · cases h
    · cases h
  · cases h

/-- The bounds of a slice: within what is there. -/
def abd (len : Nat) (lo hi : Option AV) : Option (Nat × Nat) :=
  (match hi with
    | none => some len
    | some (.i _ n) => if 0 ≤ n ∧ n.toNat ≤ len then some n.toNat else none
    | some _ => none).bind fun h => (match lo with
    | none => some 0
    | some (.i _ n) => if 0 ≤ n ∧ n.toNat ≤ h then some n.toNat else none
    | some _ => none).map fun l => (l, h)
def aslice (T : TT) (t : TypeId) (x : AV) (lo hi : Option AV) : Option AV :=
  match T.kd t, x with
  | some .string, .s s => (abd s.size lo hi).map fun p => .s (s.extract p.1 p.2)
  | some (.slice E), .l _ E' es => if E' = E ∧ T.kn E = true then (abd es.length lo hi).map fun p => .l none E ((es.take p.2).drop p.1) else none
  | some (.slice E), .nil => if T.kn E = true then (abd 0 lo hi).map fun p => .nil else none
  | _, _ => none

/-- optional operands -/
def RelO (T : TT) (G : Gh) : Option AV → Option Value → Prop
  | none, none => True
  | some x, some v => Rel T G x v
  | _, _ => False

theorem abd_sound {len cap : Nat} (hl : len ≤ cap) {lo hi : Option AV} {l h : Nat} (e : abd len lo hi = some (l, h)) {vl vh : Option Value} (hlo : RelO T G lo vl) (hhi : RelO T G hi vh) (isSlice : Bool) :
    l ≤ h ∧ h ≤ len ∧ ∀ w, (Instr.sliceBounds isSlice len cap vl vh none).run T.P w = .ok (l, h, cap) w := by
  unfold abd at e
  simp only [Option.bind_eq_some_iff, Option.map_eq_some_iff] at e
  obtain ⟨h', e1, l', e2, e3⟩ := e
  obtain ⟨rfl, rfl⟩ := Prod.mk.inj e3
  have hh : h' ≤ len ∧ ∀ w, ((match vh, (none : Option Value) with
    | some v, some _ => Instr.sliceBound v cap .slice3B
    | some v, none => Instr.sliceBound v cap (if isSlice then .sliceAcap else .sliceAlen)
    | none, none => pure len
    | none, some _ => stuck "Slice: max without high") : Sem Nat).run T.P w = .ok h' w := by
    split at e1
    · obtain rfl := Option.some.inj e1
      cases vh with
      | none => exact ⟨Nat.le_refl _, fun w => rfl⟩
      | some v => exact hhi.elim
    · rename_i k n
      split at e1
      · rename_i hn
        obtain rfl := Option.some.inj e1
        cases vh with
        | none => exact hhi.elim
        | some v =>
          cases hhi
          refine ⟨hn.2, fun w => ?_⟩
          have : n ≤ (cap : Int) := by omega
          simp [Instr.sliceBound, asIntOf, hn.1, this]
      · cases e1
    · cases e1
  have hll : l' ≤ h' ∧ ∀ w, ((match vl with
    | some v => Instr.sliceBound v h' (if (none : Option Value).isSome then .slice3C else .sliceB)
    | none => pure 0) : Sem Nat).run T.P w = .ok l' w := by
    split at e2
    · obtain rfl := Option.some.inj e2
      cases vl with
      | none => exact ⟨Nat.zero_le _, fun w => rfl⟩
      | some v => exact hlo.elim
    · rename_i k n
      split at e2
      · rename_i hn
        obtain rfl := Option.some.inj e2
        cases vl with
        | none => exact hlo.elim
        | some v =>
          cases hlo
          refine ⟨hn.2, fun w => ?_⟩
          have : n ≤ (h' : Int) := by omega
          simp [Instr.sliceBound, asIntOf, hn.1, this]
      · cases e2
    · cases e2
  refine ⟨hll.1, hh.1, fun w => ?_⟩
  have a1 := hh.2 w
  have a2 := hll.2 w
  simp only [Instr.sliceBounds, Sem.run_bind, Sem.run_pure, Result.andThen_ok]
  cases vh <;> cases vl <;> simp_all

theorem aslice_sound {t : TypeId} {x r : AV} {lo hi : Option AV} (h : aslice T t x lo hi = some r) {a : Value} (hx : Rel T G x a) {vl vh : Option Value} (hlo : RelO T G lo vl) (hhi : RelO T G hi vh) :
    ∃ v, Rel T G r v ∧ ∀ w, (Instr.sliceAt t a vl vh none).run T.P w = .ok v w := by
  unfold aslice at h
  split at h
  · rename_i s hk
    simp only [Option.map_eq_some_iff] at h
    obtain ⟨⟨l, h'⟩, hb, rfl⟩ := h
    cases hx
    obtain ⟨_, _, hr⟩ := abd_sound (Nat.le_refl _) hb hlo hhi false
    exact ⟨_, rfl, fun w => by simp [Instr.sliceAt, run_underlying (T.kd_ok _ _ hk), Instr.slice, hr w]⟩
  · rename_i E tt E' es hk
    split at h
    · rename_i hc
      obtain ⟨rfl, hkn⟩ := hc
      simp only [Option.map_eq_some_iff] at h
      obtain ⟨⟨l, h'⟩, hb, rfl⟩ := h
      obtain ⟨A, cap, rfl, hl, hm, hsz, hne, htk⟩ := hx
      obtain ⟨hlh, hhl, hr⟩ := abd_sound hl hb hlo hhi true
      have hlen : ((es.take h').drop l).length = h' - l := by simp; omega
      refine ⟨.slice (if cap = l then A else A.map (·.add (l * T.sz E'))) (h' - l) (cap - l), ⟨_, cap - l, by rw [hlen], by rw [hlen]; omega, by omega, fun e he => hsz e (List.mem_of_mem_take (List.mem_of_mem_drop he)), fun hne' => ?_, fun tt' ht => by cases ht⟩, fun w => ?_⟩
      · have hlt : l < h' := by
          rcases Nat.lt_or_ge l h' with q | q
          · exact q
          · exact absurd (List.eq_nil_of_length_eq_zero (by rw [hlen]; omega)) hne'
        obtain ⟨c, o, rfl, him⟩ := hne (by intro q; subst q; simp at hhl; omega)
        refine ⟨c, o + l * T.sz E', by rw [if_neg (by omega)]; simp [add_plain], fun i j x y hi hj => ?_⟩
        rw [List.getElem?_drop, List.getElem?_take] at hi
        split at hi
        · have := him _ _ _ _ hi hj
          rwa [show o + ((l + i) * T.sz E' + j) = o + l * T.sz E' + (i * T.sz E' + j) by rw [Nat.add_mul]; omega] at this
        · cases hi
      · simp [Instr.sliceAt, run_underlying (T.kd_ok _ _ hk), Instr.slice, hr w, run_sizeOf E' hkn]
    · cases h
  · rename_i E hk
    split at h
    · rename_i hkn
      simp only [Option.map_eq_some_iff] at h
      obtain ⟨⟨l, h'⟩, hb, rfl⟩ := h
      cases hx
      obtain ⟨hlh, hhl, hr⟩ := abd_sound (cap := 0) (Nat.le_refl _) hb hlo hhi true
      obtain rfl : h' = 0 := by omega
      obtain rfl : l = 0 := by omega
      exact ⟨_, rfl, fun w => by simp [Instr.sliceAt, run_underlying (T.kd_ok _ _ hk), Instr.slice, hr w, run_sizeOf E hkn]⟩
    · cases h
  · cases h
end
end Go.Proofs.Ytlclgpiabjlpbaa.Am
