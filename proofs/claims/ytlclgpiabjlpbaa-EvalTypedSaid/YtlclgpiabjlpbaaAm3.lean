/- A logic over the walk's rules, third part: the operations that turn nothing: what each yields. -/
import Derived.Test.YtlclgpiabjlpbaaAm2
namespace Go.Proofs.Ytlclgpiabjlpbaa.Am
open Go.RowKit
set_option linter.unusedVariables false

theorem add_plain (c o j : Nat) : (⟨c, o, none⟩ : Addr).add j = ⟨c, o + j, none⟩ := by
  unfold Addr.add; split <;> simp_all

section
variable {T : TT} {G : Gh}

/-- The cells from an address on. -/
def CellsAt (T : TT) (G : Gh) (w : World) (c o : Nat) (l : List AV) : Prop :=
  ∀ (j : Nat) (y : AV), l[j]? = some y → y.flat = true ∧ ∃ v, w.cell? ⟨c, o + j, none⟩ = some v ∧ Rel T G y v

theorem below_cell {w w' : World} (hb : Below w.heap.size w w') {c o : Nat} {v : Value} (h : w.cell? ⟨c, o, none⟩ = some v) : w'.cell? ⟨c, o, none⟩ = some v :=
  (hb.cell (World.block_lt_of_cell? w _ h)).trans h

theorem CellsAt.drop {w : World} {c o : Nat} {l : List AV} (h : CellsAt T G w c o l) (n : Nat) : CellsAt T G w c (o + n) (l.drop n) := by
  intro j y hj
  rw [List.getElem?_drop] at hj
  have := h (n + j) y hj
  rwa [← Nat.add_assoc] at this

theorem CellsAt.of_box {B : Nat} {H : AH} {w : World} (hi : Inv T B G H w) {b c : Nat} {l : List AV} (hb : H.bs[b]? = some (.cells l)) (hc : G.bx b = some c) : CellsAt T G w c 0 l := by
  obtain ⟨c', hc', vs, E, hh, hr, hfl⟩ := hi.bs b _ hb
  rw [hc] at hc'; obtain rfl := Option.some.inj hc'
  intro j y hj
  obtain ⟨v, hv, hrel⟩ := hr.get j y hj
  exact ⟨hfl y (List.mem_of_getElem? hj), v, by rw [Nat.zero_add, cell_of_row w c j vs.toArray E (0, 0) hh]; simpa using hv, hrel⟩

theorem CellsAt.of_im {B : Nat} {H : AH} {w : World} (hi : Inv T B G H w) {c o : Nat} {l : List AV} (h : ∀ j y, l[j]? = some y → G.im c (o + j) y) : CellsAt T G w c o l := by
  intro j y hj
  obtain ⟨⟨v, h1, h2⟩, h3, _⟩ := hi.im _ _ _ (h j y hj)
  exact ⟨h3, v, h1, h2⟩

/-- A variable of a type, out of the cells from its address on. -/
def aload1 (T : TT) (t : TypeId) (l : List AV) : Option AV :=
  match T.ag t with
  | some true => if T.sz t ≤ l.length then some (.agg (l.take (T.sz t))) else none
  | some false => l[0]?
  | none => none
def aload (T : TT) (t : TypeId) (x : AV) (H : AH) : Option AV :=
  match x with
  | .ptr b o => match H.bs[b]? with
    | some (.cells l) => aload1 T t (l.drop o)
    | _ => none
  | .cp cs => aload1 T t cs
  | _ => none

theorem run_isAgg (t : TypeId) (x : Bool) (h : T.ag t = some x) (w : World) : (isAgg t).run T.P w = .ok x w := by
  obtain ⟨_, d, h1, h2, _⟩ := T.ag_ok t x h
  simp only [isAgg, Sem.run_bind, run_underlying h1, Result.andThen_ok]
  cases d <;> simp_all
theorem run_sizeOf (t : TypeId) (h : T.kn t = true) (w : World) : (sizeOf t).run T.P w = .ok (T.sz t) w := by
  obtain ⟨i, h1, h2, _⟩ := T.kn_ok t h
  simp [sizeOf, typeInfo, h1, h2]

theorem aload1_sound {w : World} {c o : Nat} {l : List AV} (hc : CellsAt T G w c o l) {t : TypeId} {r : AV} (h : aload1 T t l = some r) :
    ∃ v, Rel T G r v ∧ ∀ w', Below w.heap.size w w' → (loadVar t ⟨c, o, none⟩).run T.P w' = .ok v w' := by
  unfold aload1 at h
  split at h
  · rename_i hag
    split at h
    · rename_i hsz
      obtain rfl := Option.some.inj h
      have hch : ∀ j : Nat, ∃ v : Value, ∀ y, (l.take (T.sz t))[j]? = some y → w.cell? ⟨c, o + j, none⟩ = some v ∧ Rel T G y v := by
        intro j
        cases hj : (l.take (T.sz t))[j]? with
        | none => exact ⟨undef, fun y hy => by cases hy⟩
        | some y =>
          rw [List.getElem?_take] at hj
          split at hj
          · obtain ⟨_, v, h1, h2⟩ := hc j y hj
            exact ⟨v, fun y' hy => by obtain rfl := Option.some.inj hy; exact ⟨h1, h2⟩⟩
          · cases hj
      obtain ⟨f, hf⟩ := Classical.axiomOfChoice hch
      have hlen : (l.take (T.sz t)).length = T.sz t := by simp; omega
      refine ⟨.agg ((List.range (T.sz t)).map f).toArray, ⟨(List.range (T.sz t)).map f, rfl, RelL.of (by simp; omega) fun i x v hx hv => ?_⟩, fun w' hb => ?_⟩
      · simp only [List.getElem?_map, Option.map_eq_some_iff] at hv
        obtain ⟨k, hk, rfl⟩ := hv
        have : k = i := by
          rw [List.getElem?_range] at hk
          · exact (Option.some.inj hk).symm
          · have := (List.getElem?_eq_some_iff.1 hx).1; omega
        subst this
        exact (hf _ x hx).2
      · simp only [loadVar, Sem.run_bind, run_isAgg t _ hag, Result.andThen_ok, if_true, run_sizeOf t (T.ag_ok t _ hag).1]
        have := run_loadCells_list (P := T.P) (w := w') ⟨c, o, none⟩ ((List.range (T.sz t)).map f) (fun j v hj => by
          simp only [List.getElem?_map, Option.map_eq_some_iff] at hj
          obtain ⟨k, hk, rfl⟩ := hj
          have hjl : j < T.sz t := by have := (List.getElem?_eq_some_iff.1 hk).1; simpa using this
          rw [List.getElem?_range hjl] at hk
          obtain rfl := Option.some.inj hk
          rw [add_plain]
          exact below_cell hb (hf j _ (List.getElem?_eq_getElem (by omega))).1)
        simp only [List.length_map, List.length_range] at this
        rw [this]; rfl
    · cases h
  · rename_i hag
    obtain ⟨_, v, h1, h2⟩ := hc 0 r h
    refine ⟨v, h2, fun w' hb => ?_⟩
    have := below_cell hb h1
    simp only [loadVar, Sem.run_bind, run_isAgg t _ hag, Result.andThen_ok, Bool.false_eq_true, if_false]
    rw [run_load]
    simp only [Nat.add_zero] at this
    rw [this]
  · cases h

theorem aload_sound {B : Nat} {H : AH} {w : World} (hi : Inv T B G H w) {t : TypeId} {x r : AV} {y : Value} (hx : Rel T G x y) (h : aload T t x H = some r) :
    ∃ v, Rel T G r v ∧ ∀ w', Below w.heap.size w w' → (Instr.loadAt t y).run T.P w' = .ok v w' := by
  unfold aload at h
  split at h
  · rename_i b o
    obtain ⟨c, hc, rfl⟩ := hx
    split at h
    · rename_i l hl
      have := (CellsAt.of_box hi hl hc).drop o
      rw [Nat.zero_add] at this
      obtain ⟨v, h1, h2⟩ := aload1_sound this h
      exact ⟨v, h1, fun w' hb => by simp [Instr.loadAt, Instr.sureAddr, h2 w' hb]⟩
    · cases h
  · obtain ⟨c, o, rfl, him⟩ := hx
    obtain ⟨v, h1, h2⟩ := aload1_sound (CellsAt.of_im hi him) h
    exact ⟨v, h1, fun w' hb => by simp [Instr.loadAt, Instr.sureAddr, h2 w' hb]⟩
  · cases h

/-! ### What is reckoned -/
def abinI (op : BinOp) (k : IntKind) (x y : Int) : Option AV :=
  match op with
  | .add => some (.i k (k.wrap (x + y)))
  | .sub => some (.i k (k.wrap (x - y)))
  | .mul => some (.i k (k.wrap (x * y)))
  | .quo => if y = 0 then none else some (.i k (k.wrap (x.tdiv y)))
  | .rem => if y = 0 then none else some (.i k (x.tmod y))
  | .eql => some (.b (decide (x = y)))
  | .neq => some (.b (!decide (x = y)))
  | .lss => some (.b (decide (x < y)))
  | .leq => some (.b (decide (x ≤ y)))
  | .gtr => some (.b (decide (y < x)))
  | .geq => some (.b (decide (y ≤ x)))
  | _ => none
def abinS (op : BinOp) (x y : ByteArray) : Option AV :=
  match op with
  | .add => if x.size + y.size ≤ 9223372036854775807 then some (.s (x ++ y)) else none
  | .eql => some (.b (decide (x = y)))
  | .neq => some (.b (!decide (x = y)))
  | .lss => some (.b (Op.bytesLess x.toList y.toList))
  | .leq => some (.b (Op.bytesLess x.toList y.toList || decide (x = y)))
  | .gtr => some (.b (!(Op.bytesLess x.toList y.toList || decide (x = y))))
  | .geq => some (.b (!Op.bytesLess x.toList y.toList))
  | _ => none
def abinF (op : BinOp) (x y : Nat) : Option AV :=
  match op with
  | .eql => some (.b (Ieee.double.order x y == some .eq))
  | .neq => some (.b (Ieee.double.order x y != some .eq))
  | .lss => some (.b (Ieee.double.order x y == some .lt))
  | .leq => some (.b (Ieee.double.order x y == some .lt || Ieee.double.order x y == some .eq))
  | .gtr => some (.b (Ieee.double.order x y == some .gt))
  | .geq => some (.b (Ieee.double.order x y == some .gt || Ieee.double.order x y == some .eq))
  | .add => (Ieee.double.add x y).map .f
  | .sub => (Ieee.double.sub x y).map .f
  | .mul => (Ieee.double.mul x y).map .f
  | .quo => (Ieee.double.div x y).map .f
  | _ => none
def isNilPair : AV → AV → Option Bool
  | .np, .np => some true
  | .np, .ptr _ _ => some false
  | .ptr _ _, .np => some false
  | _, _ => none
def isNilMap : AV → AV → Option Bool
  | .nm, .nm => some true
  | .nm, .m _ => some false
  | .m _, .nm => some false
  | _, _ => none
/-- '==' by the operands' type: none: not told here. -/
def aeq (T : TT) (t : TypeId) (x y : AV) : Option Bool :=
  match x, y with
  | .agg xs, .agg ys => (T.eqk t).bind fun ks => ceqL ks xs ys
  | .b x, .b y => match T.kd t with
    | some .bool => some (x == y)
    | _ => none
  | x, y => match T.kd t with
    | some (.pointer _) => isNilPair x y
    | some (.map _ _) => isNilMap x y
    | _ => none
def abin (T : TT) (op : BinOp) (t : TypeId) (x y : AV) : Option AV :=
  match x, y with
  | .i k a, .i k' b => if k = k' then abinI op k a b else none
  | .s a, .s b => abinS op a b
  | .f a, .f b => abinF op a b
  | x, y => match op with
    | .eql => (aeq T t x y).map .b
    | .neq => (aeq T t x y).map fun r => .b (!r)
    | _ => none

theorem toList_inj {x y : ByteArray} : x.toList = y.toList ↔ x = y := by
  rw [ByteArray.toList_eq, ByteArray.toList_eq]
  constructor
  · intro h
    obtain ⟨⟨x⟩⟩ := x
    obtain ⟨⟨y⟩⟩ := y
    simpa using h
  · intro h; rw [h]
theorem toList_beq (x y : ByteArray) : (x.toList == y.toList) = decide (x = y) := by
  rw [Bool.eq_iff_iff]
  simp [toList_inj]

theorem run_abinI {op : BinOp} {k : IntKind} {x y : Int} {r : AV} (h : abinI op k x y = some r) (t : TypeId) : ∃ v, Rel T G r v ∧ ∀ w, (binOp op t (.int k x) (.int k y)).run T.P w = .ok v w := by
  unfold abinI at h
  split at h <;> (try split at h) <;> (try cases h) <;> refine ⟨_, rfl, fun w => ?_⟩ <;> simp_all [binOp, Op.intArith, Op.intDiv, Op.intCmp]
  · rw [Bool.eq_iff_iff]; simp
  · rw [Bool.eq_iff_iff]; simp
theorem run_abinS {op : BinOp} {x y : ByteArray} {r : AV} (h : abinS op x y = some r) (t : TypeId) : ∃ v, Rel T G r v ∧ ∀ w, (binOp op t (.string x) (.string y)).run T.P w = .ok v w := by
  unfold abinS at h
  split at h <;> (try split at h) <;> (try cases h) <;> refine ⟨_, rfl, fun w => ?_⟩ <;> simp_all [binOp, Op.stringOp, toList_beq]
  omega
theorem run_abinF {op : BinOp} {x y : Nat} {r : AV} (h : abinF op x y = some r) (t : TypeId) : ∃ v, Rel T G r v ∧ ∀ w, (binOp op t (.float .f64 x) (.float .f64 y)).run T.P w = .ok v w := by
  unfold abinF at h
  split at h <;> (try (obtain ⟨z, hz, rfl⟩ := Option.map_eq_some_iff.1 h)) <;> (try cases h) <;> refine ⟨_, rfl, fun w => ?_⟩ <;> simp [binOp, Op.floatCmp, Op.floatArith, FloatKind.format] <;> simp [*]

theorem run_equal_ptr {t e : TypeId} (h : T.P.underlying t = some (.pointer e)) {x y : AV} {r : Bool} (hr : isNilPair x y = some r) {a b : Value} (hx : Rel T G x a) (hy : Rel T G y b) (w : World) : (Op.equal t a b).run T.P w = .ok r w := by
  have key : ∀ d, (Op.equalIn (d + 1) t a b).run T.P w = .ok r w := by
    intro d
    unfold isNilPair at hr
    split at hr <;> (try cases hr)
    · cases hx; cases hy; simp [Op.equalIn, run_underlying h]
    · obtain ⟨c, _, rfl⟩ := hy; cases hx; simp [Op.equalIn, run_underlying h]
    · obtain ⟨c, _, rfl⟩ := hx; cases hy; simp [Op.equalIn, run_underlying h]
  exact key 9999
theorem run_equal_map {t k e : TypeId} (h : T.P.underlying t = some (.map k e)) {x y : AV} {r : Bool} (hr : isNilMap x y = some r) {a b : Value} (hx : Rel T G x a) (hy : Rel T G y b) (w : World) : (Op.equal t a b).run T.P w = .ok r w := by
  have key : ∀ d, (Op.equalIn (d + 1) t a b).run T.P w = .ok r w := by
    intro d
    unfold isNilMap at hr
    split at hr <;> (try cases hr)
    · cases hx; cases hy; simp [Op.equalIn, run_underlying h]
    · obtain ⟨c, _, rfl⟩ := hy; cases hx; simp [Op.equalIn, run_underlying h]
    · obtain ⟨c, _, rfl⟩ := hx; cases hy; simp [Op.equalIn, run_underlying h]
  exact key 9999

theorem aeq_sound {t : TypeId} {x y : AV} {r : Bool} (h : aeq T t x y = some r) {a b : Value} (hx : Rel T G x a) (hy : Rel T G y b) (w : World) :
    (Op.equal t a b).run T.P w = .ok r w ∧ (∀ op xo yo, (eqGuard op t xo yo a b).run T.P w = .ok () w) ∧ (∀ op, (op = .eql ∨ op = .neq) → binOp op t a b = if op = .eql then (do pure (.bool (← Op.equal t a b))) else (do pure (.bool (!(← Op.equal t a b))))) := by
  unfold aeq at h
  split at h
  · rename_i xs ys
    simp only [Option.bind_eq_some_iff] at h
    obtain ⟨ks, h1, h2⟩ := h
    have hp := ceqL_plain h2
    obtain ⟨vs, rfl, hr⟩ := hx
    obtain ⟨us, rfl, hs⟩ := hy
    rw [hr.eqV hp.1, hs.eqV hp.2]
    have := T.eq_ok t ks xs ys r w h1 h2
    refine ⟨this.1, fun op xo yo => ?_, fun op ho => by rcases ho with rfl | rfl <;> simp [binOp]⟩
    have hg := this.2
    unfold eqGuard
    cases op <;> simp [hg]
  · rename_i x y
    split at h
    · rename_i hk
      obtain rfl := Option.some.inj h
      cases hx; cases hy
      refine ⟨?_, fun op xo yo => by unfold eqGuard; cases op <;> simp, fun op ho => by rcases ho with rfl | rfl <;> simp [binOp]⟩
      exact run_equal_bool w t _ _ (T.kd_ok _ _ hk)
    · cases h
  · split at h
    · rename_i e hk
      refine ⟨run_equal_ptr (T.kd_ok _ _ hk) h hx hy w, ?_⟩
      unfold isNilPair at h
      split at h <;> (try cases h)
      · cases hx; cases hy; exact ⟨fun op xo yo => by unfold eqGuard; cases op <;> simp, fun op ho => by rcases ho with rfl | rfl <;> simp [binOp]⟩
      · obtain ⟨c, _, rfl⟩ := hy; cases hx; exact ⟨fun op xo yo => by unfold eqGuard; cases op <;> simp, fun op ho => by rcases ho with rfl | rfl <;> simp [binOp]⟩
      · obtain ⟨c, _, rfl⟩ := hx; cases hy; exact ⟨fun op xo yo => by unfold eqGuard; cases op <;> simp, fun op ho => by rcases ho with rfl | rfl <;> simp [binOp]⟩
    · rename_i k e hk
      refine ⟨run_equal_map (T.kd_ok _ _ hk) h hx hy w, ?_⟩
      unfold isNilMap at h
      split at h <;> (try cases h)
      · cases hx; cases hy; exact ⟨fun op xo yo => by unfold eqGuard; cases op <;> simp, fun op ho => by rcases ho with rfl | rfl <;> simp [binOp]⟩
      · obtain ⟨c, _, rfl⟩ := hy; cases hx; exact ⟨fun op xo yo => by unfold eqGuard; cases op <;> simp, fun op ho => by rcases ho with rfl | rfl <;> simp [binOp]⟩
      · obtain ⟨c, _, rfl⟩ := hx; cases hy; exact ⟨fun op xo yo => by unfold eqGuard; cases op <;> simp, fun op ho => by rcases ho with rfl | rfl <;> simp [binOp]⟩
    · cases h

theorem abin_sound {op : BinOp} {t : TypeId} {x y r : AV} (h : abin T op t x y = some r) {a b : Value} (hx : Rel T G x a) (hy : Rel T G y b) (xo yo : Operand) :
    ∃ v, Rel T G r v ∧ ∀ w, (do eqGuard op t xo yo a b; binOp op t a b : Sem Value).run T.P w = .ok v w := by
  unfold abin at h
  split at h
  · rename_i k m k' n
    split at h
    · rename_i e
      subst e
      cases hx; cases hy
      obtain ⟨v, h1, h2⟩ := run_abinI (G := G) h t
      refine ⟨v, h1, fun w => ?_⟩
      have : (eqGuard op t xo yo (.int k m) (.int k n)).run T.P w = .ok () w := by unfold eqGuard; cases op <;> simp
      rw [Sem.run_bind, this]; exact h2 w
    · cases h
  · rename_i m n
    cases hx; cases hy
    obtain ⟨v, h1, h2⟩ := run_abinS (G := G) h t
    refine ⟨v, h1, fun w => ?_⟩
    have : (eqGuard op t xo yo (.string m) (.string n)).run T.P w = .ok () w := by unfold eqGuard; cases op <;> simp
    rw [Sem.run_bind, this]; exact h2 w
  · rename_i m n
    cases hx; cases hy
    obtain ⟨v, h1, h2⟩ := run_abinF (G := G) h t
    refine ⟨v, h1, fun w => ?_⟩
    have : (eqGuard op t xo yo (.float .f64 m) (.float .f64 n)).run T.P w = .ok () w := by unfold eqGuard; cases op <;> simp
    rw [Sem.run_bind, this]; exact h2 w
  · split at h
    · simp only [Option.map_eq_some_iff] at h
      obtain ⟨q, h1, rfl⟩ := h
      refine ⟨.bool q, rfl, fun w => ?_⟩
      obtain ⟨e1, e2, e3⟩ := aeq_sound h1 hx hy w
      rw [Sem.run_bind, e2, e3 _ (.inl rfl)]
      simp [e1]
    · simp only [Option.map_eq_some_iff] at h
      obtain ⟨q, h1, rfl⟩ := h
      refine ⟨.bool (!q), rfl, fun w => ?_⟩
      obtain ⟨e1, e2, e3⟩ := aeq_sound h1 hx hy w
      rw [Sem.run_bind, e2, e3 _ (.inr rfl)]
      simp [e1]
    · cases h
end
end Go.Proofs.Ytlclgpiabjlpbaa.Am
