/- A logic over the walk's rules, twelfth part: a types' table out of a list that the kernel checks. -/
import Derived.Test.YtlclgpiabjlpbaaAm11
import Derived.Laws.StructEq
namespace Go.Proofs.Ytlclgpiabjlpbaa.Am
open Go.RowKit
set_option linter.unusedVariables false

inductive TD where
  | i (k : IntKind)
  | b | s | f | fn | ifc | st
  | sl (E : TypeId)
  | mp (K E : TypeId)
  | pt (E : TypeId)
  | ar (n : Nat) (E : TypeId)
  deriving DecidableEq

structure Ent where
  t : TypeId
  sz : Nat
  by_ : Nat
  d : TD
  flds : List (Nat × TypeId)
  zero : Option (List AV)
  eqk : Option (List CK)

def TD.desc : TD → Option TypeDesc
  | .i k => some (.int k)
  | .b => some .bool
  | .s => some .string
  | .f => some (.float .f64)
  | .sl E => some (.slice E)
  | .mp K E => some (.map K E)
  | .pt E => some (.pointer E)
  | .ar n E => some (.array n E)
  | _ => none
def chkD : TD → TypeDesc → List (Nat × TypeId) → Bool
  | .i k, .int k', _ => k == k'
  | .b, .bool, _ => true
  | .s, .string, _ => true
  | .f, .float .f64, _ => true
  | .sl E, .slice E', _ => E == E'
  | .mp K E, .map K' E', _ => K == K' && E == E'
  | .pt E, .pointer E', _ => E == E'
  | .ar n E, .array n' E', _ => n == n' && E == E'
  | .st, .struct fs, l => fs.toList.map (fun f => (f.offset, f.type)) == l
  | .fn, .func .., _ => true
  | .ifc, .interface _, _ => true
  | _, _, _ => false
def sameV : Value → AV → Bool
  | .bool x, .b y => x == y
  | .int k n, .i k' m => k == k' && n == m
  | .float .f64 x, .f y => x == y
  | .string x, .s y => x.data.toList == [] && y.data.toList == []
  | .pointer none, .np => true
  | .slice none 0 0, .nil => true
  | .map none, .nm => true
  | .nilFunc, .nf => true
  | .nilIface, .ni => true
  | _, _ => false
def sameL : List Value → List AV → Bool
  | [], [] => true
  | v :: vs, x :: xs => sameV v x && sameL vs xs
  | _, _ => false
theorem sameV_eq {v : Value} {x : AV} (h : sameV v x = true) : v = toV x ∧ x.plain = true := by
  unfold sameV at h
  split at h
  · exact ⟨by simp [toV, eq_of_beq h], rfl⟩
  · simp only [Bool.and_eq_true, beq_iff_eq] at h; exact ⟨by simp [toV, h.1, h.2], rfl⟩
  · exact ⟨by simp [toV, eq_of_beq h], rfl⟩
  · rename_i x y
    simp only [Bool.and_eq_true, beq_iff_eq] at h
    refine ⟨?_, rfl⟩
    obtain ⟨⟨x⟩⟩ := x
    obtain ⟨⟨y⟩⟩ := y
    simp only at h
    simp only [toV]
    rw [h.1, h.2]
  all_goals first | exact ⟨rfl, rfl⟩ | cases h
theorem sameL_eq : ∀ {vs : List Value} {xs : List AV}, sameL vs xs = true → vs = xs.map toV ∧ xs.all AV.plain = true
  | [], [], _ => ⟨rfl, rfl⟩
  | v :: vs, x :: xs, h => by
    simp only [sameL, Bool.and_eq_true] at h
    obtain ⟨h1, h2⟩ := sameV_eq h.1
    obtain ⟨h3, h4⟩ := sameL_eq h.2
    exact ⟨by rw [h1, h3]; rfl, by simp [h2, h4]⟩
  | [], _ :: _, h | _ :: _, [], h => by cases h

/-! ### '==' of structs -/
def eqCkF (g : TypeId → Option (List CK)) (P : Program) : Nat → List Field → Option (List CK)
  | _, [] => some []
  | off, f :: fs => if (f.name == "_") = true then none else if f.offset ≠ off then none else
    match g f.type, P.info? f.type with
    | some a, some i => if i.size = a.length then (eqCkF g P (off + a.length) fs).map (a ++ ·) else none
    | _, _ => none
def eqCk (P : Program) : Nat → TypeId → Option (List CK)
  | 0, _ => none
  | n + 1, t => match P.underlying t with
    | some (.int k) => some [.i k]
    | some .bool => some [.b]
    | some .string => some [.s]
    | some (.float .f64) => some [.f]
    | some (.struct fs) => if P.stoodInHeld t = true then none else eqCkF (eqCk P n) P 0 fs.toList
    | _ => none
def isSt (P : Program) (t : TypeId) : Bool := match P.underlying t with
  | some (.struct _) => true
  | _ => false
def valT (P : Program) (t : TypeId) (xs : List AV) (v : Value) : Prop := if isSt P t = true then v = .agg (xs.map toV).toArray else ∃ a, xs = [a] ∧ v = toV a

theorem ceqL_append : ∀ {a b : List CK} {xs ys : List AV} {r : Bool}, ceqL (a ++ b) xs ys = some r → ∃ x1 x2 y1 y2 r1 r2, xs = x1 ++ x2 ∧ ys = y1 ++ y2 ∧ x1.length = a.length ∧ y1.length = a.length ∧ ceqL a x1 y1 = some r1 ∧ ceqL b x2 y2 = some r2 ∧ r = (r1 && r2)
  | [], b, xs, ys, r, h => ⟨[], xs, [], ys, true, r, rfl, rfl, rfl, rfl, rfl, h, by simp⟩
  | k :: a, b, [], ys, r, h => by cases ys <;> simp [ceqL] at h
  | k :: a, b, x :: xs, [], r, h => by simp [ceqL] at h
  | k :: a, b, x :: xs, y :: ys, r, h => by
    simp only [List.cons_append, ceqL, Option.bind_eq_some_iff, Option.map_eq_some_iff] at h
    obtain ⟨q, h1, c, h2, rfl⟩ := h
    obtain ⟨x1, x2, y1, y2, r1, r2, e1, e2, e3, e4, e5, e6, e7⟩ := ceqL_append h2
    exact ⟨x :: x1, x2, y :: y1, y2, (q && r1), r2, by rw [e1]; rfl, by rw [e2]; rfl, by simp [e3], by simp [e4], by simp [ceqL, h1, e5], e6, by rw [e7]; cases q <;> rfl⟩

def ckD : CK → TypeDesc
  | .i k => .int k
  | .b => .bool
  | .s => .string
  | .f => .float .f64
theorem ceq_sound {P : Program} {d : Nat} {t : TypeId} {k : CK} {x y : AV} {r : Bool} (h : ceq k x y = some r) (ht : P.underlying t = some (ckD k)) (w : World) : (Op.equalIn (d + 1) t (toV x) (toV y)).run P w = .ok r w := by
  unfold ceq at h
  split at h
  · simp only [Option.ite_none_right_eq_some] at h
    obtain ⟨⟨rfl, rfl⟩, h⟩ := h
    obtain rfl := Option.some.inj h
    exact run_equalIn_int w d t _ _ _ _ ht
  · obtain rfl := Option.some.inj h
    exact run_equalIn_bool' w d t _ _ ht
  · obtain rfl := Option.some.inj h
    simp only [Op.equalIn, Sem.run_bind, run_underlying ht, ckD, toV, Result.andThen_ok, if_true, Sem.run_pure, Op.floatEq]
    rfl
  · obtain rfl := Option.some.inj h
    rename_i x y
    rw [show toV (.s x) = .string x from rfl, show toV (.s y) = .string y from rfl, run_equalIn_string w d t x y ht, toList_beq]
  · cases h

theorem eqCk_sound {P : Program} : ∀ (n : Nat) (t : TypeId) (ks : List CK), eqCk P n t = some ks → ∀ (d : Nat) (xs ys : List AV) (r : Bool) (w : World) (x y : Value), n ≤ d → ceqL ks xs ys = some r → valT P t xs x → valT P t ys y → (Op.equalIn d t x y).run P w = .ok r w
  | 0, _, _, h => by cases h
  | n + 1, t, ks, h => by
    intro d xs ys r w x y hd hr hx hy
    obtain ⟨d, rfl⟩ : ∃ d', d = d' + 1 := ⟨d - 1, by omega⟩
    have one : ∀ k, ks = [k] → isSt P t = false → P.underlying t = some (ckD k) → (Op.equalIn (d + 1) t x y).run P w = .ok r w := by
      intro k hk hs hu
      subst hk
      simp only [valT, hs, Bool.false_eq_true, if_false] at hx hy
      obtain ⟨a, rfl, rfl⟩ := hx
      obtain ⟨b, rfl, rfl⟩ := hy
      simp only [ceqL, Option.bind_eq_some_iff, Option.map_some, Option.some.injEq] at hr
      obtain ⟨q, h1, h2⟩ := hr
      rw [Bool.and_true] at h2
      subst h2
      exact ceq_sound h1 hu w
    unfold eqCk at h
    split at h
    · rename_i k hu; cases h; exact one _ rfl (by simp [isSt, hu]) hu
    · rename_i hu; cases h; exact one _ rfl (by simp [isSt, hu]) hu
    · rename_i hu; cases h; exact one _ rfl (by simp [isSt, hu]) hu
    · rename_i hu; cases h; exact one _ rfl (by simp [isSt, hu]) hu
    · rename_i fs hu
      split at h
      · cases h
      · rename_i hp
        have hs : isSt P t = true := by simp [isSt, hu]
        simp only [valT, hs, if_true] at hx hy
        subst hx; subst hy
        have hfo : P.fieldsOf t = fs := by simp [Program.fieldsOf, hu]
        rw [run_equalIn_struct w d t _ _ (by rw [hfo, hu]) (by simpa using hp), hfo]
        have key : ∀ (fl : List Field) (off : Nat) (ks : List CK) (X Y : List AV) (xs ys : List AV) (r : Bool), eqCkF (eqCk P n) P off fl = some ks → ceqL ks xs ys = some r → X.drop off = xs → Y.drop off = ys → off ≤ X.length → off ≤ Y.length → (Op.eqFields d (X.map toV).toArray (Y.map toV).toArray fl).run P w = .ok r w := by
          intro fl
          induction fl with
          | nil =>
            intro off ks X Y xs ys r h hr hX hY _ _
            cases h
            cases xs <;> cases ys <;> simp [ceqL] at hr
            subst hr
            simp [Op.eqFields]
          | cons f fl ih =>
            intro off ks X Y xs ys r h hr hX hY hlX hlY
            unfold eqCkF at h
            split at h
            · cases h
            · rename_i hnm
              split at h
              · cases h
              · rename_i hof
                simp only [ne_eq, Decidable.not_not] at hof
                split at h
                · rename_i a i ha hi
                  split at h
                  · rename_i hsz
                    simp only [Option.map_eq_some_iff] at h
                    obtain ⟨b, hb, rfl⟩ := h
                    obtain ⟨x1, x2, y1, y2, r1, r2, e1, e2, e3, e4, e5, e6, rfl⟩ := ceqL_append hr
                    have hXl : X.length = off + xs.length := by rw [← hX]; simp; omega
                    have hYl : Y.length = off + ys.length := by rw [← hY]; simp; omega
                    have hpart : ∀ (Z zs z1 z2 : List AV), Z.drop off = zs → zs = z1 ++ z2 → z1.length = a.length → ∃ v, valT P f.type z1 v ∧ (part f.type (Z.map toV).toArray f.offset).run P w = .ok v w := by
                      intro Z zs z1 z2 hZ hz hl
                      have hsizeOf : (sizeOf f.type).run P w = .ok a.length w := by simp [sizeOf, typeInfo, hi, hsz]
                      have hnil : z1 = (Z.drop off).take a.length := by rw [hZ, hz, ← hl]; simp
                      by_cases hst : isSt P f.type = true
                      · have hag : (isAgg f.type).run P w = .ok true w := by
                          unfold isSt at hst
                          split at hst
                          · rename_i hu2; simp [isAgg, run_underlying hu2]
                          · cases hst
                        refine ⟨.agg ((Z.map toV).toArray.extract off (off + a.length)), ?_, ?_⟩
                        · simp only [valT, hst, if_true]
                          congr 1
                          rw [hnil]
                          simp [List.extract_eq_take_drop, List.map_take, List.map_drop]
                        · simp [part, hag, hsizeOf, hof]
                      · have hst : isSt P f.type = false := by simpa using hst
                        cases n with
                        | zero => cases ha
                        | succ n =>
                        have hag : (isAgg f.type).run P w = .ok false w ∧ a.length = 1 := by
                          unfold eqCk at ha
                          split at ha
                          · rename_i hu2; cases ha; simp [isAgg, run_underlying hu2]
                          · rename_i hu2; cases ha; simp [isAgg, run_underlying hu2]
                          · rename_i hu2; cases ha; simp [isAgg, run_underlying hu2]
                          · rename_i hu2; cases ha; simp [isAgg, run_underlying hu2]
                          · rename_i hu2; simp [isSt, hu2] at hst
                          · cases ha
                        rw [hag.2] at hl
                        match z1, hl with
                        | [c], _ =>
                          refine ⟨toV c, by simp only [valT, hst, Bool.false_eq_true, if_false]; exact ⟨c, rfl, rfl⟩, ?_⟩
                          have hc : Z[off]? = some c := by
                            have : (Z.drop off)[0]? = some c := by rw [hZ, hz]; rfl
                            rw [List.getElem?_drop] at this
                            simpa using this
                          simp [part, hag.1, hof, hc]
                    obtain ⟨u, hu1, hu2⟩ := hpart X xs x1 x2 hX e1 e3
                    obtain ⟨v, hv1, hv2⟩ := hpart Y ys y1 y2 hY e2 e4
                    have hnm' : f.name ≠ "_" := by simpa using hnm
                    simp only [Op.eqFields, hnm', ne_eq, not_false_eq_true, if_true, Sem.run_bind, hu2, hv2, Result.andThen_ok]
                    rw [eqCk_sound n f.type a ha d x1 y1 r1 w u v (by omega) e5 hu1 hv1]
                    simp only [Result.andThen_ok]
                    cases r1
                    · simp
                    · simp only [Bool.not_true, Bool.false_eq_true, if_false, Bool.true_and]
                      refine ih (off + a.length) b X Y x2 y2 r2 hb e6 ?_ ?_ ?_ ?_
                      · rw [← List.drop_drop, hX, e1, ← e3]; simp
                      · rw [← List.drop_drop, hY, e2, ← e4]; simp
                      · rw [hXl, e1]; simp; omega
                      · rw [hYl, e2]; simp; omega
                  · cases h
                · cases h
        exact key fs.toList 0 ks xs ys xs ys r h hr rfl rfl (Nat.zero_le _) (Nat.zero_le _)
    · cases h

/-! ### Keys of maps that are structs -/
theorem ckL_append : ∀ {a b : List CK} {xs : List AV}, ckL (a ++ b) xs = true → ∃ x1 x2, xs = x1 ++ x2 ∧ x1.length = a.length ∧ ckL a x1 = true ∧ ckL b x2 = true
  | [], b, xs, h => ⟨[], xs, rfl, rfl, rfl, h⟩
  | k :: a, b, [], h => by simp [ckL] at h
  | k :: a, b, x :: xs, h => by
    simp only [List.cons_append, ckL, Bool.and_eq_true] at h
    obtain ⟨x1, x2, e1, e2, e3, e4⟩ := ckL_append h.2
    exact ⟨x :: x1, x2, by rw [e1]; rfl, by simp [e2], by simp [ckL, h.1, e3], e4⟩
theorem ck1_ceq {k : CK} {x y : AV} (hk : nofl [k] = true) (hx : ck1 k x = true) (hy : ck1 k y = true) : ∃ r, ceq k x y = some r ∧ (r = true ↔ x = y) := by
  cases k <;> cases x <;> simp [ck1] at hx <;> cases y <;> simp [ck1] at hy <;> (try simp [nofl] at hk)
  · subst hx; subst hy; exact ⟨_, by simp only [ceq, and_self, if_true]; rfl, by simp⟩
  · exact ⟨_, rfl, by simp⟩
  · exact ⟨_, rfl, by simp⟩
theorem ckL_ceq : ∀ {ks : List CK} {xs ys : List AV}, nofl ks = true → ckL ks xs = true → ckL ks ys = true → ∃ r, ceqL ks xs ys = some r ∧ (r = true ↔ xs = ys)
  | [], [], [], _, _, _ => ⟨true, rfl, by simp⟩
  | k :: ks, x :: xs, y :: ys, hk, hx, hy => by
    simp only [ckL, Bool.and_eq_true] at hx hy
    have h1 : nofl [k] = true ∧ nofl ks = true := by cases k <;> simp_all [nofl]
    obtain ⟨q, e1, e2⟩ := ck1_ceq h1.1 hx.1 hy.1
    obtain ⟨r, e3, e4⟩ := ckL_ceq h1.2 hx.2 hy.2
    refine ⟨q && r, by simp [ceqL, e1, e3], ?_⟩
    simp [e2, e4]
  | [], _ :: _, _, _, hx, _ | [], [], _ :: _, _, _, hx | _ :: _, [], _, _, hx, _ | _ :: _, _ :: _, [], _, _, hx => by simp [ckL] at hx

theorem part_val {P : Program} {n : Nat} {f : Field} {a : List CK} {i : TypeInfo} (ha : eqCk P n f.type = some a) (hi : P.info? f.type = some i) (hsz : i.size = a.length) {off : Nat} (hof : f.offset = off) {Z zs z1 z2 : List AV}
    (hZ : Z.drop off = zs) (hz : zs = z1 ++ z2) (hl : z1.length = a.length) (w : World) : ∃ v, valT P f.type z1 v ∧ (part f.type (Z.map toV).toArray f.offset).run P w = .ok v w := by
  have hsizeOf : (sizeOf f.type).run P w = .ok a.length w := by simp [sizeOf, typeInfo, hi, hsz]
  have hnil : z1 = (Z.drop off).take a.length := by rw [hZ, hz, ← hl]; simp
  by_cases hst : isSt P f.type = true
  · have hag : (isAgg f.type).run P w = .ok true w := by
      unfold isSt at hst
      split at hst
      · rename_i hu2; simp [isAgg, run_underlying hu2]
      · cases hst
    refine ⟨.agg ((Z.map toV).toArray.extract off (off + a.length)), ?_, ?_⟩
    · simp only [valT, hst, if_true]
      congr 1
      rw [hnil]
      simp [List.extract_eq_take_drop, List.map_take, List.map_drop]
    · simp [part, hag, hsizeOf, hof]
  · have hst : isSt P f.type = false := by simpa using hst
    cases n with
    | zero => cases ha
    | succ n =>
    have hag : (isAgg f.type).run P w = .ok false w ∧ a.length = 1 := by
      unfold eqCk at ha
      split at ha
      · rename_i hu2; cases ha; simp [isAgg, run_underlying hu2]
      · rename_i hu2; cases ha; simp [isAgg, run_underlying hu2]
      · rename_i hu2; cases ha; simp [isAgg, run_underlying hu2]
      · rename_i hu2; cases ha; simp [isAgg, run_underlying hu2]
      · rename_i hu2; simp [isSt, hu2] at hst
      · cases ha
    rw [hag.2] at hl
    match z1, hl with
    | [c], _ =>
      refine ⟨toV c, by simp only [valT, hst, Bool.false_eq_true, if_false]; exact ⟨c, rfl, rfl⟩, ?_⟩
      have hc : Z[off]? = some c := by
        have : (Z.drop off)[0]? = some c := by rw [hZ, hz]; rfl
        rw [List.getElem?_drop] at this
        simpa using this
      simp [part, hag.1, hof, hc]

theorem ckCk_sound {P : Program} (em : Bool) : ∀ (n : Nat) (t : TypeId) (ks : List CK), eqCk P n t = some ks → ∀ (d : Nat) (xs : List AV) (w : World) (x : Value), n ≤ d → ckL ks xs = true → valT P t xs x → (Instr.checkKey em d t x).run P w = .ok () w
  | 0, _, _, h => by cases h
  | n + 1, t, ks, h => by
    intro d xs w x hd hr hx
    obtain ⟨d, rfl⟩ : ∃ d', d = d' + 1 := ⟨d - 1, by omega⟩
    unfold eqCk at h
    split at h
    · rename_i k hu; simp [Instr.checkKey, run_underlying hu]
    · rename_i hu; simp [Instr.checkKey, run_underlying hu]
    · rename_i hu; simp [Instr.checkKey, run_underlying hu]
    · rename_i hu; simp [Instr.checkKey, run_underlying hu]
    · rename_i fs hu
      split at h
      · cases h
      · rename_i hp
        have hs : isSt P t = true := by simp [isSt, hu]
        simp only [valT, hs, if_true] at hx
        subst hx
        rw [Instr.checkKey]
        simp only [Sem.run_bind, run_underlying hu, Result.andThen_ok]
        rw [← Array.forIn_toList]
        have key : ∀ (fl : List Field) (off : Nat) (ks : List CK) (X xs : List AV), eqCkF (eqCk P n) P off fl = some ks → ckL ks xs = true → X.drop off = xs → off ≤ X.length →
            (forIn fl PUnit.unit (fun (f : Field) (_ : PUnit) => (if f.name ≠ "_" then (do let v ← part f.type (X.map toV).toArray f.offset; Instr.checkKey em d f.type v; pure (ForInStep.yield PUnit.unit)) else pure (ForInStep.yield PUnit.unit) : Sem (ForInStep PUnit)))).run P w = .ok PUnit.unit w := by
          intro fl
          induction fl with
          | nil => intro off ks X xs h hr hX _; simp
          | cons f fl ih =>
            intro off ks X xs h hr hX hlX
            unfold eqCkF at h
            split at h
            · cases h
            · rename_i hnm
              split at h
              · cases h
              · rename_i hof
                simp only [ne_eq, Decidable.not_not] at hof
                split at h
                · rename_i a i ha hi
                  split at h
                  · rename_i hsz
                    simp only [Option.map_eq_some_iff] at h
                    obtain ⟨b, hb, rfl⟩ := h
                    obtain ⟨x1, x2, e1, e2, e3, e4⟩ := ckL_append hr
                    have hXl : X.length = off + xs.length := by rw [← hX]; simp; omega
                    obtain ⟨u, hu1, hu2⟩ := part_val ha hi hsz hof hX e1 e2 w
                    have hnm' : f.name ≠ "_" := by simpa using hnm
                    have hrec := ckCk_sound em n f.type a ha d x1 w u (by omega) e3 hu1
                    simp only [List.forIn_cons, Sem.run_bind, hnm', ne_eq, not_false_eq_true, if_true, hu2, Result.andThen_ok, hrec, Sem.run_pure]
                    refine ih (off + a.length) b X x2 hb e4 ?_ ?_
                    · rw [← List.drop_drop, hX, e1, ← e2]; simp
                    · rw [hXl, e1]; simp; omega
                  · cases h
                · cases h
        have := key fs.toList 0 ks xs xs h hr rfl (Nat.zero_le _)
        rw [this]; rfl
    · cases h

def findE (l : List Ent) (t : TypeId) : Option Ent := l.find? fun e => e.t == t
def isAgT : TD → Bool
  | .st | .ar _ _ => true
  | _ => false
def chkE (P : Program) (l : List Ent) (e : Ent) : Bool :=
  match P.info? e.t, P.underlying e.t with
  | some i, some d => i.size == e.sz && i.bytes == e.by_ && chkD e.d d e.flds && (isAgT e.d || e.sz == 1) &&
    (match e.zero with
      | none => true
      | some z => match i.zero with
        | some v => sameL v.cells.toList z && z.length == e.sz
        | none => false) &&
    (match e.eqk with
      | none => true
      | some ks => (match eqCk P 10 e.t with
        | some ks' => decide (ks' = ks)
        | none => false) && isSt P e.t && !P.eqGuardType P.depth e.t)
  | _, _ => false
def chkAll (P : Program) (l : List Ent) : Bool := l.all fun e => chkE P l e
/-- all fields' types are in the list, none is without cells -/
def fldOK (l : List Ent) (f : Nat × TypeId) : Bool := match findE l f.2 with
  | some e => e.sz != 0
  | none => false

def agT : TypeDesc → Bool
  | .struct _ | .array _ _ => true
  | _ => false
theorem agT_eq (td : TypeDesc) : (match td with | .struct _ | .array _ _ => true | _ => false) = agT td := by cases td <;> rfl
theorem chkD_desc {d : TD} {td : TypeDesc} {l : List (Nat × TypeId)} (h : chkD d td l = true) : (∀ x, d.desc = some x → td = x) ∧ (agT td = isAgT d) ∧ (d = .st → ∃ fs, td = .struct fs ∧ fs.toList.map (fun f => (f.offset, f.type)) = l) := by
  unfold chkD at h
  split at h
  all_goals try simp only [Bool.and_eq_true, beq_iff_eq] at h
  all_goals first
    | (refine ⟨fun x hx => ?_, rfl, fun q => by cases q⟩; simp [TD.desc] at hx; subst hx; simp_all; done)
    | (refine ⟨fun x hx => by simp [TD.desc] at hx, rfl, fun q => ?_⟩; exact ⟨_, rfl, h⟩)
    | (refine ⟨fun x hx => by simp [TD.desc] at hx, rfl, fun q => by cases q⟩)
    | cases h

theorem mapM_sizes {P : Program} (sz : TypeId → Nat) : ∀ (fs : List Field), (∀ f ∈ fs, ∀ w, (sizeOf f.type).run P w = .ok (sz f.type) w) → ∀ w, (fs.mapM (fun f => do pure (f.offset, ← sizeOf f.type)) : Sem (List (Nat × Nat))).run P w = .ok (fs.map fun f => (f.offset, sz f.type)) w
  | [], _, w => by simp
  | f :: fs, h, w => by
    rw [List.mapM_cons]
    simp only [Sem.run_bind, Sem.run_pure, Result.andThen_ok, h f (by simp), mapM_sizes sz fs (fun g hg => h g (by simp [hg])) w]
    rfl

/-- The table. -/
def mkTT (P : Program) (l : List Ent) (hmix : P.follows .mixedOrders = true) (hl : chkAll P l = true) : TT :=
  have hE : ∀ {t e}, findE l t = some e → e.t = t ∧ chkE P l e = true := fun {t e} h => ⟨by simpa using List.find?_some h, List.all_eq_true.1 hl e (List.mem_of_find?_eq_some h)⟩
  have hI : ∀ {t e}, findE l t = some e → ∃ i d, P.info? t = some i ∧ P.underlying t = some d ∧ i.size = e.sz ∧ i.bytes = e.by_ ∧ chkD e.d d e.flds = true ∧ (isAgT e.d = true ∨ e.sz = 1) ∧
      (∀ z, e.zero = some z → ∃ v, i.zero = some v ∧ sameL v.cells.toList z = true ∧ z.length = e.sz) ∧ (∀ ks, e.eqk = some ks → eqCk P 10 t = some ks ∧ isSt P t = true ∧ P.eqGuardType P.depth t = false) := fun {t e} h => by
    obtain ⟨h1, h2⟩ := hE h
    unfold chkE at h2
    rw [h1] at h2
    split at h2
    · rename_i i d hi hd
      simp only [Bool.and_eq_true, beq_iff_eq, Bool.or_eq_true] at h2
      obtain ⟨⟨⟨⟨⟨q1, q2⟩, q3⟩, q4⟩, q5⟩, q6⟩ := h2
      refine ⟨i, d, hi, hd, q1, q2, q3, q4, fun z hz => ?_, fun ks hk => ?_⟩
      · rw [hz] at q5
        simp only at q5
        split at q5
        · rename_i v hv
          simp only [Bool.and_eq_true, beq_iff_eq] at q5
          exact ⟨v, hv, q5.1, q5.2⟩
        · cases q5
      · rw [hk] at q6
        simp only [Bool.and_eq_true] at q6
        obtain ⟨⟨r1, r2⟩, r3⟩ := q6
        split at r1
        · rename_i ks' hks
          rw [← of_decide_eq_true r1]
          exact ⟨hks, r2, by simpa using r3⟩
        · cases r1
    · cases h2
  { P, mix := hmix
    sz := fun t => match findE l t with | some e => e.sz | none => 0
    by_ := fun t => match findE l t with | some e => e.by_ | none => 0
    kn := fun t => (findE l t).isSome
    ag := fun t => (findE l t).map fun e => isAgT e.d
    kd := fun t => (findE l t).bind fun e => e.d.desc
    fld := fun t k => (findE l t).bind fun e => match e.d with | .st => (e.flds[k]?).bind fun f => if fldOK l f then some f else none | _ => none
    zero := fun t => (findE l t).bind (·.zero)
    eqk := fun t => (findE l t).bind (·.eqk)
    st := fun t => match findE l t with | some e => decide (e.d = .st) && e.flds.all (fldOK l) | none => false
    kn_ok := fun t h => by
      cases he : findE l t with
      | none => rw [he] at h; cases h
      | some e => obtain ⟨i, d, h1, _, h3, h4, _⟩ := hI he; exact ⟨i, h1, h3, h4⟩
    ag_ok := fun t x h => by
      simp only [Option.map_eq_some_iff] at h
      obtain ⟨e, he, rfl⟩ := h
      obtain ⟨i, d, h1, h2, h3, h4, h5, h6, _⟩ := hI he
      refine ⟨by rw [he]; rfl, d, h2, (agT_eq d).trans (chkD_desc h5).2.1, fun q => ?_⟩
      rcases h6 with h6 | h6
      · rw [q] at h6; cases h6
      · rw [he]; exact h6
    kd_ok := fun t d h => by
      simp only [Option.bind_eq_some_iff] at h
      obtain ⟨e, he, hd⟩ := h
      obtain ⟨i, d', h1, h2, h3, h4, h5, _⟩ := hI he
      rw [h2, (chkD_desc h5).1 d hd]
    fld_ok := fun t k off ft h => by
      simp only [Option.bind_eq_some_iff] at h
      obtain ⟨e, he, h⟩ := h
      split at h
      · rename_i hst
        simp only [Option.bind_eq_some_iff] at h
        obtain ⟨f, hf, h⟩ := h
        split at h
        · rename_i hok
          obtain rfl := Option.some.inj h
          obtain ⟨i, d', h1, h2, h3, h4, h5, _⟩ := hI he
          obtain ⟨fs, rfl, hfs⟩ := (chkD_desc h5).2.2 hst
          unfold fldOK at hok
          split at hok
          · rename_i e2 he2
            simp only [bne_iff_ne, ne_eq] at hok
            refine ⟨by simp only at he2; rw [he2]; rfl, by simp only at he2; rw [he2]; exact hok, fs, ?_⟩
            rw [← hfs, List.getElem?_map, Option.map_eq_some_iff] at hf
            obtain ⟨fl, hfl, hq⟩ := hf
            obtain ⟨q1, q2⟩ := Prod.mk.inj hq
            exact ⟨fl, h2, by simpa using hfl, q1, q2⟩
          · cases hok
        · cases h
      · cases h
    st_ok := fun t h => by
      split at h
      · rename_i e he
        simp only [Bool.and_eq_true, decide_eq_true_eq] at h
        obtain ⟨hst, hall⟩ := h
        obtain ⟨i, d', h1, h2, h3, h4, h5, _⟩ := hI he
        obtain ⟨fs, rfl, hfs⟩ := (chkD_desc h5).2.2 hst
        have hsz : ∀ f ∈ fs.toList, ∀ w, (sizeOf f.type).run P w = .ok ((fun t => match findE l t with | some e => e.sz | none => 0) f.type) w := by
          intro f hf w
          have hm : (f.offset, f.type) ∈ e.flds := by rw [← hfs]; exact List.mem_map.2 ⟨f, hf, rfl⟩
          have := List.all_eq_true.1 hall _ hm
          unfold fldOK at this
          split at this
          · rename_i e2 he2
            obtain ⟨i2, d2, q1, _, q3, _⟩ := hI he2
            simp only at he2 q1
            simp [sizeOf, typeInfo, q1, q3, he2]
          · cases this
        refine ⟨fs, (fs.toList.map fun f => (f.offset, (fun t => match findE l t with | some e => e.sz | none => 0) f.type)).toArray, h2, fun w => ?_, fun k off ft hk => ?_⟩
        · have := mapM_sizes (P := P) (fun t => match findE l t with | some e => e.sz | none => 0) fs.toList hsz w
          have e1 : (fs.mapM (fun f => do pure (f.offset, ← sizeOf f.type)) : Sem (Array (Nat × Nat))) = List.toArray <$> (fs.toList.mapM (fun f => do pure (f.offset, ← sizeOf f.type)) : Sem (List (Nat × Nat))) := by
            rw [← List.mapM_toArray]
          rw [e1, Sem.run_map, this]
          rfl
        · simp only [Option.bind_eq_some_iff] at hk
          obtain ⟨e', he', hk⟩ := hk
          rw [he] at he'; obtain rfl := Option.some.inj he'
          rw [hst] at hk
          simp only [Option.bind_eq_some_iff] at hk
          obtain ⟨f, hf, hk⟩ := hk
          split at hk
          · obtain rfl := Option.some.inj hk
            rw [← hfs, List.getElem?_map, Option.map_eq_some_iff] at hf
            obtain ⟨fl, hfl, hq⟩ := hf
            obtain ⟨q1, q2⟩ := Prod.mk.inj hq
            subst q1; subst q2
            simp only [List.getElem?_toArray, List.getElem?_map, hfl, Option.map_some]
          · cases hk
      · cases h
    zero_ok := fun t z h => by
      simp only [Option.bind_eq_some_iff] at h
      obtain ⟨e, he, hz⟩ := h
      obtain ⟨i, d, h1, h2, h3, h4, h5, h6, h7, _⟩ := hI he
      obtain ⟨v, q1, q2, q3⟩ := h7 z hz
      obtain ⟨r1, r2⟩ := sameL_eq q2
      exact ⟨by rw [he]; exact q3, r2, i, v, h1, q1, by rw [he]; exact h3, by rw [he]; exact h4, r1⟩
    eq_ok := fun t ks xs ys r w h hr => by
      simp only [Option.bind_eq_some_iff] at h
      obtain ⟨e, he, hk⟩ := h
      obtain ⟨i, d, h1, h2, h3, h4, h5, h6, h7, h8⟩ := hI he
      obtain ⟨q1, q2, q3⟩ := h8 ks hk
      refine ⟨eqCk_sound 10 t ks q1 _ xs ys r w _ _ (by simp [Op.maxDepth]) hr ?_ ?_, q3⟩
      · simp only [valT, q2, if_true]
      · simp only [valT, q2, if_true]
    ck_ok := fun t ks xs em w h hr => by
      simp only [Option.bind_eq_some_iff] at h
      obtain ⟨e, he, hk⟩ := h
      obtain ⟨i, d, h1, h2, h3, h4, h5, h6, h7, h8⟩ := hI he
      obtain ⟨q1, q2, q3⟩ := h8 ks hk
      refine ⟨ckCk_sound em 10 t ks q1 _ xs w _ (by decide) hr (by simp only [valT, q2, if_true]), ?_⟩
      unfold isSt at q2
      split at q2
      · exact ⟨_, by assumption⟩
      · cases q2 }
end Go.Proofs.Ytlclgpiabjlpbaa.Am
