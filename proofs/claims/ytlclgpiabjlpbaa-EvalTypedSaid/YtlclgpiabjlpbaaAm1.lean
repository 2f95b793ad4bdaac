/- A logic over the walk's rules, first part: abstract values, what they say of the model's values and of its world, and how that is kept. -/
import Derived.WalkKit
import Derived.WalkLawsBesides
import Derived.Below
import Derived.Laws.AppendOwn
namespace Go.Proofs.Ytlclgpiabjlpbaa.Am
open Go.RowKit

/-- An abstract value: whole numbers, texts and structs as they are; a slice by what it holds; a pointer by the box that it leads to. -/
inductive AV where
  | u
  | b (x : Bool)
  | i (k : IntKind) (n : Int)
  | f (x : Nat)
  | s (x : ByteArray)
  | np
  | ptr (b o : Nat)
  | cp (cs : List AV)
  | nil
  | l (t : Option Nat) (E : TypeId) (es : List (List AV))
  | arr (b n : Nat) (E : TypeId)
  | m (b : Nat)
  | nm
  | fn (f : FuncId) (caps : List AV)
  | nf
  | ni
  | ifc (t : TypeId) (x : AV)
  | agg (cs : List AV)
  | tup (cs : List AV)
  | k (v : Value)

/-- An appendable slice's own row: the slice, its length, its elements' type. -/
structure Tok where
  v : Value
  n : Nat
  E : TypeId

/-- What is known beside the abstract heap: cells that never change any more; where the boxes lie; the rows that may be appended to; blocks that stay as they are. -/
structure Gh where
  im : Nat → Nat → AV → Prop
  bx : Nat → Option Nat
  tk : Nat → Option Tok
  kp : Nat → Option Obj

inductive ABox where
  | cells (l : List AV)
  | map (es : List (AV × AV))

structure AH where
  bs : List ABox
  ts : List Nat

/-- A plain value as the model has it. -/
def toV : AV → Value
  | .b x => .bool x
  | .i k n => .int k n
  | .f x => .float .f64 x
  | .s x => .string x
  | .np => .pointer none
  | .nil => .slice none 0 0
  | .nm => .map none
  | .nf => .nilFunc
  | .ni => .nilIface
  | _ => .tuple #[]
def AV.plain : AV → Bool
  | .b _ | .i _ _ | .f _ | .s _ | .np | .nil | .nm | .nf | .ni => true
  | _ => false

/-- The kinds of cells that '==' goes through. -/
inductive CK where
  | i (k : IntKind)
  | b | f | s
  deriving DecidableEq

def ceq : CK → AV → AV → Option Bool
  | .i k, .i k1 x, .i k2 y => if k1 = k ∧ k2 = k then some (x == y) else none
  | .b, .b x, .b y => some (x == y)
  | .f, .f x, .f y => some (Ieee.double.order x y == some .eq)
  | .s, .s x, .s y => some (decide (x = y))
  | _, _, _ => none
def ceqL : List CK → List AV → List AV → Option Bool
  | [], [], [] => some true
  | k :: ks, x :: xs, y :: ys => (ceq k x y).bind fun b => (ceqL ks xs ys).map fun c => b && c
  | _, _, _ => none

def ck1 : CK → AV → Bool
  | .i k, .i k' _ => decide (k' = k)
  | .b, .b _ => true
  | .f, .f _ => true
  | .s, .s _ => true
  | _, _ => false
def ckL : List CK → List AV → Bool
  | [], [] => true
  | k :: ks, x :: xs => ck1 k x && ckL ks xs
  | _, _ => false
def nofl : List CK → Bool
  | [] => true
  | .f :: _ => false
  | _ :: ks => nofl ks

/-- The types' table. -/
structure TT where
  P : Program
  sz : TypeId → Nat
  by_ : TypeId → Nat
  kn : TypeId → Bool
  ag : TypeId → Option Bool
  kd : TypeId → Option TypeDesc
  fld : TypeId → Nat → Option (Nat × TypeId)
  zero : TypeId → Option (List AV)
  eqk : TypeId → Option (List CK)
  st : TypeId → Bool
  mix : P.follows .mixedOrders = true
  kn_ok : ∀ t, kn t = true → ∃ i, P.info? t = some i ∧ i.size = sz t ∧ i.bytes = by_ t
  ag_ok : ∀ t x, ag t = some x → kn t = true ∧ ∃ d, P.underlying t = some d ∧ (match d with | .struct _ | .array _ _ => true | _ => false) = x ∧ (x = false → sz t = 1)
  kd_ok : ∀ t d, kd t = some d → P.underlying t = some d
  fld_ok : ∀ t k off ft, fld t k = some (off, ft) → kn ft = true ∧ sz ft ≠ 0 ∧ ∃ fs fl, P.underlying t = some (.struct fs) ∧ fs[k]? = some fl ∧ fl.offset = off ∧ fl.type = ft
  st_ok : ∀ t, st t = true → ∃ fs pl, P.underlying t = some (.struct fs) ∧ (∀ w, (fs.mapM (fun f => do pure (f.offset, ← sizeOf f.type)) : Sem (Array (Nat × Nat))).run P w = .ok pl w) ∧
    ∀ k off ft, fld t k = some (off, ft) → pl[k]? = some (off, sz ft)
  zero_ok : ∀ t z, zero t = some z → z.length = sz t ∧ (z.all AV.plain) = true ∧ ∃ i v, P.info? t = some i ∧ i.zero = some v ∧ i.size = sz t ∧ i.bytes = by_ t ∧ v.cells.toList = z.map toV
  eq_ok : ∀ t ks xs ys r w, eqk t = some ks → ceqL ks xs ys = some r →
    (Op.equal t (.agg (xs.map toV).toArray) (.agg (ys.map toV).toArray)).run P w = .ok r w ∧ P.eqGuardType P.depth t = false
  ck_ok : ∀ t ks xs em w, eqk t = some ks → ckL ks xs = true → (Instr.checkKey em 10000 t (.agg (xs.map toV).toArray)).run P w = .ok () w ∧ ∃ fs, P.underlying t = some (.struct fs)

section
variable (T : TT) (G : Gh)
mutual
def Rel : AV → Value → Prop
  | .u, _ => True
  | .b x, v => v = .bool x
  | .i k n, v => v = .int k n
  | .f x, v => v = .float .f64 x
  | .s x, v => v = .string x
  | .np, v => v = .pointer none
  | .ptr b o, v => ∃ c, G.bx b = some c ∧ v = .pointer (some ⟨c, o, none⟩)
  | .cp cs, v => ∃ c o, v = .pointer (some ⟨c, o, none⟩) ∧ ∀ j y, cs[j]? = some y → G.im c (o + j) y
  | .nil, v => v = .slice none 0 0
  | .l t E es, v => ∃ A cap, v = .slice A es.length cap ∧ es.length ≤ cap ∧ cap ≤ maxLen ∧ (∀ e ∈ es, e.length = T.sz E) ∧
      (es ≠ [] → ∃ c o, A = some ⟨c, o, none⟩ ∧ ∀ i j x y, es[i]? = some x → x[j]? = some y → G.im c (o + (i * T.sz E + j)) y) ∧
      (∀ tt, t = some tt → G.tk tt = some ⟨v, es.length, E⟩)
  | .arr b n _, v => ∃ c, G.bx b = some c ∧ ∃ cap, v = .slice (some ⟨c, 0, none⟩) n cap ∧ n ≤ cap ∧ cap ≤ maxLen
  | .m b, v => ∃ c, G.bx b = some c ∧ v = .map (some c)
  | .nm, v => v = .map none
  | .fn f caps, v => ∃ vs : List Value, v = .func (.func f) #[] vs.toArray ∧ RelL caps vs
  | .nf, v => v = .nilFunc
  | .ni, v => v = .nilIface
  | .ifc t x, v => ∃ y, v = .iface t y ∧ Rel x y
  | .agg cs, v => ∃ vs : List Value, v = .agg vs.toArray ∧ RelL cs vs
  | .tup cs, v => ∃ vs : List Value, v = .tuple vs.toArray ∧ RelL cs vs
  | .k v0, v => v = v0
def RelL : List AV → List Value → Prop
  | [], vs => vs = []
  | x :: xs, vs => ∃ v vs', vs = v :: vs' ∧ Rel x v ∧ RelL xs vs'
end
end

structure Gh.le (G : Gh) (B : Nat) (G' : Gh) : Prop where
  im : ∀ c i x, G.im c i x → G'.im c i x
  lo : ∀ c i x, c < B → G'.im c i x → G.im c i x
  bx : ∀ b c, G.bx b = some c → G'.bx b = some c
  tk : ∀ t k, G.tk t = some k → G'.tk t = some k
  kp : ∀ c, G'.kp c = G.kp c
  kl : ∀ c i x, G.kp c ≠ none → G'.im c i x → G.im c i x
theorem Gh.le.refl (G : Gh) {B : Nat} : G.le B G := ⟨fun _ _ _ h => h, fun _ _ _ _ h => h, fun _ _ h => h, fun _ _ h => h, fun _ => rfl, fun _ _ _ _ h => h⟩
theorem Gh.le.trans {A B C : Gh} {n : Nat} (h : A.le n B) (k : B.le n C) : A.le n C := ⟨fun _ _ _ x => k.im _ _ _ (h.im _ _ _ x), fun _ _ _ l x => h.lo _ _ _ l (k.lo _ _ _ l x), fun _ _ x => k.bx _ _ (h.bx _ _ x), fun _ _ x => k.tk _ _ (h.tk _ _ x), fun c => (k.kp c).trans (h.kp c), fun c i x l y => h.kl c i x l (k.kl c i x (by rw [h.kp c]; exact l) y)⟩

mutual
theorem Rel.mono {T : TT} {G G' : Gh} {B : Nat} (h : G.le B G') : ∀ (x : AV) (v : Value), Rel T G x v → Rel T G' x v
  | .u, _, _ => trivial
  | .b _, _, e => e
  | .i _ _, _, e => e
  | .f _, _, e => e
  | .s _, _, e => e
  | .np, _, e => e
  | .ptr _ _, _, e => by obtain ⟨c, e1, e2⟩ := e; exact ⟨c, h.bx _ _ e1, e2⟩
  | .cp _, _, e => by obtain ⟨c, o, e1, e2⟩ := e; exact ⟨c, o, e1, fun j y hj => h.im _ _ _ (e2 j y hj)⟩
  | .nil, _, e => e
  | .l _ _ _, _, e => by
    obtain ⟨A, cap, e1, e2, e3, e4, e5, e6⟩ := e
    exact ⟨A, cap, e1, e2, e3, e4, fun hne => by obtain ⟨c, o, q1, q2⟩ := e5 hne; exact ⟨c, o, q1, fun i j x y hx hy => h.im _ _ _ (q2 i j x y hx hy)⟩, fun tt ht => h.tk _ _ (e6 tt ht)⟩
  | .arr _ _ _, _, e => by obtain ⟨c, e1, e2⟩ := e; exact ⟨c, h.bx _ _ e1, e2⟩
  | .m _, _, e => by obtain ⟨c, e1, e2⟩ := e; exact ⟨c, h.bx _ _ e1, e2⟩
  | .nm, _, e => e
  | .fn _ caps, _, e => by obtain ⟨vs, e1, e2⟩ := e; exact ⟨vs, e1, RelL.mono h caps vs e2⟩
  | .nf, _, e => e
  | .ni, _, e => e
  | .ifc _ x, _, e => by obtain ⟨y, e1, e2⟩ := e; exact ⟨y, e1, Rel.mono h x y e2⟩
  | .agg cs, _, e => by obtain ⟨vs, e1, e2⟩ := e; exact ⟨vs, e1, RelL.mono h cs vs e2⟩
  | .tup cs, _, e => by obtain ⟨vs, e1, e2⟩ := e; exact ⟨vs, e1, RelL.mono h cs vs e2⟩
  | .k _, _, e => e
theorem RelL.mono {T : TT} {G G' : Gh} {B : Nat} (h : G.le B G') : ∀ (xs : List AV) (vs : List Value), RelL T G xs vs → RelL T G' xs vs
  | [], _, e => e
  | x :: xs, _, e => by obtain ⟨v, vs', e1, e2, e3⟩ := e; exact ⟨v, vs', e1, Rel.mono h x v e2, RelL.mono h xs vs' e3⟩
end

section
variable {T : TT} {G : Gh}
theorem RelL.length : ∀ {xs : List AV} {vs : List Value}, RelL T G xs vs → vs.length = xs.length
  | [], _, e => by rw [show _ = _ from e]; rfl
  | x :: xs, _, e => by obtain ⟨v, vs', rfl, _, e3⟩ := e; simp [RelL.length e3]
theorem RelL.get : ∀ {xs : List AV} {vs : List Value} (_ : RelL T G xs vs) (i : Nat) (x : AV), xs[i]? = some x → ∃ v, vs[i]? = some v ∧ Rel T G x v
  | [], _, _, i, x, hx => by simp at hx
  | y :: xs, _, e, 0, x, hx => by obtain ⟨v, vs', rfl, e2, _⟩ := e; simp at hx; subst hx; exact ⟨v, by simp, e2⟩
  | y :: xs, _, e, i + 1, x, hx => by
    obtain ⟨v, vs', rfl, _, e3⟩ := e
    obtain ⟨u, h1, h2⟩ := RelL.get e3 i x (by simpa using hx)
    exact ⟨u, by simpa using h1, h2⟩
theorem RelL.of : ∀ {xs : List AV} {vs : List Value}, vs.length = xs.length → (∀ (i : Nat) (x : AV) (v : Value), xs[i]? = some x → vs[i]? = some v → Rel T G x v) → RelL T G xs vs
  | [], vs, hl, _ => by simpa [RelL] using hl
  | x :: xs, [], hl, _ => by simp at hl
  | x :: xs, v :: vs, hl, h => ⟨v, vs, rfl, h 0 x v rfl rfl, RelL.of (by simpa using hl) (fun i y u hy hu => h (i + 1) y u (by simpa using hy) (by simpa using hu))⟩
theorem RelL.get' {xs : List AV} {vs : List Value} (h : RelL T G xs vs) (i : Nat) (v : Value) (hv : vs[i]? = some v) : ∃ x, xs[i]? = some x ∧ Rel T G x v := by
  have hl := h.length
  have hi : i < xs.length := by rw [← hl]; exact (List.getElem?_eq_some_iff.1 hv).1
  obtain ⟨u, h1, h2⟩ := h.get i xs[i] (List.getElem?_eq_getElem hi)
  rw [h1] at hv
  exact ⟨xs[i], List.getElem?_eq_getElem hi, Option.some.inj hv ▸ h2⟩
theorem RelL.append {xs ys : List AV} {vs us : List Value} (h : RelL T G xs vs) (k : RelL T G ys us) : RelL T G (xs ++ ys) (vs ++ us) := by
  have hl := h.length
  have hk := k.length
  refine RelL.of (by simp [hl, hk]) fun i x v hx hv => ?_
  by_cases hi : i < xs.length
  · rw [List.getElem?_append_left hi] at hx
    rw [List.getElem?_append_left (by omega)] at hv
    obtain ⟨u, h1, h2⟩ := h.get i x hx
    rw [h1] at hv; exact Option.some.inj hv ▸ h2
  · rw [List.getElem?_append_right (by omega)] at hx
    rw [List.getElem?_append_right (by omega), hl] at hv
    obtain ⟨u, h1, h2⟩ := k.get _ x hx
    rw [h1] at hv; exact Option.some.inj hv ▸ h2
theorem RelL.drop {xs : List AV} {vs : List Value} (h : RelL T G xs vs) (n : Nat) : RelL T G (xs.drop n) (vs.drop n) := by
  refine RelL.of (by simp [h.length]) fun i x v hx hv => ?_
  rw [List.getElem?_drop] at hx hv
  obtain ⟨u, h1, h2⟩ := h.get _ x hx
  rw [h1] at hv; exact Option.some.inj hv ▸ h2
theorem RelL.take {xs : List AV} {vs : List Value} (h : RelL T G xs vs) (n : Nat) : RelL T G (xs.take n) (vs.take n) := by
  refine RelL.of (by simp [h.length]) fun i x v hx hv => ?_
  rw [List.getElem?_take] at hx hv
  split at hx
  · rename_i hi; rw [if_pos hi] at hv
    obtain ⟨u, h1, h2⟩ := h.get _ x hx
    rw [h1] at hv; exact Option.some.inj hv ▸ h2
  · cases hx
theorem RelL.set {xs : List AV} {vs : List Value} (h : RelL T G xs vs) (n : Nat) {x : AV} {v : Value} (hx : Rel T G x v) : RelL T G (xs.set n x) (vs.set n v) := by
  refine RelL.of (by simp [h.length]) fun i y u hy hu => ?_
  by_cases e : n = i
  · subst e
    by_cases hn : n < xs.length
    · rw [List.getElem?_set_self (by simpa using hn)] at hy
      rw [List.getElem?_set_self (by rw [h.length]; simpa using hn)] at hu
      obtain rfl := Option.some.inj hy
      obtain rfl := Option.some.inj hu
      exact hx
    · rw [List.getElem?_eq_none (by simp; omega)] at hy; cases hy
  · rw [List.getElem?_set_ne e] at hy hu
    obtain ⟨w, h1, h2⟩ := h.get _ y hy
    rw [h1] at hu; exact Option.some.inj hu ▸ h2
end

/-- A value's cells. -/
def cellsOf : AV → List AV
  | .agg cs => cs
  | x => [x]
/-- May it be stored? -/
def AV.flat : AV → Bool
  | .u | .agg _ | .tup _ | .k _ => false
  | _ => true
def AV.sto : AV → Bool
  | .u | .tup _ | .k _ => false
  | .agg cs => cs.all AV.flat
  | _ => true
theorem Rel.one {T : TT} {G : Gh} {x : AV} {v : Value} (h : Rel T G x v) (hx : x.flat = true) : v.oneCell' = true ∧ v.cells = #[v] := by
  cases x <;> simp [AV.flat] at hx <;> simp only [Rel] at h
  case ptr => obtain ⟨c, _, rfl⟩ := h; exact ⟨rfl, rfl⟩
  case cp => obtain ⟨c, o, rfl, _⟩ := h; exact ⟨rfl, rfl⟩
  case l => obtain ⟨A, cap, rfl, _⟩ := h; exact ⟨rfl, rfl⟩
  case arr => obtain ⟨c, _, cap, rfl, _⟩ := h; exact ⟨rfl, rfl⟩
  case m => obtain ⟨c, _, rfl⟩ := h; exact ⟨rfl, rfl⟩
  case fn => obtain ⟨c, rfl, _⟩ := h; exact ⟨rfl, rfl⟩
  case ifc => obtain ⟨c, rfl, _⟩ := h; exact ⟨rfl, rfl⟩
  all_goals subst h; exact ⟨rfl, rfl⟩
theorem Rel.cells {T : TT} {G : Gh} {x : AV} {v : Value} (h : Rel T G x v) (hx : x.sto = true) : RelL T G (cellsOf x) v.cells.toList ∧ ∀ u ∈ v.cells.toList, u.oneCell' = true := by
  by_cases hf : x.flat = true
  · have ho := h.one hf
    have hc : cellsOf x = [x] := by cases x <;> simp [AV.flat] at hf <;> rfl
    rw [hc, ho.2]
    exact ⟨⟨v, [], rfl, h, rfl⟩, by simp [ho.1]⟩
  · cases x with
    | agg cs =>
      simp only [Rel] at h
      obtain ⟨vs, rfl, hr⟩ := h
      refine ⟨by simpa [Value.cells, cellsOf] using hr, ?_⟩
      simp only [Value.cells]
      intro u hu
      obtain ⟨j, hj⟩ := List.getElem?_of_mem hu
      obtain ⟨y, hy1, hy2⟩ := hr.get' j u (by simpa using hj)
      have : y.flat = true := by
        simp only [AV.sto, List.all_eq_true] at hx
        exact hx y (List.mem_of_getElem? hy1)
      exact (hy2.one this).1
    | u => simp [AV.sto] at hx
    | tup => simp [AV.sto] at hx
    | k => simp [AV.sto] at hx
    | _ => simp [AV.flat] at hf

/-! ### The world -/
section
variable (T : TT)
def BoxOK (G : Gh) (w : World) (c : Nat) : ABox → Prop
  | .cells l => ∃ (vs : List Value) (E : TypeId), w.heap[c]? = some (.cells vs.toArray E (0, 0)) ∧ RelL T G l vs ∧ ∀ x ∈ l, x.flat = true
  | .map es => ∃ (ms : List MapEntry) (clock : Nat), w.heap[c]? = some (.map ms.toArray clock) ∧ RelL T G (es.map (·.1)) (ms.map (·.key)) ∧ RelL T G (es.map (·.2)) (ms.map (·.val)) ∧ (∀ e ∈ ms, e.born < clock) ∧ (ms.map (·.born)).Nodup

structure Inv (B : Nat) (G : Gh) (H : AH) (w : World) : Prop where
  hB : B ≤ w.heap.size
  bx : ∀ b c, G.bx b = some c → b < H.bs.length ∧ B ≤ c ∧ c < w.heap.size
  inj : ∀ b b' c, G.bx b = some c → G.bx b' = some c → b = b'
  bs : ∀ b x, H.bs[b]? = some x → ∃ c, G.bx b = some c ∧ BoxOK T G w c x
  im : ∀ c i x, G.im c i x → (∃ v, w.cell? ⟨c, i, none⟩ = some v ∧ Rel T G x v) ∧ x.flat = true ∧ ∀ b, G.bx b ≠ some c
  tk : ∀ t, t ∈ H.ts → ∃ k xs, G.tk t = some k ∧ w.ownsRow B k.E (T.sz k.E) k.v k.n xs ∧
    ∀ c, k.v.ownBlock = some c → (∀ b, G.bx b ≠ some c) ∧ ∀ i, k.n * T.sz k.E ≤ i → ¬ ∃ zz, G.im c i zz
  fs : ∃ m, ∀ t, m ≤ t → G.tk t = none
  ne : ∀ t t' k k', t ∈ H.ts → t' ∈ H.ts → t ≠ t' → G.tk t = some k → G.tk t' = some k' → k.v.ownBlock = none ∨ k.v.ownBlock ≠ k'.v.ownBlock
  kp : ∀ c o, G.kp c = some o → w.heap[c]? = some o ∧ (∀ b, G.bx b ≠ some c) ∧ ∀ t, t ∈ H.ts → ∀ k, G.tk t = some k → k.v.ownBlock ≠ some c
theorem Inv.kp_lt {T : TT} {B : Nat} {G : Gh} {H : AH} {w : World} (hi : Inv T B G H w) {c : Nat} (h : G.kp c ≠ none) : c < w.heap.size := by
  cases hk : G.kp c with
  | none => exact absurd hk h
  | some o => exact (Array.getElem?_eq_some_iff.1 (hi.kp c o hk).1).1

/-- How the frame of a call stands to the abstract one. -/
structure RelF (N : Nat) (G : Gh) (fr : Nat → AV) (a : Act) : Prop where
  size : a.tmps.size = N
  df : a.defers = []
  rel : ∀ k, Rel T G (fr k) (a.tmps.getD k undef)
end

theorem RelF.mono {T : TT} {N B : Nat} {G G' : Gh} {fr : Nat → AV} {a : Act} (h : RelF T N G fr a) (hl : G.le B G') : RelF T N G' fr a :=
  ⟨h.size, h.df, fun k => Rel.mono hl _ _ (h.rel k)⟩

def upd (fr : Nat → AV) (d : Nat) (x : AV) : Nat → AV := fun k => if k = d then x else fr k
def updO (fr : Nat → AV) (d : Option Tmp) (x : AV) : Nat → AV := match d with | some d => upd fr d x | none => fr

def okD (N : Nat) : Option Tmp → Bool
  | some d => decide (@LT.lt Nat instLTNat d N)
  | none => true
theorem RelF.put {T : TT} {N : Nat} {G : Gh} {fr : Nat → AV} {a : Act} (h : RelF T N G fr a) {d : Option Tmp} (hd : okD N d = true) {x : AV} {v : Value} (hx : Rel T G x v) :
    RelF T N G (updO fr d x) (a.put d v) := by
  cases d with
  | none => exact h
  | some d =>
    have hd : @LT.lt Nat instLTNat d N := by simpa [okD] using hd
    refine ⟨by simp [Act.put, h.size], by simp [Act.put, h.df], fun k => ?_⟩
    have hs := h.size
    simp only [updO, upd, Act.put]
    by_cases e : k = d
    · subst e
      rw [if_pos rfl, Array.getD_eq_getD_getElem?, Array.getElem?_setIfInBounds_self_of_lt (by omega)]
      exact hx
    · rw [if_neg e, Array.getD_eq_getD_getElem?, Array.getElem?_setIfInBounds_ne (by omega), ← Array.getD_eq_getD_getElem?]
      exact h.rel k

theorem Rel.toV {T : TT} {G : Gh} {x : AV} (h : x.plain = true) : Rel T G x (toV x) := by
  cases x <;> simp [AV.plain] at h <;> simp [Rel, Am.toV]
theorem Rel.eqV {T : TT} {G : Gh} {x : AV} {v : Value} (h : Rel T G x v) (hp : x.plain = true) : v = Am.toV x := by
  cases x <;> simp [AV.plain] at hp <;> simpa [Rel, Am.toV] using h
theorem RelL.eqV {T : TT} {G : Gh} : ∀ {xs : List AV} {vs : List Value}, RelL T G xs vs → xs.all AV.plain = true → vs = xs.map Am.toV
  | [], _, e, _ => by simpa [RelL] using e
  | x :: xs, _, e, h => by
    obtain ⟨v, vs', rfl, e2, e3⟩ := e
    simp only [List.all_cons, Bool.and_eq_true] at h
    rw [e2.eqV h.1, RelL.eqV e3 h.2]; rfl
theorem RelL.toV {T : TT} {G : Gh} : ∀ {xs : List AV}, xs.all AV.plain = true → RelL T G xs (xs.map Am.toV)
  | [], _ => rfl
  | x :: xs, h => by
    simp only [List.all_cons, Bool.and_eq_true] at h
    exact ⟨_, _, rfl, Rel.toV h.1, RelL.toV h.2⟩
theorem plain_flat {x : AV} (h : x.plain = true) : x.flat = true := by cases x <;> simp [AV.plain] at h <;> rfl
theorem ceq_plain {k : CK} {x y : AV} {r : Bool} (h : ceq k x y = some r) : x.plain = true ∧ y.plain = true := by
  unfold ceq at h
  split at h <;> first | exact ⟨rfl, rfl⟩ | cases h
theorem ceqL_plain : ∀ {ks : List CK} {xs ys : List AV} {r : Bool}, ceqL ks xs ys = some r → xs.all AV.plain = true ∧ ys.all AV.plain = true
  | [], [], [], _, _ => ⟨rfl, rfl⟩
  | k :: ks, x :: xs, y :: ys, r, h => by
    simp only [ceqL, Option.bind_eq_some_iff, Option.map_eq_some_iff] at h
    obtain ⟨b, h1, c, h2, _⟩ := h
    have p := ceq_plain h1
    have q := ceqL_plain h2
    simp [p.1, p.2, q.1, q.2]
  | [], [], _ :: _, _, h | [], _ :: _, _, _, h | _ :: _, [], _, _, h | _ :: _, _ :: _, [], _, h => by simp [ceqL] at h
end Go.Proofs.Ytlclgpiabjlpbaa.Am
