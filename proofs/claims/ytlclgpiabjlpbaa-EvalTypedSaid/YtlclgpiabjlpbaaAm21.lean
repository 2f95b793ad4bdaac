/- A logic over the walk's rules, twenty-first part: regions whose order is open, cut into pieces: open pieces (what turns nothing that others see; a new variable at the end) and single operations that stand ahead of all later ones. -/
import Derived.Test.YtlclgpiabjlpbaaAm20
namespace Go.Proofs.Ytlclgpiabjlpbaa.Am
open Go.RowKit
set_option linter.unusedVariables false

/-! ### What comes ahead of what -/
def maskD (acc : List Nat) (o : Oper) : Nat := o.after.toList.foldl (fun m e => if Region.binds .any e then m ||| (1 <<< e.on) ||| acc.getD e.on 0 else m) 0
def tabD : List Oper → List Nat → List Nat
  | [], acc => acc
  | o :: rest, acc => tabD rest (acc ++ [maskD acc o])
theorem foldl_mask {acc : List Nat} : ∀ (es : List Edge) (m i : Nat), (es.foldl (fun m e => if Region.binds .any e then m ||| (1 <<< e.on) ||| acc.getD e.on 0 else m) m).testBit i = true →
    m.testBit i = true ∨ ∃ e ∈ es, Region.binds .any e = true ∧ (i = e.on ∨ (acc.getD e.on 0).testBit i = true)
  | [], m, i, h => .inl h
  | e :: es, m, i, h => by
    rw [List.foldl_cons] at h
    rcases foldl_mask es _ i h with h | ⟨e', he', h1, h2⟩
    · split at h
      · rename_i hb
        rw [Nat.testBit_or, Nat.testBit_or, Bool.or_eq_true, Bool.or_eq_true] at h
        rcases h with (h | h) | h
        · exact .inl h
        · refine .inr ⟨e, by simp, hb, .inl ?_⟩
          rw [Nat.one_shiftLeft, Nat.testBit_two_pow] at h
          exact (of_decide_eq_true h).symm
        · exact .inr ⟨e, by simp, hb, .inr h⟩
      · exact .inl h
    · exact .inr ⟨e', by simp [he'], h1, h2⟩
theorem mask_mem {acc : List Nat} {o : Oper} {i : Nat} (h : (maskD acc o).testBit i = true) : ∃ e ∈ o.after, Region.binds .any e = true ∧ (i = e.on ∨ (acc.getD e.on 0).testBit i = true) := by
  rcases foldl_mask _ _ _ h with h | ⟨e, he, h⟩
  · simp at h
  · exact ⟨e, by simpa using he, h⟩
theorem tabD_spec : ∀ (l : List Oper) (acc : List Nat), (tabD l acc).take acc.length = acc ∧ ∀ (j : Nat) o, l[j]? = some o → (tabD l acc)[acc.length + j]? = some (maskD ((tabD l acc).take (acc.length + j)) o)
  | [], acc => ⟨by simp [tabD], by simp⟩
  | o :: l, acc => by
    obtain ⟨h1, h2⟩ := tabD_spec l (acc ++ [maskD acc o])
    have hp : (tabD l (acc ++ [maskD acc o])).take acc.length = acc := by
      have := congrArg (List.take acc.length) h1
      rw [List.take_take] at this
      simpa using this
    refine ⟨hp, fun j o' ho => ?_⟩
    cases j with
    | zero =>
      simp at ho; subst ho
      rw [Nat.add_zero, show tabD (o :: l) acc = tabD l (acc ++ [maskD acc o]) from rfl, hp]
      have : ((tabD l (acc ++ [maskD acc o])).take (acc ++ [maskD acc o]).length)[acc.length]? = some (maskD acc o) := by rw [h1]; simp
      rw [List.getElem?_take_of_lt (by simp)] at this
      exact this
    | succ j =>
      have := h2 j o' (by simpa using ho)
      simp only [List.length_append, List.length_singleton] at this
      rw [show acc.length + (j + 1) = acc.length + 1 + j by omega]
      exact this
/-- All that has to come ahead of operation j. -/
def aheadT (l : List Oper) (j i : Nat) : Bool := ((tabD l []).getD j 0).testBit i
theorem ahead_mem {l : List Oper} {j i : Nat} {o : Oper} (ho : l[j]? = some o) (h : aheadT l j i = true) : ∃ e ∈ o.after, Region.binds .any e = true ∧ (i = e.on ∨ (e.on < j ∧ aheadT l e.on i = true)) := by
  have h2 := (tabD_spec l []).2 j o ho
  simp only [List.length_nil, Nat.zero_add] at h2
  unfold aheadT at h
  rw [List.getD_eq_getElem?_getD, h2] at h
  obtain ⟨e, he, hb, h3⟩ := mask_mem h
  refine ⟨e, he, hb, ?_⟩
  rcases h3 with h3 | h3
  · exact .inl h3
  · right
    rw [List.getD_eq_getElem?_getD, List.getElem?_take] at h3
    split at h3
    · rename_i hlt; exact ⟨hlt, by unfold aheadT; rw [List.getD_eq_getElem?_getD]; exact h3⟩
    · simp at h3
theorem ahead_closed {l : List Oper} {S : Nat → Bool} (hc : closedS l S) : ∀ (j i : Nat) o, l[j]? = some o → (∀ e ∈ o.after, Region.binds .any e = true → S e.on = true) → aheadT l j i = true → S i = true := by
  intro j
  induction j using Nat.strongRecOn with
  | _ j ih =>
    intro i o ho hd h
    obtain ⟨e, he, hb, h1⟩ := ahead_mem ho h
    have hS := hd e he hb
    rcases h1 with rfl | ⟨hlt, h1⟩
    · exact hS
    · have hjl : j < l.length := (List.getElem?_eq_some_iff.1 ho).1
      have hoe : l[e.on]? = some l[e.on] := List.getElem?_eq_getElem (by omega)
      exact ih e.on hlt i _ hoe (fun e' he' hb' => hc e.on _ hoe hS e' he' hb') h1

/-! ### The rule -/
inductive Seg where
  | op (n : Nat)
  | bar

/-- Which slots an operation reads. -/
def rdO (o : Oper) : List Nat := o.op.operands.toList.filterMap fun | .tmp t => some t | _ => none
/-- A frame of which only some slots are known. -/
def frO (ts : List Nat) (fr : FrA) : FrA := fun t => bif ts.any (fun x => Nat.beq x t) then fr t else .u

section
variable (T : TT) (N : Nat)
/-- What an operation yields on the heap, and on any other that is alike in some boxes; it turns nothing there. -/
def AR (o : Oper) (fr : FrA) (rb : List Nat) (H : AH) (r : AV) : Prop := ∀ H' : AH, (∀ b, b ∈ rb → H'.bs[b]? = H.bs[b]?) → AOp T N o fr H' fun r' H'' => r' = r ∧ H'' = H'
abbrev Acc := List (Nat × Bool × List Nat)
def disj (a b : List Nat) : Bool := a.all fun x => !(b.any fun y => Nat.beq x y)
def isAhead (D : List Nat) (j i : Nat) : Bool := (D.getD j 0).testBit i
def chkQ (D : List Nat) (i : Nat) (rb : List Nat) (acc : Acc) : Bool := acc.all fun e => !e.2.1 || isAhead D i e.1 || disj rb e.2.2
def chkW (D : List Nat) (i : Nat) (wb : List Nat) (acc : Acc) : Bool := acc.all fun e => isAhead D i e.1 || (!e.2.1 && disj e.2.2 wb)
/-- An open piece: operations that turn nothing, and operations that do, one behind the other. -/
def ADo (D : List Nat) (K : FrA → AH → Prop) : List Oper → Nat → Acc → FrA → AH → Prop
  | [], _, _, fr, H => K fr H
  | o :: rest, i, acc, fr, H => okD N o.dst = true ∧
      ((∃ r rb, AR T N o (frO (rdO o) fr) rb H r ∧ chkQ D i rb acc = true ∧ ADo D K rest (i + 1) ((i, false, rb) :: acc) (updO fr o.dst r) H) ∨
       (∃ r wb H', AOp T N o (frO (rdO o) fr) H (fun r' H'' => r' = r ∧ H'' = H') ∧ (∀ b, b ∉ wb → H'.bs[b]? = H.bs[b]?) ∧ chkW D i wb acc = true ∧ ADo D K rest (i + 1) ((i, true, wb) :: acc) (updO fr o.dst r) H'))
/-- A region by its pieces. -/
def AD (l : Array Oper) (D : List Nat) (K : FrA → AH → Prop) : List Seg → Nat → List Oper → FrA → AH → Prop
  | [], _, rest, fr, H => rest = [] ∧ K fr H
  | .bar :: p, s, rest, fr, H => match rest with
    | [] => False
    | o :: rest => okD N o.dst = true ∧ match aw l fr o with
      | some true => AOp T N o fr H fun r H' => AD l D K p (s + 1) rest (updO fr o.dst r) H'
      | some false => AD l D K p (s + 1) rest (updO fr o.dst (.tup [])) H
      | none => False
  | .op n :: p, s, rest, fr, H => ADo T N D (fun fr' H' => AD l D K p (s + n) (rest.drop n) fr' H') (rest.take n) s [] fr H
end

def isRng (s e : Nat) (f : Nat → Bool) : Bool := (List.range (e - s)).all fun k => f (s + k)
theorem isRng_at {s e : Nat} {f : Nat → Bool} (h : isRng s e f = true) {i : Nat} (h1 : s ≤ i) (h2 : i < e) : f i = true := by
  have := List.all_eq_true.1 h (i - s) (List.mem_range.2 (by omega))
  rwa [show s + (i - s) = i by omega] at this
/-- An open piece from s to e is well cut: its operations bear no guard, write each its own slot, read what comes ahead or what is written later; whatever lies behind comes behind all of it. -/
def openB (l : List Oper) (s e : Nat) : Bool :=
  Nat.ble e l.length &&
  isRng s e (fun i => match l[i]? with
    | some o => o.guard.isNone &&
      isRng s e (fun j => match l[j]? with
        | some oj => match oj.dst with
          | some t => (Nat.beq i j || !(o.dst == some t)) && (!((rdO o).any fun x => Nat.beq x t) || (Nat.blt j i && aheadT l i j) || (Nat.blt i j && aheadT l j i) || Nat.beq i j)
          | none => true
        | none => false)
    | none => false) &&
  isRng e l.length (fun j => isRng s e fun i => aheadT l j i)
def barB (l : List Oper) (s : Nat) : Bool := isRng (s + 1) l.length fun j => aheadT l j s
def adB (l : List Oper) : List Seg → Nat → Bool
  | [], _ => true
  | .bar :: p, s => barB l s && adB l p (s + 1)
  | .op n :: p, s => openB l s (s + n) && adB l p (s + n)
def downB (l : List Oper) : Bool := isRng 0 l.length fun i => match l[i]? with
  | some o => o.after.all fun e => !(Region.binds .any e) || Nat.blt e.on i
  | none => false

section
variable {T : TT} {N : Nat}
/-- The frame behind the first so many operations of a piece. -/
def frC (seg : List Oper) (vals : List AV) (fr : FrA) : Nat → FrA
  | 0 => fr
  | i + 1 => match seg[i]? with
    | some o => updO (frC seg vals fr i) o.dst (vals.getD i .u)
    | none => frC seg vals fr i
theorem frC_cons {o : Oper} {seg : List Oper} {r : AV} {vals : List AV} {fr : FrA} : ∀ i, frC (o :: seg) (r :: vals) fr (i + 1) = frC seg vals (updO fr o.dst r) i
  | 0 => rfl
  | i + 1 => by
    rw [frC, frC_cons i]
    simp only [List.getElem?_cons_succ]
    rw [frC]
    simp
/-- What an open piece comes to: a value for each operation, the heap ahead of it, which boxes it reads or writes. -/
structure PieceOK (T : TT) (N : Nat) (D : List Nat) (seg : List Oper) (s : Nat) (acc : Acc) (fr : FrA) (H : AH) (vals : List AV) (Hc : Nat → AH) (kd : Nat → Bool × List Nat) : Prop where
  len : vals.length = seg.length
  h0 : Hc 0 = H
  okd : ∀ (i : Nat) o, seg[i]? = some o → okD N o.dst = true
  q : ∀ (i : Nat) o, seg[i]? = some o → (kd i).1 = false → AR T N o (frO (rdO o) (frC seg vals fr i)) (kd i).2 (Hc i) (vals.getD i .u) ∧ Hc (i + 1) = Hc i
  w : ∀ (i : Nat) o, seg[i]? = some o → (kd i).1 = true → AOp T N o (frO (rdO o) (frC seg vals fr i)) (Hc i) (fun r' H'' => r' = vals.getD i .u ∧ H'' = Hc (i + 1)) ∧ ∀ b, b ∉ (kd i).2 → (Hc (i + 1)).bs[b]? = (Hc i).bs[b]?
  acc : ∀ i, i < seg.length → ∀ e, e ∈ acc → isAhead D (s + i) e.1 = true ∨ (((kd i).1 = false ∧ (e.2.1 = false ∨ disj (kd i).2 e.2.2 = true)) ∨ ((kd i).1 = true ∧ e.2.1 = false ∧ disj e.2.2 (kd i).2 = true))
  ord : ∀ i j, i < seg.length → j < i → isAhead D (s + i) (s + j) = true ∨ (((kd i).1 = false ∧ ((kd j).1 = false ∨ disj (kd i).2 (kd j).2 = true)) ∨ ((kd i).1 = true ∧ (kd j).1 = false ∧ disj (kd j).2 (kd i).2 = true))
theorem ado_vals {D : List Nat} {K : FrA → AH → Prop} : ∀ (seg : List Oper) (s : Nat) (acc : Acc) (fr : FrA) (H : AH), ADo T N D K seg s acc fr H → ∃ vals Hc kd, PieceOK T N D seg s acc fr H vals Hc kd ∧ K (frC seg vals fr seg.length) (Hc seg.length)
  | [], s, acc, fr, H, h => ⟨[], fun _ => H, fun _ => (false, []), ⟨rfl, rfl, fun i o ho => by simp at ho, fun i o ho => by simp at ho, fun i o ho => by simp at ho, fun i hi => by simp at hi, fun i j hi => by simp at hi⟩, h⟩
  | o :: rest, s, acc, fr, H, ⟨hd, h⟩ => by
    have mk : ∀ (r : AV) (k : Bool) (bs : List Nat) (H' : AH), ADo T N D K rest (s + 1) ((s, k, bs) :: acc) (updO fr o.dst r) H' →
        (k = false → AR T N o (frO (rdO o) fr) bs H r ∧ H' = H ∧ chkQ D s bs acc = true) → (k = true → AOp T N o (frO (rdO o) fr) H (fun r' H'' => r' = r ∧ H'' = H') ∧ (∀ b, b ∉ bs → H'.bs[b]? = H.bs[b]?) ∧ chkW D s bs acc = true) →
        ∃ vals Hc kd, PieceOK T N D (o :: rest) s acc fr H vals Hc kd ∧ K (frC (o :: rest) vals fr (o :: rest).length) (Hc (o :: rest).length) := by
      intro r k bs H' hk hq hw
      obtain ⟨vals, Hc, kd, P, hK⟩ := ado_vals rest (s + 1) _ _ _ hk
      refine ⟨r :: vals, fun i => match i with | 0 => H | i + 1 => Hc i, fun i => match i with | 0 => (k, bs) | i + 1 => kd i, ⟨by simp [P.len], rfl, ?_, ?_, ?_, ?_, ?_⟩, by rw [List.length_cons, frC_cons]; exact hK⟩
      · intro i o' ho
        cases i with
        | zero => simp at ho; subst ho; exact hd
        | succ i => exact P.okd i o' (by simpa using ho)
      · intro i o' ho hki
        cases i with
        | zero =>
          simp at ho; subst ho
          obtain ⟨q1, q2, q3⟩ := hq hki
          exact ⟨by simpa [frC] using q1, by show Hc 0 = H; rw [P.h0, q2]⟩
        | succ i =>
          have := P.q i o' (by simpa using ho) hki
          rw [frC_cons]
          simpa using this
      · intro i o' ho hki
        cases i with
        | zero =>
          simp at ho; subst ho
          obtain ⟨q1, q2, q3⟩ := hw hki
          refine ⟨?_, ?_⟩
          · have : Hc 0 = H' := P.h0
            simpa [frC, this] using q1
          · intro b hb; show (Hc 0).bs[b]? = _; rw [P.h0]; exact q2 b hb
        | succ i =>
          have := P.w i o' (by simpa using ho) hki
          rw [frC_cons]
          simpa using this
      · intro i hi e he
        cases i with
        | zero =>
          rw [Nat.add_zero]
          cases k with
          | false =>
            have := List.all_eq_true.1 (hq rfl).2.2 e he
            simp only [Bool.or_eq_true, Bool.not_eq_true'] at this
            rcases this with (q | q) | q
            · exact .inr (.inl ⟨rfl, .inl q⟩)
            · exact .inl q
            · exact .inr (.inl ⟨rfl, .inr q⟩)
          | true =>
            have := List.all_eq_true.1 (hw rfl).2.2 e he
            simp only [Bool.or_eq_true, Bool.and_eq_true, Bool.not_eq_true'] at this
            rcases this with q | q
            · exact .inl q
            · exact .inr (.inr ⟨rfl, q⟩)
        | succ i =>
          have := P.acc i (by simpa using hi) e (List.mem_cons_of_mem _ he)
          rwa [show s + 1 + i = s + (i + 1) by omega] at this
      · intro i j hi hj
        cases i with
        | zero => omega
        | succ i =>
          cases j with
          | zero =>
            have := P.acc i (by simpa using hi) (s, k, bs) (by simp)
            rw [Nat.add_zero]
            rwa [show s + 1 + i = s + (i + 1) by omega] at this
          | succ j =>
            have := P.ord i j (by simpa using hi) (by omega)
            rwa [show s + 1 + i = s + (i + 1) by omega, show s + 1 + j = s + (j + 1) by omega] at this
    rcases h with ⟨r, rb, h1, h2, h3⟩ | ⟨r, wb, H', h1, h2, h3, h4⟩
    · exact mk r false rb H h3 (fun _ => ⟨h1, rfl, h2⟩) (fun q => by cases q)
    · exact mk r true wb H' h4 (fun q => by cases q) (fun _ => ⟨h1, h2, h3⟩)

/-- Each slot is written by one operation of the piece. -/
def ownU (seg : List Oper) : Prop := ∀ (i j : Nat) oi oj t, seg[i]? = some oi → seg[j]? = some oj → oi.dst = some t → oj.dst = some t → i = j
theorem ownT_of {seg : List Oper} (hu : ownU seg) {i : Nat} {o : Oper} {t : Nat} (ho : seg[i]? = some o) (ht : o.dst = some t) : ownT seg t = some i := by
  cases h : ownT seg t with
  | none =>
    unfold ownT at h
    rw [List.findIdx?_eq_none_iff] at h
    have := h o (List.mem_of_getElem? ho)
    simp [ht] at this
  | some j =>
    obtain ⟨oj, hj, hdj⟩ := ownT_dst h
    rw [hu i j o oj t ho hj ht hdj]
theorem frS_upd {seg : List Oper} (hu : ownU seg) {vals : List AV} {fr : FrA} {S : Nat → Bool} {i : Nat} {o : Oper} (ho : seg[i]? = some o) : frS seg vals fr (setS S i) = updO (frS seg vals fr S) o.dst (vals.getD i .u) := by
  funext t
  have hne : ∀ j, j ≠ i → setS S i j = S j := by
    intro j hji
    have : Nat.beq j i = false := by rw [← Bool.not_eq_true]; intro q; exact hji (Nat.eq_of_beq_eq_true q)
    simp [setS, this]
  cases hd : o.dst with
  | none =>
    show frS seg vals fr (setS S i) t = frS seg vals fr S t
    unfold frS
    split
    · rename_i j hj
      obtain ⟨oj, hoj, hdj⟩ := ownT_dst hj
      rw [hne j (fun e => by subst e; rw [ho] at hoj; obtain rfl := Option.some.inj hoj; rw [hd] at hdj; cases hdj)]
    · rfl
  | some d =>
    unfold updO upd
    by_cases e : t = d
    · subst e
      simp only [if_true]
      unfold frS
      rw [ownT_of hu ho hd]
      simp [setS]
    · simp only [if_neg e]
      unfold frS
      split
      · rename_i j hj
        obtain ⟨oj, hoj, hdj⟩ := ownT_dst hj
        rw [hne j (fun e' => by subst e'; rw [ho] at hoj; obtain rfl := Option.some.inj hoj; rw [hd] at hdj; exact e (Option.some.inj hdj).symm)]
      · rfl
theorem frS_none {seg : List Oper} {vals : List AV} {fr : FrA} : frS seg vals fr (fun _ => false) = fr := by funext t; unfold frS; split <;> simp
theorem frS_congr {seg : List Oper} {vals : List AV} {fr : FrA} {S S' : Nat → Bool} (h : ∀ j, j < seg.length → S j = S' j) : frS seg vals fr S = frS seg vals fr S' := by
  funext t
  unfold frS
  split
  · rename_i j ho
    obtain ⟨o, hj, _⟩ := ownT_dst ho
    rw [h j (List.getElem?_eq_some_iff.1 hj).1]
  · rfl
theorem frC_frS {seg : List Oper} (hu : ownU seg) {vals : List AV} {fr : FrA} : ∀ i, i ≤ seg.length → frC seg vals fr i = frS seg vals fr (fun j => Nat.blt j i)
  | 0, _ => by rw [frC, show (fun j => Nat.blt j 0) = fun _ => false from by funext j; cases j <;> rfl, frS_none]
  | i + 1, hi => by
    have ho : seg[i]? = some seg[i] := List.getElem?_eq_getElem (by omega)
    rw [frC, ho]
    simp only
    rw [frC_frS hu i (by omega), ← frS_upd hu ho]
    congr 1
    funext j
    unfold setS
    rw [Bool.eq_iff_iff]
    simp only [Bool.or_eq_true, Nat.blt_eq, Nat.beq_eq]
    omega
theorem any_mem {l : List Nat} {t : Nat} : (l.any fun x => Nat.beq x t) = true ↔ t ∈ l := by
  simp [List.any_eq_true]

theorem any_mem2 {l : List Nat} {t : Nat} : (l.any fun y => Nat.beq t y) = true ↔ t ∈ l := by
  simp [List.any_eq_true]
/-- How far the heap has come: behind the last operation that turns it. -/
def lastW (kd : Nat → Bool × List Nat) (S : Nat → Bool) : Nat → Nat
  | 0 => 0
  | n + 1 => if ((kd n).1 && S n) = true then n + 1 else lastW kd S n
theorem lastW_le {kd : Nat → Bool × List Nat} {S : Nat → Bool} : ∀ n, lastW kd S n ≤ n
  | 0 => Nat.le_refl _
  | n + 1 => by unfold lastW; split; exact Nat.le_refl _; have := lastW_le (kd := kd) (S := S) n; omega
theorem lastW_none {kd : Nat → Bool × List Nat} {S : Nat → Bool} : ∀ n j, lastW kd S n ≤ j → j < n → (kd j).1 = true → S j = false
  | 0, j, _, hj, _ => by omega
  | n + 1, j, h, hj, hk => by
    unfold lastW at h
    split at h
    · omega
    · rename_i hc
      rcases Nat.lt_or_ge j n with q | q
      · exact lastW_none n j h q hk
      · have : j = n := by omega
        subst this
        rw [hk] at hc
        simpa using hc
theorem lastW_some {kd : Nat → Bool × List Nat} {S : Nat → Bool} : ∀ n, lastW kd S n ≠ 0 → ∃ j, lastW kd S n = j + 1 ∧ j < n ∧ (kd j).1 = true ∧ S j = true
  | 0, h => absurd rfl h
  | n + 1, h => by
    unfold lastW at h ⊢
    split
    · rename_i hc; simp only [Bool.and_eq_true] at hc; exact ⟨n, rfl, by omega, hc.1, hc.2⟩
    · rename_i hc
      rw [if_neg hc] at h
      obtain ⟨j, h1, h2, h3⟩ := lastW_some n h
      exact ⟨j, h1, by omega, h3⟩
theorem lastW_congr {kd : Nat → Bool × List Nat} {S S' : Nat → Bool} : ∀ n, (∀ j, j < n → (kd j).1 = true → S j = S' j) → lastW kd S n = lastW kd S' n
  | 0, _ => rfl
  | n + 1, h => by
    unfold lastW
    rw [lastW_congr n fun j hj hk => h j (by omega) hk]
    cases hk : (kd n).1 with
    | false => simp
    | true => rw [h n (by omega) hk]
theorem lastW_at {kd : Nat → Bool × List Nat} {S : Nat → Bool} {k : Nat} (hk : (kd k).1 = true) (hS : S k = true) : ∀ n, k < n → (∀ j, k < j → j < n → (kd j).1 = true → S j = false) → lastW kd S n = k + 1
  | 0, h, _ => by omega
  | n + 1, h, hb => by
    unfold lastW
    rcases Nat.lt_or_ge k n with q | q
    · rw [if_neg, lastW_at hk hS n q fun j h1 h2 => hb j h1 (by omega)]
      intro hc
      simp only [Bool.and_eq_true] at hc
      rw [hb n q (by omega) hc.1] at hc
      cases hc.2
    · have : k = n := by omega
      subst this
      rw [if_pos (by simp [hk, hS])]
theorem disj_out {a b : List Nat} (h : disj a b = true) {x : Nat} (hx : x ∈ a) : x ∉ b := by
  intro hb
  have := List.all_eq_true.1 h x hx
  simp only [Bool.not_eq_true'] at this
  rw [any_mem2.2 hb] at this; cases this
theorem heap_same {T : TT} {N : Nat} {D : List Nat} {seg : List Oper} {s : Nat} {acc : Acc} {fr : FrA} {H : AH} {vals : List AV} {Hc : Nat → AH} {kd : Nat → Bool × List Nat} (P : PieceOK T N D seg s acc fr H vals Hc kd) {rb : List Nat} : ∀ (d m : Nat), m + d ≤ seg.length →
    (∀ j, m ≤ j → j < m + d → (kd j).1 = true → disj rb (kd j).2 = true) → ∀ b, b ∈ rb → (Hc (m + d)).bs[b]? = (Hc m).bs[b]?
  | 0, m, _, _, b, _ => rfl
  | d + 1, m, hm, h, b, hb => by
    rw [← heap_same P d m (by omega) (fun j h1 h2 => h j h1 (by omega)) b hb]
    have ho : seg[m + d]? = some seg[m + d] := List.getElem?_eq_getElem (by omega)
    rw [← Nat.add_assoc]
    cases hk : (kd (m + d)).1 with
    | false => rw [(P.q _ _ ho hk).2]
    | true => exact (P.w _ _ ho hk).2 b (disj_out (h _ (by omega) (by omega) hk) hb)
theorem heap_quiet {T : TT} {N : Nat} {D : List Nat} {seg : List Oper} {s : Nat} {acc : Acc} {fr : FrA} {H : AH} {vals : List AV} {Hc : Nat → AH} {kd : Nat → Bool × List Nat} (P : PieceOK T N D seg s acc fr H vals Hc kd) : ∀ (d m : Nat), m + d ≤ seg.length →
    (∀ j, m ≤ j → j < m + d → (kd j).1 = false) → Hc (m + d) = Hc m
  | 0, m, _, _ => rfl
  | d + 1, m, hm, h => by
    rw [← heap_quiet P d m (by omega) (fun j h1 h2 => h j h1 (by omega)), ← Nat.add_assoc]
    exact (P.q _ _ (List.getElem?_eq_getElem (by omega)) (h _ (by omega) (by omega))).2

theorem adB_op {l : List Oper} {n s : Nat} {p : List Seg} (h : adB l (.op n :: p) s = true) : openB l s (s + n) = true ∧ adB l p (s + n) = true := by simpa [adB] using h
theorem adB_bar {l : List Oper} {s : Nat} {p : List Seg} (h : adB l (.bar :: p) s = true) : barB l s = true ∧ adB l p (s + 1) = true := by simpa [adB] using h

theorem openB_use {l : List Oper} {s e : Nat} (h : openB l s e = true) : e ≤ l.length ∧
    (∀ i o, s ≤ i → i < e → l[i]? = some o → o.guard = none ∧ ∀ j oj t, s ≤ j → j < e → l[j]? = some oj → oj.dst = some t → (i = j ∨ o.dst ≠ some t) ∧ (t ∈ rdO o → (j < i ∧ aheadT l i j = true) ∨ (i < j ∧ aheadT l j i = true) ∨ i = j)) ∧
    ∀ j i, e ≤ j → j < l.length → s ≤ i → i < e → aheadT l j i = true := by
  unfold openB at h
  simp only [Bool.and_eq_true] at h
  obtain ⟨⟨h1, h2⟩, h3⟩ := h
  refine ⟨Nat.le_of_ble_eq_true h1, fun i o hsi hie ho => ?_, fun j i hej hjl hsi hie => isRng_at (isRng_at h3 hej hjl) hsi hie⟩
  have h4 := isRng_at h2 hsi hie
  simp only [ho, Bool.and_eq_true, Option.isNone_iff_eq_none] at h4
  refine ⟨h4.1, fun j oj t hsj hje hoj ht => ?_⟩
  have h5 := isRng_at h4.2 hsj hje
  simp only [hoj, ht, Bool.and_eq_true, Bool.or_eq_true, Nat.beq_eq, Bool.not_eq_true', Nat.blt_eq] at h5
  obtain ⟨h6, h7⟩ := h5
  refine ⟨?_, fun hm => ?_⟩
  · rcases h6 with h6 | h6
    · exact .inl h6
    · right; intro q; rw [q] at h6; simp at h6
  · rcases h7 with ((h7 | h7) | h7) | h7
    · rw [any_mem.2 hm] at h7; cases h7
    · exact .inl h7
    · exact .inr (.inl h7)
    · exact .inr (.inr h7)

variable {Q : Exit → FrA → AH → Prop}

/-- What has come is closed. -/
theorem ad_sound {l : List Oper} {D : List Nat} (hD : tabD l [] = D) (hdn : downB l = true) : ∀ (p : List Seg) (s : Nat) (fr : FrA) (H : AH), s ≤ l.length → adB l p s = true → AD T N l.toArray D (Q .normal) p s (l.drop s) fr H →
    ∀ (listed : Array Bool) (B : Nat) (G : Gh) (w : World) (a : Act) (Q' : Exit → Act → World → Prop), listed.size = l.length → (∀ j, j < l.length → listed.getD j false = Nat.blt j s) → Inv T B G H w → RelF T N G fr a →
      (∀ e a' w', Post T N B G w Q e a' w' → Q' e a' w') → wpAny T.P .any l.toArray Q' (l.length - s) listed a w := by
  have hDa : ∀ j i, isAhead D j i = aheadT l j i := fun j i => by unfold isAhead aheadT; rw [hD]
  have hdown : ∀ i o, l[i]? = some o → ∀ e ∈ o.after, Region.binds .any e = true → e.on < i := by
    intro i o ho e he hb
    have := isRng_at hdn (Nat.zero_le i) (List.getElem?_eq_some_iff.1 ho).1
    simp only [ho] at this
    have h3 := (Array.all_eq_true_iff_forall_mem.1 this) e he
    rw [hb] at h3
    simpa using h3
  -- a state in which just the first s have come, is closed
  have hclS : ∀ (listed : Array Bool) (s : Nat), (∀ j, j < l.length → listed.getD j false = Nat.blt j s) → closedS l fun j => listed.getD j false := by
    intro listed s hl j oj hj hS e he hb
    have hjl := (List.getElem?_eq_some_iff.1 hj).1
    have hlt := hdown j oj hj e he hb
    simp only at hS ⊢
    rw [hl j hjl] at hS
    rw [hl e.on (by omega)]
    simp only [Nat.blt_eq] at hS ⊢
    omega
  have hget : ∀ (listed : Array Bool) (i j : Nat), i < listed.size → (listed.setIfInBounds i true).getD j false = setS (fun j => listed.getD j false) i j := by
    intro listed i j hi
    unfold setS
    by_cases e : j = i
    · subst e; simp [hi]
    · rw [getD_set_ne false (Ne.symm e)]
      have : Nat.beq j i = false := by rw [← Bool.not_eq_true]; intro q; exact e (Nat.eq_of_beq_eq_true q)
      simp [this]
  intro p
  induction p with
  | nil =>
    intro s fr H hsl hB h listed B G w a Q' hsz hl hi hf hq
    obtain ⟨h0, hK⟩ := h
    have hs : s = l.length := by have := congrArg List.length h0; simp at this; omega
    subst hs
    rw [Nat.sub_self]
    refine ⟨?_, hq _ _ _ ⟨fr, H, G, hK, hf, hi, .refl _, .refl _ _⟩⟩
    rw [List.eq_nil_iff_forall_not_mem]
    intro j hj
    obtain ⟨h1, o, ho, _⟩ := mem_ready.1 hj
    have hjl : j < l.length := (Array.getElem?_eq_some_iff.1 ho).1
    have h2 := getD_both h1
    rw [hl j hjl] at h2
    have : Nat.blt j l.length = true := by simpa using hjl
    rw [this] at h2; cases h2
  | cons sg p ih =>
    intro s fr H hsl hB h listed B G w a Q' hsz hl hi hf hq
    cases sg with
    | bar =>
      obtain ⟨hb1, hb2⟩ := adB_bar hB
      cases hrest : l.drop s with
      | nil => rw [hrest] at h; exact h.elim
      | cons o rest =>
        rw [hrest] at h
        have hslt : s < l.length := by have := congrArg List.length hrest; simp at this; omega
        have ho : l[s]? = some o := by have : (l.drop s)[0]? = some o := by rw [hrest]; rfl
                                       rw [List.getElem?_drop] at this; simpa using this
        have hrest' : rest = l.drop (s + 1) := by have := congrArg (List.drop 1) hrest; rw [List.drop_drop] at this; exact this.symm
        obtain ⟨hd, h⟩ := h
        rw [show l.length - s = (l.length - (s + 1)) + 1 by omega]
        have hready : ∀ i, i ∈ Region.ready .any l.toArray listed → i = s := by
          intro i hr
          obtain ⟨hun, oi, hoi, hdeps⟩ := mem_ready.1 hr
          have hoi' : l[i]? = some oi := by simpa using hoi
          have hil := (List.getElem?_eq_some_iff.1 hoi').1
          have hun' := getD_both hun
          rw [hl i hil] at hun'
          have hsi : ¬ i < s := by intro q; rw [← Nat.blt_eq] at q; rw [q] at hun'; cases hun'
          rcases Nat.lt_or_ge s i with q | q
          · have := ahead_closed (hclS listed s hl) i s oi hoi' hdeps (isRng_at hb1 (by omega) hil)
            try simp only at this
            rw [hl s hslt, Nat.blt_eq] at this
            omega
          · omega
        refine ⟨fun h0 => ?_, fun i hr => ?_⟩
        · have : s ∈ Region.ready .any l.toArray listed := by
            refine mem_ready.2 ⟨getD_in (by omega) (by rw [hl s hslt, ← Bool.not_eq_true, Nat.blt_eq]; omega), o, by simpa using ho, fun e he hb => ?_⟩
            have := hdown s o ho e he hb
            rw [hl e.on (by omega)]; simpa using this
          rw [h0] at this; cases this
        · obtain rfl := hready i hr
          have hl' : ∀ j, j < l.length → (listed.setIfInBounds i true).getD j false = Nat.blt j (i + 1) := by
            intro j hj
            rw [hget listed i j (by omega)]
            unfold setS
            simp only
            rw [hl j hj, Bool.eq_iff_iff]
            simp only [Bool.or_eq_true, Nat.blt_eq, Nat.beq_eq]
            omega
          unfold wpOp
          simp only [show l.toArray[i]? = some o from by simpa using ho]
          split at h
          · rename_i e
            rw [if_pos (aw_sound hf e)]
            refine .inl (h B G w a _ _ hi hf fun r v H' G' w' hk hrel hi' hle hbel => ?_)
            exact ih (i + 1) _ H' hslt hb2 (hrest' ▸ hk) _ B G' w' _ Q' (by simpa using hsz) hl' hi' ((hf.mono hle).put hd hrel) fun e a' w2 hp => hq e a' w2 (Post.trans hle hbel hp)
          · rename_i e
            rw [if_neg (by rw [aw_sound hf e]; simp)]
            exact ih (i + 1) _ H hslt hb2 (hrest' ▸ h) _ B G w _ Q' (by simpa using hsz) hl' hi (hf.put hd (x := .tup []) ⟨[], rfl, rfl⟩) hq
          · exact h.elim
    | op n =>
      obtain ⟨hb1, hb2⟩ := adB_op hB
      obtain ⟨hel, huse, hbeh⟩ := openB_use hb1
      obtain ⟨vals, Hc, kd, P, hK⟩ := ado_vals _ _ _ _ _ h
      have hsegl : ((l.drop s).take n).length = n := by simp; omega
      have hseg : ∀ i, i < n → ((l.drop s).take n)[i]? = l[s + i]? := fun i hi => by rw [List.getElem?_take_of_lt hi, List.getElem?_drop]
      generalize hsq : (l.drop s).take n = seg at *
      have hu : ownU seg := by
        intro i j oi oj t hoi hoj hti htj
        have hin : i < n := by have := (List.getElem?_eq_some_iff.1 hoi).1; omega
        have hjn : j < n := by have := (List.getElem?_eq_some_iff.1 hoj).1; omega
        rw [hseg i hin] at hoi
        rw [hseg j hjn] at hoj
        have := ((huse (s + i) oi (by omega) (by omega) hoi).2 (s + j) oj t (by omega) (by omega) hoj htj).1
        rcases this with q | q
        · omega
        · exact absurd hti q
      rw [List.drop_drop] at hK
      rw [hsegl] at hK
      -- any order within the piece
      have key : ∀ (U : List Nat) (listed : Array Bool) (B : Nat) (G : Gh) (w : World) (a : Act) (Q' : Exit → Act → World → Prop), listed.size = l.length → U.Nodup → (∀ j, j ∈ U ↔ s ≤ j ∧ j < s + n ∧ listed.getD j false = false) →
          (∀ j, j < s → listed.getD j false = true) → (∀ j, s + n ≤ j → j < l.length → listed.getD j false = false) → closedS l (fun j => listed.getD j false) → Inv T B G (Hc (lastW kd (fun j => listed.getD (s + j) false) n)) w → RelF T N G (frS seg vals fr fun j => listed.getD (s + j) false) a →
          (∀ e a' w', Post T N B G w Q e a' w' → Q' e a' w') → wpAny T.P .any l.toArray Q' (l.length - (s + n) + U.length) listed a w := by
        intro U
        generalize hU : U.length = f
        induction f generalizing U with
        | zero =>
          intro listed B G w a Q' hsz hnd hmem hlo hhi hcl hi hf hq'
          have hU0 : U = [] := List.eq_nil_of_length_eq_zero hU
          have hall : ∀ j, j < n → listed.getD (s + j) false = true := by
            intro j hj
            cases hlj : listed.getD (s + j) false with
            | true => rfl
            | false => have := (hmem (s + j)).2 ⟨by omega, by omega, hlj⟩; rw [hU0] at this; cases this
          rw [Nat.add_zero]
          refine ih (s + n) _ _ hel hb2 hK listed B G w a Q' hsz (fun j hj => ?_) ?_ ?_ hq'
          · rw [Bool.eq_iff_iff, Nat.blt_eq]
            constructor
            · intro q
              rcases Nat.lt_or_ge j (s + n) with r | r
              · exact r
              · rw [hhi j r hj] at q; cases q
            · intro q
              rcases Nat.lt_or_ge j s with r | r
              · exact hlo j r
              · have := hall (j - s) (by omega); rwa [show s + (j - s) = j by omega] at this
          · have hl1 := lastW_le (kd := kd) (S := fun j => listed.getD (s + j) false) n
            have := heap_quiet P (n - lastW kd (fun j => listed.getD (s + j) false) n) (lastW kd (fun j => listed.getD (s + j) false) n) (by omega) (fun j h1 h2 => by
              cases hk : (kd j).1 with
              | false => rfl
              | true =>
                have := lastW_none n j h1 (by omega) hk
                try simp only at this
                rw [hall j (by omega)] at this; cases this)
            rw [show lastW kd (fun j => listed.getD (s + j) false) n + (n - lastW kd (fun j => listed.getD (s + j) false) n) = n by omega] at this
            rw [this]; exact hi
          · rw [frC_frS hu n (by omega)]
            rw [← frS_congr (S := fun j => listed.getD (s + j) false) (fun j hj => by rw [hall j (by omega)]; symm; simpa using (by omega : j < n))]
            exact hf
        | succ f ihf =>
          intro listed B G w a Q' hsz hnd hmem hlo hhi hcl hi hf hq'
          rw [← Nat.add_assoc]
          have hrd : ∀ j, j ∈ U → ∃ i, i ∈ Region.ready .any l.toArray listed := by
            intro j
            induction j using Nat.strongRecOn with
            | _ j ihj =>
              intro hj
              obtain ⟨hsj, hjl, hun⟩ := (hmem j).1 hj
              have ho : l[j]? = some l[j] := List.getElem?_eq_getElem (by omega)
              by_cases hdeps : ∀ e ∈ l[j].after, Region.binds .any e = true → listed.getD e.on false = true
              · exact ⟨j, mem_ready.2 ⟨getD_in (by omega) hun, l[j], by simp, hdeps⟩⟩
              · simp only [Classical.not_forall] at hdeps
                obtain ⟨e, he, hb, hne⟩ := hdeps
                have hlt := hdown j _ ho e he hb
                have hes : s ≤ e.on := by
                  rcases Nat.lt_or_ge e.on s with q | q
                  · exact absurd (hlo _ q) hne
                  · exact q
                exact ihj e.on hlt ((hmem _).2 ⟨hes, by omega, by simpa using hne⟩)
          refine ⟨fun h0 => ?_, fun i hr => ?_⟩
          · obtain ⟨j, hj⟩ : ∃ j, j ∈ U := by
              cases U with
              | nil => cases hU
              | cons j U => exact ⟨j, by simp⟩
            obtain ⟨i, hi'⟩ := hrd j hj
            rw [h0] at hi'; cases hi'
          · obtain ⟨hun, o, ho, hdeps⟩ := mem_ready.1 hr
            have ho' : l[i]? = some o := by simpa using ho
            have hil : i < l.length := (List.getElem?_eq_some_iff.1 ho').1
            have hun' := getD_both hun
            -- it lies in the piece
            have hsi : s ≤ i := by
              rcases Nat.lt_or_ge i s with q | q
              · rw [hlo i q] at hun'; cases hun'
              · exact q
            have hie : i < s + n := by
              rcases Nat.lt_or_ge i (s + n) with q | q
              · exact q
              · obtain ⟨j, hj⟩ : ∃ j, j ∈ U := by
                  cases U with
                  | nil => cases hU
                  | cons j U => exact ⟨j, by simp⟩
                obtain ⟨r1, r2, r3⟩ := (hmem j).1 hj
                have := ahead_closed hcl i j o ho' hdeps (hbeh i j q hil r1 r2)
                try simp only at this
                rw [r3] at this; cases this
            obtain ⟨k, rfl⟩ : ∃ k, i = s + k := ⟨i - s, by omega⟩
            have hkn : k < n := by omega
            have hok : seg[k]? = some o := by rw [hseg k hkn]; exact ho'
            obtain ⟨hg, hrds⟩ := huse (s + k) o (by omega) (by omega) ho'
            have hdok := P.okd k o hok
            have hw : Region.wanted o (yielded l.toArray a.tmps) = true := by unfold Region.wanted; rw [hg]
            have hset : (fun j => (listed.setIfInBounds (s + k) true).getD (s + j) false) = setS (fun j => listed.getD (s + j) false) k := by
              funext j
              rw [hget listed (s + k) (s + j) (by omega)]
              unfold setS
              simp only
              congr 1
              rw [Bool.eq_iff_iff, Nat.beq_eq, Nat.beq_eq]
              omega
            have hmi : s + k ∈ U := (hmem _).2 ⟨hsi, hie, hun'⟩
            have hwk : Wkr (frO (rdO o) (frC seg vals fr k)) (frS seg vals fr fun j => listed.getD (s + j) false) := by
              intro t
              unfold frO
              cases htm : (rdO o).any (fun x => Nat.beq x t) with
              | false => exact .inl rfl
              | true =>
                right
                simp only [cond_true]
                rw [frC_frS hu k (by omega)]
                unfold frS
                split
                · rename_i j hj
                  show (if listed.getD (s + j) false = true then vals.getD j AV.u else fr t) = if Nat.blt j k = true then vals.getD j AV.u else fr t
                  obtain ⟨oj, hoj, hdj⟩ := ownT_dst hj
                  have hjn : j < n := by have := (List.getElem?_eq_some_iff.1 hoj).1; omega
                  rw [hseg j hjn] at hoj
                  have hcase := (hrds (s + j) oj t (by omega) (by omega) hoj hdj).2 (any_mem.1 htm)
                  rcases hcase with ⟨q1, q2⟩ | ⟨q1, q2⟩ | q1
                  · have := ahead_closed hcl (s + k) (s + j) o ho' hdeps q2
                    try simp only at this
                    rw [this, show Nat.blt j k = true from by simpa using (by omega : j < k)]
                  · have hnj : listed.getD (s + j) false = false := by
                      cases hh : listed.getD (s + j) false with
                      | false => rfl
                      | true =>
                        have := ahead_closed hcl (s + j) (s + k) oj hoj (fun e he hb => hcl (s + j) oj hoj hh e he hb) q2
                        try simp only at this
                        rw [hun'] at this; cases this
                    rw [hnj, show Nat.blt j k = false from by rw [← Bool.not_eq_true, Nat.blt_eq]; omega]
                  · have : j = k := by omega
                    subst this
                    rw [hun', show Nat.blt j j = false from by rw [← Bool.not_eq_true, Nat.blt_eq]; omega]
                · rfl
            -- what has come, and what has not
            have hnotL : ∀ j, k < j → j < n → isAhead D (s + j) (s + k) = true → listed.getD (s + j) false = false := by
              intro j h1 h2 ha
              cases hh : listed.getD (s + j) false with
              | false => rfl
              | true =>
                have hoj : l[s + j]? = some l[s + j] := List.getElem?_eq_getElem (by omega)
                have := ahead_closed hcl (s + j) (s + k) _ hoj (fun e he hb => hcl (s + j) _ hoj hh e he hb) (by rw [← hDa]; exact ha)
                try simp only at this
                rw [hun'] at this; cases this
            have hyesE : ∀ j, isAhead D (s + k) (s + j) = true → listed.getD (s + j) false = true := fun j ha =>
              ahead_closed hcl (s + k) (s + j) o ho' hdeps (by rw [← hDa]; exact ha)
            have hl1 := lastW_le (kd := kd) (S := fun j => listed.getD (s + j) false) n
            have hstep : AOp T N o (frS seg vals fr fun j => listed.getD (s + j) false) (Hc (lastW kd (fun j => listed.getD (s + j) false) n)) fun r H' => r = vals.getD k .u ∧ H' = Hc (lastW kd (setS (fun j => listed.getD (s + j) false) k) n) := by
              cases hkd : (kd k).1 with
              | false =>
                obtain ⟨har, _⟩ := P.q k o hok hkd
                have e1 : lastW kd (setS (fun j => listed.getD (s + j) false) k) n = lastW kd (fun j => listed.getD (s + j) false) n := by
                  refine lastW_congr n fun j hj hk => setS_ne ?_
                  rw [← Bool.not_eq_true]; intro q2
                  have := Nat.eq_of_beq_eq_true q2
                  subst this
                  rw [hkd] at hk; cases hk
                rw [e1]
                refine aop_wk hwk ((har _ fun b hb => ?_))
                generalize hm : lastW kd (fun j => listed.getD (s + j) false) n = m at *
                rcases Nat.le_total m k with q | q
                · have := heap_same P (rb := (kd k).2) (k - m) m (by omega) (fun j h1 h2 hkj => by
                    have hnl : listed.getD (s + j) false = false := lastW_none n j (by rw [hm]; exact h1) (by omega) hkj
                    rcases P.ord k j (by omega) (by omega) with r | r | r
                    · rw [hyesE j r] at hnl; cases hnl
                    · rcases r.2 with r2 | r2
                      · rw [hkj] at r2; cases r2
                      · exact r2
                    · rw [hkd] at r; cases r.1) b hb
                  rw [show m + (k - m) = k by omega] at this
                  exact this.symm
                · rcases Nat.lt_or_ge k m with q' | q'
                  · obtain ⟨x, hx1, hx2, hx3, hx4⟩ := lastW_some n (by rw [hm]; omega)
                    rw [hm] at hx1
                    have := heap_same P (rb := (kd k).2) (m - k) k (by omega) (fun j h1 h2 hkj => by
                      have hjk : k ≠ j := fun e => by subst e; rw [hkd] at hkj; cases hkj
                      have hyl : listed.getD (s + j) false = true := by
                        rcases Nat.lt_or_ge j x with y | y
                        · have hox : l[s + x]? = some l[s + x] := List.getElem?_eq_getElem (by omega)
                          rcases P.ord x j (by omega) y with r | r | r
                          · exact ahead_closed hcl (s + x) (s + j) _ hox (fun e he hb => hcl (s + x) _ hox hx4 e he hb) (by rw [← hDa]; exact r)
                          · rw [hx3] at r; cases r.1
                          · rw [hkj] at r; cases r.2.1
                        · have : j = x := by omega
                          subst this; exact hx4
                      rcases P.ord j k (by omega) (by omega) with r | r | r
                      · rw [hnotL j (by omega) (by omega) r] at hyl; cases hyl
                      · rw [hkj] at r; cases r.1
                      · exact r.2.2) b hb
                    rw [show k + (m - k) = m by omega] at this
                    exact this
                  · have : m = k := by omega
                    rw [this]
              | true =>
                obtain ⟨haw, _⟩ := P.w k o hok hkd
                have hlater : ∀ j, k < j → j < n → (kd j).1 = true → listed.getD (s + j) false = false := by
                  intro j h1 h2 hkj
                  rcases P.ord j k (by omega) h1 with r | r | r
                  · exact hnotL j h1 h2 r
                  · rw [hkj] at r; cases r.1
                  · rw [hkd] at r; cases r.2.1
                have e1 : lastW kd (setS (fun j => listed.getD (s + j) false) k) n = k + 1 := by
                  refine lastW_at hkd setS_same n hkn fun j h1 h2 hkj => ?_
                  rw [setS_ne (by rw [← Bool.not_eq_true]; intro q2; have := Nat.eq_of_beq_eq_true q2; omega)]
                  exact hlater j h1 h2 hkj
                have hmk : lastW kd (fun j => listed.getD (s + j) false) n ≤ k := by
                  rcases Nat.lt_or_ge k (lastW kd (fun j => listed.getD (s + j) false) n) with q | q
                  · obtain ⟨x, hx1, hx2, hx3, hx4⟩ := lastW_some (kd := kd) (S := fun j => listed.getD (s + j) false) n (by omega)
                    rcases Nat.lt_or_ge k x with y | y
                    · have := hlater x y hx2 hx3
                      try simp only at hx4
                      rw [hx4] at this; cases this
                    · have : x = k := by omega
                      subst this
                      try simp only at hx4
                      rw [hun'] at hx4; cases hx4
                  · exact q
                have e2 : Hc (lastW kd (fun j => listed.getD (s + j) false) n) = Hc k := by
                  have := heap_quiet P (k - lastW kd (fun j => listed.getD (s + j) false) n) (lastW kd (fun j => listed.getD (s + j) false) n) (by omega) (fun j h1 h2 => by
                    cases hkj : (kd j).1 with
                    | false => rfl
                    | true =>
                      have hnl := lastW_none n j h1 (by omega) hkj
                      try simp only at hnl
                      rcases P.ord k j (by omega) (by omega) with r | r | r
                      · rw [hyesE j r] at hnl; cases hnl
                      · rw [hkd] at r; cases r.1
                      · rw [hkj] at r; cases r.2.1)
                  rw [show lastW kd (fun j => listed.getD (s + j) false) n + (k - lastW kd (fun j => listed.getD (s + j) false) n) = k by omega] at this
                  exact this.symm
                rw [e1, e2]
                exact aop_wk hwk haw
            unfold wpOp
            simp only [ho, hw, if_true]
            refine .inl (hstep B G w a _ _ hi hf fun r v H' G' w' hk hrel hi' hle hbel => ?_)
            obtain ⟨rfl, rfl⟩ := hk
            refine ihf (U.erase (s + k)) (by rw [List.length_erase_of_mem hmi]; omega) _ B G' w' _ Q' (by simpa using hsz) (hnd.erase _) (fun j => ?_) (fun j hj => ?_) (fun j hj hjl => ?_) ?_ ?_ ?_ fun e a' w2 hp => hq' e a' w2 (Post.trans hle hbel hp)
            · rw [hnd.mem_erase_iff, hmem j, hget listed (s + k) j (by omega)]
              unfold setS
              by_cases e : j = s + k
              · subst e; simp
              · have : Nat.beq j (s + k) = false := by rw [← Bool.not_eq_true]; intro q; exact e (Nat.eq_of_beq_eq_true q)
                simp [this, e]
            · rw [hget listed (s + k) j (by omega)]
              unfold setS
              simp only
              rw [hlo j hj]; rfl
            · rw [hget listed (s + k) j (by omega)]
              have : Nat.beq j (s + k) = false := by rw [← Bool.not_eq_true]; intro q; have := Nat.eq_of_beq_eq_true q; omega
              rw [setS_ne this]
              exact hhi j hj hjl
            · intro j oj hj hSj e he hb
              simp only at hSj ⊢
              rw [hget listed (s + k) _ (by omega)] at hSj ⊢
              unfold setS at hSj ⊢
              simp only [Bool.or_eq_true] at hSj ⊢
              rcases hSj with q | q
              · exact .inl (hcl j oj hj q e he hb)
              · have hji := Nat.eq_of_beq_eq_true q
                subst hji
                rw [ho'] at hj
                obtain rfl := Option.some.inj hj
                exact .inl (hdeps e he hb)
            · rw [hset]; exact hi'
            · rw [hset, frS_upd hu hok]
              exact (hf.mono hle).put hdok hrel
      have hfun : (fun j => listed.getD (s + j) false) = fun j => if s + j < l.length then false else listed.getD (s + j) false := by
        funext j
        split
        · rename_i hj
          rw [hl _ hj, ← Bool.not_eq_true, Nat.blt_eq]; omega
        · rfl
      have := key (List.range' s n) listed B G w a Q' hsz List.nodup_range' (fun j => by
          rw [List.mem_range'_1]
          constructor
          · rintro ⟨h1, h2⟩
            exact ⟨h1, h2, by rw [hl _ (by omega), ← Bool.not_eq_true, Nat.blt_eq]; omega⟩
          · rintro ⟨h1, h2, _⟩
            exact ⟨h1, h2⟩) (fun j hj => by rw [hl j (by omega)]; simpa using hj) (fun j hj hjl => by rw [hl j hjl, ← Bool.not_eq_true, Nat.blt_eq]; omega) (hclS listed s hl)
          (by
            have hnl : ∀ j, j < n → listed.getD (s + j) false = false := fun j hj => by rw [hl _ (by omega), ← Bool.not_eq_true, Nat.blt_eq]; omega
            have h0 : lastW kd (fun j => listed.getD (s + j) false) n = 0 := by
              apply Classical.byContradiction
              intro hne
              obtain ⟨x, _, hx2, _, hx4⟩ := lastW_some n hne
              try simp only at hx4
              rw [hnl x hx2] at hx4; cases hx4
            rw [h0, P.h0]; exact hi)
          (by
            have : frS seg vals fr (fun j => listed.getD (s + j) false) = fr := by
              rw [frS_congr (S' := fun _ => false) (fun j hj => by rw [hl _ (by omega), ← Bool.not_eq_true, Nat.blt_eq]; omega), frS_none]
            rw [this]; exact hf) hq
      rw [List.length_range', show l.length - (s + n) + n = l.length - s by omega] at this
      exact this

/-- A region whose order is open, by its pieces. -/
theorem awp_open {fr : FrA} {H : AH} {id : Nat} {l : List Oper} (p : List Seg) {D : List Nat} (hD : tabD l [] = D) (hdn : downB l = true) (hB : adB l p 0 = true) (h : AD T N l.toArray D (Q .normal) p 0 l fr H) : AWp T N (.region id l.toArray true) Q fr H := by
  refine fun B G w a hi hf => wp_region_any T.mix ?_
  have hb : Below w.heap.size w w.drew := (Below.refl _ w).drew
  have hz : ∀ j, j < l.length → (Array.replicate l.toArray.size false).getD j false = Nat.blt j 0 := fun j _ => by rw [getD_replicate_false]; cases j <;> rfl
  have := ad_sound hD hdn p 0 fr H (Nat.zero_le _) hB h (Array.replicate l.toArray.size false) B G w.drew a (fun e a' w' => Post T N B G w Q e a' w') (by simp) hz (hi.below hb) hf (fun e a' w' hp => Post.trans (.refl _) (hb.mono hi.hB) hp)
  simpa using this
theorem wp_open {fr : FrA} {H : AH} {id : Nat} {l : List Oper} {y : Code} (p : List Seg) {D : List Nat} (hD : tabD l [] = D) (hdn : downB l = true) (hB : adB l p 0 = true) (h : AD T N l.toArray D (AWp T N y Q) p 0 l fr H) : AWp T N (.seq (.region id l.toArray true) y) Q fr H :=
  awp_seq (awp_open p hD hdn hB h)
end
end Go.Proofs.Ytlclgpiabjlpbaa.Am
