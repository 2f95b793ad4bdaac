/- Expressions joined: nodes shifted by so many; what a joined expression is, by its parts. No program. -/
import Derived.Test.YtlclgpiabjlpbaaGreatLa
import Derived.Test.YtlclgpiabjlpbaaGreatOe
namespace Go.Proofs.YtlclgpiabjlpbaaGreat.Am
open Go.RowKit
set_option linter.unusedVariables false
set_option linter.unusedSimpArgs false

def shiftN (p : Nat) (n : Nod) : Nod := { n with a := if 6 ≤ n.op then IntKind.i64.wrap (n.a + p) else n.a, b := if 8 ≤ n.op ∧ n.op ≤ 22 then IntKind.i64.wrap (n.b + p) else n.b }
def shiftL (p : Nat) (ns : List Nod) : List Nod := ns.map (shiftN p)
def opN (op a b : Int) : Nod := ⟨op, zeroVal, ⟨0, noB⟩, a, b⟩
/-- Two under an operator; one under an operator. -/
def bothN (a b : List Nod) (op : Int) : List Nod := a ++ shiftL a.length b ++ [opN op ((a.length : Int) - 1) (((a.length + b.length : Nat) : Int) - 1)]
def underN (a : List Nod) (op : Int) : List Nod := a ++ [opN op ((a.length : Int) - 1) 0]
def truthN (t : Bool) : List Nod := [⟨1, truthV t, ⟨0, noB⟩, 0, 0⟩]

theorem shapeL_app : ∀ {xs ys : List Nod} {fs ds : List Nat}, shapeL (xs ++ ys) fs ds = match shapeL xs fs ds with
    | some (f, d) => shapeL ys f d
    | none => none
  | [], ys, fs, ds => rfl
  | x :: xs, ys, fs, ds => by
    simp only [List.cons_append, shapeL]
    split
    · exact shapeL_app
    · rfl
/-- What lies inside another's span begins inside it. -/
theorem inside {ns : List Nod} {fs ds : List Nat} (h : ShInv ns (fs, ds)) : ∀ (i f : Nat), fs[i]? = some f → ∀ (j g : Nat), f ≤ j → j ≤ i → fs[j]? = some g → f ≤ g := by
  intro i
  induction i using Nat.strongRecOn with
  | ind i ih =>
    intro f hf j g hj hji hg
    have hl : fs.length = ds.length := h.hl
    have hil : i < fs.length := (List.getElem?_eq_some_iff.1 hf).1
    rcases Nat.lt_or_eq_of_le hji with hlt | rfl
    · obtain ⟨nd, _, _, hc⟩ := h.cases hf (getD_some (l := ds) (j := i) (by omega))
      rcases hc with ⟨_, q, _⟩ | ⟨_, q1, d1, q2, _⟩ | ⟨_, q1, f1, d1, d2, q2, q3, q4, q5, _⟩
      · omega
      · exact ih (i - 1) (by omega) f q2 j g hj (by omega) hg
      · by_cases hjf : f1 ≤ j
        · have e1 := ih (i - 1) (by omega) f1 q2 j g hjf (by omega) hg
          have e2 := h.hf _ _ q5
          omega
        · exact ih (f1 - 1) (by omega) f q5 j g hj (by omega) hg
    · rw [hf] at hg; cases hg; exact Nat.le_refl _
theorem shift_op {p : Nat} {n : Nod} : (shiftN p n).op = n.op ∧ (shiftN p n).value = n.value ∧ (shiftN p n).ref = n.ref := ⟨rfl, rfl, rfl⟩
theorem plain_shift {p : Nat} {n : Nod} : plainOk (shiftN p n) = plainOk n := rfl
theorem op_of {n : Int} : (operands n = 0 → n ≤ 5) ∧ (operands n = 1 → 6 ≤ n ∧ ¬ (8 ≤ n ∧ n ≤ 22)) ∧ (operands n = 2 → 6 ≤ n ∧ (8 ≤ n ∧ n ≤ 22)) := by
  unfold operands
  refine ⟨?_, ?_, ?_⟩ <;> (repeat' split) <;> simp <;> omega
theorem getD_app {l r : List Nat} {j : Nat} : (l ++ r).getD j 0 = if j < l.length then l.getD j 0 else r.getD (j - l.length) 0 := by
  simp only [List.getD_eq_getElem?_getD]
  split
  · rename_i h; rw [List.getElem?_append_left h]
  · rename_i h; rw [List.getElem?_append_right (by omega)]
theorem getD_add {l : List Nat} {j p : Nat} (h : j < l.length) : (l.map (· + p)).getD j 0 = l.getD j 0 + p := by
  simp only [List.getD_eq_getElem?_getD, List.getElem?_map, List.getElem?_eq_getElem h]; rfl
theorem wrap_back {a : Int} {p k : Nat} (ha : inI a) (hk : k ≤ 200) (hp : p ≤ 200) : IntKind.i64.wrap (a + p) = (k : Int) - 1 ↔ a + p = (k : Int) - 1 := by
  unfold inI at ha
  rw [IntKind.wrap_i64]
  omega
/-- A shifted node's shape is the node's, shifted. -/
theorem step_shift {p : Nat} {fP dP fs ds : List Nat} {n : Nod} (hP : fP.length = p) (hD : dP.length = p) (hl : fs.length = ds.length) (hfp : ∀ j, fP.getD j 0 ≤ j) (hk : p + fs.length ≤ 100) (ha : inI n.a) (hb : inI n.b) (hf1 : ∀ j, fs.getD j 0 ≤ j) :
    (∀ f d, shapeStep fs ds n = some (f, d) → shapeStep (fP ++ fs.map (· + p)) (dP ++ ds) (shiftN p n) = some (f + p, d)) ∧
    (∀ f d, shapeStep (fP ++ fs.map (· + p)) (dP ++ ds) (shiftN p n) = some (f, d) → p ≤ f → ∃ g, f = g + p ∧ shapeStep fs ds n = some (g, d)) := by
  have hlen : (fP ++ fs.map (· + p)).length = p + fs.length := by simp [hP]
  unfold shapeStep
  rw [hlen, plain_shift, (shift_op (p := p) (n := n)).1]
  by_cases hp : plainOk n = false
  · simp [hp]
  rw [if_neg hp, if_neg hp]
  by_cases o0 : operands n.op = 0
  · have := op_of.1 o0
    rw [if_pos o0, if_pos o0]
    have e1 : (shiftN p n).a = n.a := by show (if _ then _ else _) = _; rw [if_neg (by omega)]
    have e2 : (shiftN p n).b = n.b := by show (if _ then _ else _) = _; rw [if_neg (by omega)]
    rw [e1, e2]
    refine ⟨fun f d h => ?_, fun f d h hpf => ?_⟩
    · split at h <;> simp_all; omega
    · split at h
      · rename_i q; rw [if_pos q]; cases h; exact ⟨fs.length, by omega, rfl⟩
      · cases h
  rw [if_neg o0, if_neg o0]
  by_cases o1 : operands n.op = 1
  · have := op_of.2.1 o1
    rw [if_pos o1, if_pos o1]
    have e1 : (shiftN p n).a = IntKind.i64.wrap (n.a + p) := by show (if _ then _ else _) = _; rw [if_pos (by omega)]
    have e2 : (shiftN p n).b = n.b := by show (if _ then _ else _) = _; rw [if_neg (by omega)]
    rw [e1, e2]
    have hw := wrap_back (k := p + fs.length) (p := p) ha (by omega) (by omega)
    by_cases h0 : fs.length = 0
    · refine ⟨fun f d h => ?_, fun f d h hpf => ?_⟩
      · rw [if_neg (by omega)] at h; cases h
      · split at h
        · simp only [Option.some.injEq, Prod.mk.injEq] at h
          rw [getD_app, if_pos (by omega)] at h
          have := hfp (p + fs.length - 1)
          omega
        · cases h
    · have c1 : (fP ++ fs.map (· + p)).getD (p + fs.length - 1) 0 = fs.getD (fs.length - 1) 0 + p := by
        rw [getD_app, if_neg (by omega), hP, show p + fs.length - 1 - p = fs.length - 1 by omega, getD_add (by omega)]
      have c2 : (dP ++ ds).getD (p + fs.length - 1) 0 = ds.getD (fs.length - 1) 0 := by
        rw [getD_app, if_neg (by omega), hD, show p + fs.length - 1 - p = fs.length - 1 by omega]
      rw [c1, c2]
      refine ⟨fun f d h => ?_, fun f d h hpf => ?_⟩
      · split at h
        · rename_i q; cases h; rw [if_pos ⟨by omega, hw.2 (by omega), q.2.2⟩]
        · cases h
      · split at h
        · rename_i q; have := hw.1 q.2.1; cases h; exact ⟨_, rfl, by rw [if_pos ⟨by omega, by omega, q.2.2⟩]⟩
        · cases h
  rw [if_neg o1, if_neg o1]
  by_cases o2 : operands n.op = 2
  · have := op_of.2.2 o2
    rw [if_pos o2, if_pos o2]
    have e1 : (shiftN p n).a = IntKind.i64.wrap (n.a + p) := by show (if _ then _ else _) = _; rw [if_pos (by omega)]
    have e2 : (shiftN p n).b = IntKind.i64.wrap (n.b + p) := by show (if _ then _ else _) = _; rw [if_pos (by omega)]
    rw [e1, e2]
    have hw2 := wrap_back (k := p + fs.length) (p := p) hb (by omega) (by omega)
    by_cases h0 : fs.length = 0
    · refine ⟨fun f d h => ?_, fun f d h hpf => ?_⟩
      · rw [if_neg (by omega)] at h; cases h
      · split at h
        · simp only [Option.some.injEq, Prod.mk.injEq] at h
          have q1 := hfp (p + fs.length - 1)
          rw [show (fP ++ fs.map (· + p)).getD (p + fs.length - 1) 0 = fP.getD (p + fs.length - 1) 0 by rw [getD_app, if_pos (by omega)]] at h
          have q2 := hfp (fP.getD (p + fs.length - 1) 0 - 1)
          rw [getD_app, if_pos (by omega)] at h
          omega
        · cases h
    · have c1 : (fP ++ fs.map (· + p)).getD (p + fs.length - 1) 0 = fs.getD (fs.length - 1) 0 + p := by
        rw [getD_app, if_neg (by omega), hP, show p + fs.length - 1 - p = fs.length - 1 by omega, getD_add (by omega)]
      have c2 : (dP ++ ds).getD (p + fs.length - 1) 0 = ds.getD (fs.length - 1) 0 := by
        rw [getD_app, if_neg (by omega), hD, show p + fs.length - 1 - p = fs.length - 1 by omega]
      rw [c1, c2]
      have hF := hf1 (fs.length - 1)
      generalize fs.getD (fs.length - 1) 0 = F at *
      have hw1 := wrap_back (k := F + p) (p := p) ha (by omega) (by omega)
      by_cases hF0 : F = 0
      · refine ⟨fun f d h => ?_, fun f d h hpf => ?_⟩
        · rw [if_neg (by omega)] at h; cases h
        · split at h
          · rename_i q
            simp only [Option.some.injEq, Prod.mk.injEq] at h
            rw [getD_app, if_pos (by omega)] at h
            have := hfp (F + p - 1)
            omega
          · cases h
      · have c3 : (fP ++ fs.map (· + p)).getD (F + p - 1) 0 = fs.getD (F - 1) 0 + p := by
          rw [getD_app, if_neg (by omega), hP, show F + p - 1 - p = F - 1 by omega, getD_add (by omega)]
        have c4 : (dP ++ ds).getD (F + p - 1) 0 = ds.getD (F - 1) 0 := by
          rw [getD_app, if_neg (by omega), hD, show F + p - 1 - p = F - 1 by omega]
        rw [c3, c4]
        refine ⟨fun f d h => ?_, fun f d h hpf => ?_⟩
        · split at h
          · rename_i q; cases h; rw [if_pos ⟨by omega, by omega, hw1.2 (by omega), hw2.2 (by omega)⟩]
          · cases h
        · split at h
          · rename_i q; have w1 := hw1.1 q.2.2.1; have w2 := hw2.1 q.2.2.2; cases h; exact ⟨_, rfl, by rw [if_pos ⟨by omega, by omega, by omega, by omega⟩]⟩
          · cases h
  · rw [if_neg o2, if_neg o2]
    simp
end Go.Proofs.YtlclgpiabjlpbaaGreat.Am
