/- What expressions read, in plain Lean: cells of attributes; lists in order, each thing once. No program. -/
import Derived.Test.YtlclgpiabjlpbaaSy
namespace Go.Proofs.Ytlclgpiabjlpbaa.Am
open Go.RowKit
set_option linter.unusedVariables false

def cel0 : Cel := ⟨0, noB, noB⟩
def atC (r : Ref) (s o : ByteArray) : Cel := if r.scope = 1 then ⟨1, s, r.name⟩ else if r.scope = 2 then ⟨2, o, r.name⟩ else if r.scope = 3 then ⟨3, noB, r.name⟩ else cel0
/-- The expression that is the tick. -/
def nowN : Nod := ⟨4, ⟨0, 0, noB, false, 0⟩, ⟨0, noB⟩, 0, 0⟩
def loadR : Ref := ⟨3, ⟨#[108, 111, 97, 100]⟩⟩
/-- Which attributes the first so many nodes name, and whether one of them is the tick. -/
def refsK (ns : List Nod) : Nat → List Ref
  | 0 => []
  | k + 1 => match ns[k]? with
    | some n => if n.op = 2 ∨ n.op = 3 then refsK ns k ++ [n.ref] else refsK ns k
    | none => refsK ns k
def tickK (ns : List Nod) : Nat → Bool
  | 0 => false
  | k + 1 => match ns[k]? with
    | some n => tickK ns k || decide (n.op = 4)
    | none => tickK ns k
theorem refsK_yes {ns : List Nod} {k : Nat} {n : Nod} (h : ns[k]? = some n) (hc : n.op = 2 ∨ n.op = 3) : refsK ns (k + 1) = refsK ns k ++ [n.ref] := by simp only [refsK, h]; rw [if_pos hc]
theorem refsK_no {ns : List Nod} {k : Nat} {n : Nod} (h : ns[k]? = some n) (h2 : ¬ n.op = 2) (h3 : ¬ n.op = 3) : refsK ns (k + 1) = refsK ns k := by simp only [refsK, h]; rw [if_neg (by omega)]
theorem tickK_at {ns : List Nod} {k : Nat} {n : Nod} (h : ns[k]? = some n) : tickK ns (k + 1) = (tickK ns k || decide (n.op = 4)) := by simp only [tickK, h]
theorem refsK_len {ns : List Nod} : ∀ k, (refsK ns k).length ≤ k
  | 0 => Nat.le_refl _
  | k + 1 => by
    have := refsK_len (ns := ns) k
    unfold refsK
    split
    · split
      · simp; omega
      · omega
    · omega
def ofAV (r : Bool) (res : List Ref) (t : Bool) : AV := .tup [.l none 58 (bif r then res.map Ref.av else []), .b (r && t)]
def celsK (rs : List Ref) (s o : ByteArray) : Nat → List Cel
  | 0 => []
  | k + 1 => match rs[k]? with
    | some r => if 0 < (atC r s o).scope then celsK rs s o k ++ [atC r s o] else celsK rs s o k
    | none => celsK rs s o k
theorem celsK_yes {rs : List Ref} {s o : ByteArray} {k : Nat} {r : Ref} (h : rs[k]? = some r) (hc : 0 < (atC r s o).scope) : celsK rs s o (k + 1) = celsK rs s o k ++ [atC r s o] := by simp only [celsK, h]; rw [if_pos hc]
theorem celsK_no {rs : List Ref} {s o : ByteArray} {k : Nat} {r : Ref} (h : rs[k]? = some r) (hc : (atC r s o).scope ≤ 0) : celsK rs s o (k + 1) = celsK rs s o k := by simp only [celsK, h]; rw [if_neg (by omega)]
theorem celsK_len {rs : List Ref} {s o : ByteArray} : ∀ k, (celsK rs s o k).length ≤ k
  | 0 => Nat.le_refl _
  | k + 1 => by
    have := celsK_len (rs := rs) (s := s) (o := o) k
    unfold celsK
    split
    · split
      · simp; omega
      · omega
    · omega
/-- Of things in order each once, of the first so many. -/
def ddk {α : Type} [DecidableEq α] (rs : List α) : Nat → List α
  | 0 => []
  | k + 1 => match rs[k]? with
    | some r => if k = 0 ∨ rs[k - 1]? ≠ some r then ddk rs k ++ [r] else ddk rs k
    | none => ddk rs k
def dd {α : Type} [DecidableEq α] (rs : List α) : List α := ddk rs rs.length
theorem ddk_yes {α : Type} [DecidableEq α] {rs : List α} {k : Nat} {r : α} (h : rs[k]? = some r) (hc : k = 0 ∨ rs[k - 1]? ≠ some r) : ddk rs (k + 1) = ddk rs k ++ [r] := by
  simp only [ddk, h]; rw [if_pos hc]
theorem ddk_no {α : Type} [DecidableEq α] {rs : List α} {k : Nat} {r : α} (h : rs[k]? = some r) (hc : ¬ (k = 0 ∨ rs[k - 1]? ≠ some r)) : ddk rs (k + 1) = ddk rs k := by
  simp only [ddk, h]; rw [if_neg hc]
theorem ddk_len {α : Type} [DecidableEq α] {rs : List α} : ∀ k, (ddk rs k).length ≤ k
  | 0 => Nat.le_refl _
  | k + 1 => by
    have := ddk_len (rs := rs) k
    unfold ddk
    split
    · split
      · simp; omega
      · omega
    · omega
theorem refs_clean (rs : List Ref) : cleanLL (rs.map Ref.av) = true := cleanLL_map fun x _ => rfl
theorem cels_clean (rs : List Cel) : cleanLL (rs.map Cel.av) = true := cleanLL_map fun x _ => rfl
theorem refs_bb (n : Nat) (rs : List Ref) : bbLL n (rs.map Ref.av) = true := bbLL_map fun x _ => rfl
theorem cels_bb (n : Nat) (rs : List Cel) : bbLL n (rs.map Cel.av) = true := bbLL_map fun x _ => rfl
theorem ref_ne {a b : Ref} (h : ¬ (a.scope = b.scope ∧ a.name = b.name)) : a ≠ b := by rintro rfl; exact h ⟨rfl, rfl⟩
theorem ref_eq {a b : Ref} (h : a.scope = b.scope ∧ a.name = b.name) : a = b := by cases a; cases b; simp at h; simp [h]
theorem cel_ne {a b : Cel} (h : ¬ (a.scope = b.scope ∧ a.owner = b.owner ∧ a.name = b.name)) : a ≠ b := by rintro rfl; exact h ⟨rfl, rfl, rfl⟩
theorem cel_eq {a b : Cel} (h : a.scope = b.scope ∧ a.owner = b.owner ∧ a.name = b.name) : a = b := by cases a; cases b; simp at h; simp [h]
theorem atC_facts (r : Ref) (s o : ByteArray) : (r.scope = 1 → atC r s o = ⟨1, s, r.name⟩) ∧ (r.scope = 2 → atC r s o = ⟨2, o, r.name⟩) ∧ (r.scope = 3 → atC r s o = ⟨3, noB, r.name⟩) ∧ (r.scope ≠ 1 → r.scope ≠ 2 → r.scope ≠ 3 → atC r s o = ⟨0, noB, noB⟩) := by
  unfold atC cel0
  refine ⟨fun h => by simp [h], fun h => by simp [h], fun h => by simp [h], fun h1 h2 h3 => by simp [h1, h2, h3]⟩
def loadN : Nod := ⟨2, ⟨0, 0, noB, false, 0⟩, loadR, 0, 0⟩
def annB : ByteArray := ⟨#[97, 110, 110]⟩
def fileB : ByteArray := ⟨#[102, 105, 108, 101]⟩
def loadC : Cel := ⟨3, noB, ⟨#[108, 111, 97, 100]⟩⟩
theorem right_now : rightE [nowN] = true := by decide +kernel
theorem right_load : rightE [loadN] = true := by decide +kernel
theorem cels_load : celsK [loadR] annB fileB 1 = [loadC] := by decide +kernel
theorem nod0_fit (n : Nod) (h1 : n.value.text.size = 0) (h2 : n.value.rate = 0) (h3 : n.ref.name.size ≤ 4) : n.fit := ⟨⟨by omega, by omega⟩, by show n.ref.name.size ≤ _; omega⟩
end Go.Proofs.Ytlclgpiabjlpbaa.Am
