/- Plain facts for the statements of layer 9: values that are alike; the answers that the document fixes; what a value that is told is. No program. -/
import Derived.Test.YtlclgpiabjlpbaaCe
namespace Go.Proofs.Ytlclgpiabjlpbaa.Am
open Go.RowKit
set_option linter.unusedVariables false

def bitsP (v : Val) : Nat := if v.kind ≠ 4 ∧ feq v.rate 0 = true then 0 else v.rate
def alikeP (a b : Val) : Bool := decide (a.kind = b.kind) && decide (a.int = b.int) && decide (a.text = b.text) && (a.bool == b.bool) && decide (bitsP a = bitsP b)
theorem alike_self (v : Val) : alikeP v v = true := by simp [alikeP]
theorem alike_eq {a b : Val} (h : a = b) : alikeP a b = true := h ▸ alike_self a
theorem ok_evE {ns : List Nod} {s : Sto} {x : Scn} (hs : StoOk s) (hx : inI x.now ∧ inI x.began) (hn : ∀ n ∈ ns, n.fit ∧ inI n.value.int) : VWok (evE ns (getS s) x) := by
  unfold evE
  split
  · rename_i hr
    refine ok_evN (getS_ok hs) hx (fun n hm h1 => ?_) _ _
    obtain ⟨j, hj⟩ := List.getElem?_of_mem hm
    exact plain_good (right_ops hr hj).1 (hn n hm).1 (hn n hm).2 h1
  · exact ok_zero (by simp)
def ageB : ByteArray := ⟨#[97, 103, 101]⟩
def bobB : ByteArray := ⟨#[98, 111, 98]⟩
def ageC : Cel := ⟨1, annB, ageB⟩
def aliveS : Sto := (setP [] ageC (wholeV 30)).1
def aliveN : List Nod := [⟨2, zeroVal, ⟨1, ageB⟩, 0, 0⟩, ⟨1, wholeV 1, ⟨0, noB⟩, 0, 0⟩, ⟨16, zeroVal, ⟨0, noB⟩, 0, 1⟩]
def annX : Scn := ⟨annB, fileB, 7, 5⟩
def bobX : Scn := ⟨bobB, noB, 0, 0⟩
theorem sto_nil : StoOk [] := fun c h q => by cases q
theorem alive_sto : StoOk aliveS := set_ok sto_nil ⟨by decide, by decide⟩ (by decide)
theorem alive_nods : ∀ n ∈ aliveN, n.fit ∧ inI n.value.int := by
  intro n hn
  simp only [aliveN, List.mem_cons, List.not_mem_nil, or_false] at hn
  rcases hn with rfl | rfl | rfl <;> exact ⟨⟨⟨by decide, by decide⟩, by show _ ≤ _; decide⟩, by decide⟩
theorem alive_ann : evE aliveN (getS aliveS) annX = (wholeV 31, 0) := by rfl
theorem alive_bob : evE aliveN (getS aliveS) bobX = (zeroVal, 2) := by rfl
end Go.Proofs.Ytlclgpiabjlpbaa.Am
