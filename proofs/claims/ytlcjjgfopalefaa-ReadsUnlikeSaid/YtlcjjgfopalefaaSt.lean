/- sort.Slice at no element or one: nothing turns. -/
import Derived.Test.YtlcjjgfopalefaaSo
import Derived.Test.YtlcjjgfopalefaaTy
import Derived.Test.YtlcjjgfopalefaaAm17
namespace Go.Proofs.Ytlcjjgfopalefaa.Am
open Go.RowKit Go.Shelf Go.Sort Go.Lib
set_option linter.unusedVariables false

theorem below_grow_list : ∀ (l : List Obj) (B : Nat) (a w : World), Below B a w → B ≤ w.heap.size → Below B a (grow w l.toArray)
  | [], B, a, w, h, _ => by simpa using h
  | o :: l, B, a, w, h, hB => by
    have e : grow w (o :: l).toArray = grow (w.alloc o) l.toArray := by rw [alloc_eq_grow, grow_grow]; simp
    rw [e]
    exact below_grow_list l B a (w.alloc o) (h.alloc hB o) (by rw [alloc_eq_grow]; simp [grow]; omega)
theorem below_grow (w : World) (os : Array Obj) : Below w.heap.size w (grow w os) := by
  have := below_grow_list os.toList w.heap.size w w (.refl _ _) (Nat.le_refl _)
  simpa using this

theorem sort_tiny_of (t e : TypeId) (i ie : TypeInfo) (hi : Try.prog.info? t = some i) (hd : i.desc = .slice e) (hpk : Try.prog.packed t = false) (hie : Try.prog.info? e = some ie) (ke : Nat) (hke : ∀ w, (Extern.Rtype.kind e).run Try.prog w = .ok ke w)
    (h0 : Try.prog.funcs.findIdx? (·.name == "internal/reflectlite" ++ ".Swapper$" ++ toString (1 : Nat)) = some 66) (h1 : Try.prog.funcs.findIdx? (·.name == "internal/reflectlite" ++ ".Swapper$" ++ toString (2 : Nat)) = some 67)
    (E : TypeId) (x : AV) (es : List (List AV)) (hx : IsList x E es) (hl : es.length ≤ 1) (g : FuncId) (caps : List AV) (H : AH) :
    ACalls tt 45 [.ifc t x, .fn g caps] H fun r H' => r = .tup [] ∧ H' = H := by
  intro B G w vs hi' ha
  obtain ⟨v1, vs1, rfl, ⟨v, rfl, hv⟩, v2, vs2, rfl, ⟨cvs, rfl, _⟩, hn⟩ := ha
  have hn : vs2 = [] := hn
  subst hn
  have hsl : ∃ A n c, v = .slice A n c ∧ n ≤ 1 := by
    rcases hx with ⟨rfl, _⟩ | ⟨tk, rfl⟩
    · exact ⟨none, 0, 0, hv, by omega⟩
    · obtain ⟨A, cap, rfl, _⟩ := hv; exact ⟨A, es.length, cap, rfl, hl⟩
  obtain ⟨A, n, c, rfl, hn1⟩ := hsl
  have hK : swapperK n ie ke = n + 1 := by
    rcases Nat.eq_zero_or_pos n with h | h
    · subst h; simp [swapperK]
    · obtain rfl : n = 1 := by omega
      simp [swapperK]
  have hS := Any.sort_Slice_tiny Try.sa6 t e i ie hi hd hpk hie ke hke A n c hn1 (66 + n) (by
    rw [hK]
    rcases Nat.eq_zero_or_pos n with h | h
    · subst h; exact h0
    · obtain rfl : n = 1 := by omega
      exact h1) (.func g) #[] cvs.toArray w
  refine Am.Calls.mono' (show Calls Try.prog 45 _ w _ from hS) ?_
  rintro e w' ⟨rfl, os, rfl⟩
  have hb := below_grow w os
  exact ⟨.tup [], .tuple #[], G, H, rfl, ⟨rfl, rfl⟩, ⟨[], rfl, rfl⟩, hi'.below hb, .refl _, hb.mono hi'.hB⟩
theorem sort_tiny_refs (x : AV) (es : List (List AV)) (hx : IsList x 38 es) (hl : es.length ≤ 1) (g : FuncId) (caps : List AV) (H : AH) :
    ACalls tt 45 [.ifc 32 x, .fn g caps] H fun r H' => r = .tup [] ∧ H' = H :=
  sort_tiny_of 32 38 ((Try.prog.info? 32).get (by kernel_rfl)) ((Try.prog.info? 38).get (by kernel_rfl)) (by kernel_rfl) (by kernel_rfl) (by kernel_rfl) (by kernel_rfl) 25 (fun _ => by kernel_rfl) (by kernel_rfl) (by kernel_rfl) _ x es hx hl g caps H
theorem sort_tiny_cels (x : AV) (es : List (List AV)) (hx : IsList x 44 es) (hl : es.length ≤ 1) (g : FuncId) (caps : List AV) (H : AH) :
    ACalls tt 45 [.ifc 40 x, .fn g caps] H fun r H' => r = .tup [] ∧ H' = H :=
  sort_tiny_of 40 44 ((Try.prog.info? 40).get (by kernel_rfl)) ((Try.prog.info? 44).get (by kernel_rfl)) (by kernel_rfl) (by kernel_rfl) (by kernel_rfl) (by kernel_rfl) 25 (fun _ => by kernel_rfl) (by kernel_rfl) (by kernel_rfl) _ x es hx hl g caps H
end Go.Proofs.Ytlcjjgfopalefaa.Am
