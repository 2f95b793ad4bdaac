/- Kinds, in plain Lean: what is declared; of which kind nodes are; and that what a node of a kind comes to is of that kind. No program. -/
import Derived.Test.YtlclgpiabjlpbaaLa
namespace Go.Proofs.Ytlclgpiabjlpbaa.Am
open Go.RowKit
set_option linter.unusedVariables false
set_option linter.unusedSimpArgs false

abbrev KS := List (Ref × Int)
def kAV (k : Int) : AV := .i .i64 k
structure Dec where
  r : Ref
  k : Int
def Dec.av (d : Dec) : List AV := [.i .i64 d.r.scope, .s d.r.name, .i .i64 d.k]
theorem decs_clean (l : List Dec) : cleanLL (l.map Dec.av) = true := cleanLL_map fun x _ => rfl
theorem decs_bb (n : Nat) (l : List Dec) : bbLL n (l.map Dec.av) = true := bbLL_map fun x _ => rfl
def kindP (s : KS) (r : Ref) : Int := (mget s r).getD 0
def declP (s : KS) (d : Dec) : KS × Int := if refOk d.r = false then (s, 60) else if d.k < 1 ∨ 4 < d.k then (s, 61) else if kindP s d.r ≠ 0 then (s, 62) else if 48 ≤ s.length then (s, 63) else (mput s d.r d.k, 0)
def ldK (ds : List Dec) : Nat → KS
  | 0 => []
  | k + 1 => match ds[k]? with
    | some d => (declP (ldK ds k) d).1
    | none => ldK ds k
theorem ldK_at {ds : List Dec} {k : Nat} {d : Dec} (h : ds[k]? = some d) : ldK ds (k + 1) = (declP (ldK ds k) d).1 := by simp only [ldK, h]
def KOk (s : KS) : Prop := ∀ r k, mget s r = some k → 1 ≤ k ∧ k ≤ 4
theorem decl_ok {s : KS} (hs : KOk s) (d : Dec) : KOk (declP s d).1 := by
  unfold declP
  split
  · exact hs
  · split
    · exact hs
    · rename_i hk
      split
      · exact hs
      · split
        · exact hs
        · intro r k h
          simp only [mput_get] at h
          split at h
          · cases h; omega
          · exact hs r k h
theorem ldK_ok (ds : List Dec) : ∀ k, KOk (ldK ds k)
  | 0 => fun r k h => by cases h
  | k + 1 => by
    unfold ldK
    split
    · exact decl_ok (ldK_ok ds k) _
    · exact ldK_ok ds k
theorem first_fail {p : Nat → Prop} : ∀ n : Nat, (∀ k, k < n → p k) ∨ ∃ k0, k0 < n ∧ (∀ j, j < k0 → p j) ∧ ¬ p k0
  | 0 => .inl fun k h => by omega
  | n + 1 => by
    rcases first_fail (p := p) n with h | ⟨k0, h1, h2, h3⟩
    · by_cases hn : p n
      · exact .inl fun k hk => by
          by_cases e : k = n
          · subst e; exact hn
          · exact h k (by omega)
      · exact .inr ⟨n, by omega, h, hn⟩
    · exact .inr ⟨k0, by omega, h2, h3⟩
def singleP (op a : Int) : Int := if (op = 6 ∧ a = 3) ∨ (op = 7 ∧ (a = 1 ∨ a = 4)) then a else if (op = 23 ∧ a = 2) ∨ (op = 25 ∧ a = 4) then 1 else if op = 24 ∧ a = 1 then 4 else 0
def doubleP (op a : Int) : Int := if op = 10 ∨ op = 11 then 3 else if op = 8 ∨ op = 9 then (if a = 3 then a else 0) else if op = 12 ∨ op = 13 ∨ op = 14 ∨ op = 15 then (if a = 3 then 0 else 3)
  else if op = 16 then (if a = 3 then 0 else a) else if op = 20 then (if a = 1 then a else 0) else (if a = 1 ∨ a = 4 then a else 0)
def opKind (n : Nod) (ka kb : Int) : Int := if n.op = 6 ∨ n.op = 7 ∨ n.op = 23 ∨ n.op = 24 ∨ n.op = 25 then singleP n.op ka else if ka = kb then doubleP n.op ka else 0
/-- Of which kind a node is, or why it is of none. -/
def nodeP (s : KS) (n : Nod) (ka kb : Int) : Int × Int :=
  if n.op = 1 then (n.value.kind, 0) else if n.op = 4 ∨ n.op = 5 then (1, 0)
  else if n.op = 2 ∨ n.op = 3 then (if kindP s n.ref = 0 then (0, 64) else if n.op = 3 then (3, 0) else (kindP s n.ref, 0))
  else if opKind n ka kb = 0 then (0, 65) else (opKind n ka kb, 0)
def kdK (s : KS) (ns : List Nod) : Nat → List Int
  | 0 => []
  | k + 1 => match ns[k]? with
    | some n => kdK s ns k ++ [(nodeP s n ((kdK s ns k).getD n.a.toNat 0) ((kdK s ns k).getD n.b.toNat 0)).1]
    | none => kdK s ns k
def kErr (s : KS) (ns : List Nod) (k : Nat) : Int := match ns[k]? with
  | some n => (nodeP s n ((kdK s ns k).getD n.a.toNat 0) ((kdK s ns k).getD n.b.toNat 0)).2
  | none => 0
theorem kdK_at {s : KS} {ns : List Nod} {k : Nat} {n : Nod} (h : ns[k]? = some n) : kdK s ns (k + 1) = kdK s ns k ++ [(nodeP s n ((kdK s ns k).getD n.a.toNat 0) ((kdK s ns k).getD n.b.toNat 0)).1] := by simp only [kdK, h]
theorem kErr_at {s : KS} {ns : List Nod} {k : Nat} {n : Nod} (h : ns[k]? = some n) : kErr s ns k = (nodeP s n ((kdK s ns k).getD n.a.toNat 0) ((kdK s ns k).getD n.b.toNat 0)).2 := by simp only [kErr, h]
theorem kdK_len {s : KS} {ns : List Nod} : ∀ {k : Nat}, k ≤ ns.length → (kdK s ns k).length = k
  | 0, _ => rfl
  | k + 1, h => by
    have hn : ns[k]? = some ns[k] := List.getElem?_eq_getElem (by omega)
    rw [kdK_at hn, List.length_append, kdK_len (by omega)]; rfl
theorem kdK_get {s : KS} {ns : List Nod} : ∀ {m k j : Nat}, j < k → k ≤ m → m ≤ ns.length → (kdK s ns m).getD j 0 = (kdK s ns k).getD j 0
  | 0, k, j, h1, h2, _ => by omega
  | m + 1, k, j, h1, h2, h3 => by
    by_cases e : k = m + 1
    · subst e; rfl
    · have hn : ns[m]? = some ns[m] := List.getElem?_eq_getElem (by omega)
      have hl := kdK_len (s := s) (ns := ns) (k := m) (by omega)
      rw [kdK_at hn, List.getD_eq_getElem?_getD, List.getElem?_append_left (by omega), ← List.getD_eq_getElem?_getD]
      exact kdK_get h1 (by omega) (by omega)
theorem kdK_new {s : KS} {ns : List Nod} {k : Nat} {n : Nod} (hn : ns[k]? = some n) : (kdK s ns ns.length).getD k 0 = (nodeP s n ((kdK s ns k).getD n.a.toNat 0) ((kdK s ns k).getD n.b.toNat 0)).1 := by
  have hlt := (List.getElem?_eq_some_iff.1 hn).1
  rw [kdK_get (k := k + 1) (by omega) (by omega) (Nat.le_refl _), kdK_at hn]
  have hl := kdK_len (s := s) (ns := ns) (k := k) (by omega)
  rw [List.getD_eq_getElem?_getD, List.getElem?_append_right (by omega), hl]; simp

/-! ### Rows of whole numbers -/
def rowI (xs : List Int) (n : Nat) : List AV := xs.map (fun x => AV.i .i64 x) ++ List.replicate (n - xs.length) (.i .i64 0)
theorem rowI_get {xs : List Int} {n j : Nat} (h : j < xs.length) : (rowI xs n)[j]? = some (.i .i64 (xs.getD j 0)) := by
  unfold rowI
  rw [List.getElem?_append_left (by simpa using h), List.getElem?_map, List.getElem?_eq_getElem h, List.getD_eq_getElem?_getD, List.getElem?_eq_getElem h]
  rfl
theorem rowI_push {xs : List Int} {n : Nat} {y : Int} (h : xs.length < n) : (rowI xs n).set xs.length (.i .i64 y) = rowI (xs ++ [y]) n := by
  unfold rowI
  obtain ⟨m, hm⟩ : ∃ m, n - xs.length = m + 1 := ⟨n - xs.length - 1, by omega⟩
  have hm2 : n - (xs ++ [y]).length = m := by simp; omega
  rw [hm, hm2, List.set_append_right _ _ (by simp)]
  simp [List.replicate_succ]
theorem rowI_len {xs : List Int} {n : Nat} (h : xs.length ≤ n) : (rowI xs n).length = n := by
  unfold rowI; simp; omega
theorem rowI_bb (n : Nat) (xs : List Int) (m : Nat) : bbL n (rowI xs m) = true := by
  refine bbL_of fun i x hx => ?_
  have hm := List.mem_of_getElem? hx
  unfold rowI at hm
  rw [List.mem_append] at hm
  rcases hm with hm | hm
  · obtain ⟨y, _, rfl⟩ := List.mem_map.1 hm; rfl
  · rw [List.eq_of_mem_replicate hm]; rfl
theorem rowI_ok (n : Nat) (xs : List Int) (m : Nat) : okL n (rowI xs m) = true := by
  rw [okL_all, List.all_eq_true]
  intro x hm
  unfold rowI at hm
  rw [List.mem_append] at hm
  rcases hm with hm | hm
  · obtain ⟨y, _, rfl⟩ := List.mem_map.1 hm; rfl
  · rw [List.eq_of_mem_replicate hm]; rfl

/-! ### What is of a kind comes to a value of that kind -/
def Of (p : VW) (k : Int) : Prop := p.2 ≠ 9 ∧ (p.2 = 0 → p.1.kind = k)
theorem of_told {v : Val} {w : Int} (h : w ≠ 9) {k : Int} (hk : v.kind = k) : Of (toldP v w) k := by
  unfold toldP Of
  split
  · exact ⟨by simp, fun _ => hk⟩
  · rename_i h0; exact ⟨h, fun q => absurd q h0⟩
theorem of_fits {v : Val} {ok : Bool} {w : Int} (h : w ≠ 9) (h0 : w ≠ 0) {k : Int} (hk : v.kind = k) : Of (fitsP v ok w) k := by
  unfold fitsP Of
  split
  · exact ⟨by simp, fun _ => hk⟩
  · exact ⟨h, fun q => absurd q h0⟩
theorem whyK_of9 {p : VW} {k : Int} (h : Of p k) : whyK p k ≠ 9 := by
  unfold whyK
  split
  · rename_i q; exact absurd (h.2 q.1) q.2
  · exact h.1
theorem of_both {p q : VW} {k : Int} (h : Of p k) (g : Of q k) : (bothP p q).2.2 ≠ 9 ∧ ((bothP p q).2.2 = 0 → (bothP p q).1.kind = k ∧ (bothP p q).2.1.kind = k ∧ p.2 = 0 ∧ q.2 = 0 ∧ (bothP p q).1 = p.1 ∧ (bothP p q).2.1 = q.1) := by
  unfold bothP
  split
  · rename_i h0
    split
    · rename_i g0
      rw [if_pos (by rw [h.2 h0, g.2 g0])]
      exact ⟨by simp, fun _ => ⟨h.2 h0, g.2 g0, h0, g0, rfl, rfl⟩⟩
    · rename_i g0; exact ⟨g.1, fun e => absurd e g0⟩
  · rename_i h0; exact ⟨h.1, fun e => absurd e h0⟩
theorem of_ints {op a b : Int} : Of (intsP op a b) 1 := by
  have d := numDiv_why a b
  have m := numMod_why a b
  unfold intsP
  (repeat' split)
  · exact of_fits (by simp) (by simp) rfl
  · exact of_fits (by simp) (by simp) rfl
  · exact of_fits (by simp) (by simp) rfl
  · exact of_told (by omega) rfl
  · exact of_told (by omega) rfl
theorem of_rates {op : Int} {a b : Nat} (ha : Fm.isRate a = true) (hb : Fm.isRate b = true) (ho : op = 16 ∨ op = 17 ∨ op = 18 ∨ op = 19) : Of (ratesP op a b) 4 := by
  have h4 := (Fm.divW_ok ha hb).2.2
  unfold ratesP
  (repeat' split)
  · exact of_fits (by simp) (by simp) rfl
  · exact of_fits (by simp) (by simp) rfl
  · exact of_fits (by simp) (by simp) rfl
  · exact of_told (by omega) rfl
  · omega
theorem of_op {get : Cel → Option Val} {x : Scn} {n : Nod} {p q : VW} {s : KS} {ka kb : Int} (ho : 1 ≤ n.op ∧ n.op ≤ 25) (hg : ∀ v, get (atC n.ref x.sub x.obj) = some v → n.op = 2 → v.kind = kindP s n.ref)
    (hp : VWok p) (hq : VWok q) (h1 : operands n.op = 1 ∨ operands n.op = 2 → Of p ka) (h2 : operands n.op = 2 → Of q kb) (hka : operands n.op = 1 ∨ operands n.op = 2 → 1 ≤ ka ∧ ka ≤ 4) (he : (nodeP s n ka kb).2 = 0) : Of (evOp get x n p q) (nodeP s n ka kb).1 := by
  unfold nodeP at he ⊢
  unfold evOp
  by_cases e1 : n.op = 1
  · simp only [e1, if_true] at he ⊢; exact ⟨by simp, fun _ => rfl⟩
  by_cases e4 : n.op = 4
  · simp [e4]; exact ⟨by simp, fun _ => rfl⟩
  by_cases e5 : n.op = 5
  · simp [e5]; exact ⟨by simp, fun _ => rfl⟩
  by_cases e2 : n.op = 2
  · simp only [e2] at he hg ⊢
    simp at he ⊢
    split at he
    · cases he
    · rename_i hk
      rw [if_neg hk]
      cases hv : get (atC n.ref x.sub x.obj) with
      | some v => exact ⟨by simp, fun _ => hg v hv trivial⟩
      | none => exact ⟨by simp, fun q => by cases q⟩
  by_cases e3 : n.op = 3
  · simp only [e3] at he ⊢
    simp at he ⊢
    split at he
    · cases he
    · rename_i hk
      rw [if_neg hk]
      exact ⟨by simp, fun _ => rfl⟩
  simp only [e1, e2, e3, e4, e5, if_false, false_or] at he ⊢
  split at he
  · cases he
  rename_i hk
  rw [if_neg hk]
  clear he
  have hone : n.op = 6 ∨ n.op = 7 ∨ n.op = 23 ∨ n.op = 24 ∨ n.op = 25 → operands n.op = 1 := fun h => by rcases h with h | h | h | h | h <;> rw [h] <;> decide
  have htwo : ¬ (n.op = 6 ∨ n.op = 7 ∨ n.op = 23 ∨ n.op = 24 ∨ n.op = 25) → operands n.op = 2 := fun h => by unfold operands; (repeat' split) <;> simp <;> omega
  unfold opKind at hk ⊢
  by_cases hs : n.op = 6 ∨ n.op = 7 ∨ n.op = 23 ∨ n.op = 24 ∨ n.op = 25
  · rw [if_pos hs] at hk ⊢
    have hP := h1 (.inl (hone hs))
    rcases hs with e | e | e | e | e
    · simp only [e] at hk ⊢
      simp [singleP] at hk ⊢
      obtain ⟨h3, _⟩ : ka = 3 ∧ True := ⟨by by_cases q : ka = 3 <;> simp_all, trivial⟩
      subst h3
      simp
      exact of_told (whyK_of9 hP) rfl
    · simp only [e] at hk ⊢
      simp [singleP] at hk ⊢
      have h3 : ka = 1 ∨ ka = 4 := hk.1
      rw [if_pos h3]
      unfold opNeg
      by_cases h0 : p.2 = 0
      · rw [if_pos h0]
        have := hP.2 h0
        rcases h3 with r | r
        · subst r; rw [if_pos this]; exact of_fits (by simp) (by simp) rfl
        · subst r; rw [if_neg (by omega), if_pos this]; exact ⟨by simp, fun _ => rfl⟩
      · rw [if_neg h0]; exact ⟨hP.1, fun e => absurd e h0⟩
    · simp only [e] at hk ⊢
      simp [singleP] at hk ⊢
      have h3 : ka = 2 := hk
      subst h3
      simp
      exact of_told (whyK_of9 hP) rfl
    · simp only [e] at hk ⊢
      simp [singleP] at hk ⊢
      have h3 : ka = 1 := hk
      subst h3
      simp
      exact of_told (whyK_of9 hP) rfl
    · simp only [e] at hk ⊢
      simp [singleP] at hk ⊢
      have h3 : ka = 4 := hk
      subst h3
      simp
      unfold opFloor
      have hw := whyK_of9 hP
      split
      · exact of_fits (by simp) (by simp) rfl
      · rename_i h0; exact ⟨hw, fun e => absurd e h0⟩
  · rw [if_neg hs] at hk ⊢
    have h22 := htwo hs
    have hP := h1 (.inr h22)
    have hQ := h2 h22
    have hk1 := hka (.inr h22)
    by_cases hab : ka = kb
    · subst hab
      rw [if_pos rfl] at hk ⊢
      obtain ⟨b1, b2⟩ := of_both hP hQ
      have hbo := ok_both hp hq
      generalize hT : bothP p q = t at *
      have e6 : n.op ≠ 6 := fun h => hs (by omega)
      have e7 : n.op ≠ 7 := fun h => hs (by omega)
      simp only [e6, e7, if_false]
      by_cases e8 : n.op = 8 ∨ n.op = 9
      · rw [if_pos e8]
        have hnt : ¬ (n.op = 10 ∨ n.op = 11) := by omega
        simp only [doubleP, if_neg hnt, if_pos e8] at hk ⊢
        have h3 : ka = 3 := by by_cases q : ka = 3 <;> simp_all
        subst h3
        simp
        unfold opShort
        by_cases h0 : p.2 = 0
        · rw [if_pos h0, if_pos (hP.2 h0)]
          split
          · exact ⟨by simp, fun _ => hP.2 h0⟩
          · have hw := whyK_of9 hQ
            unfold toldP
            split
            · rename_i z0; exact ⟨by simp, fun _ => (whyK_zero z0).2⟩
            · rename_i z0; exact ⟨hw, fun e => absurd e z0⟩
        · rw [if_neg h0]; exact ⟨hP.1, fun e => absurd e h0⟩
      rw [if_neg e8]
      by_cases e10 : n.op = 10 ∨ n.op = 11
      · rw [if_pos e10]
        simp only [doubleP, if_pos e10] at hk ⊢
        exact of_told b1 rfl
      rw [if_neg e10]
      by_cases e15 : n.op ≤ 15
      · rw [if_pos e15]
        have q1 : n.op = 12 ∨ n.op = 13 ∨ n.op = 14 ∨ n.op = 15 := by omega
        simp only [doubleP, if_neg e10, if_neg e8, if_pos q1] at hk ⊢
        have h3 : ka ≠ 3 := by intro q; simp [q] at hk
        rw [if_neg h3]
        unfold opOrder
        split
        · rename_i h0
          obtain ⟨k1, k2, _⟩ := b2 h0
          obtain ⟨g1, g2, gk⟩ := hbo.good h0
          have hL : (valLess t.1 t.2.1).2 = true := by
            unfold valLess
            rw [if_pos ⟨g1.right, g2.right, gk⟩, k1]
            split
            · rfl
            · split
              · rfl
              · split
                · rfl
                · omega
          unfold fitsP
          rw [if_pos hL]
          exact ⟨by simp, fun _ => rfl⟩
        · rename_i h0; exact ⟨b1, fun e => absurd e h0⟩
      rw [if_neg e15]
      have q1 : ¬ (n.op = 12 ∨ n.op = 13 ∨ n.op = 14 ∨ n.op = 15) := by omega
      by_cases e20 : n.op ≤ 20
      · rw [if_pos e20]
        unfold opSum
        by_cases h0 : t.2.2 = 0
        · rw [if_pos h0]
          obtain ⟨k1, k2, _⟩ := b2 h0
          obtain ⟨g1, g2, gk⟩ := hbo.good h0
          simp only [doubleP, if_neg e10, if_neg e8, if_neg q1] at hk ⊢
          by_cases r1 : t.1.kind = 1
          · have : ka = 1 := by omega
            subst this
            rw [if_pos r1]
            simp
            exact of_ints
          · rw [if_neg r1]
            by_cases r4 : t.1.kind = 4
            · have : ka = 4 := by omega
              subst this
              rw [if_pos r4]
              have hop : n.op = 16 ∨ n.op = 17 ∨ n.op = 18 ∨ n.op = 19 := by
                by_cases z : n.op = 20
                · simp [z] at hk
                · omega
              have hf : (if n.op = 16 then if (4 : Int) = 3 then (0 : Int) else 4 else if n.op = 20 then if (4 : Int) = 1 then 4 else 0 else if (4 : Int) = 1 ∨ (4 : Int) = 4 then 4 else 0) = 4 := by
                have z : n.op ≠ 20 := by omega
                simp [z]
              rw [hf]
              exact of_rates (good_rate g1 r4) (good_rate g2 (gk ▸ r4)) hop
            · rw [if_neg r4]
              by_cases z : n.op = 16
              · have h3 : ka ≠ 3 := by intro q; simp [q, z] at hk
                have h2' : ka = 2 := by omega
                subst h2'
                rw [if_pos ⟨k1, z⟩]
                simp [z]
                exact of_fits (by simp) (by simp) rfl
              · exfalso
                have : ¬ (ka = 1 ∨ ka = 4) := by omega
                simp [z, this] at hk
                omega
        · rw [if_neg h0]; exact ⟨b1, fun e => absurd e h0⟩
      rw [if_neg e20]
      have e22 : n.op ≤ 22 := by
        have : n.op ≠ 23 := fun h => hs (by omega)
        have : n.op ≠ 24 := fun h => hs (by omega)
        have : n.op ≠ 25 := fun h => hs (by omega)
        omega
      rw [if_pos e22]
      have z1 : n.op ≠ 16 := by omega
      have z2 : n.op ≠ 20 := by omega
      simp only [doubleP, if_neg e10, if_neg e8, if_neg q1, if_neg z1, if_neg z2] at hk ⊢
      have h3 : ka = 1 ∨ ka = 4 := by by_cases q : ka = 1 ∨ ka = 4 <;> simp_all
      rw [if_pos h3]
      unfold opEdge
      split
      · rename_i h0
        obtain ⟨k1, k2, _⟩ := b2 h0
        rw [if_pos (by omega)]
        split
        · exact ⟨by simp, fun _ => k2⟩
        · exact ⟨by simp, fun _ => k1⟩
      · rename_i h0; exact ⟨b1, fun e => absurd e h0⟩
    · rw [if_neg hab] at hk; exact absurd rfl hk
theorem opKind_in {n : Nod} {ka kb : Int} (h : opKind n ka kb ≠ 0) (hk : 1 ≤ ka ∧ ka ≤ 4) : 1 ≤ opKind n ka kb ∧ opKind n ka kb ≤ 4 := by
  unfold opKind singleP doubleP at *
  split
  · rename_i h1
    rw [if_pos h1] at h
    (repeat' split) <;> first | omega | (simp_all; done)
  · rename_i h1
    rw [if_neg h1] at h
    (repeat' split) <;> first | omega | (simp_all; done)
theorem of_evN {ns : List Nod} {s : KS} {st : Sto} {x : Scn} (hr : rightE ns = true) (hst : StoOk st) (hx : inI x.now ∧ inI x.began) (hn : ∀ n ∈ ns, n.fit ∧ inI n.value.int) (hT : ∀ c v, getS st c = some v → v.kind = kindP s ⟨c.scope, c.name⟩) (hE : ∀ k, k < ns.length → kErr s ns k = 0) (hK : KOk s) :
    ∀ f i : Nat, i < f → i < ns.length → Of (evN ns (getS st) x f i) ((kdK s ns ns.length).getD i 0) ∧ 1 ≤ (kdK s ns ns.length).getD i 0 ∧ (kdK s ns ns.length).getD i 0 ≤ 4 := by
  have hns : ∀ n ∈ ns, n.op = 1 → Good n.value := fun n hm h1 => by
    obtain ⟨j, hj⟩ := List.getElem?_of_mem hm
    exact plain_good (right_ops hr hj).1 (hn n hm).1 (hn n hm).2 h1
  intro f
  induction f with
  | zero => intro i hi; omega
  | succ f ih =>
    intro i hif hil
    obtain ⟨nd, hnd⟩ : ∃ nd, ns[i]? = some nd := ⟨_, List.getElem?_eq_getElem hil⟩
    obtain ⟨hp, h1, h25, ha, hb⟩ := right_ops hr hnd
    have he := hE i hil
    rw [kErr_at hnd] at he
    have hnew := kdK_new (s := s) hnd
    have hA : operands nd.op = 1 ∨ operands nd.op = 2 → Of (evN ns (getS st) x f nd.a.toNat) ((kdK s ns i).getD nd.a.toNat 0) ∧ 1 ≤ (kdK s ns i).getD nd.a.toNat 0 ∧ (kdK s ns i).getD nd.a.toNat 0 ≤ 4 := fun o => by
      obtain ⟨a, e, hlt⟩ := ha o
      rw [e, Int.toNat_natCast]
      have := ih a (by omega) (by omega)
      rwa [kdK_get (k := i) hlt (by omega) (Nat.le_refl _)] at this
    have hB : operands nd.op = 2 → Of (evN ns (getS st) x f nd.b.toNat) ((kdK s ns i).getD nd.b.toNat 0) := fun o => by
      obtain ⟨b, e, hlt⟩ := hb o
      rw [e, Int.toNat_natCast]
      have := (ih b (by omega) (by omega)).1
      rwa [kdK_get (k := i) hlt (by omega) (Nat.le_refl _)] at this
    have hg : ∀ v, getS st (atC nd.ref x.sub x.obj) = some v → nd.op = 2 → v.kind = kindP s nd.ref := fun v hv h2 => by
      rw [hT _ v hv]
      have hro : refOk nd.ref = true := by
        unfold plainOk at hp
        rw [if_neg (by omega), if_pos (.inl h2)] at hp
        simp only [Bool.and_eq_true] at hp
        exact hp.2
      obtain ⟨f1, f2, f3, _⟩ := atC_facts nd.ref x.sub x.obj
      have hsc : nd.ref.scope = 1 ∨ nd.ref.scope = 2 ∨ nd.ref.scope = 3 := by
        unfold refOk scopeB at hro
        simp at hro
        omega
      generalize nd.ref = rr at *
      obtain ⟨sc, nm⟩ := rr
      simp only at f1 f2 f3 hsc
      rcases hsc with e | e | e
      · rw [f1 e, e]
      · rw [f2 e, e]
      · rw [f3 e, e]
    have e : evN ns (getS st) x (f + 1) i = evOp (getS st) x nd (evN ns (getS st) x f nd.a.toNat) (evN ns (getS st) x f nd.b.toNat) := by simp only [evN, hnd]
    rw [e, hnew]
    refine ⟨of_op ⟨h1, h25⟩ hg (ok_evN (getS_ok hst) hx hns f _) (ok_evN (getS_ok hst) hx hns f _) (fun o => (hA o).1) hB (fun o => (hA o).2) he, ?_⟩
    unfold nodeP at he ⊢
    by_cases e1 : nd.op = 1
    · rw [if_pos e1] at he ⊢
      exact good_kind (hns nd (List.mem_of_getElem? hnd) e1)
    rw [if_neg e1] at he ⊢
    by_cases e4 : nd.op = 4 ∨ nd.op = 5
    · rw [if_pos e4]; exact ⟨by decide, by decide⟩
    rw [if_neg e4] at he ⊢
    by_cases e2 : nd.op = 2 ∨ nd.op = 3
    · rw [if_pos e2] at he ⊢
      split at he
      · cases he
      · rename_i hk
        rw [if_neg hk]
        split
        · exact ⟨by decide, by decide⟩
        · unfold kindP at hk ⊢
          cases hm : mget s nd.ref with
          | none => rw [hm] at hk; exact absurd rfl hk
          | some k => exact hK _ _ hm
    rw [if_neg e2] at he ⊢
    split at he
    · cases he
    · rename_i hk
      rw [if_neg hk]
      have o12 : operands nd.op = 1 ∨ operands nd.op = 2 := by unfold operands; (repeat' split) <;> simp <;> omega
      exact opKind_in hk (hA o12).2
/-- What an expression of a kind comes to. -/
theorem of_evE {ns : List Nod} {s : KS} {st : Sto} {x : Scn} (hr : rightE ns = true) (hst : StoOk st) (hx : inI x.now ∧ inI x.began) (hn : ∀ n ∈ ns, n.fit ∧ inI n.value.int) (hT : ∀ c v, getS st c = some v → v.kind = kindP s ⟨c.scope, c.name⟩) (hE : ∀ k, k < ns.length → kErr s ns k = 0) (hK : KOk s) :
    Of (evE ns (getS st) x) ((kdK s ns ns.length).getD (ns.length - 1) 0) := by
  have hl := right_pos hr
  unfold evE
  rw [if_pos hr]
  exact (of_evN hr hst hx hn hT hE hK ns.length (ns.length - 1) (by omega) (by omega)).1
/-- What a store is told of the right kinds. -/
def tyK (s : KS) (l : List Att) : Nat → Sto
  | 0 => []
  | k + 1 => match l[k]? with
    | some a => if kindP s ⟨a.c.scope, a.c.name⟩ ≠ 0 ∧ kindP s ⟨a.c.scope, a.c.name⟩ = a.v.kind then (setP (tyK s l k) a.c a.v).1 else tyK s l k
    | none => tyK s l k
theorem tyK_yes {s : KS} {l : List Att} {k : Nat} {a : Att} (h : l[k]? = some a) (hc : kindP s ⟨a.c.scope, a.c.name⟩ ≠ 0 ∧ kindP s ⟨a.c.scope, a.c.name⟩ = a.v.kind) : tyK s l (k + 1) = (setP (tyK s l k) a.c a.v).1 := by simp only [tyK, h]; exact if_pos hc
theorem tyK_no {s : KS} {l : List Att} {k : Nat} {a : Att} (h : l[k]? = some a) (hc : ¬ (kindP s ⟨a.c.scope, a.c.name⟩ ≠ 0 ∧ kindP s ⟨a.c.scope, a.c.name⟩ = a.v.kind)) : tyK s l (k + 1) = tyK s l k := by simp only [tyK, h]; exact if_neg hc
theorem tyK_ok {s : KS} {l : List Att} (hl : ∀ a ∈ l, a.fit) : ∀ k, StoOk (tyK s l k)
  | 0 => sto_nil
  | k + 1 => by
    unfold tyK
    split
    · rename_i a ha
      split
      · have := hl a (List.mem_of_getElem? ha)
        exact set_ok (tyK_ok hl k) this.2.1 this.2.2.1
      · exact tyK_ok hl k
    · exact tyK_ok hl k
theorem tyK_typed {s : KS} {l : List Att} : ∀ k c v, getS (tyK s l k) c = some v → v.kind = kindP s ⟨c.scope, c.name⟩
  | 0, c, v, h => by cases h
  | k + 1, c, v, h => by
    unfold tyK at h
    split at h
    · rename_i a ha
      split at h
      · rename_i hc
        have keep : getS (tyK s l k) c = some v → v.kind = kindP s ⟨c.scope, c.name⟩ := tyK_typed k c v
        unfold setP at h
        split at h
        · exact keep h
        · split at h
          · exact keep h
          · split at h
            · split at h
              · exact keep h
              · unfold getS at h
                rw [mput_get] at h
                split at h
                · rename_i e; subst e; simp at h; subst h; exact hc.2.symm
                · exact keep h
            · split at h
              · exact keep h
              · unfold getS at h
                rw [mput_get] at h
                split at h
                · rename_i e; subst e; simp at h; subst h; exact hc.2.symm
                · exact keep h
      · exact tyK_typed k c v h
    · exact tyK_typed k c v h
end Go.Proofs.Ytlclgpiabjlpbaa.Am
