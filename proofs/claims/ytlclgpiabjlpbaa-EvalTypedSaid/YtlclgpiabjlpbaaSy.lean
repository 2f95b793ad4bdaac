/- What expressions are, in plain Lean: operands, plain nodes, shapes. No program. -/
import Derived.Test.YtlclgpiabjlpbaaSp
import Derived.Test.YtlclgpiabjlpbaaAm17
namespace Go.Proofs.Ytlclgpiabjlpbaa.Am
open Go.RowKit
set_option linter.unusedVariables false

def operands (n : Int) : Int := if n < 1 ∨ 25 < n then -1 else if n ≤ 5 then 0 else if n ≤ 7 ∨ 23 ≤ n then 1 else 2
theorem operands_in (n : Int) : operands n = -1 ∨ operands n = 0 ∨ operands n = 1 ∨ operands n = 2 := by
  unfold operands; (repeat' split) <;> simp
theorem fzero_self {x : Nat} (h : fzero x = true) : Ieee.double.order x x = some .eq := by
  unfold fzero at h
  have h1 := Fm.order_zero x
  rw [show (Ieee.double.order x 0 == some .eq) = true from h] at h1
  have h2 : x % 9223372036854775808 = 0 := of_decide_eq_true h1.symm
  have h3 := Fm.order_self x
  have h4 : decide (9218868437227405312 < x % 9223372036854775808) = false := by rw [decide_eq_false_iff_not]; omega
  rw [h4] at h3
  simpa using h3
theorem valRight_self {v : Val} (h : valRight v = true) : Ieee.double.order v.rate v.rate = some .eq := by
  unfold valRight at h
  simp only [Bool.and_eq_true, Bool.or_eq_true, Bool.not_eq_true', decide_eq_false_iff_not, decide_eq_true_eq] at h
  rcases h.2 with q | q
  · have := h.1.1.2
    unfold onlyOk at this
    simp only [Bool.and_eq_true, Bool.or_eq_true, decide_eq_true_eq] at this
    rcases this.2 with r | r
    · exact absurd r q
    · exact fzero_self r
  · exact rate_self _ q
def literalOk (v : Val) : Bool := valRight v && decide (0 ≤ v.int) && fge0 v.rate
def valZero (v : Val) : Bool := decide (v.kind = 0) && decide (v.int = 0) && decide (v.text = noB) && !v.bool && fzero v.rate
def refZero (r : Ref) : Bool := decide (r.scope = 0) && decide (r.name = noB)
def plainOk (n : Nod) : Bool :=
  if n.op = 1 then refZero n.ref && literalOk n.value else if n.op = 2 ∨ n.op = 3 then valZero n.value && refOk n.ref else valZero n.value && refZero n.ref
theorem plain_of {nd : Nod} (h1 : (decide (nd.op = 1) && !literalOk nd.value) = false) (h2 : ((decide (nd.op = 2) || decide (nd.op = 3)) && !refOk nd.ref) = false) (h3 : ((!decide (nd.op = 1) && !valZero nd.value) || ((!decide (nd.op = 2) && !decide (nd.op = 3)) && !refZero nd.ref)) = false) : plainOk nd = true := by
  unfold plainOk
  by_cases e1 : nd.op = 1
  · simp_all
  · by_cases e2 : nd.op = 2
    · simp_all
    · by_cases e3 : nd.op = 3
      · simp_all
      · simp_all
theorem plain_no {nd : Nod} (h : (decide (nd.op = 1) && !literalOk nd.value) = true ∨ ((decide (nd.op = 2) || decide (nd.op = 3)) && !refOk nd.ref) = true ∨ ((!decide (nd.op = 1) && !valZero nd.value) || ((!decide (nd.op = 2) && !decide (nd.op = 3)) && !refZero nd.ref)) = true) : plainOk nd = false := by
  unfold plainOk
  by_cases e1 : nd.op = 1
  · simp_all
    cases hz : refZero nd.ref <;> simp_all
  · by_cases e2 : nd.op = 2
    · simp_all
      cases hz : valZero nd.value <;> simp_all
    · by_cases e3 : nd.op = 3
      · simp_all
        cases hz : valZero nd.value <;> simp_all
      · simp_all
        cases hz : valZero nd.value <;> simp_all
/-- What a node is at its place: its first node, and its depth. -/
def shapeStep (fs ds : List Nat) (n : Nod) : Option (Nat × Nat) :=
  if plainOk n = false then none
  else if operands n.op = 0 then (if n.a = 0 ∧ n.b = 0 then some (fs.length, 1) else none)
  else if operands n.op = 1 then (if 1 ≤ fs.length ∧ n.a = (fs.length : Int) - 1 ∧ n.b = 0 then some (fs.getD (fs.length - 1) 0, ds.getD (fs.length - 1) 0 + 1) else none)
  else if operands n.op = 2 then
    (if 2 ≤ fs.length ∧ 1 ≤ fs.getD (fs.length - 1) 0 ∧ n.a = (fs.getD (fs.length - 1) 0 : Int) - 1 ∧ n.b = (fs.length : Int) - 1 then
      some (fs.getD (fs.getD (fs.length - 1) 0 - 1) 0, max (ds.getD (fs.getD (fs.length - 1) 0 - 1) 0) (ds.getD (fs.length - 1) 0) + 1) else none)
  else none
def shapeL : List Nod → List Nat → List Nat → Option (List Nat × List Nat)
  | [], fs, ds => some (fs, ds)
  | n :: ns, fs, ds => match shapeStep fs ds n with
    | some (f, d) => shapeL ns (fs ++ [f]) (ds ++ [d])
    | none => none
structure ShInv (ns : List Nod) (a : List Nat × List Nat) : Prop where
  hl : a.1.length = a.2.length
  hk : a.1.length ≤ ns.length
  hs : shapeL ns [] [] = shapeL (ns.drop a.1.length) a.1 a.2
  hf : ∀ (j f : Nat), a.1[j]? = some f → f ≤ j
  hd : ∀ (j d : Nat), a.2[j]? = some d → d ≤ j + 1
  at_ : ∀ (j f d : Nat), a.1[j]? = some f → a.2[j]? = some d → ∃ nd, ns[j]? = some nd ∧ shapeStep (a.1.take j) (a.2.take j) nd = some (f, d)
theorem ShInv.init (ns : List Nod) : ShInv ns ([], []) := ⟨rfl, Nat.zero_le _, rfl, fun j f h => by simp at h, fun j f h => by simp at h, fun j f d h => by simp at h⟩
theorem drop_cons {α : Type} {l : List α} {k : Nat} {x : α} (h : l[k]? = some x) : l.drop k = x :: l.drop (k + 1) := by
  obtain ⟨hk, rfl⟩ := List.getElem?_eq_some_iff.1 h
  exact List.drop_eq_getElem_cons hk
theorem ShInv.step {ns : List Nod} {fs ds : List Nat} (h : ShInv ns (fs, ds)) {nd : Nod} (hn : ns[fs.length]? = some nd) {f d : Nat} (hs : shapeStep fs ds nd = some (f, d)) (hf : f ≤ fs.length) (hd : d ≤ fs.length + 1) : ShInv ns (fs ++ [f], ds ++ [d]) := by
  have hlt := (List.getElem?_eq_some_iff.1 hn).1
  have hl : fs.length = ds.length := h.hl
  refine ⟨by simp [hl], by simp; omega, ?_, ?_, ?_, ?_⟩
  · rw [h.hs]
    show shapeL (ns.drop fs.length) fs ds = _
    rw [drop_cons hn]
    simp only [shapeL, hs]
    simp
  · intro j f' hj
    simp only [List.getElem?_append] at hj
    split at hj
    · exact h.hf j f' hj
    · have : j - fs.length = 0 := by
        rcases Nat.eq_zero_or_pos (j - fs.length) with q | q
        · exact q
        · rw [List.getElem?_eq_none (by simp; omega)] at hj; cases hj
      rw [this] at hj; simp at hj; omega
  · intro j d' hj
    simp only [List.getElem?_append] at hj
    split at hj
    · exact h.hd j d' hj
    · have : j - ds.length = 0 := by
        rcases Nat.eq_zero_or_pos (j - ds.length) with q | q
        · exact q
        · rw [List.getElem?_eq_none (by simp; omega)] at hj; cases hj
      rw [this] at hj; simp at hj; omega
  · intro j f' d' hj hj'
    by_cases hlt : j < fs.length
    · rw [List.getElem?_append_left hlt] at hj
      rw [List.getElem?_append_left (by omega)] at hj'
      obtain ⟨nd', h1, h2⟩ := h.at_ j f' d' hj hj'
      exact ⟨nd', h1, by rw [List.take_append_of_le_length (by omega), List.take_append_of_le_length (by omega)]; exact h2⟩
    · have hje : j = fs.length := by
        have := (List.getElem?_eq_some_iff.1 hj).1
        simp at this; omega
      subst hje
      simp at hj
      rw [hl] at hj'
      simp at hj'
      subst hj; subst hj'
      refine ⟨nd, hn, ?_⟩
      have e2 : (ds ++ [d]).take fs.length = ds := by rw [hl]; simp
      show shapeStep ((fs ++ [f]).take fs.length) ((ds ++ [d]).take fs.length) nd = _
      rw [e2]
      simpa using hs
/-- What stands at a place. -/
theorem ShInv.cases {ns : List Nod} {fs ds : List Nat} (h : ShInv ns (fs, ds)) {i f d : Nat} (hf : fs[i]? = some f) (hd : ds[i]? = some d) : ∃ nd, ns[i]? = some nd ∧ plainOk nd = true ∧
    ((operands nd.op = 0 ∧ f = i ∧ d = 1) ∨
     (operands nd.op = 1 ∧ 1 ≤ i ∧ ∃ d1, fs[i - 1]? = some f ∧ ds[i - 1]? = some d1 ∧ d = d1 + 1 ∧ nd.a = ((i - 1 : Nat) : Int)) ∨
     (operands nd.op = 2 ∧ 2 ≤ i ∧ ∃ f1 d1 d2, fs[i - 1]? = some f1 ∧ 1 ≤ f1 ∧ f1 ≤ i - 1 ∧ fs[f1 - 1]? = some f ∧ ds[f1 - 1]? = some d1 ∧ ds[i - 1]? = some d2 ∧ d = max d1 d2 + 1 ∧ nd.a = ((f1 - 1 : Nat) : Int) ∧ nd.b = ((i - 1 : Nat) : Int))) := by
  obtain ⟨nd, h1, h2⟩ := h.at_ i f d hf hd
  have h2 : shapeStep (fs.take i) (ds.take i) nd = some (f, d) := h2
  have hil : i < fs.length := (List.getElem?_eq_some_iff.1 hf).1
  have hil2 : i < ds.length := (List.getElem?_eq_some_iff.1 hd).1
  have htl : (fs.take i).length = i := by simp; omega
  have hg : ∀ j, j < i → (fs.take i).getD j 0 = fs.getD j 0 := fun j hj => by rw [List.getD_eq_getElem?_getD, List.getD_eq_getElem?_getD, List.getElem?_take_of_lt hj]
  have hg2 : ∀ j, j < i → (ds.take i).getD j 0 = ds.getD j 0 := fun j hj => by rw [List.getD_eq_getElem?_getD, List.getD_eq_getElem?_getD, List.getElem?_take_of_lt hj]
  have hsome : ∀ j, j < fs.length → fs[j]? = some (fs.getD j 0) := fun j hj => by rw [List.getD_eq_getElem?_getD, List.getElem?_eq_getElem hj]; rfl
  have hsome2 : ∀ j, j < ds.length → ds[j]? = some (ds.getD j 0) := fun j hj => by rw [List.getD_eq_getElem?_getD, List.getElem?_eq_getElem hj]; rfl
  refine ⟨nd, h1, ?_⟩
  unfold shapeStep at h2
  rw [htl] at h2
  split at h2
  · cases h2
  · rename_i hp
    refine ⟨by simpa using hp, ?_⟩
    split at h2
    · rename_i h0
      split at h2
      · cases h2; exact .inl ⟨h0, rfl, rfl⟩
      · cases h2
    · split at h2
      · rename_i h0
        split at h2
        · rename_i hc
          rw [hg _ (by omega), hg2 _ (by omega)] at h2
          cases h2
          exact .inr (.inl ⟨h0, hc.1, _, hsome _ (by omega), hsome2 _ (by omega), rfl, by omega⟩)
        · cases h2
      · split at h2
        · rename_i h0
          split at h2
          · rename_i hc
            rw [hg (i - 1) (by omega)] at hc h2
            have hb := h.hf (i - 1) _ (hsome _ (by omega))
            rw [hg (fs.getD (i - 1) 0 - 1) (by omega), hg2 (fs.getD (i - 1) 0 - 1) (by omega), hg2 (i - 1) (by omega)] at h2
            cases h2
            exact .inr (.inr ⟨h0, hc.1, _, _, _, hsome _ (by omega), hc.2.1, hb, hsome _ (by omega), hsome2 _ (by omega), hsome2 _ (by omega), rfl, by omega, by omega⟩)
          · cases h2
        · cases h2
theorem step_le {ns : List Nod} {fs ds : List Nat} (h : ShInv ns (fs, ds)) {nd : Nod} {f d : Nat} (hs : shapeStep fs ds nd = some (f, d)) : f ≤ fs.length := by
  have hg : ∀ j, fs.getD j 0 ≤ j := fun j => by
    by_cases hj : j < fs.length
    · exact h.hf j _ (by rw [List.getD_eq_getElem?_getD, List.getElem?_eq_getElem hj]; rfl)
    · rw [List.getD_eq_getElem?_getD, List.getElem?_eq_none (by omega)]; exact Nat.zero_le _
  unfold shapeStep at hs
  have h1 := hg (fs.length - 1)
  have h2 := hg (fs.getD (fs.length - 1) 0 - 1)
  repeat' split at hs
  all_goals first | (cases hs; omega) | cases hs
theorem step_le2 {ns : List Nod} {fs ds : List Nat} (h : ShInv ns (fs, ds)) {nd : Nod} {f d : Nat} (hs : shapeStep fs ds nd = some (f, d)) : d ≤ fs.length + 1 := by
  have hg : ∀ j, fs.getD j 0 ≤ j := fun j => by
    by_cases hj : j < fs.length
    · exact h.hf j _ (by rw [List.getD_eq_getElem?_getD, List.getElem?_eq_getElem hj]; rfl)
    · rw [List.getD_eq_getElem?_getD, List.getElem?_eq_none (by omega)]; exact Nat.zero_le _
  have hg2 : ∀ j, ds.getD j 0 ≤ j + 1 := fun j => by
    by_cases hj : j < ds.length
    · exact h.hd j _ (by rw [List.getD_eq_getElem?_getD, List.getElem?_eq_getElem hj]; rfl)
    · rw [List.getD_eq_getElem?_getD, List.getElem?_eq_none (by omega)]; exact Nat.zero_le _
  unfold shapeStep at hs
  have h1 := hg (fs.length - 1)
  have h2 := hg2 (fs.getD (fs.length - 1) 0 - 1)
  have h3 := hg2 (fs.length - 1)
  repeat' split at hs
  all_goals first | (cases hs; omega) | cases hs
theorem ShInv.fail {ns : List Nod} {fs ds : List Nat} (h : ShInv ns (fs, ds)) {nd : Nod} (hn : ns[fs.length]? = some nd) (hs : shapeStep fs ds nd = none) : shapeL ns [] [] = none := by
  rw [h.hs]
  show shapeL (ns.drop fs.length) fs ds = _
  rw [drop_cons hn]
  simp only [shapeL, hs]
theorem ShInv.done {ns : List Nod} {fs ds : List Nat} (h : ShInv ns (fs, ds)) (hk : ns.length ≤ fs.length) : shapeL ns [] [] = some (fs, ds) := by
  rw [h.hs]
  show shapeL (ns.drop fs.length) fs ds = _
  rw [List.drop_eq_nil_of_le hk]; rfl
def numsAV (l : List Nat) : List (List AV) := l.map fun (x : Nat) => [AV.i .i64 (x : Int)]
def shFs (ns : List Nod) : List Nat := ((shapeL ns [] []).map (·.1)).getD []
def shDs (ns : List Nod) : List Nat := ((shapeL ns [] []).map (·.2)).getD []
def shOk (ns : List Nod) : Bool := (shapeL ns [] []).isSome
def shapeAV (ns : List Nod) : AV := .tup [.l none 3 (numsAV (shFs ns)), .l none 3 (numsAV (shDs ns)), .b (shOk ns)]
theorem shape_some {ns : List Nod} {fs ds : List Nat} (h : shapeL ns [] [] = some (fs, ds)) : shapeAV ns = .tup [.l none 3 (numsAV fs), .l none 3 (numsAV ds), .b true] := by simp [shapeAV, shFs, shDs, shOk, h]
theorem shape_none {ns : List Nod} (h : shapeL ns [] [] = none) : shapeAV ns = .tup [.l none 3 [], .l none 3 [], .b false] := by simp [shapeAV, shFs, shDs, shOk, h, numsAV]
/-- Are nodes an expression? -/
def rightE (ns : List Nod) : Bool := decide (1 ≤ ns.length) && decide (ns.length ≤ 64) && shOk ns && decide ((shFs ns).getD (ns.length - 1) 0 = 0) && decide ((shDs ns).getD (ns.length - 1) 0 ≤ 16)
theorem right_len {ns : List Nod} (h : rightE ns = true) : ns.length ≤ 64 := by
  unfold rightE at h
  simp only [Bool.and_eq_true, decide_eq_true_eq] at h
  exact h.1.1.1.2
theorem shapeL_len : ∀ {ns : List Nod} {fs ds fs' ds' : List Nat}, shapeL ns fs ds = some (fs', ds') → fs'.length = fs.length + ns.length ∧ ds'.length = ds.length + ns.length
  | [], fs, ds, fs', ds', h => by cases h; exact ⟨rfl, rfl⟩
  | n :: ns, fs, ds, fs', ds', h => by
    unfold shapeL at h
    split at h
    · have := shapeL_len h
      simp at this ⊢; omega
    · cases h
theorem sh_len {ns : List Nod} (h : shOk ns = true) : (shFs ns).length = ns.length ∧ (shDs ns).length = ns.length := by
  unfold shOk at h
  obtain ⟨⟨fs, ds⟩, hs⟩ := Option.isSome_iff_exists.1 h
  have := shapeL_len hs
  simpa [shFs, shDs, hs] using this
theorem getD_some {l : List Nat} {j : Nat} (h : j < l.length) : l[j]? = some (l.getD j 0) := by rw [List.getD_eq_getElem?_getD, List.getElem?_eq_getElem h]; rfl
theorem numsAV_get {l : List Nat} {j x : Nat} (h : l[j]? = some x) : (numsAV l)[j]? = some [.i .i64 (x : Int)] := by simp [numsAV, h]
theorem wrap_pred {k : Nat} (h : 1 ≤ k) (h2 : k < 9223372036854775807) : (AV.i .i64 (IntKind.i64.wrap ((k : Int) - 1))) = .i .i64 ((k - 1 : Nat) : Int) := by
  rw [IntWalk.i64_in _ (by omega)]
  congr 1; omega
section
variable {fs ds : List Nat} {nd : Nod} {f f1 d d1 d2 : Nat}
theorem getD_of {l : List Nat} {j x : Nat} (h : l[j]? = some x) : l.getD j 0 = x := by rw [List.getD_eq_getElem?_getD, h]; rfl
theorem step_zero (hp : plainOk nd = true) (h1 : ¬ operands nd.op = -1) (h2 : ¬ operands nd.op = 1) (h3 : ¬ operands nd.op = 2) (ha : nd.a = 0) (hb : nd.b = 0) : shapeStep fs ds nd = some (fs.length, 1) := by
  have h0 : operands nd.op = 0 := by rcases operands_in nd.op with h | h | h | h <;> first | exact h | contradiction
  simp [shapeStep, hp, h0, ha, hb]
theorem step_one (hp : plainOk nd = true) (ho : operands nd.op = 1) (hk : 1 ≤ fs.length) (hf : fs[fs.length - 1]? = some f) (hd : ds[fs.length - 1]? = some d) (ha : nd.a = ((fs.length - 1 : Nat) : Int)) (hb : nd.b = 0) : shapeStep fs ds nd = some (f, d + 1) := by
  have ha' : nd.a = (fs.length : Int) - 1 := by omega
  simp only [shapeStep, hp, ho, getD_of hf, getD_of hd]
  simp [hk, ha', hb]
theorem step_two (hp : plainOk nd = true) (ho : operands nd.op = 2) (hk : 2 ≤ fs.length) (hf1 : fs[fs.length - 1]? = some f1) (h1 : 1 ≤ f1) (hf : fs[f1 - 1]? = some f) (hd1 : ds[f1 - 1]? = some d1) (hd2 : ds[fs.length - 1]? = some d2) (ha : nd.a = ((f1 - 1 : Nat) : Int)) (hb : nd.b = ((fs.length - 1 : Nat) : Int)) : shapeStep fs ds nd = some (f, max d1 d2 + 1) := by
  have ha' : nd.a = (f1 : Int) - 1 := by omega
  have hb' : nd.b = (fs.length : Int) - 1 := by omega
  simp only [shapeStep, hp, ho, getD_of hf1, getD_of hf, getD_of hd1, getD_of hd2]
  simp [hk, ha', hb', h1]
theorem no_plain (hp : plainOk nd = false) : shapeStep fs ds nd = none := by simp [shapeStep, hp]
theorem no_op (ho : operands nd.op = -1) : shapeStep fs ds nd = none := by simp [shapeStep, ho]
theorem no_zero (h1 : ¬ operands nd.op = -1) (h2 : ¬ operands nd.op = 1) (h3 : ¬ operands nd.op = 2) (ha : ¬ (nd.a = 0 ∧ nd.b = 0)) : shapeStep fs ds nd = none := by
  have h0 : operands nd.op = 0 := by rcases operands_in nd.op with h | h | h | h <;> first | exact h | contradiction
  simp [shapeStep, h0]; intro _ q; exact fun r => ha ⟨q, r⟩
theorem no_one (ho : operands nd.op = 1) (ha : fs.length < 1 ∨ ¬ (nd.a = ((fs.length - 1 : Nat) : Int) ∧ nd.b = 0)) : shapeStep fs ds nd = none := by
  simp only [shapeStep, ho]
  have : ¬ (1 ≤ fs.length ∧ nd.a = (fs.length : Int) - 1 ∧ nd.b = 0) := by omega
  simp [this]
theorem no_two (ho : operands nd.op = 2) (ha : fs.length < 2 ∨ ∃ f1, fs[fs.length - 1]? = some f1 ∧ (f1 < 1 ∨ ¬ (nd.a = ((f1 - 1 : Nat) : Int) ∧ nd.b = ((fs.length - 1 : Nat) : Int)))) : shapeStep fs ds nd = none := by
  simp only [shapeStep, ho]
  rcases ha with ha | ⟨f1, hf1, ha⟩
  · have : ¬ 2 ≤ fs.length := by omega
    simp [this]
  · rw [getD_of hf1]
    have : ¬ (2 ≤ fs.length ∧ 1 ≤ f1 ∧ nd.a = (f1 : Int) - 1 ∧ nd.b = (fs.length : Int) - 1) := by omega
    simp [this]
end
theorem get_app {l : List Nat} {j x y : Nat} (h : l[j]? = some x) : (l ++ [y])[j]? = some x := by
  rw [List.getElem?_append_left (List.getElem?_eq_some_iff.1 h).1]; exact h
theorem numsAV_clean (l : List Nat) : cleanLL (numsAV l) = true := cleanLL_map fun x _ => rfl
theorem shapeAV_clean (ns : List Nod) : clean (shapeAV ns) = true := by simp [shapeAV, clean, cleanL, numsAV_clean]
theorem nods_clean (ns : List Nod) : cleanLL (ns.map Nod.av) = true := cleanLL_map fun x _ => rfl
theorem nods_bb (n : Nat) (ns : List Nod) : bbLL n (ns.map Nod.av) = true := bbLL_map fun x _ => rfl
theorem rowC_bb (n : Nat) (xs : List Nat) (m : Nat) : bbL n (rowC xs m) = true := by
  refine bbL_of fun i x hx => ?_
  have hm := List.mem_of_getElem? hx
  unfold rowC at hm
  rw [List.mem_append] at hm
  rcases hm with hm | hm
  · obtain ⟨y, _, rfl⟩ := List.mem_map.1 hm; rfl
  · rw [List.eq_of_mem_replicate hm]; rfl
/-- Going back from a place over so many things. -/
def scOk (fs : List Nat) : Nat → Int → Prop
  | 0, i => -1 ≤ i ∧ i < fs.length
  | n + 1, i => 0 ≤ i ∧ i < fs.length ∧ scOk fs n ((fs.getD i.toNat 0 : Int) - 1)
def sc (fs : List Nat) : Nat → Int → Int
  | 0, i => i + 1
  | n + 1, i => sc fs n ((fs.getD i.toNat 0 : Int) - 1)
theorem sc_step {ns : List Nod} {fs ds : List Nat} (h : ShInv ns (fs, ds)) {n : Nat} {i : Nat} (ho : scOk fs (n + 1) i) : ∃ nd m, ns[i]? = some nd ∧ operands nd.op = ((m : Nat) : Int) ∧ m ≤ 2 ∧ scOk fs (n + m) ((i : Int) - 1) ∧ sc fs (n + m) ((i : Int) - 1) = sc fs (n + 1) i := by
  obtain ⟨h0, hlt, hr⟩ := ho
  have hil : i < fs.length := by omega
  have hl : fs.length = ds.length := h.hl
  have hf := getD_some hil
  have hd := getD_some (l := ds) (j := i) (by omega)
  have hfb := h.hf i _ hf
  simp only [Int.toNat_natCast] at hr
  obtain ⟨nd, hn, _, hc⟩ := h.cases hf hd
  rcases hc with ⟨ho, he, _⟩ | ⟨ho, hi1, d1, hf1, _, _, _⟩ | ⟨ho, hi2, f1, d1, d2, hf1, h1, h2, hf2, _⟩
  · refine ⟨nd, 0, hn, ho, by omega, ?_, ?_⟩
    · rw [he] at hr; exact hr
    · show sc fs n _ = sc fs n _
      simp only [Int.toNat_natCast]
      rw [he]
  · have hcast : (((i : Int) - 1).toNat) = i - 1 := by omega
    refine ⟨nd, 1, hn, ho, by omega, ⟨by omega, by omega, ?_⟩, ?_⟩
    · rw [hcast, getD_of hf1]; exact hr
    · show sc fs n _ = sc fs n _
      rw [hcast, getD_of hf1, Int.toNat_natCast]
  · have hcast : (((i : Int) - 1).toNat) = i - 1 := by omega
    have hcast2 : (((f1 : Int) - 1).toNat) = f1 - 1 := by omega
    refine ⟨nd, 2, hn, ho, by omega, ⟨by omega, by omega, ?_⟩, ?_⟩
    · rw [hcast, getD_of hf1]
      refine ⟨by omega, by omega, ?_⟩
      rw [hcast2, getD_of hf2]; exact hr
    · show sc fs n _ = sc fs n _
      rw [hcast, getD_of hf1, hcast2, getD_of hf2, Int.toNat_natCast]
theorem scOk_lt {fs : List Nat} : ∀ {n : Nat} {i : Int}, scOk fs n i → -1 ≤ i ∧ i < fs.length
  | 0, _, h => h
  | _ + 1, _, h => ⟨by have := h.1; omega, h.2.1⟩
theorem scOk_le {fs : List Nat} (hfs : ∀ (j f : Nat), fs[j]? = some f → f ≤ j) : ∀ {n : Nat} {i : Int}, scOk fs n i → (n : Int) ≤ i + 1
  | 0, _, h => by have := h.1; omega
  | n + 1, i, h => by
    have := scOk_le hfs h.2.2
    have h0 := h.1
    have h1 := h.2.1
    have := hfs i.toNat _ (getD_some (by omega))
    omega
end Go.Proofs.Ytlclgpiabjlpbaa.Am
