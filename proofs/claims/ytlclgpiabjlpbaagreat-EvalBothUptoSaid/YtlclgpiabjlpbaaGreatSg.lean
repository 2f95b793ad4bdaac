/- Joined expressions: right ones have right parts, and come to what the parts come to. No program. -/
import Derived.Test.YtlclgpiabjlpbaaGreatSf
namespace Go.Proofs.YtlclgpiabjlpbaaGreat.Am
open Go.RowKit
set_option linter.unusedVariables false
set_option linter.unusedSimpArgs false

def NodA (ns : List Nod) : Prop := ∀ n ∈ ns, inI n.a ∧ inI n.b
theorem shapeL_pre : ∀ {ns : List Nod} {fs ds fs' ds' : List Nat}, shapeL ns fs ds = some (fs', ds') → (∃ zs, fs' = fs ++ zs) ∧ (∃ zs, ds' = ds ++ zs)
  | [], fs, ds, fs', ds', h => by cases h; exact ⟨⟨[], by simp⟩, ⟨[], by simp⟩⟩
  | n :: ns, fs, ds, fs', ds', h => by
    unfold shapeL at h
    split at h
    · obtain ⟨⟨z1, h1⟩, ⟨z2, h2⟩⟩ := shapeL_pre h
      exact ⟨⟨_, by rw [h1, List.append_assoc]⟩, ⟨_, by rw [h2, List.append_assoc]⟩⟩
    · cases h
theorem shift_back {p : Nat} {fP dP : List Nat} (hP : fP.length = p) (hD : dP.length = p) (hfp : ∀ j, fP.getD j 0 ≤ j) : ∀ (e : List Nod) (fs ds fA dA : List Nat), NodA e → fs.length = ds.length → p + fs.length + e.length ≤ 100 → (∀ j, fs.getD j 0 ≤ j) →
    shapeL (shiftL p e) (fP ++ fs.map (· + p)) (dP ++ ds) = some (fA, dA) → (∀ j, j < fA.length → p ≤ j → p ≤ fA.getD j 0) → (∀ j, fA.getD j 0 ≤ j) →
    ∃ gs es, shapeL e fs ds = some (gs, es) ∧ fA = fP ++ gs.map (· + p) ∧ dA = dP ++ es
  | [], fs, ds, fA, dA, _, _, _, _, h, _, _ => by
    cases h
    exact ⟨fs, ds, rfl, rfl, rfl⟩
  | n :: e, fs, ds, fA, dA, hn, hl, hk, hf1, h, hA, hA2 => by
    simp only [List.length_cons] at hk
    have hx := hn n (by simp)
    obtain ⟨_, hback⟩ := step_shift (n := n) hP hD hl hfp (by omega) hx.1 hx.2 hf1
    simp only [shiftL, List.map_cons, shapeL] at h
    split at h
    · rename_i f d hs
      have hpre := (shapeL_pre h).1
      obtain ⟨zs, hz⟩ := hpre
      have hat : fA.getD (p + fs.length) 0 = f := by
        rw [hz, getD_app, if_pos (by simp [hP]), getD_app, if_neg (by simp [hP])]
        simp [hP]
      have hlt : p + fs.length < fA.length := by rw [hz]; simp [hP]
      have h1 := hA _ hlt (by omega)
      have h2 := hA2 (p + fs.length)
      rw [hat] at h1 h2
      obtain ⟨g, rfl, hg⟩ := hback f d hs h1
      have e1 : fP ++ List.map (· + p) fs ++ [g + p] = fP ++ (fs ++ [g]).map (· + p) := by simp
      have e2 : dP ++ ds ++ [d] = dP ++ (ds ++ [d]) := by simp
      rw [e1, e2] at h
      obtain ⟨gs, es, k1, k2, k3⟩ := shift_back hP hD hfp e (fs ++ [g]) (ds ++ [d]) fA dA (fun m hm => hn m (by simp [hm])) (by simp [hl]) (by simp; omega) (fun j => by
        rw [getD_app]
        split
        · exact hf1 j
        · rename_i hj
          by_cases hj0 : j - fs.length = 0
          · rw [hj0]; show g ≤ j; omega
          · rw [List.getD_eq_getElem?_getD, List.getElem?_eq_none (by simp; omega)]; exact Nat.zero_le _) h hA hA2
      exact ⟨gs, es, by simp only [shapeL, hg]; exact k1, k2, k3⟩
    · cases h
theorem getD_le {ns : List Nod} {fs ds : List Nat} (h : ShInv ns (fs, ds)) (j : Nat) : fs.getD j 0 ≤ j := by
  by_cases hj : j < fs.length
  · exact h.hf j _ (getD_some hj)
  · rw [List.getD_eq_getElem?_getD, List.getElem?_eq_none (by omega)]; exact Nat.zero_le _
theorem right_mk {ns : List Nod} {fs ds : List Nat} (h1 : 1 ≤ ns.length) (h2 : ns.length ≤ 64) (h3 : shapeL ns [] [] = some (fs, ds)) (h4 : fs.getD (ns.length - 1) 0 = 0) (h5 : ds.getD (ns.length - 1) 0 ≤ 16) : rightE ns = true := by
  unfold rightE shFs shDs shOk
  simp only [h3, Option.map_some, Option.getD_some, Option.isSome_some, h4, Bool.and_eq_true, decide_eq_true_eq]
  exact ⟨⟨⟨⟨h1, h2⟩, trivial⟩, trivial⟩, h5⟩
theorem right_all {ns : List Nod} (h : rightE ns = true) : ∃ fs ds, ShInv ns (fs, ds) ∧ fs.length = ns.length ∧ ns.length ≤ 64 ∧ 1 ≤ ns.length ∧ shapeL ns [] [] = some (fs, ds) ∧ fs.getD (ns.length - 1) 0 = 0 ∧ ds.getD (ns.length - 1) 0 ≤ 16 := by
  have h' := h
  unfold rightE at h
  simp only [Bool.and_eq_true, decide_eq_true_eq] at h
  obtain ⟨fs, ds, hi, hl⟩ := sh_full h.1.1.2
  have hd := hi.done (by omega)
  have e1 := h.1.2
  have e2 := h.2
  unfold shFs at e1
  unfold shDs at e2
  rw [hd] at e1 e2
  exact ⟨fs, ds, hi, hl, h.1.1.1.2, h.1.1.1.1, hd, e1, e2⟩
theorem shape_last {ns : List Nod} {n : Nod} {fs ds fs' ds' : List Nat} (h : shapeL (ns ++ [n]) fs ds = some (fs', ds')) : ∃ fA dA f d, shapeL ns fs ds = some (fA, dA) ∧ fs' = fA ++ [f] ∧ ds' = dA ++ [d] := by
  rw [shapeL_app] at h
  split at h
  · rename_i f d hs
    unfold shapeL at h
    split at h
    · cases h; exact ⟨f, d, _, _, hs, rfl, rfl⟩
    · cases h
  · cases h
theorem right_both {a b : List Nod} {op : Int} (hop : operands op = 2) (hb : NodA b) (h : rightE (bothN a b op) = true) : rightE a = true ∧ rightE b = true := by
  obtain ⟨fs, ds, hi, hl, h64, h1, hs, hf0, hd0⟩ := right_all h
  have hlen : (bothN a b op).length = a.length + b.length + 1 := by simp [bothN, shiftL]; omega
  rw [hlen] at hl h64 hf0 hd0
  have hdl : fs.length = ds.length := hi.hl
  rw [show a.length + b.length + 1 - 1 = a.length + b.length by omega] at hf0 hd0
  obtain ⟨nd, hnd, _, hc⟩ := hi.cases (getD_some (l := fs) (j := a.length + b.length) (by omega)) (getD_some (l := ds) (j := a.length + b.length) (by omega))
  have hnd' : nd = opN op ((a.length : Int) - 1) (((a.length + b.length : Nat) : Int) - 1) := by
    unfold bothN at hnd
    rw [List.getElem?_append_right (by simp [shiftL])] at hnd
    simp [shiftL] at hnd
    rw [← hnd]; simp
  have ho : nd.op = op := by rw [hnd']; rfl
  have hna : nd.a = (a.length : Int) - 1 := by rw [hnd']; rfl
  rcases hc with ⟨o, _⟩ | ⟨o, _⟩ | ⟨o, q1, f1, d1, d2, q2, q3, q4, q5, q6, q7, q8, q9, q10⟩
  · rw [ho, hop] at o; cases o
  · rw [ho, hop] at o; cases o
  have hp : f1 = a.length := by omega
  subst hp
  rw [hf0] at q5
  have hbpos : 1 ≤ b.length := by
    rcases Nat.eq_zero_or_pos b.length with e | e
    · have := hi.hf _ _ q2; omega
    · exact e
  unfold bothN at hs
  obtain ⟨fA, dA, f, d, hs2, rfl, rfl⟩ := shape_last hs
  have hs3 := hs2
  rw [shapeL_app] at hs3
  split at hs3
  case h_2 => cases hs3
  rename_i fP dP hP
  have lP := shapeL_len hP
  have lA := shapeL_len hs2
  simp only [List.length_nil, Nat.zero_add, List.length_append, shiftL, List.length_map] at lP lA
  have gA : ∀ j, j < fA.length → (fA ++ [f]).getD j 0 = fA.getD j 0 := fun j hj => by rw [getD_app, if_pos hj]
  have gA2 : ∀ j, j < dA.length → (dA ++ [d]).getD j 0 = dA.getD j 0 := fun j hj => by rw [getD_app, if_pos hj]
  have hle : ∀ j, fA.getD j 0 ≤ j := fun j => by
    by_cases hj : j < fA.length
    · have := getD_le hi j; rwa [gA j hj] at this
    · rw [List.getD_eq_getElem?_getD, List.getElem?_eq_none (by omega)]; exact Nat.zero_le _
  obtain ⟨⟨z1, e1⟩, ⟨z2, e2⟩⟩ := shapeL_pre hs3
  have hleP : ∀ j, fP.getD j 0 ≤ j := fun j => by
    by_cases hj : j < fP.length
    · have := hle j; rwa [e1, getD_app, if_pos hj] at this
    · rw [List.getD_eq_getElem?_getD, List.getElem?_eq_none (by omega)]; exact Nat.zero_le _
  have hin : ∀ j, j < fA.length → a.length ≤ j → a.length ≤ fA.getD j 0 := fun j hj hpj => by
    have := inside hi _ _ q2 j ((fA ++ [f]).getD j 0) hpj (by omega) (getD_some (by simp; omega))
    rwa [gA j hj] at this
  obtain ⟨gs, es, k1, k2, k3⟩ := shift_back (p := a.length) lP.1 lP.2 hleP b [] [] fA dA hb rfl (by simp; omega) (fun j => by simp) (by simpa using hs3) hin hle
  have lB := shapeL_len k1
  simp only [List.length_nil, Nat.zero_add] at lB
  refine ⟨right_mk (by omega) (by omega) hP ?_ ?_, right_mk hbpos (by omega) k1 ?_ ?_⟩
  · have := getD_of q5
    rwa [gA _ (by omega), e1, getD_app, if_pos (by omega)] at this
  · have := getD_of q6
    rw [gA2 _ (by omega), e2, getD_app, if_pos (by omega)] at this
    rw [this]; omega
  · have := getD_of q2
    rw [gA _ (by omega), k2, getD_app, if_neg (by omega), lP.1, show a.length + b.length - 1 - a.length = b.length - 1 by omega, getD_add (by omega)] at this
    omega
  · have := getD_of q7
    rw [gA2 _ (by omega), k3, getD_app, if_neg (by omega), lP.2, show a.length + b.length - 1 - a.length = b.length - 1 by omega] at this
    rw [this]; omega
theorem right_under {a : List Nod} {op : Int} (hop : operands op = 1) (h : rightE (underN a op) = true) : rightE a = true := by
  obtain ⟨fs, ds, hi, hl, h64, h1, hs, hf0, hd0⟩ := right_all h
  have hlen : (underN a op).length = a.length + 1 := by simp [underN]
  rw [hlen] at hl h64 hf0 hd0
  have hdl : fs.length = ds.length := hi.hl
  rw [show a.length + 1 - 1 = a.length by omega] at hf0 hd0
  obtain ⟨nd, hnd, _, hc⟩ := hi.cases (getD_some (l := fs) (j := a.length) (by omega)) (getD_some (l := ds) (j := a.length) (by omega))
  have ho : nd.op = op := by
    unfold underN at hnd
    rw [List.getElem?_append_right (by omega)] at hnd
    simp at hnd
    rw [← hnd]; rfl
  rcases hc with ⟨o, _⟩ | ⟨o, q1, d1, q2, q3, q4, _⟩ | ⟨o, _⟩
  · rw [ho, hop] at o; cases o
  · unfold underN at hs
    obtain ⟨fA, dA, f, d, hs2, rfl, rfl⟩ := shape_last hs
    have lA := shapeL_len hs2
    simp only [List.length_nil, Nat.zero_add] at lA
    rw [hf0] at q2
    refine right_mk q1 (by omega) hs2 ?_ ?_
    · have := getD_of q2
      rwa [getD_app, if_pos (by omega)] at this
    · have := getD_of q3
      rw [getD_app, if_pos (by omega)] at this
      rw [this]; omega
  · rw [ho, hop] at o; cases o

/-! ### What they come to -/
theorem ev_congr {get : Cel → Option Val} {x : Scn} {n n' : Nod} {p q p' q' : VW} (h1 : n'.op = n.op) (h2 : n'.value = n.value) (h3 : n'.ref = n.ref) (ho : 1 ≤ n.op ∧ n.op ≤ 25) (hp : operands n.op = 1 ∨ operands n.op = 2 → p' = p) (hq : operands n.op = 2 → q' = q) : evOp get x n' p' q' = evOp get x n p q := by
  obtain ⟨op, v, r, a, b⟩ := n
  obtain ⟨op', v', r', a', b'⟩ := n'
  simp only at h1 h2 h3 ho hp hq
  subst h1; subst h2; subst h3
  by_cases h5 : op' ≤ 5
  · unfold evOp
    by_cases e1 : op' = 1
    · simp [e1]
    by_cases e2 : op' = 2
    · simp [e2]
    by_cases e3 : op' = 3
    · simp [e3]
    by_cases e4 : op' = 4
    · simp [e4]
    have e5 : op' = 5 := by omega
    simp [e5]
  · have hp := hp (by unfold operands; (repeat' split) <;> simp <;> omega)
    subst hp
    by_cases h2 : op' ≤ 7 ∨ 23 ≤ op'
    · unfold evOp
      have : op' = 6 ∨ op' = 7 ∨ op' = 23 ∨ op' = 24 ∨ op' = 25 := by omega
      rcases this with e | e | e | e | e <;> simp [e]
    · rw [hq (by unfold operands; (repeat' split) <;> simp <;> omega)]
      rfl
theorem evN_at {ns e : List Nod} {p : Nat} {get : Cel → Option Val} {x : Scn} (hr : rightE e = true) (hp : p ≤ 1000) (hsub : ∀ (j : Nat) nd, e[j]? = some nd → ∃ nd', ns[j + p]? = some nd' ∧ nd'.op = nd.op ∧ nd'.value = nd.value ∧ nd'.ref = nd.ref ∧ (operands nd.op = 1 ∨ operands nd.op = 2 → nd'.a = IntKind.i64.wrap (nd.a + p)) ∧ (operands nd.op = 2 → nd'.b = IntKind.i64.wrap (nd.b + p))) :
    ∀ (f f' j : Nat), j < f → j < f' → j < e.length → evN ns get x f (j + p) = evN e get x f' j := by
  have h64 := right_len hr
  intro f
  induction f with
  | zero => intro f' j h; omega
  | succ f ih =>
    intro f' j hf hf' hj
    cases f' with
    | zero => omega
    | succ f' =>
      obtain ⟨nd, hnd⟩ : ∃ nd, e[j]? = some nd := ⟨_, List.getElem?_eq_getElem hj⟩
      obtain ⟨nd', h1, h2, h3, h4, h5, h6⟩ := hsub j nd hnd
      obtain ⟨_, o1, o2, ha, hb⟩ := right_ops hr hnd
      simp only [evN, hnd, h1]
      refine ev_congr h2 h3 h4 ⟨o1, o2⟩ (fun o => ?_) (fun o => ?_)
      · obtain ⟨k, hk, hlt⟩ := ha o
        have : nd'.a.toNat = k + p := by rw [h5 o, hk, IntKind.wrap_i64]; omega
        rw [this, hk, Int.toNat_natCast]
        exact ih f' k (by omega) (by omega) (by omega)
      · obtain ⟨k, hk, hlt⟩ := hb o
        have : nd'.b.toNat = k + p := by rw [h6 o, hk, IntKind.wrap_i64]; omega
        rw [this, hk, Int.toNat_natCast]
        exact ih f' k (by omega) (by omega) (by omega)
theorem ev_right {ns : List Nod} {get : Cel → Option Val} {x : Scn} (h : rightE ns = true) : evE ns get x = evN ns get x ns.length (ns.length - 1) := by unfold evE; exact if_pos h
theorem wrap_same {n : Int} (h : inI n) : IntKind.i64.wrap (n + ((0 : Nat) : Int)) = n := by
  unfold inI at h; rw [IntKind.wrap_i64]; omega
theorem ev_both {a b : List Nod} {op : Int} {get : Cel → Option Val} {x : Scn} (hop : operands op = 2) (ha : NodA a) (hb : NodA b) (h : rightE (bothN a b op) = true) :
    evE (bothN a b op) get x = evOp get x (opN op ((a.length : Int) - 1) (((a.length + b.length : Nat) : Int) - 1)) (evE a get x) (evE b get x) := by
  obtain ⟨hra, hrb⟩ := right_both hop hb h
  have la := right_len hra
  have lb := right_len hrb
  have pa := right_pos hra
  have pb := right_pos hrb
  have hlen : (bothN a b op).length = a.length + b.length + 1 := by simp [bothN, shiftL]; omega
  rw [ev_right h, ev_right hra, ev_right hrb, hlen]
  have hlast : (bothN a b op)[a.length + b.length]? = some (opN op ((a.length : Int) - 1) (((a.length + b.length : Nat) : Int) - 1)) := by
    unfold bothN
    rw [List.getElem?_append_right (by simp [shiftL])]
    simp [shiftL]
  rw [show a.length + b.length + 1 - 1 = a.length + b.length by omega]
  simp only [evN, hlast]
  have e1 : (opN op ((a.length : Int) - 1) (((a.length + b.length : Nat) : Int) - 1)).a.toNat = (a.length - 1) + 0 := by show ((a.length : Int) - 1).toNat = _; omega
  have e2 : (opN op ((a.length : Int) - 1) (((a.length + b.length : Nat) : Int) - 1)).b.toNat = (b.length - 1) + a.length := by show ((((a.length + b.length : Nat) : Int) - 1)).toNat = _; omega
  rw [e1, e2]
  have q1 := evN_at (ns := bothN a b op) (e := a) (p := 0) (get := get) (x := x) hra (by omega) (fun j nd hnd => by
    have hm := ha nd (List.mem_of_getElem? hnd)
    refine ⟨nd, ?_, rfl, rfl, rfl, fun _ => (wrap_same hm.1).symm, fun _ => (wrap_same hm.2).symm⟩
    have hj := (List.getElem?_eq_some_iff.1 hnd).1
    unfold bothN
    rw [Nat.add_zero, List.append_assoc, List.getElem?_append_left hj]; exact hnd) (a.length + b.length) a.length (a.length - 1) (by omega) (by omega) (by omega)
  have q2 := evN_at (ns := bothN a b op) (e := b) (p := a.length) (get := get) (x := x) hrb (by omega) (fun j nd hnd => by
    have hj := (List.getElem?_eq_some_iff.1 hnd).1
    refine ⟨shiftN a.length nd, ?_, rfl, rfl, rfl, fun o => ?_, fun o => ?_⟩
    · unfold bothN
      rw [List.getElem?_append_left (by simp [shiftL]; omega), List.getElem?_append_right (by omega), show j + a.length - a.length = j by omega]
      simp [shiftL, hnd]
    · show (if _ then _ else _) = _
      rcases o with o | o
      · rw [if_pos (op_of.2.1 o).1]
      · rw [if_pos (op_of.2.2 o).1]
    · show (if _ then _ else _) = _
      rw [if_pos (op_of.2.2 o).2]) (a.length + b.length) b.length (b.length - 1) (by omega) (by omega) (by omega)
  rw [q1, q2]
theorem ev_under {a : List Nod} {op : Int} {get : Cel → Option Val} {x : Scn} (hop : operands op = 1) (ha : NodA a) (h : rightE (underN a op) = true) :
    ∃ q, evE (underN a op) get x = evOp get x (opN op ((a.length : Int) - 1) 0) (evE a get x) q := by
  have hra := right_under hop h
  have la := right_len hra
  have pa := right_pos hra
  have hlen : (underN a op).length = a.length + 1 := by simp [underN]
  rw [ev_right h, ev_right hra, hlen]
  have hlast : (underN a op)[a.length]? = some (opN op ((a.length : Int) - 1) 0) := by
    unfold underN
    rw [List.getElem?_append_right (by omega)]
    simp
  rw [show a.length + 1 - 1 = a.length by omega]
  simp only [evN, hlast]
  have e1 : (opN op ((a.length : Int) - 1) 0).a.toNat = (a.length - 1) + 0 := by show ((a.length : Int) - 1).toNat = _; omega
  rw [e1]
  have q1 := evN_at (ns := underN a op) (e := a) (p := 0) (get := get) (x := x) hra (by omega) (fun j nd hnd => by
    have hm := ha nd (List.mem_of_getElem? hnd)
    refine ⟨nd, ?_, rfl, rfl, rfl, fun _ => (wrap_same hm.1).symm, fun _ => (wrap_same hm.2).symm⟩
    have hj := (List.getElem?_eq_some_iff.1 hnd).1
    unfold underN
    rw [Nat.add_zero, List.getElem?_append_left hj]; exact hnd) a.length a.length (a.length - 1) (by omega) (by omega) (by omega)
  rw [q1]
  exact ⟨_, rfl⟩
/-! ### The same shape -/
def keyN (n : Nod) : Bool × Int × Int × Int := (plainOk n, operands n.op, n.a, n.b)
theorem step_key {n n' : Nod} {fs ds : List Nat} (h : keyN n = keyN n') : shapeStep fs ds n = shapeStep fs ds n' := by
  simp only [keyN, Prod.mk.injEq] at h
  obtain ⟨h1, h2, h3, h4⟩ := h
  unfold shapeStep
  rw [h1, h2, h3, h4]
theorem shape_key : ∀ {ns ns' : List Nod} {fs ds : List Nat}, ns.map keyN = ns'.map keyN → shapeL ns fs ds = shapeL ns' fs ds
  | [], [], _, _, _ => rfl
  | n :: ns, n' :: ns', fs, ds, h => by
    simp only [List.map_cons, List.cons.injEq] at h
    simp only [shapeL, step_key h.1]
    split
    · exact shape_key h.2
    · rfl
  | [], _ :: _, _, _, h => by simp at h
  | _ :: _, [], _, _, h => by simp at h
theorem right_key {ns ns' : List Nod} (h : ns.map keyN = ns'.map keyN) : rightE ns = rightE ns' := by
  have hl : ns.length = ns'.length := by have := congrArg List.length h; simpa using this
  unfold rightE shFs shDs shOk
  rw [shape_key h, hl]
/-! ### What is of joined ones -/
def boolN (t : Bool) : Nod := ⟨1, truthV t, ⟨0, noB⟩, 0, 0⟩
theorem boolN_fit (t : Bool) : (boolN t).fit ∧ inI (boolN t).value.int := ⟨⟨⟨by show (0 : Nat) ≤ _; omega, by show (0 : Nat) < _; omega⟩, by show (0 : Nat) ≤ _; omega⟩, by show inI 0; decide⟩
theorem opN_fit (op a b : Int) : (opN op a b).fit ∧ inI (opN op a b).value.int := ⟨⟨⟨by show (0 : Nat) ≤ _; omega, by show (0 : Nat) < _; omega⟩, by show (0 : Nat) ≤ _; omega⟩, by show inI 0; decide⟩
theorem truth_fit (t : Bool) : ∀ n ∈ truthN t, n.fit ∧ inI n.value.int := fun n hn => by
  obtain rfl := List.mem_singleton.1 hn; exact boolN_fit t
theorem truth_A (t : Bool) : NodA (truthN t) := fun n hn => by
  obtain rfl := List.mem_singleton.1 hn; exact ⟨by show inI 0; decide, by show inI 0; decide⟩
theorem both_fit {a b : List Nod} {op : Int} (ha : ∀ n ∈ a, n.fit ∧ inI n.value.int) (hb : ∀ n ∈ b, n.fit ∧ inI n.value.int) : ∀ n ∈ bothN a b op, n.fit ∧ inI n.value.int := by
  intro n hn
  simp only [bothN, shiftL, List.mem_append, List.mem_map, List.mem_singleton] at hn
  rcases hn with (hn | ⟨m, hm, rfl⟩) | rfl
  · exact ha n hn
  · exact hb m hm
  · exact opN_fit _ _ _
theorem both_A {a b : List Nod} {op : Int} (ha : NodA a) (hb : NodA b) (la : a.length ≤ 100000000) (lb : b.length ≤ 100000000) : NodA (bothN a b op) := by
  intro n hn
  simp only [bothN, shiftL, List.mem_append, List.mem_map, List.mem_singleton] at hn
  rcases hn with (hn | ⟨m, hm, rfl⟩) | rfl
  · exact ha n hn
  · have h := hb m hm
    refine ⟨?_, ?_⟩
    · show inI (if _ then _ else _)
      split
      · exact (wrap_form _).choose_spec.2
      · exact h.1
    · show inI (if _ then _ else _)
      split
      · exact (wrap_form _).choose_spec.2
      · exact h.2
  · refine ⟨?_, ?_⟩
    · show inI ((a.length : Int) - 1); unfold inI; omega
    · show inI (((a.length + b.length : Nat) : Int) - 1); unfold inI; omega
theorem both_len {a b : List Nod} {op : Int} : (bothN a b op).length = a.length + b.length + 1 := by simp [bothN, shiftL]; omega
theorem under_fit {a : List Nod} {op : Int} (ha : ∀ n ∈ a, n.fit ∧ inI n.value.int) : ∀ n ∈ underN a op, n.fit ∧ inI n.value.int := by
  intro n hn
  simp only [underN, List.mem_append, List.mem_singleton] at hn
  rcases hn with hn | rfl
  · exact ha n hn
  · exact opN_fit _ _ _
theorem under_A {a : List Nod} {op : Int} (ha : NodA a) (la : a.length ≤ 100000000) : NodA (underN a op) := by
  intro n hn
  simp only [underN, List.mem_append, List.mem_singleton] at hn
  rcases hn with hn | rfl
  · exact ha n hn
  · refine ⟨?_, by show inI 0; decide⟩
    show inI ((a.length : Int) - 1); unfold inI; omega
theorem under_len {a : List Nod} {op : Int} : (underN a op).length = a.length + 1 := by simp [underN]
theorem both_truth (t : Bool) (e : List Nod) (op : Int) : (bothN (truthN t) e op)[0]? = some (boolN t) ∧ (bothN (truthN t) e op)[e.length + 1]? = some (opN op 0 (((1 + e.length : Nat) : Int) - 1)) := by
  refine ⟨rfl, ?_⟩
  unfold bothN
  rw [List.getElem?_append_right (by simp [shiftL, truthN])]
  simp [shiftL, truthN]
/-- The value that a truth comes to. -/
theorem ev_truth {t : Bool} {get : Cel → Option Val} {x : Scn} : evE (truthN t) get x = (truthV t, 0) := by
  cases t <;> rfl
theorem truth_same {t t' : Bool} {e : List Nod} {op op' : Int} (h : plainOk (opN op 0 0) = plainOk (opN op' 0 0)) (ho : operands op = operands op') : rightE (bothN (truthN t) e op) = rightE (bothN (truthN t') e op') := by
  refine right_key ?_
  have h1 : keyN (boolN t) = keyN (boolN t') := by cases t <;> cases t' <;> rfl
  have h2 : ∀ a b : Int, keyN (opN op a b) = keyN (opN op' a b) := fun a b => by
    show (plainOk (opN op 0 0), operands op, a, b) = (plainOk (opN op' 0 0), operands op', a, b)
    rw [h, ho]
  have e1 : truthN t = [boolN t] := rfl
  have e2 : truthN t' = [boolN t'] := rfl
  rw [e1, e2]
  simp only [bothN, List.map_append, List.map_cons, List.map_nil, h1, h2, List.length_cons, List.length_nil]
/-! ### What Holds tells of them -/
theorem holds_short {p q : VW} : holdsP (opShort 8 p q) = if holdsP p = 0 then holdsP q else holdsP p := by
  obtain ⟨v, w⟩ := p
  obtain ⟨u, z⟩ := q
  unfold opShort holdsP whyK toldP
  by_cases h0 : w = 0 <;> by_cases h1 : v.kind = 3 <;> by_cases h2 : v.bool = true <;> by_cases h3 : z = 0 <;> by_cases h4 : u.kind = 3 <;> simp [h0, h1, h2, h3, h4]
  all_goals first | omega | grind
theorem holds_not {p : VW} (hp : VWok p) : holdsP (opNot p) = if holdsP p = 0 then 1 else if holdsP p = 1 then 0 else holdsP p := by
  obtain ⟨v, w⟩ := p
  have hw : w = 0 ∨ w = 2 ∨ w = 3 ∨ w = 4 ∨ w = 5 ∨ w = 6 ∨ w = 9 := by
    by_cases h : w = 0
    · exact .inl h
    · exact .inr (hp.whys h)
  unfold opNot holdsP whyK toldP truthV
  by_cases h1 : v.kind = 3 <;> by_cases h2 : v.bool = true <;> rcases hw with h0 | h0 | h0 | h0 | h0 | h0 | h0 <;> simp [h0, h1, h2]
theorem ev_and {get : Cel → Option Val} {x : Scn} {a b : Int} {p q : VW} : evOp get x (opN 8 a b) p q = opShort 8 p q := rfl
theorem ev_or {get : Cel → Option Val} {x : Scn} {a b : Int} {p q : VW} : evOp get x (opN 9 a b) p q = opShort 9 p q := rfl
theorem ev_not {get : Cel → Option Val} {x : Scn} {a b : Int} {p q : VW} : evOp get x (opN 6 a b) p q = opNot p := rfl
section
variable {a b e : List Nod} {get : Cel → Option Val} {x : Scn}
theorem both_holds (ha : NodA a) (hb : NodA b) (h : rightE (bothN a b 8) = true) : holdsP (evE (bothN a b 8) get x) = if holdsP (evE a get x) = 0 then holdsP (evE b get x) else holdsP (evE a get x) := by
  rw [ev_both (by decide) ha hb h, ev_and, holds_short]
theorem short_false (hA : NodA e) (h : rightE (bothN (truthN false) e 8) = true) : holdsP (evE (bothN (truthN false) e 8) get x) = 1 := by
  rw [both_holds (truth_A _) hA h, ev_truth]; rfl
theorem short_and (hA : NodA e) (h : rightE (bothN (truthN false) e 8) = true) : (evE e get x).2 ≠ 0 → holdsP (evE (bothN (truthN true) e 8) get x) = (evE e get x).2 := by
  intro h0
  rw [truth_same (t' := true) (op' := 8) rfl rfl] at h
  rw [both_holds (truth_A _) hA h, ev_truth, if_pos (by rfl)]
  unfold holdsP; exact if_neg h0
theorem short_true (hA : NodA e) (h : rightE (bothN (truthN false) e 8) = true) : holdsP (evE (bothN (truthN true) e 9) get x) = 0 := by
  rw [truth_same (t' := true) (op' := 9) (by rfl) (by decide)] at h
  rw [ev_both (by decide) (truth_A _) hA h, ev_or, ev_truth]; rfl
theorem not_holds {s : Sto} (hs : StoOk s) (hx : inI x.now ∧ inI x.began) (hn : ∀ n ∈ e, n.fit ∧ inI n.value.int) (hA : NodA e) (h : rightE (underN e 6) = true) :
    holdsP (evE (underN e 6) (getS s) x) = if holdsP (evE e (getS s) x) = 0 then 1 else if holdsP (evE e (getS s) x) = 1 then 0 else holdsP (evE e (getS s) x) := by
  obtain ⟨q, hq⟩ := ev_under (get := getS s) (x := x) (op := 6) (by decide) hA h
  rw [hq, ev_not, holds_not (ok_evE hs hx hn)]
end
end Go.Proofs.YtlclgpiabjlpbaaGreat.Am
