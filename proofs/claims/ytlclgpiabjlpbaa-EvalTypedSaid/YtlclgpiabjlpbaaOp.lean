/- Arguments opened: what a given value reads as is an abstract value over the world as it stands; and the arguments read behind the call as ahead of it. -/
import Derived.Test.YtlclgpiabjlpbaaAm14
import Derived.ProofKit
import Derived.OpenShut
import Derived.ChangeOld
import Derived.Carry
import Derived.Laws.Cover2
import Derived.Deep.Slices
namespace Go.Proofs.Ytlclgpiabjlpbaa.Am
open Go.ChangeShapes Go.WideShapes Go.ChangeAt Go.RowKit
set_option linter.unusedVariables false

/-- The shape of a type's cells. -/
inductive Sh where
  | nu (k : IntKind)
  | bo | fl | tx
  | st (l : List Sh)
  | sl (E : TypeId) (s : Sh)
mutual
def szS : Sh → Nat
  | .st l => szSL l
  | _ => 1
def szSL : List Sh → Nat
  | [] => 0
  | s :: r => szS s + szSL r
end
mutual
def shB (T : TT) : TypeId → Sh → Bool
  | t, .nu k => match T.P.underlying t with | some (.int k') => decide (k' = k) | _ => false
  | t, .bo => match T.P.underlying t with | some .bool => true | _ => false
  | t, .fl => match T.P.underlying t with | some (.float .f64) => true | _ => false
  | t, .tx => match T.P.underlying t with | some .string => true | _ => false
  | t, .st l => match T.P.underlying t with | some (.struct fs) => shBL T fs.toList l 0 && Nat.beq (T.P.cellsOf t) (szSL l) | _ => false
  | t, .sl E s => match T.P.underlying t with | some (.slice e) => Nat.beq e E && shB T E s && Nat.beq (T.P.cellsOf E) (szS s) && Nat.beq (T.sz E) (szS s) && Nat.blt 0 (szS s) | _ => false
def shBL (T : TT) : List Field → List Sh → Nat → Bool
  | [], [], _ => true
  | f :: fs, s :: ss, off => Nat.beq f.offset off && shB T f.type s && Nat.beq (T.P.cellsOf f.type) (szS s) && shBL T fs ss (off + szS s)
  | _, _, _ => false
end
/-- How much a reading holds, at least. -/
structure Bulk (H : Type) where
  be : DataW H → Nat
  ag : ∀ parts p, p ∈ parts → be p ≤ be (.agg parts)
  sl : ∀ el sp p, p ∈ el → be p ≤ be (.slice el sp)
  ln : ∀ el sp, el.length ≤ be (.slice el sp)
  tx : ∀ bytes, bytes.length ≤ be (.lit (.string bytes))
mutual
def fitS (B : Nat) : Sh → List AV → Prop
  | .nu k, xs => ∃ n, xs = [.i k n] ∧ (Lit.int k n).wf = true
  | .bo, xs => ∃ c, xs = [.b c]
  | .fl, xs => ∃ n, xs = [.f n] ∧ n < 18446744073709551616
  | .tx, xs => ∃ c, xs = [.s c] ∧ c.size ≤ B
  | .st l, xs => fitSL B l xs
  | .sl E s, xs => ∃ rows : List (List AV), xs = [.l none E rows] ∧ rows.length ≤ B ∧ ∀ r ∈ rows, fitS B s r
def fitSL (B : Nat) : List Sh → List AV → Prop
  | [], xs => xs = []
  | s :: ss, xs => ∃ a c, xs = a ++ c ∧ fitS B s a ∧ fitSL B ss c
end

section
variable (T : TT) (W : World)
mutual
/-- What a value of the world as it stands is. -/
def Wd : AV → Value → Prop
  | .b x, v => v = .bool x
  | .i k n, v => v = .int k n
  | .f x, v => v = .float .f64 x
  | .s x, v => v = .string x
  | .l none E es, v => ∃ A cap, v = .slice A es.length cap ∧ es.length ≤ cap ∧ cap ≤ maxLen ∧ (∀ e ∈ es, e.length = T.sz E) ∧ (es ≠ [] → ∃ c o, A = some ⟨c, o, none⟩ ∧ WdLL es c o (T.sz E))
  | _, _ => False
def WdLL : List (List AV) → Nat → Nat → Nat → Prop
  | [], _, _, _ => True
  | r :: rs, c, o, z => WdR r c o ∧ WdLL rs c (o + z) z
def WdR : List AV → Nat → Nat → Prop
  | [], _, _ => True
  | x :: xs, c, o => (∃ v, W.cell? ⟨c, o, none⟩ = some v ∧ Wd x v) ∧ WdR xs c (o + 1)
end
def WdV : List AV → List Value → Prop
  | [], vs => vs = []
  | x :: xs, vs => ∃ v vs', vs = v :: vs' ∧ Wd T W x v ∧ WdV xs vs'
/-- All that the world holds stays. -/
def G0 : Gh := { im := fun c i x => ∃ v, W.cell? ⟨c, i, none⟩ = some v ∧ Wd T W x v, bx := fun _ => none, tk := fun _ => none, kp := fun _ => none }
end

section
variable {T : TT} {W : World}
theorem wdR_get : ∀ {r : List AV} {c o : Nat}, WdR T W r c o → ∀ (j : Nat) (y : AV), r[j]? = some y → (G0 T W).im c (o + j) y
  | [], _, _, _, j, y, h => by simp at h
  | x :: xs, c, o, h, 0, y, hy => by
    simp at hy; subst hy
    unfold WdR at h
    exact h.1
  | x :: xs, c, o, h, j + 1, y, hy => by
    unfold WdR at h
    have := wdR_get h.2 j y (by simpa using hy)
    rwa [show o + 1 + j = o + (j + 1) by omega] at this
theorem wdLL_get : ∀ {es : List (List AV)} {c o z : Nat}, WdLL T W es c o z → ∀ (i j : Nat) (x : List AV) (y : AV), es[i]? = some x → x[j]? = some y → (G0 T W).im c (o + (i * z + j)) y
  | [], _, _, _, _, i, j, x, y, h, _ => by simp at h
  | r :: rs, c, o, z, h, 0, j, x, y, hx, hy => by
    simp at hx; subst hx
    unfold WdLL at h
    rw [Nat.zero_mul, Nat.zero_add]
    exact wdR_get h.1 j y hy
  | r :: rs, c, o, z, h, i + 1, j, x, y, hx, hy => by
    unfold WdLL at h
    have := wdLL_get h.2 i j x y (by simpa using hx) hy
    rwa [show o + z + (i * z + j) = o + ((i + 1) * z + j) by rw [Nat.succ_mul]; omega] at this
theorem wd_rel {x : AV} {v : Value} (h : Wd T W x v) : Rel T (G0 T W) x v ∧ x.flat = true := by
  unfold Wd at h
  split at h
  all_goals first | (exact ⟨h, rfl⟩) | (exact h.elim) | skip
  rename_i E es
  obtain ⟨A, cap, e1, e2, e3, e4, e5⟩ := h
  refine ⟨⟨A, cap, e1, e2, e3, e4, fun hne => ?_, fun tt ht => by cases ht⟩, rfl⟩
  obtain ⟨c, o, q1, q2⟩ := e5 hne
  exact ⟨c, o, q1, fun i j x y hx hy => wdLL_get q2 i j x y hx hy⟩
theorem wdV_rel : ∀ {xs : List AV} {vs : List Value}, WdV T W xs vs → RelL T (G0 T W) xs vs
  | [], _, h => h
  | x :: xs, _, h => by obtain ⟨v, vs', e, h1, h2⟩ := h; exact ⟨v, vs', e, (wd_rel h1).1, wdV_rel h2⟩
theorem wdV_append : ∀ {xs ys : List AV} {vs us : List Value}, WdV T W xs vs → WdV T W ys us → WdV T W (xs ++ ys) (vs ++ us)
  | [], _, _, _, h, k => by rw [show _ = _ from h]; exact k
  | x :: xs, _, _, _, h, k => by obtain ⟨v, vs', rfl, h1, h2⟩ := h; exact ⟨v, _, rfl, h1, wdV_append h2 k⟩
theorem wdV_R : ∀ {xs : List AV} {vs : List Value} {c o : Nat}, WdV T W xs vs → (∀ i v, vs[i]? = some v → W.cell? ⟨c, o + i, none⟩ = some v) → WdR T W xs c o
  | [], _, _, _, _, _ => by unfold WdR; trivial
  | x :: xs, _, c, o, h, k => by
    obtain ⟨v, vs', rfl, h1, h2⟩ := h
    unfold WdR
    refine ⟨⟨v, by simpa using k 0 v rfl, h1⟩, wdV_R h2 fun i u hu => ?_⟩
    have := k (i + 1) u (by simpa using hu)
    rwa [show o + (i + 1) = o + 1 + i by omega] at this
theorem inv0 : Inv T W.heap.size (G0 T W) ⟨[], []⟩ W :=
  ⟨Nat.le_refl _, (fun b c hb => by cases hb), (fun b b' c hb => by cases hb), (fun b x hb => by simp at hb), (fun c i x hx => by obtain ⟨v, h1, h2⟩ := hx; exact ⟨⟨v, h1, (wd_rel h2).1⟩, (wd_rel h2).2, fun b hb => by cases hb⟩), (fun t ht => by cases ht), ⟨0, fun _ _ => rfl⟩, (fun t t' k k' ht => by cases ht), (fun c o h => by cases h)⟩
end

section
variable {H : Type} {enc : TypeId × Value → H} {T : TT} {W : World} {base : Nat} {spare : Nat → Bool} {held : Bool} {B : Nat}
/-- The bound: none, or what the reading holds. -/
def bnd (B : Nat) (d : DataW H) : Prop := maxLen ≤ B ∨ ∃ K : Bulk H, K.be d ≤ B
theorem bnd_ag {parts : List (DataW H)} {p : DataW H} (h : bnd B (.agg parts)) (hp : p ∈ parts) : bnd B p := by
  rcases h with h | ⟨K, h⟩
  · exact .inl h
  · exact .inr ⟨K, Nat.le_trans (K.ag _ _ hp) h⟩
theorem bnd_sl {el sp : List (DataW H)} {p : DataW H} (h : bnd B (.slice el sp)) (hp : p ∈ el) : bnd B p := by
  rcases h with h | ⟨K, h⟩
  · exact .inl h
  · exact .inr ⟨K, Nat.le_trans (K.sl _ _ _ hp) h⟩
theorem bnd_ln {el sp : List (DataW H)} (h : bnd B (.slice el sp)) (hm : el.length ≤ maxLen) : el.length ≤ B := by
  rcases h with h | ⟨K, h⟩
  · exact Nat.le_trans hm h
  · exact Nat.le_trans (K.ln _ _) h
theorem bnd_tx {s : ByteArray} (h : bnd B (DataW.lit (H := H) (.string s.data.toList))) (hm : s.size ≤ maxLen) : s.size ≤ B := by
  rcases h with h | ⟨K, h⟩
  · exact Nat.le_trans hm h
  · have := K.tx s.data.toList
    rw [show s.data.toList.length = s.size from rfl] at this
    exact Nat.le_trans this h
/-- Rows one behind the other. -/
theorem rows_of {p : List AV → Prop} {z c : Nat} (n : Nat) (o : Nat) (h : ∀ i, i < n → ∃ r, p r ∧ r.length = z ∧ WdR T W r c (o + i * z)) : ∃ rows : List (List AV), rows.length = n ∧ (∀ r ∈ rows, p r ∧ r.length = z) ∧ WdLL T W rows c o z := by
  induction n generalizing o with
  | zero => exact ⟨[], rfl, by simp, by unfold WdLL; trivial⟩
  | succ n ih =>
    obtain ⟨r, h1, h2, h3⟩ := h 0 (by omega)
    obtain ⟨rows, k1, k2, k3⟩ := ih (o + z) fun i hi => by
      obtain ⟨r, q1, q2, q3⟩ := h (i + 1) (by omega)
      exact ⟨r, q1, q2, by rwa [show o + (i + 1) * z = o + z + i * z by rw [Nat.succ_mul]; omega] at q3⟩
    refine ⟨r :: rows, by simp [k1], ?_, ?_⟩
    · intro q hq
      rcases List.mem_cons.1 hq with rfl | hq
      · exact ⟨h1, h2⟩
      · exact k2 q hq
    · unfold WdLL
      exact ⟨by simpa using h3, k3⟩
mutual
theorem open_sh : ∀ (s : Sh) (t fuel : Nat) (cs : List Value) (x : DataW H × List MemPlace), shB T t s = true → DataW.trod enc T.P W base spare held fuel t cs = some x → bnd B x.1 → ∃ xs, fitS B s xs ∧ xs.length = szS s ∧ WdV T W xs cs
  | .nu k, t, fuel, cs, x, hs, h, hq => by
    unfold shB at hs
    split at hs
    · rename_i k' hu
      have := of_decide_eq_true hs
      subst this
      obtain ⟨n, rfl, _, hw⟩ := DataW.trod_int hu h
      exact ⟨[.i k' n], by unfold fitS; exact ⟨n, rfl, hw⟩, rfl, _, _, rfl, by unfold Wd; rfl, rfl⟩
    · cases hs
  | .bo, t, fuel, cs, x, hs, h, hq => by
    unfold shB at hs
    split at hs
    · rename_i hu
      obtain ⟨n, rfl, _⟩ := DataW.trod_bool hu h
      exact ⟨[.b n], by unfold fitS; exact ⟨n, rfl⟩, rfl, _, _, rfl, by unfold Wd; rfl, rfl⟩
    · cases hs
  | .fl, t, fuel, cs, x, hs, h, hq => by
    unfold shB at hs
    split at hs
    · rename_i hu
      cases fuel with
      | zero => simp [DataW.trod] at h
      | succ m =>
        have : ∃ q, cs = [.float .f64 q] ∧ q < 18446744073709551616 := by
          unfold DataW.trod at h
          rw [hu] at h
          split at h
          case h_3 heq =>
            obtain rfl : FloatKind.f64 = _ := by injection heq with q; injection q
            split at h
            · rename_i q; exact ⟨_, by rw [q.1], by simpa [Lit.wf] using q.2⟩
            · cases h
          all_goals simp_all
        obtain ⟨q, rfl, hw⟩ := this
        exact ⟨[.f q], by unfold fitS; exact ⟨q, rfl, hw⟩, rfl, _, _, rfl, by unfold Wd; rfl, rfl⟩
    · cases hs
  | .tx, t, fuel, cs, x, hs, h, hq => by
    unfold shB at hs
    split at hs
    · rename_i hu
      obtain ⟨n, rfl, rfl, hw⟩ := DataW.trod_string hu h
      exact ⟨[.s n], by unfold fitS; exact ⟨n, rfl, bnd_tx hq hw⟩, rfl, _, _, rfl, by unfold Wd; rfl, rfl⟩
    · cases hs
  | .st l, t, fuel, cs, x, hs, h, hq => by
    unfold shB at hs
    split at hs
    · rename_i fs hu
      simp only [Bool.and_eq_true] at hs
      obtain ⟨ys, m, _, rfl, hl, hyl, hf⟩ := DataW.trod_struct hu h
      have hc := Nat.eq_of_beq_eq_true hs.2
      obtain ⟨xs, k1, k2, k3⟩ := open_shL l fs.toList 0 m cs hs.1 (fun i f hi => by
        have hi' : fs[i]? = some f := by simpa using hi
        have hlt : i < ys.length := by rw [hyl]; exact (Array.getElem?_eq_some_iff.1 hi').1
        exact ⟨ys[i], by rw [hf i f hi', List.getElem?_eq_getElem hlt], bnd_ag hq (List.mem_map.2 ⟨ys[i], List.getElem_mem hlt, rfl⟩)⟩) (by rw [hl, hc, Nat.zero_add])
      exact ⟨xs, by unfold fitS; exact k1, by unfold szS; exact k2, by simpa using k3⟩
    · cases hs
  | .sl E s, t, fuel, cs, x, hs, h, hq => by
    unfold shB at hs
    split at hs
    · rename_i e hu
      simp only [Bool.and_eq_true] at hs
      obtain ⟨⟨⟨⟨he, hE⟩, hc⟩, hz⟩, hpos⟩ := hs
      have hpos : 0 < szS s := by simpa using hpos
      have he := Nat.eq_of_beq_eq_true he
      subst he
      have hc := Nat.eq_of_beq_eq_true hc
      have hz := Nat.eq_of_beq_eq_true hz
      rcases Deep.open_slice hu h with ⟨rfl, _⟩ | ⟨a, len, cap, m, n, D, Pl, rfl, _, hl, hm, hmm, rfl, hx⟩
      · exact ⟨[.l none e []], by unfold fitS; exact ⟨[], rfl, by simp, by simp⟩, rfl, _, _, rfl, by unfold Wd; exact ⟨none, 0, rfl, by simp, by simp, by simp, by simp⟩, rfl⟩
      · have hml : len ≤ m := by rw [hmm]; split <;> omega
        by_cases h0 : len = 0
        · subst h0
          exact ⟨[.l none e []], by unfold fitS; exact ⟨[], rfl, by simp, by simp⟩, rfl, _, _, rfl, by unfold Wd; exact ⟨some a, cap, rfl, by simp, hm, by simp, by simp⟩, rfl⟩
        · obtain ⟨bk, off, spot⟩ := a
          have hspot : spot = none := by
            obtain ⟨cs', q1, _⟩ := hx 0 (by omega)
            obtain ⟨_, hl', hcell⟩ := World.cells?_some q1
            have hlt : 0 < cs'.length := by rw [hl', hc]; omega
            have := hcell 0 (by rw [hc]; omega)
            rw [List.getElem?_eq_getElem hlt] at this
            simpa [Addr.add] using World.cell?_spot this
          subst hspot
          obtain ⟨rows, r1, r2, r3⟩ := rows_of (T := T) (W := W) (p := fitS B s) (z := szS s) (c := bk) len off fun i hi => by
            obtain ⟨cs', q1, q2⟩ := hx i (by omega)
            obtain ⟨xs, k1, k2, k3⟩ := open_sh s e n cs' _ hE q2 (bnd_sl hq (List.mem_map.2 ⟨i, List.mem_range.2 hi, rfl⟩))
            refine ⟨xs, k1, k2, wdV_R k3 fun j v hv => ?_⟩
            obtain ⟨_, hl', hcell⟩ := World.cells?_some q1
            have hj := (List.getElem?_eq_some_iff.1 hv).1
            have := hcell j (by omega)
            rw [hv, Go.WideShapes.add_plain, Go.WideShapes.add_plain, hc] at this
            exact this
          have hbl := bnd_ln hq (by simp; omega)
          simp only [List.length_map, List.length_range] at hbl
          refine ⟨[.l none e rows], by unfold fitS; exact ⟨rows, rfl, by omega, fun r hr => (r2 r hr).1⟩, rfl, _, _, rfl, ?_, rfl⟩
          unfold Wd
          exact ⟨some ⟨bk, off, none⟩, cap, by rw [r1], by omega, hm, fun r hr => by rw [(r2 r hr).2, hz], fun _ => ⟨bk, off, rfl, by rw [hz]; exact r3⟩⟩
    · cases hs
theorem open_shL : ∀ (ss : List Sh) (fs : List Field) (off m : Nat) (cs : List Value), shBL T fs ss off = true → (∀ (i : Nat) (f : Field), fs[i]? = some f → ∃ y, DataW.trod enc T.P W base spare held m f.type ((cs.drop f.offset).take (T.P.cellsOf f.type)) = some y ∧ bnd B y.1) →
    cs.length = off + szSL ss → ∃ xs, fitSL B ss xs ∧ xs.length = szSL ss ∧ WdV T W xs (cs.drop off)
  | [], [], off, m, cs, hs, h, hl => ⟨[], by unfold fitSL; rfl, by unfold szSL; rfl, by
      unfold szSL at hl
      rw [List.drop_of_length_le (by omega)]; rfl⟩
  | s :: ss, f :: fs, off, m, cs, hs, h, hl => by
    unfold shBL at hs
    simp only [Bool.and_eq_true] at hs
    obtain ⟨⟨⟨h1, h2⟩, h3⟩, h4⟩ := hs
    have h1 := Nat.eq_of_beq_eq_true h1
    have h3 := Nat.eq_of_beq_eq_true h3
    obtain ⟨y, hy, hyb⟩ := h 0 f rfl
    rw [h1, h3] at hy
    obtain ⟨xs, k1, k2, k3⟩ := open_sh s f.type m _ y h2 hy hyb
    unfold szSL at hl
    obtain ⟨zs, q1, q2, q3⟩ := open_shL ss fs (off + szS s) m cs h4 (fun i g hg => h (i + 1) g (by simpa using hg)) (by omega)
    refine ⟨xs ++ zs, by unfold fitSL; exact ⟨xs, zs, rfl, k1, q1⟩, by unfold szSL; rw [List.length_append, k2, q2], ?_⟩
    rw [← List.take_append_drop (szS s) (cs.drop off), List.drop_drop]
    exact wdV_append k3 q3
  | [], _ :: _, off, m, cs, hs, h, hl => by simp [shBL] at hs
  | _ :: _, [], off, m, cs, hs, h, hl => by simp [shBL] at hs
end
/-- An argument, by its cells. -/
def asArg : Sh → List AV → AV
  | .st _, xs => .agg xs
  | _, xs => xs.headD .u
def fitA (B : Nat) : List Sh → List AV → Prop
  | [], as => as = []
  | s :: ss, as => ∃ xs r, as = asArg s xs :: r ∧ fitS B s xs ∧ fitA B ss r
def shA (T : TT) : List TypeId → List Sh → Bool
  | [], [] => true
  | t :: ts, s :: ss => shB T t s && shA T ts ss
  | _, _ => false
theorem wdV_one {x : AV} {xs : List AV} {v : Value} (h : WdV T W xs [v]) (hx : xs.length = 1) : Rel T (G0 T W) (xs.headD .u) v := by
  match xs, hx, h with
  | [y], _, h =>
    obtain ⟨u, us, e, h1, h2⟩ := h
    injection e with e1 e2
    subst e1
    exact (wd_rel h1).1
theorem open_arg {b0 : Nat} {s : Sh} {t : TypeId} {v : Value} {d : DataW H} {ps : List MemPlace} (hs : shB T t s = true) (hv : Value.okWide T.P W .any b0 t v) (h : DataW.Trod enc T.P W base spare held t v d ps) (hq : bnd B d) :
    ∃ xs, fitS B s xs ∧ Rel T (G0 T W) (asArg s xs) v := by
  obtain ⟨m, hm⟩ := h
  obtain ⟨xs, k1, k2, k3⟩ := open_sh s t m _ _ hs hm hq
  refine ⟨xs, k1, ?_⟩
  cases s with
  | st l =>
    unfold shB at hs
    split at hs
    · rename_i fs hu
      obtain ⟨cs, rfl, _⟩ := okWide_struct hu hv
      exact ⟨cs.toList, by simp, wdV_rel (by simpa [Value.cells] using k3)⟩
    · cases hs
  | nu k =>
    unfold shB at hs
    split at hs
    · rename_i hu
      obtain ⟨n, rfl⟩ := okWide_int hu hv
      exact wdV_one (x := .u) (by simpa [Value.cells] using k3) k2
    · cases hs
  | bo =>
    unfold shB at hs
    split at hs
    · rename_i hu
      obtain ⟨n, rfl⟩ := okWide_bool hu hv
      exact wdV_one (x := .u) (by simpa [Value.cells] using k3) k2
    · cases hs
  | fl =>
    unfold shB at hs
    split at hs
    · rename_i hu
      obtain ⟨n, rfl⟩ := okWide_float hu hv
      exact wdV_one (x := .u) (by simpa [Value.cells] using k3) k2
    · cases hs
  | tx =>
    unfold shB at hs
    split at hs
    · rename_i hu
      obtain ⟨n, rfl⟩ := okWide_string hu hv
      exact wdV_one (x := .u) (by simpa [Value.cells] using k3) k2
    · cases hs
  | sl E s =>
    unfold shB at hs
    split at hs
    · rename_i hu
      obtain ⟨a, n, c, rfl⟩ := okWide_slice hu hv
      exact wdV_one (x := .u) (by simpa [Value.cells] using k3) k2
    · cases hs
theorem open_args {b0 : Nat} : ∀ {ss : List Sh} {ts : List TypeId} {vs : List Value} {ds : List (DataW H)} {ps : List MemPlace}, shA T ts ss = true → (∀ (j : Nat) t v, ts[j]? = some t → vs[j]? = some v → Value.okWide T.P W .any b0 t v) →
    DataW.TrodAll enc T.P W base spare held ts vs ds ps → (∀ d ∈ ds, bnd B d) → ∃ as, fitA B ss as ∧ RelL T (G0 T W) as vs
  | [], [], [], [], ps, _, _, _, _ => ⟨[], by unfold fitA; rfl, rfl⟩
  | s :: ss, t :: ts, v :: vs, d :: ds, ps, hs, hv, h, hq => by
    unfold shA at hs
    simp only [Bool.and_eq_true] at hs
    obtain ⟨p, q, h1, h2, _⟩ := h
    obtain ⟨xs, k1, k2⟩ := open_arg hs.1 (hv 0 t v rfl rfl) h1 (hq d (by simp))
    obtain ⟨as, k3, k4⟩ := open_args hs.2 (fun j t v h1 h2 => hv (j + 1) t v (by simpa using h1) (by simpa using h2)) h2 (fun e he => hq e (by simp [he]))
    exact ⟨asArg s xs :: as, by unfold fitA; exact ⟨xs, as, rfl, k1, k3⟩, ⟨v, vs, rfl, k2, k4⟩⟩
  | [], _ :: _, _, _, _, hs, _, _, _ => by simp [shA] at hs
  | _ :: _, [], _, _, _, hs, _, _, _ => by simp [shA] at hs
  | _, [], _ :: _, _, _, _, _, h, _ => by simp [DataW.TrodAll] at h
  | _, _ :: _, [], _, _, _, _, h, _ => by simp [DataW.TrodAll] at h
  | _, [], [], _ :: _, _, _, _, h, _ => by simp [DataW.TrodAll] at h
  | _, _ :: _, _ :: _, [], _, _, _, h, _ => by simp [DataW.TrodAll] at h
end
theorem trodAll_stays {H : Type} {enc : TypeId × Value → H} {P : Program} (hl : laidOutB P = true) {W W' : World} (hb : Below W.heap.size W W') : ∀ {ts : List TypeId} {vs : List Value} {ds : List (DataW H)} {ps : List MemPlace}, (ts.all fun t => P.readableRec t && Nat.blt t P.types.size) = true →
    DataW.TrodAll enc P W 0 (fun _ => true) true ts vs ds ps → DataW.TrodAll enc P W' 0 (fun b => decide (b < W.heap.size)) true ts vs ds ps
  | [], [], [], ps, _, h => h
  | t :: ts, v :: vs, d :: ds, ps, hs, h => by
    simp only [List.all_cons, Bool.and_eq_true] at hs
    obtain ⟨p, q, h1, h2, rfl⟩ := h
    have hlt : ∀ x ∈ p, x.block < W.heap.size := by obtain ⟨m, hm⟩ := h1; exact DataW.trod_lt m _ _ _ hm
    exact ⟨p, q, Below.trod hl hs.1.1 (by simpa using hs.1.2) h1 hb hlt, trodAll_stays hl hb (by simpa [Bool.and_eq_true] using hs.2) h2, rfl⟩
  | [], _ :: _, _, _, _, h => by simp [DataW.TrodAll] at h
  | [], [], _ :: _, _, _, h => by simp [DataW.TrodAll] at h
  | _ :: _, [], _, _, _, h => by simp [DataW.TrodAll] at h
  | _ :: _, _ :: _, [], _, _, h => by simp [DataW.TrodAll] at h
/-- A law's call from the world as it is given. -/
theorem law_calls {T : TT} {f : FuncId} {as : List AV} {W : World} {vs : List Value} (h : ACalls T f as ⟨[], []⟩ fun r H' => r = .b true ∧ H' = ⟨[], []⟩) (hr : RelL T (G0 T W) as vs) :
    Calls T.P f vs.toArray W fun e w' => e = .returned (.bool true) ∧ Below W.heap.size W w' := by
  refine Am.Calls.mono' (h W.heap.size _ W vs inv0 hr) ?_
  rintro e w' ⟨r, v, G', H', rfl, ⟨rfl, _⟩, hr, _, _, hb⟩
  have hr : v = .bool true := hr
  exact ⟨by rw [hr], hb⟩
theorem rows_map {α : Type} {f : α → List AV} {p : α → Prop} : ∀ {rows : List (List AV)}, (∀ r ∈ rows, ∃ n, r = f n ∧ p n) → ∃ ns : List α, rows = ns.map f ∧ ∀ n ∈ ns, p n
  | [], _ => ⟨[], rfl, by simp⟩
  | r :: rows, h => by
    obtain ⟨n, rfl, hp⟩ := h r (by simp)
    obtain ⟨ns, rfl, hq⟩ := rows_map (rows := rows) fun q hq => h q (by simp [hq])
    exact ⟨n :: ns, rfl, by simpa [hp] using hq⟩
end Go.Proofs.Ytlclgpiabjlpbaa.Am
