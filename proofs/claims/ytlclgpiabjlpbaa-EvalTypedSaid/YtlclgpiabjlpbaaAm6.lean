/- A logic over the walk's rules, sixth part: how the world is kept: new boxes, stores into boxes, rows that are appended to. -/
import Derived.Test.YtlclgpiabjlpbaaAm5
import Derived.Laws.MakeOwn
import Derived.Laws.OwnMore
namespace Go.Proofs.Ytlclgpiabjlpbaa.Am
open Go.RowKit
set_option linter.unusedVariables false

section
variable {T : TT} {B : Nat} {G : Gh} {H : AH} {w : World}

theorem BoxOK.mono {G' : Gh} {n : Nat} (h : G.le n G') {c : Nat} {x : ABox} (hb : BoxOK T G w c x) : BoxOK T G' w c x := by
  cases x with
  | cells l => obtain ⟨vs, E, h1, h2, h3⟩ := hb; exact ⟨vs, E, h1, RelL.mono h _ _ h2, h3⟩
  | map es => obtain ⟨ms, ck, h1, h2, h3, h4⟩ := hb; exact ⟨ms, ck, h1, RelL.mono h _ _ h2, RelL.mono h _ _ h3, h4⟩
theorem BoxOK.world {w' : World} {c : Nat} {x : ABox} (hc : w'.heap[c]? = w.heap[c]?) (hb : BoxOK T G w c x) : BoxOK T G w' c x := by
  cases x with
  | cells l => obtain ⟨vs, E, h1, h2⟩ := hb; exact ⟨vs, E, hc.trans h1, h2⟩
  | map es => obtain ⟨ms, ck, h1, h2⟩ := hb; exact ⟨ms, ck, hc.trans h1, h2⟩

theorem Inv.im_lt (hi : Inv T B G H w) {c i : Nat} {x : AV} (h : G.im c i x) : c < w.heap.size := by
  obtain ⟨⟨v, hv, _⟩, _⟩ := hi.im c i x h
  exact World.block_lt_of_cell? w _ hv

theorem below_grown {w' : World} (hb : Below w.heap.size w w') (row : Option Nat) : w.grownBy w' row := ⟨hb.os, hb.tape, hb.output, hb.size, fun k hk _ => hb.block k hk⟩

theorem Inv.below (hi : Inv T B G H w) {w' : World} (hb : Below w.heap.size w w') : Inv T B G H w' where
  hB := Nat.le_trans hi.hB hb.size
  bx b c h := let ⟨h1, h2, h3⟩ := hi.bx b c h; ⟨h1, h2, Nat.lt_of_lt_of_le h3 hb.size⟩
  inj := hi.inj
  bs b x h := by
    obtain ⟨c, hc, hx⟩ := hi.bs b x h
    exact ⟨c, hc, hx.world (hb.block c (hi.bx b c hc).2.2)⟩
  im c i x h := by
    obtain ⟨⟨v, hv, hr⟩, h2⟩ := hi.im c i x h
    exact ⟨⟨v, below_cell hb hv, hr⟩, h2⟩
  tk t ht := by
    obtain ⟨k, xs, h1, h2, h3⟩ := hi.tk t ht
    exact ⟨k, xs, h1, h2.kept (below_grown hb none) (by cases k.v.ownBlock <;> simp), h3⟩
  fs := hi.fs
  ne := hi.ne
  kp c o h := by
    obtain ⟨h1, h2, h3⟩ := hi.kp c o h
    exact ⟨(hb.block c (Array.getElem?_eq_some_iff.1 h1).1).trans h1, h2, h3⟩

/-- One box more. -/
def Gh.addBox (G : Gh) (b c : Nat) : Gh := { G with bx := fun k => if k = b then some c else G.bx k }
theorem Inv.bx_none (hi : Inv T B G H w) {b : Nat} (h : H.bs.length ≤ b) : G.bx b = none := by
  cases hc : G.bx b with
  | none => rfl
  | some c => have := (hi.bx b c hc).1; omega
theorem Inv.le_addBox (hi : Inv T B G H w) (c : Nat) : G.le B (G.addBox H.bs.length c) := by
  refine ⟨fun _ _ _ h => h, fun _ _ _ _ h => h, fun b c' h => ?_, fun _ _ h => h, fun _ => rfl, fun _ _ _ _ h => h⟩
  have hb := (hi.bx b c' h).1
  show (if b = H.bs.length then some c else G.bx b) = _
  rw [if_neg (by omega)]; exact h

theorem Inv.newBox (hi : Inv T B G H w) {w' : World} (hb : Below w.heap.size w w') {c : Nat} (hc : w.heap.size ≤ c) (hc' : c < w'.heap.size) {x : ABox} (hx : BoxOK T (G.addBox H.bs.length c) w' c x) :
    Inv T B (G.addBox H.bs.length c) { H with bs := H.bs ++ [x] } w' := by
  have h0 := hi.below hb
  have hle := hi.le_addBox c
  have hbx : ∀ b c', (G.addBox H.bs.length c).bx b = some c' → (b = H.bs.length ∧ c' = c) ∨ (b < H.bs.length ∧ G.bx b = some c') := by
    intro b c' h
    have h' : (if b = H.bs.length then some c else G.bx b) = some c' := h
    split at h'
    · exact .inl ⟨by assumption, (Option.some.inj h').symm⟩
    · exact .inr ⟨(hi.bx b c' h').1, h'⟩
  refine ⟨h0.hB, fun b c' h => ?_, fun b b' c' h h' => ?_, fun b y hy => ?_, fun c' i y h => ?_, fun t ht => ?_, h0.fs, h0.ne, fun c' o' ho' => ?_⟩
  · rcases hbx b c' h with ⟨rfl, rfl⟩ | ⟨h1, h2⟩
    · simp; have := hi.hB; omega
    · have := h0.bx b c' h2; simp; omega
  · rcases hbx b c' h with ⟨rfl, rfl⟩ | ⟨h1, h2⟩ <;> rcases hbx b' _ h' with ⟨e1, e2⟩ | ⟨h1', h2'⟩
    · exact e1.symm
    · have := (hi.bx b' _ h2').2.2; omega
    · have := (hi.bx b _ h2).2.2; omega
    · exact hi.inj b b' c' h2 h2'
  · by_cases e : b < H.bs.length
    · simp only at hy
      rw [List.getElem?_append_left e] at hy
      obtain ⟨c', h1, h2⟩ := h0.bs b y hy
      exact ⟨c', hle.bx _ _ h1, h2.mono hle⟩
    · simp only at hy
      rw [List.getElem?_append_right (by omega)] at hy
      have : b = H.bs.length := by
        have := (List.getElem?_eq_some_iff.1 hy).1
        simp at this; omega
      subst this
      simp at hy
      subst hy
      exact ⟨c, by simp [Gh.addBox], hx⟩
  · obtain ⟨⟨v, hv, hr⟩, h2, h3⟩ := h0.im c' i y h
    refine ⟨⟨v, hv, Rel.mono hle _ _ hr⟩, h2, fun b hbb => ?_⟩
    rcases hbx b c' hbb with ⟨rfl, rfl⟩ | ⟨_, q⟩
    · have := hi.im_lt h; omega
    · exact h3 b q
  · obtain ⟨k, xs, h1, h2, h3⟩ := h0.tk t ht
    refine ⟨k, xs, h1, h2, fun c' hc2 => ⟨fun b hbb => ?_, (h3 c' hc2).2⟩⟩
    rcases hbx b c' hbb with ⟨rfl, rfl⟩ | ⟨_, q⟩
    · obtain ⟨k0, xs0, q1, q2, _⟩ := hi.tk t ht
      have h1' : G.tk t = some k := h1
      rw [q1] at h1'
      obtain rfl := Option.some.inj h1'
      have := (q2.lt c' hc2).2; omega
    · exact (h3 c' hc2).1 b q
  · obtain ⟨h1, h2, h3⟩ := h0.kp c' o' ho'
    refine ⟨h1, fun b hbb => ?_, h3⟩
    rcases hbx b c' hbb with ⟨rfl, rfl⟩ | ⟨_, q⟩
    · have h5 : G.kp c' = some o' := ho'
      have := hi.kp_lt (c := c') (by rw [h5]; simp); omega
    · exact h2 b q

/-- A box that holds other things. -/
theorem Inv.setBox (hi : Inv T B G H w) {w' : World} {b c : Nat} {x y : ABox} (hb : H.bs[b]? = some y) (hc : G.bx b = some c) (hsz : w'.heap.size = w.heap.size) (ho : ∀ k, k ≠ c → w'.heap[k]? = w.heap[k]?) (hx : BoxOK T G w' c x) :
    Inv T B G { H with bs := H.bs.set b x } w' := by
  have hlt := (List.getElem?_eq_some_iff.1 hb).1
  refine ⟨by rw [hsz]; exact hi.hB, fun b' c' h => by have := hi.bx b' c' h; simp only [List.length_set]; omega, hi.inj, fun b' z hz => ?_, fun c' i z h => ?_, fun t ht => ?_, hi.fs, hi.ne, fun c' o' ho' => ?_⟩
  · by_cases e : b = b'
    · subst e
      simp only at hz
      rw [List.getElem?_set_self hlt] at hz
      obtain rfl := Option.some.inj hz
      exact ⟨c, hc, hx⟩
    · simp only at hz
      rw [List.getElem?_set_ne e] at hz
      obtain ⟨c', h1, h2⟩ := hi.bs b' z hz
      exact ⟨c', h1, h2.world (ho c' (fun q => e (hi.inj b b' c hc (q ▸ h1))))⟩
  · obtain ⟨⟨v, hv, hr⟩, h2, h3⟩ := hi.im c' i z h
    refine ⟨⟨v, ?_, hr⟩, h2, h3⟩
    rw [World.cell?_of_block (w := w) (ho c' (fun q => h3 b (q ▸ hc)))]; exact hv
  · obtain ⟨k, xs, h1, h2, h3⟩ := hi.tk t ht
    refine ⟨k, xs, h1, ?_, h3⟩
    obtain ⟨g1, g2⟩ := h2
    refine ⟨g1, ?_⟩
    rcases g2 with g2 | ⟨g, cap, cur, e1, e2, e3, e4⟩
    · exact .inl g2
    · refine .inr ⟨g, cap, cur, e1, e2, ?_, e4⟩
      have hg : k.v.ownBlock = some g := by rw [e1]; rfl
      rw [ho g (fun q => (h3 g hg).1 b (q ▸ hc))]; exact e3
  · obtain ⟨h1, h2, h3⟩ := hi.kp c' o' ho'
    exact ⟨(ho c' (fun q => h2 b (q ▸ hc))).trans h1, h2, h3⟩
end

/-! ### Lists of elements as one list of cells -/
theorem flatten_get {α : Type} {sz : Nat} (hs : 0 < sz) : ∀ {es : List (List α)}, (∀ e ∈ es, e.length = sz) → ∀ k, es.flatten[k]? = (es[k / sz]?).bind fun e => e[k % sz]?
  | [], _, k => by simp
  | e :: es, h, k => by
    have he : e.length = sz := h e (by simp)
    have ih := flatten_get hs (es := es) (fun x hx => h x (by simp [hx]))
    rw [List.flatten_cons]
    by_cases c : k < sz
    · rw [List.getElem?_append_left (by omega), Nat.div_eq_of_lt c, Nat.mod_eq_of_lt c]; rfl
    · rw [List.getElem?_append_right (by omega), he, ih]
      obtain ⟨m, rfl⟩ : ∃ m, k = m + sz := ⟨k - sz, by omega⟩
      rw [Nat.add_sub_cancel, Nat.add_div_right _ hs, Nat.add_mod_right]; rfl
theorem flatten_len {α : Type} {sz : Nat} : ∀ {es : List (List α)}, (∀ e ∈ es, e.length = sz) → es.flatten.length = es.length * sz
  | [], _ => by simp
  | e :: es, h => by
    rw [List.flatten_cons, List.length_append, flatten_len (fun x hx => h x (by simp [hx])), h e (by simp), List.length_cons, Nat.add_mul, Nat.one_mul, Nat.add_comm]
theorem flatten_at {α : Type} {sz : Nat} (hs : 0 < sz) {es : List (List α)} (h : ∀ e ∈ es, e.length = sz) {i j : Nat} {x : List α} {y : α} (hx : es[i]? = some x) (hy : x[j]? = some y) : es.flatten[i * sz + j]? = some y := by
  have hj : j < sz := by rw [← h x (List.mem_of_getElem? hx)]; exact (List.getElem?_eq_some_iff.1 hy).1
  rw [flatten_get hs h, show (i * sz + j) / sz = i by rw [Nat.mul_comm, Nat.mul_add_div hs, Nat.div_eq_of_lt hj, Nat.add_zero], show (i * sz + j) % sz = j by rw [Nat.mul_comm, Nat.mul_add_mod, Nat.mod_eq_of_lt hj], hx]
  exact hy

/-- The cells of a slice's elements never change: as one list. -/
def imF (G : Gh) (c o : Nat) (cs : List AV) : Prop := ∀ (k : Nat) (y : AV), cs[k]? = some y → G.im c (o + k) y
theorem imF_of {T : TT} {G : Gh} {E : TypeId} (hs : 0 < T.sz E) {es : List (List AV)} (h : ∀ e ∈ es, e.length = T.sz E) {c o : Nat} (hi : ∀ (i j : Nat) (x : List AV) (y : AV), es[i]? = some x → x[j]? = some y → G.im c (o + (i * T.sz E + j)) y) : imF G c o es.flatten := by
  intro k y hk
  rw [flatten_get hs h, Option.bind_eq_some_iff] at hk
  obtain ⟨e, h1, h2⟩ := hk
  have := hi _ _ _ _ h1 h2
  rwa [Nat.mul_comm, Nat.div_add_mod] at this
theorem imF_to {T : TT} {G : Gh} {E : TypeId} (hs : 0 < T.sz E) {es : List (List AV)} (h : ∀ e ∈ es, e.length = T.sz E) {c o : Nat} (hi : imF G c o es.flatten) : ∀ (i j : Nat) (x : List AV) (y : AV), es[i]? = some x → x[j]? = some y → G.im c (o + (i * T.sz E + j)) y :=
  fun i j x y hx hy => hi _ _ (flatten_at hs h hx hy)
end Go.Proofs.Ytlclgpiabjlpbaa.Am
