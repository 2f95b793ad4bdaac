/- A logic over the walk's rules, twentieth part: what holds of a call on a small heap holds on a greater one, under other names of the boxes. -/
import Derived.Test.YtlclgpiabjlpbaaAm18
namespace Go.Proofs.Ytlclgpiabjlpbaa.Am
open Go.RowKit
set_option linter.unusedVariables false

mutual
/-- The same, with the boxes by other names. -/
def ren (σ : Nat → Nat) : AV → AV
  | .ptr b o => .ptr (σ b) o
  | .arr b n E => .arr (σ b) n E
  | .m b => .m (σ b)
  | .cp cs => .cp (renL σ cs)
  | .l t E es => .l t E (renLL σ es)
  | .fn f cs => .fn f (renL σ cs)
  | .ifc t x => .ifc t (ren σ x)
  | .agg cs => .agg (renL σ cs)
  | .tup cs => .tup (renL σ cs)
  | .u => .u
  | .b x => .b x
  | .i k n => .i k n
  | .f x => .f x
  | .s x => .s x
  | .np => .np
  | .nil => .nil
  | .nm => .nm
  | .nf => .nf
  | .ni => .ni
  | .k v => .k v
def renL (σ : Nat → Nat) : List AV → List AV
  | [] => []
  | x :: xs => ren σ x :: renL σ xs
def renLL (σ : Nat → Nat) : List (List AV) → List (List AV)
  | [] => []
  | x :: xs => renL σ x :: renLL σ xs
end
mutual
/-- Leads to the first n boxes alone, and bears no token. -/
def ok (n : Nat) : AV → Bool
  | .ptr b _ => Nat.blt b n
  | .arr b _ _ => Nat.blt b n
  | .m b => Nat.blt b n
  | .cp cs => okL n cs
  | .l (some _) _ _ => false
  | .l none _ es => okLL n es
  | .fn _ cs => okL n cs
  | .ifc _ x => ok n x
  | .agg cs => okL n cs
  | .tup cs => okL n cs
  | _ => true
def okL (n : Nat) : List AV → Bool
  | [] => true
  | x :: xs => ok n x && okL n xs
def okLL (n : Nat) : List (List AV) → Bool
  | [] => true
  | x :: xs => okL n x && okLL n xs
end
theorem okL_get {n : Nat} : ∀ {xs : List AV}, okL n xs = true → ∀ {i : Nat} {x : AV}, xs[i]? = some x → ok n x = true
  | [], _, i, x, h => by simp at h
  | y :: ys, hc, 0, x, h => by simp only [okL, Bool.and_eq_true] at hc; simp at h; subst h; exact hc.1
  | y :: ys, hc, i + 1, x, h => by simp only [okL, Bool.and_eq_true] at hc; exact okL_get hc.2 (by simpa using h)
theorem okLL_get {n : Nat} : ∀ {xs : List (List AV)}, okLL n xs = true → ∀ {i : Nat} {x : List AV}, xs[i]? = some x → okL n x = true
  | [], _, i, x, h => by simp at h
  | y :: ys, hc, 0, x, h => by simp only [okLL, Bool.and_eq_true] at hc; simp at h; subst h; exact hc.1
  | y :: ys, hc, i + 1, x, h => by simp only [okLL, Bool.and_eq_true] at hc; exact okLL_get hc.2 (by simpa using h)
theorem renL_get {σ : Nat → Nat} : ∀ (xs : List AV) (i : Nat), (renL σ xs)[i]? = (xs[i]?).map (ren σ)
  | [], i => by simp [renL]
  | x :: xs, 0 => by simp [renL]
  | x :: xs, i + 1 => by simpa [renL] using renL_get xs i
theorem renLL_get {σ : Nat → Nat} : ∀ (xs : List (List AV)) (i : Nat), (renLL σ xs)[i]? = (xs[i]?).map (renL σ)
  | [], i => by simp [renLL]
  | x :: xs, 0 => by simp [renLL]
  | x :: xs, i + 1 => by simpa [renLL] using renLL_get xs i
theorem renL_len {σ : Nat → Nat} : ∀ (xs : List AV), (renL σ xs).length = xs.length
  | [] => rfl
  | x :: xs => by simp [renL, renL_len xs]
theorem renLL_len {σ : Nat → Nat} : ∀ (xs : List (List AV)), (renLL σ xs).length = xs.length
  | [] => rfl
  | x :: xs => by simp [renLL, renLL_len xs]
theorem renL_map {σ : Nat → Nat} : ∀ (xs : List AV), renL σ xs = xs.map (ren σ)
  | [] => rfl
  | x :: xs => by simp [renL, renL_map xs]
theorem ren_flat {σ : Nat → Nat} (x : AV) : (ren σ x).flat = x.flat := by cases x <;> rfl

mutual
theorem clean_ren {σ : Nat → Nat} : ∀ (x : AV), clean x = true → ren σ x = x
  | .u, _ | .b _, _ | .i _ _, _ | .f _, _ | .s _, _ | .np, _ | .nil, _ | .nm, _ | .nf, _ | .ni, _ | .k _, _ => rfl
  | .ptr _ _, h => by cases h
  | .arr _ _ _, h => by cases h
  | .m _, h => by cases h
  | .cp _, h => by cases h
  | .l (some _) _ _, h => by cases h
  | .l none _ es, h => by simp only [ren, clean_renLL es h]
  | .fn _ cs, h => by simp only [ren, clean_renL cs h]
  | .ifc _ x, h => by simp only [ren, clean_ren x h]
  | .agg cs, h => by simp only [ren, clean_renL cs h]
  | .tup cs, h => by simp only [ren, clean_renL cs h]
theorem clean_renL {σ : Nat → Nat} : ∀ (xs : List AV), cleanL xs = true → renL σ xs = xs
  | [], _ => rfl
  | x :: xs, h => by simp only [cleanL, Bool.and_eq_true] at h; simp only [renL, clean_ren x h.1, clean_renL xs h.2]
theorem clean_renLL {σ : Nat → Nat} : ∀ (xs : List (List AV)), cleanLL xs = true → renLL σ xs = xs
  | [], _ => rfl
  | x :: xs, h => by simp only [cleanLL, Bool.and_eq_true] at h; simp only [renLL, clean_renL x h.1, clean_renLL xs h.2]
end
mutual
theorem clean_ok {n : Nat} : ∀ (x : AV), clean x = true → ok n x = true
  | .u, _ | .b _, _ | .i _ _, _ | .f _, _ | .s _, _ | .np, _ | .nil, _ | .nm, _ | .nf, _ | .ni, _ | .k _, _ => rfl
  | .ptr _ _, h => by cases h
  | .arr _ _ _, h => by cases h
  | .m _, h => by cases h
  | .cp _, h => by cases h
  | .l (some _) _ _, h => by cases h
  | .l none _ es, h => by simp only [ok]; exact clean_okLL es h
  | .fn _ cs, h => by simp only [ok]; exact clean_okL cs h
  | .ifc _ x, h => by simp only [ok]; exact clean_ok x h
  | .agg cs, h => by simp only [ok]; exact clean_okL cs h
  | .tup cs, h => by simp only [ok]; exact clean_okL cs h
theorem clean_okL {n : Nat} : ∀ (xs : List AV), cleanL xs = true → okL n xs = true
  | [], _ => rfl
  | x :: xs, h => by simp only [cleanL, Bool.and_eq_true] at h; simp only [okL, Bool.and_eq_true]; exact ⟨clean_ok x h.1, clean_okL xs h.2⟩
theorem clean_okLL {n : Nat} : ∀ (xs : List (List AV)), cleanLL xs = true → okLL n xs = true
  | [], _ => rfl
  | x :: xs, h => by simp only [cleanLL, Bool.and_eq_true] at h; simp only [okLL, Bool.and_eq_true]; exact ⟨clean_okL x h.1, clean_okLL xs h.2⟩
end

section
variable {T : TT} {G0 G : Gh} {n : Nat} {σ : Nat → Nat}
mutual
theorem ren_to (hbx : ∀ b c, b < n → G0.bx b = some c → G.bx (σ b) = some c) (him : ∀ c i x, ok n x = true → G0.im c i x → G.im c i (ren σ x)) : ∀ (x : AV) (v : Value), ok n x = true → Rel T G0 x v → Rel T G (ren σ x) v
  | .u, _, _, _ => trivial
  | .b _, _, _, e => e
  | .i _ _, _, _, e => e
  | .f _, _, _, e => e
  | .s _, _, _, e => e
  | .np, _, _, e => e
  | .ptr b _, _, hc, e => by obtain ⟨c, e1, e2⟩ := e; simp only [ok, Nat.blt_eq] at hc; exact ⟨c, hbx b c hc e1, e2⟩
  | .cp cs, _, hc, e => by
    obtain ⟨c, o, e1, e2⟩ := e
    refine ⟨c, o, e1, fun j y hj => ?_⟩
    rw [renL_get, Option.map_eq_some_iff] at hj
    obtain ⟨x, hx, rfl⟩ := hj
    exact him _ _ _ (okL_get hc hx) (e2 j x hx)
  | .nil, _, _, e => e
  | .l (some _) _ _, _, hc, _ => by cases hc
  | .l none _ es, _, hc, e => by
    obtain ⟨A, cap, e1, e2, e3, e4, e5, e6⟩ := e
    refine ⟨A, cap, by rw [renLL_len]; exact e1, by rw [renLL_len]; exact e2, e3, fun x hx => ?_, fun hne => ?_, fun tt ht => by cases ht⟩
    · obtain ⟨i, hi⟩ := List.getElem?_of_mem hx
      rw [renLL_get, Option.map_eq_some_iff] at hi
      obtain ⟨y, hy, rfl⟩ := hi
      rw [renL_len]; exact e4 y (List.mem_of_getElem? hy)
    · obtain ⟨c, o, q1, q2⟩ := e5 (fun q => hne (by rw [q]; rfl))
      refine ⟨c, o, q1, fun i j x y hx hy => ?_⟩
      rw [renLL_get, Option.map_eq_some_iff] at hx
      obtain ⟨x', hx', rfl⟩ := hx
      rw [renL_get, Option.map_eq_some_iff] at hy
      obtain ⟨y', hy', rfl⟩ := hy
      exact him _ _ _ (okL_get (okLL_get hc hx') hy') (q2 i j x' y' hx' hy')
  | .arr b _ _, _, hc, e => by obtain ⟨c, e1, e2⟩ := e; simp only [ok, Nat.blt_eq] at hc; exact ⟨c, hbx b c hc e1, e2⟩
  | .m b, _, hc, e => by obtain ⟨c, e1, e2⟩ := e; simp only [ok, Nat.blt_eq] at hc; exact ⟨c, hbx b c hc e1, e2⟩
  | .nm, _, _, e => e
  | .fn _ caps, _, hc, e => by obtain ⟨vs, e1, e2⟩ := e; exact ⟨vs, e1, renL_to hbx him caps vs hc e2⟩
  | .nf, _, _, e => e
  | .ni, _, _, e => e
  | .ifc _ x, _, hc, e => by obtain ⟨y, e1, e2⟩ := e; exact ⟨y, e1, ren_to hbx him x y hc e2⟩
  | .agg cs, _, hc, e => by obtain ⟨vs, e1, e2⟩ := e; exact ⟨vs, e1, renL_to hbx him cs vs hc e2⟩
  | .tup cs, _, hc, e => by obtain ⟨vs, e1, e2⟩ := e; exact ⟨vs, e1, renL_to hbx him cs vs hc e2⟩
  | .k _, _, _, e => e
theorem renL_to (hbx : ∀ b c, b < n → G0.bx b = some c → G.bx (σ b) = some c) (him : ∀ c i x, ok n x = true → G0.im c i x → G.im c i (ren σ x)) : ∀ (xs : List AV) (vs : List Value), okL n xs = true → RelL T G0 xs vs → RelL T G (renL σ xs) vs
  | [], _, _, e => e
  | x :: xs, _, hc, e => by
    simp only [okL, Bool.and_eq_true] at hc
    obtain ⟨v, vs', e1, e2, e3⟩ := e
    exact ⟨v, vs', e1, ren_to hbx him x v hc.1 e2, renL_to hbx him xs vs' hc.2 e3⟩
end
mutual
theorem ren_of (hbx : ∀ b c, b < n → G.bx (σ b) = some c → G0.bx b = some c) (him : ∀ c i x, ok n x = true → G.im c i (ren σ x) → G0.im c i x) : ∀ (x : AV) (v : Value), ok n x = true → Rel T G (ren σ x) v → Rel T G0 x v
  | .u, _, _, _ => trivial
  | .b _, _, _, e => e
  | .i _ _, _, _, e => e
  | .f _, _, _, e => e
  | .s _, _, _, e => e
  | .np, _, _, e => e
  | .ptr b _, _, hc, e => by obtain ⟨c, e1, e2⟩ := e; simp only [ok, Nat.blt_eq] at hc; exact ⟨c, hbx b c hc e1, e2⟩
  | .cp cs, _, hc, e => by
    obtain ⟨c, o, e1, e2⟩ := e
    exact ⟨c, o, e1, fun j y hj => him _ _ _ (okL_get hc hj) (e2 j _ (by rw [renL_get, hj]; rfl))⟩
  | .nil, _, _, e => e
  | .l (some _) _ _, _, hc, _ => by cases hc
  | .l none _ es, _, hc, e => by
    obtain ⟨A, cap, e1, e2, e3, e4, e5, e6⟩ := e
    rw [renLL_len] at e1 e2
    refine ⟨A, cap, e1, e2, e3, fun x hx => ?_, fun hne => ?_, fun tt ht => by cases ht⟩
    · obtain ⟨i, hi⟩ := List.getElem?_of_mem hx
      rw [← renL_len (σ := σ)]
      exact e4 _ (List.mem_of_getElem? (show (renLL σ es)[i]? = _ by rw [renLL_get, hi]; rfl))
    · obtain ⟨c, o, q1, q2⟩ := e5 (fun q => hne (by have := congrArg List.length q; rw [renLL_len] at this; exact List.eq_nil_of_length_eq_zero this))
      refine ⟨c, o, q1, fun i j x y hx hy => ?_⟩
      exact him _ _ _ (okL_get (okLL_get hc hx) hy) (q2 i j _ _ (by rw [renLL_get, hx]; rfl) (by rw [renL_get, hy]; rfl))
  | .arr b _ _, _, hc, e => by obtain ⟨c, e1, e2⟩ := e; simp only [ok, Nat.blt_eq] at hc; exact ⟨c, hbx b c hc e1, e2⟩
  | .m b, _, hc, e => by obtain ⟨c, e1, e2⟩ := e; simp only [ok, Nat.blt_eq] at hc; exact ⟨c, hbx b c hc e1, e2⟩
  | .nm, _, _, e => e
  | .fn _ caps, _, hc, e => by obtain ⟨vs, e1, e2⟩ := e; exact ⟨vs, e1, renL_of hbx him caps vs hc e2⟩
  | .nf, _, _, e => e
  | .ni, _, _, e => e
  | .ifc _ x, _, hc, e => by obtain ⟨y, e1, e2⟩ := e; exact ⟨y, e1, ren_of hbx him x y hc e2⟩
  | .agg cs, _, hc, e => by obtain ⟨vs, e1, e2⟩ := e; exact ⟨vs, e1, renL_of hbx him cs vs hc e2⟩
  | .tup cs, _, hc, e => by obtain ⟨vs, e1, e2⟩ := e; exact ⟨vs, e1, renL_of hbx him cs vs hc e2⟩
  | .k _, _, _, e => e
theorem renL_of (hbx : ∀ b c, b < n → G.bx (σ b) = some c → G0.bx b = some c) (him : ∀ c i x, ok n x = true → G.im c i (ren σ x) → G0.im c i x) : ∀ (xs : List AV) (vs : List Value), okL n xs = true → RelL T G (renL σ xs) vs → RelL T G0 xs vs
  | [], _, _, e => e
  | x :: xs, _, hc, e => by
    simp only [okL, Bool.and_eq_true] at hc
    obtain ⟨v, vs', e1, e2, e3⟩ := e
    exact ⟨v, vs', e1, ren_of hbx him x v hc.1 e2, renL_of hbx him xs vs' hc.2 e3⟩
end

/-! ### Boxes by other names -/
def renB (σ : Nat → Nat) : ABox → ABox
  | .cells l => .cells (renL σ l)
  | .map es => .map (es.map fun e => (ren σ e.1, ren σ e.2))
def okB (n : Nat) : ABox → Bool
  | .cells l => okL n l
  | .map es => okL n (es.map (·.1)) && okL n (es.map (·.2))
theorem renB_fst (σ : Nat → Nat) (es : List (AV × AV)) : (es.map fun e => (ren σ e.1, ren σ e.2)).map (·.1) = renL σ (es.map (·.1)) := by rw [renL_map]; simp [Function.comp_def]
theorem renB_snd (σ : Nat → Nat) (es : List (AV × AV)) : (es.map fun e => (ren σ e.1, ren σ e.2)).map (·.2) = renL σ (es.map (·.2)) := by rw [renL_map]; simp [Function.comp_def]
theorem box_to (hbx : ∀ b c, b < n → G0.bx b = some c → G.bx (σ b) = some c) (him : ∀ c i x, ok n x = true → G0.im c i x → G.im c i (ren σ x)) {w : World} {c : Nat} {x : ABox} (hok : okB n x = true) (h : BoxOK T G0 w c x) : BoxOK T G w c (renB σ x) := by
  cases x with
  | cells l =>
    obtain ⟨vs, E, h1, h2, h3⟩ := h
    refine ⟨vs, E, h1, renL_to hbx him l vs hok h2, fun x hx => ?_⟩
    obtain ⟨i, hi⟩ := List.getElem?_of_mem hx
    rw [renL_get, Option.map_eq_some_iff] at hi
    obtain ⟨y, hy, rfl⟩ := hi
    rw [ren_flat]; exact h3 y (List.mem_of_getElem? hy)
  | map es =>
    obtain ⟨ms, ck, h1, h2, h3, h4⟩ := h
    simp only [okB, Bool.and_eq_true] at hok
    exact ⟨ms, ck, h1, by rw [renB_fst]; exact renL_to hbx him _ _ hok.1 h2, by rw [renB_snd]; exact renL_to hbx him _ _ hok.2 h3, h4⟩
theorem box_of (hbx : ∀ b c, b < n → G.bx (σ b) = some c → G0.bx b = some c) (him : ∀ c i x, ok n x = true → G.im c i (ren σ x) → G0.im c i x) {w : World} {c : Nat} {x : ABox} (hok : okB n x = true) (h : BoxOK T G w c (renB σ x)) : BoxOK T G0 w c x := by
  cases x with
  | cells l =>
    obtain ⟨vs, E, h1, h2, h3⟩ := h
    refine ⟨vs, E, h1, renL_of hbx him l vs hok h2, fun x hx => ?_⟩
    obtain ⟨i, hi⟩ := List.getElem?_of_mem hx
    rw [← ren_flat (σ := σ)]
    exact h3 _ (List.mem_of_getElem? (show (renL σ l)[i]? = _ by rw [renL_get, hi]; rfl))
  | map es =>
    obtain ⟨ms, ck, h1, h2, h3, h4⟩ := h
    simp only [okB, Bool.and_eq_true] at hok
    rw [renB_fst] at h2
    rw [renB_snd] at h3
    exact ⟨ms, ck, h1, renL_of hbx him _ _ hok.1 h2, renL_of hbx him _ _ hok.2 h3, h4⟩
end

/-- Some boxes hold other things. -/
def putB : List Nat → List ABox → List ABox → List ABox
  | s :: ss, y :: ys, bs => putB ss ys (bs.set s y)
  | _, _, bs => bs
theorem putB_len : ∀ (ss : List Nat) (ys bs : List ABox), (putB ss ys bs).length = bs.length
  | [], _, _ => by simp [putB]
  | _ :: _, [], _ => by simp [putB]
  | s :: ss, y :: ys, bs => by simp [putB, putB_len ss ys]
theorem putB_far : ∀ (ss : List Nat) (ys bs : List ABox) (j : Nat), j ∉ ss → (putB ss ys bs)[j]? = bs[j]?
  | [], _, _, _, _ => by simp [putB]
  | _ :: _, [], _, _, _ => by simp [putB]
  | s :: ss, y :: ys, bs, j, h => by
    simp only [List.mem_cons, not_or] at h
    rw [putB, putB_far ss ys _ j h.2, List.getElem?_set_ne (fun e => h.1 e.symm)]
theorem putB_at : ∀ (ss : List Nat) (ys bs : List ABox), ss.Nodup → ss.length = ys.length → (∀ s ∈ ss, s < bs.length) → ∀ (i s : Nat), ss[i]? = some s → (putB ss ys bs)[s]? = ys[i]?
  | [], _, _, _, _, _, i, s, h => by simp at h
  | s :: ss, [], bs, _, hl, _, _, _, _ => by simp at hl
  | s :: ss, y :: ys, bs, hnd, hl, hlt, 0, s', h => by
    simp at h; subst h
    have hn := (List.nodup_cons.1 hnd).1
    rw [putB, putB_far ss ys _ s hn, List.getElem?_set_self (hlt s (by simp))]; rfl
  | s :: ss, y :: ys, bs, hnd, hl, hlt, i + 1, s', h => by
    rw [putB, putB_at ss ys _ (List.nodup_cons.1 hnd).2 (by simpa using hl) (fun t ht => by simpa using hlt t (by simp [ht])) i s' (by simpa using h)]
    simp
theorem putB_same {ss : List Nat} {ys bs : List ABox} (hnd : ss.Nodup) (hl : ss.length = ys.length) (h : ∀ (i s : Nat) y, ss[i]? = some s → ys[i]? = some y → bs[s]? = some y) : putB ss ys bs = bs := by
  have hlt : ∀ s ∈ ss, s < bs.length := by
    intro s hs
    obtain ⟨i, hi⟩ := List.getElem?_of_mem hs
    have hil := (List.getElem?_eq_some_iff.1 hi).1
    exact (List.getElem?_eq_some_iff.1 (h i s _ hi (List.getElem?_eq_getElem (by omega)))).1
  apply List.ext_getElem?
  intro j
  by_cases hj : j ∈ ss
  · obtain ⟨i, hi⟩ := List.getElem?_of_mem hj
    have hil := (List.getElem?_eq_some_iff.1 hi).1
    rw [putB_at ss ys bs hnd hl hlt i j hi, List.getElem?_eq_getElem (by omega : i < ys.length)]
    exact (h i j _ hi (List.getElem?_eq_getElem (by omega))).symm
  · exact putB_far ss ys bs j hj

section
variable {T : TT}
mutual
/-- A value at the end of a call on a heap of k boxes, and what it is from then on: what lies in later boxes never changes any more. -/
inductive FY (T : TT) (H : AH) (k : Nat) : AV → AV → Prop
  | refl (x : AV) : FY T H k x x
  | l (t : Option Nat) (E : TypeId) (es : List (List AV)) : FY T H k (.l t E es) (.l none E es)
  | nil (E : TypeId) : FY T H k .nil (.l none E [])
  | arr {b n : Nat} {E : TypeId} {l : List AV} {es : List (List AV)} (hk : k ≤ b) (hb : H.bs[b]? = some (.cells l)) (hl : ∃ zs, es.flatten ++ zs = l) (hs : ∀ e ∈ es, e.length = T.sz E) (hp : 0 < T.sz E) (hn : es.length = n) : FY T H k (.arr b n E) (.l none E es)
  | ptr {b : Nat} {l : List AV} (hk : k ≤ b) (hb : H.bs[b]? = some (.cells l)) : FY T H k (.ptr b 0) (.cp l)
  | tup {xs ys : List AV} : FYL T H k xs ys → FY T H k (.tup xs) (.tup ys)
  | agg {xs ys : List AV} : FYL T H k xs ys → FY T H k (.agg xs) (.agg ys)
inductive FYL (T : TT) (H : AH) (k : Nat) : List AV → List AV → Prop
  | nil : FYL T H k [] []
  | cons {x y : AV} {xs ys : List AV} : FY T H k x y → FYL T H k xs ys → FYL T H k (x :: xs) (y :: ys)
end
mutual
theorem FY.rel {G1 G2 : Gh} {H : AH} {k : Nat} {σ : Nat → Nat} (hbx0 : ∀ b c, b < k → G1.bx b = some c → G2.bx (σ b) = some c) (hbx : ∀ b c l, k ≤ b → G1.bx b = some c → H.bs[b]? = some (.cells l) → ∀ i x, l[i]? = some x → ok k x = true → G2.im c i (ren σ x))
    (him : ∀ c i x, ok k x = true → G1.im c i x → G2.im c i (ren σ x)) : ∀ {x y : AV} (_ : FY T H k x y) {v : Value}, ok k y = true → Rel T G1 x v → Rel T G2 (ren σ y) v
  | _, _, .refl x, v, hc, h => ren_to hbx0 him x v hc h
  | _, _, .l t E es, v, hc, h => by
    obtain ⟨A, cap, h1, h2, h3, h4, h5, h6⟩ := h
    exact ren_to hbx0 him (.l none E es) v hc ⟨A, cap, h1, h2, h3, h4, h5, fun tt ht => by cases ht⟩
  | _, _, .nil E, v, hc, h => by
    cases h
    exact ⟨none, 0, rfl, Nat.le_refl _, Nat.zero_le _, by simp [renLL], fun q => absurd rfl q, fun tt ht => by cases ht⟩
  | _, _, .arr hk hb hl hs hp hn, v, hc, h => by
    rename_i b n E l es
    obtain ⟨c, h1, cap, rfl, h2, h3⟩ := h
    obtain ⟨zs, hl⟩ := hl
    subst hl; subst hn
    refine ⟨some ⟨c, 0, none⟩, cap, by rw [renLL_len], by rw [renLL_len]; exact h2, h3, fun x hx => ?_, fun hne => ⟨c, 0, rfl, fun i j x y hx hy => ?_⟩, fun tt ht => by cases ht⟩
    · obtain ⟨i, hi⟩ := List.getElem?_of_mem hx
      rw [renLL_get, Option.map_eq_some_iff] at hi
      obtain ⟨y, hy, rfl⟩ := hi
      rw [renL_len]; exact hs y (List.mem_of_getElem? hy)
    · rw [Nat.zero_add]
      rw [renLL_get, Option.map_eq_some_iff] at hx
      obtain ⟨x', hx', rfl⟩ := hx
      rw [renL_get, Option.map_eq_some_iff] at hy
      obtain ⟨y', hy', rfl⟩ := hy
      have hfl := flatten_at hp hs hx' hy'
      exact hbx b c _ hk h1 hb _ y' (by rw [List.getElem?_append_left (List.getElem?_eq_some_iff.1 hfl).1]; exact hfl) (okL_get (okLL_get hc hx') hy')
  | _, _, .ptr hk hb, v, hc, h => by
    obtain ⟨c, h1, rfl⟩ := h
    refine ⟨c, 0, rfl, fun j y hj => ?_⟩
    rw [renL_get, Option.map_eq_some_iff] at hj
    obtain ⟨x, hx, rfl⟩ := hj
    rw [Nat.zero_add]
    exact hbx _ c _ hk h1 hb j x hx (okL_get hc hx)
  | _, _, .tup hw, v, hc, h => by obtain ⟨vs, rfl, hr⟩ := h; exact ⟨vs, rfl, FYL.rel hbx0 hbx him hw hc hr⟩
  | _, _, .agg hw, v, hc, h => by obtain ⟨vs, rfl, hr⟩ := h; exact ⟨vs, rfl, FYL.rel hbx0 hbx him hw hc hr⟩
theorem FYL.rel {G1 G2 : Gh} {H : AH} {k : Nat} {σ : Nat → Nat} (hbx0 : ∀ b c, b < k → G1.bx b = some c → G2.bx (σ b) = some c) (hbx : ∀ b c l, k ≤ b → G1.bx b = some c → H.bs[b]? = some (.cells l) → ∀ i x, l[i]? = some x → ok k x = true → G2.im c i (ren σ x))
    (him : ∀ c i x, ok k x = true → G1.im c i x → G2.im c i (ren σ x)) : ∀ {xs ys : List AV} (_ : FYL T H k xs ys) {vs : List Value}, okL k ys = true → RelL T G1 xs vs → RelL T G2 (renL σ ys) vs
  | _, _, .nil, _, _, h => h
  | _, _, .cons h1 h2, _, hc, h => by
    simp only [okL, Bool.and_eq_true] at hc
    obtain ⟨v, vs', rfl, hr, hrs⟩ := h
    exact ⟨v, vs', rfl, FY.rel hbx0 hbx him h1 hc.1 hr, FYL.rel hbx0 hbx him h2 hc.2 hrs⟩
end

def sg (ss : List Nat) (i : Nat) : Nat := ss.getD i 0
theorem sg_at {ss : List Nat} {i : Nat} (h : i < ss.length) : ss[i]? = some (sg ss i) := by simp [sg, List.getD_eq_getElem?_getD, List.getElem?_eq_getElem h]

/-- What a call on a small heap comes to, at its end. -/
def BigR (T : TT) (k : Nat) (R : AV → List ABox → Prop) (r : AV) (H1 : AH) : Prop :=
  ∃ r' ys, FY T H1 k r r' ∧ ok k r' = true ∧ ys.length = k ∧ (∃ gb, H1.bs = ys ++ gb) ∧ ys.all (okB k) = true ∧ R r' ys

theorem acalls_big {f : FuncId} {args : List AV} {R : AV → List ABox → Prop} (ss : List Nat) (xs : List ABox) (hxk : xs.length = ss.length) (hnd : ss.Nodup) {H : AH}
    (hσ : ∀ (i s : Nat) x, ss[i]? = some s → xs[i]? = some x → H.bs[s]? = some (renB (sg ss) x)) (hargs : okL ss.length args = true) (hxs : xs.all (okB ss.length) = true)
    (h : ACalls T f args ⟨xs, []⟩ (BigR T ss.length R)) :
    ACalls T f (renL (sg ss) args) H (fun r H' => ∃ r' ys, R r' ys ∧ ys.length = ss.length ∧ r = ren (sg ss) r' ∧ H' = ⟨putB ss (ys.map (renB (sg ss))) H.bs, H.ts⟩) := by
  classical
  intro B G w vs hi ha
  generalize hk : ss.length = k at *
  generalize hs : sg ss = σ at *
  have hsat : ∀ i, i < k → ss[i]? = some (σ i) := fun i hik => by rw [← hs]; exact sg_at (by omega)
  have hbox : ∀ i, i < k → ∃ x, xs[i]? = some x ∧ H.bs[σ i]? = some (renB σ x) := fun i hik => ⟨_, List.getElem?_eq_getElem (by omega), hσ i _ _ (hsat i hik) (List.getElem?_eq_getElem (by omega))⟩
  have hinj : ∀ i j, i < k → j < k → σ i = σ j → i = j := fun i j hik hjk e => by
    have h1 := hsat i hik
    have h2 := hsat j hjk
    rw [e, ← h2] at h1
    exact (List.getElem?_inj (by omega) hnd).1 h1
  let isK : Nat → Prop := fun c => ∃ i, i < k ∧ G.bx (σ i) = some c
  let G0 : Gh := { im := fun c i x => ok k x = true ∧ G.im c i (ren σ x), bx := fun i => if i < k then G.bx (σ i) else none, tk := fun _ => none, kp := fun c => if isK c then none else w.heap[c]? }
  have hG0 : ∀ {b c}, G0.bx b = some c → b < k ∧ G.bx (σ b) = some c := by
    intro b c h
    have h' : (if b < k then G.bx (σ b) else none) = some c := h
    split at h'
    · exact ⟨by assumption, h'⟩
    · cases h'
  have hG0' : ∀ b c, b < k → G.bx (σ b) = some c → G0.bx b = some c := fun b c hb h => by
    show (if b < k then G.bx (σ b) else none) = some c
    rw [if_pos hb]; exact h
  have him0 : ∀ c i x, ok k x = true → G.im c i (ren σ x) → G0.im c i x := fun c i x h1 h2 => ⟨h1, h2⟩
  have hi0 : Inv T B G0 ⟨xs, []⟩ w := by
    refine ⟨hi.hB, fun b c hb => ?_, fun b b' c hb hb' => ?_, fun b x hx => ?_, fun c i x hx => ?_, (fun t ht => by cases ht), ⟨0, fun _ _ => rfl⟩, (fun t t' k k' ht => by cases ht), fun c o ho => ?_⟩
    · obtain ⟨h1, h2⟩ := hG0 hb
      exact ⟨by simp only; omega, (hi.bx _ c h2).2⟩
    · obtain ⟨h1, h2⟩ := hG0 hb
      obtain ⟨h3, h4⟩ := hG0 hb'
      exact hinj b b' h1 h3 (hi.inj _ _ c h2 h4)
    · have hbk : b < k := by have := (List.getElem?_eq_some_iff.1 hx).1; simp only at this; omega
      have hx' := hσ b _ x (hsat b hbk) hx
      obtain ⟨c, hc, hok⟩ := hi.bs _ _ hx'
      exact ⟨c, hG0' b c hbk hc, box_of hG0' him0 (List.all_eq_true.1 hxs x (List.mem_of_getElem? hx)) hok⟩
    · obtain ⟨h1, h2⟩ := hx
      obtain ⟨⟨v, hv, hr⟩, h3, h4⟩ := hi.im c i _ h2
      exact ⟨⟨v, hv, ren_of hG0' him0 x v h1 hr⟩, by rw [← ren_flat (σ := σ)]; exact h3, fun b hb => h4 _ (hG0 hb).2⟩
    · have ho' : (if isK c then none else w.heap[c]?) = some o := ho
      split at ho'
      · cases ho'
      · rename_i hnk
        exact ⟨ho', fun b hb => hnk ⟨b, hG0 hb⟩, fun t ht => by cases ht⟩
  refine Calls.mono' (h B G0 w vs hi0 (renL_of hG0' him0 args vs hargs ha)) fun e w' ⟨r, v, G1, H1, he, ⟨r', ys, hfy, hrk, hyl, ⟨gb, hgb⟩, hyk, hR⟩, hrel, hi1, hle, hb⟩ => ?_
  have hkp : ∀ c, c < w.heap.size → ¬ isK c → G0.kp c = some w.heap[c]! ∧ w.heap[c]? = some w.heap[c]! := by
    intro c hc hnk
    have h1 : w.heap[c]? = some w.heap[c]! := by simp [hc]
    refine ⟨?_, h1⟩
    show (if isK c then none else w.heap[c]?) = _
    rw [if_neg hnk]; exact h1
  have hun : ∀ c, c < w.heap.size → ¬ isK c → w'.heap[c]? = w.heap[c]? := by
    intro c hc hnk
    obtain ⟨h1, h2⟩ := hkp c hc hnk
    rw [h2]
    exact (hi1.kp c _ (by rw [hle.kp]; exact h1)).1
  have hb1 : ∀ i c, i < k → G1.bx i = some c → G.bx (σ i) = some c := by
    intro i c hik h1
    obtain ⟨x, hx, hx'⟩ := hbox i hik
    obtain ⟨c', hc', _⟩ := hi.bs _ _ hx'
    have := hle.bx i c' (hG0' i c' hik hc')
    rw [this] at h1; obtain rfl := Option.some.inj h1
    exact hc'
  have hb1' : ∀ i c, i < k → G.bx (σ i) = some c → G1.bx i = some c := fun i c hik h1 => hle.bx i c (hG0' i c hik h1)
  have hnew : ∀ b c, k ≤ b → G1.bx b = some c → w.heap.size ≤ c := by
    intro b c hbk h1
    rcases Nat.lt_or_ge c w.heap.size with hc | hc
    · by_cases hK : isK c
      · obtain ⟨i, hik, hic⟩ := hK
        have := hi1.inj b i c h1 (hb1' i c hik hic)
        omega
      · exact absurd h1 ((hi1.kp c _ (by rw [hle.kp]; exact (hkp c hc hK).1)).2.1 b)
    · exact hc
  let G2 : Gh := { G with im := fun c i y => G.im c i y ∨ (w.heap.size ≤ c ∧ ∃ x, y = ren σ x ∧ ok k x = true ∧ (G1.im c i x ∨ ∃ b l, k ≤ b ∧ G1.bx b = some c ∧ H1.bs[b]? = some (.cells l) ∧ l[i]? = some x)) }
  have hle2 : G.le B G2 := ⟨fun _ _ _ hx => .inl hx, fun c i x hc hx => by
    rcases hx with hx | ⟨hx, _⟩
    · exact hx
    · have := hi.hB; omega, fun _ _ hx => hx, fun _ _ hx => hx, fun _ => rfl, fun c i x hc hx => by
    rcases hx with hx | ⟨hx, _⟩
    · exact hx
    · have := hi.kp_lt hc; omega⟩
  have him1 : ∀ c i x, ok k x = true → G1.im c i x → G2.im c i (ren σ x) := by
    intro c i x hok hx
    rcases Nat.lt_or_ge c w.heap.size with hc | hc
    · by_cases hK : isK c
      · obtain ⟨j, hjk, hjc⟩ := hK
        exact absurd (hb1' j c hjk hjc) ((hi1.im c i x hx).2.2 j)
      · exact .inl (hle.kl c i x (by rw [(hkp c hc hK).1]; simp) hx).2
    · exact .inr ⟨hc, x, rfl, hok, .inl hx⟩
  have hbx2 : ∀ b c l, k ≤ b → G1.bx b = some c → H1.bs[b]? = some (.cells l) → ∀ i x, l[i]? = some x → ok k x = true → G2.im c i (ren σ x) :=
    fun b c l hbk hbc hl i x hx hok => .inr ⟨hnew b c hbk hbc, x, rfl, hok, .inr ⟨b, l, hbk, hbc, hl, hx⟩⟩
  have hb2 : ∀ b c, b < k → G1.bx b = some c → G2.bx (σ b) = some c := fun b c h1 h2 => hb1 b c h1 h2
  have hlt : ∀ s ∈ ss, s < H.bs.length := by
    intro s hs'
    obtain ⟨i, hi'⟩ := List.getElem?_of_mem hs'
    have hil := (List.getElem?_eq_some_iff.1 hi').1
    obtain ⟨x, _, hx⟩ := hbox i (by omega)
    have := hsat i (by omega)
    rw [hi'] at this; obtain rfl := Option.some.inj this
    exact (List.getElem?_eq_some_iff.1 hx).1
  have hnk : ∀ b c, b ∉ ss → G.bx b = some c → ¬ isK c := by
    rintro b c hb hc ⟨i, hik, hic⟩
    have := hi.inj _ _ c hic hc
    exact hb (this ▸ List.mem_of_getElem? (hsat i hik))
  have hi2 : Inv T B G2 ⟨putB ss (ys.map (renB σ)) H.bs, H.ts⟩ w' := by
    refine ⟨Nat.le_trans hi.hB hb.size, fun b c h' => ?_, hi.inj, fun b x hx => ?_, fun c i y hy => ?_, fun t ht => ?_, hi.fs, hi.ne, fun c o ho => ?_⟩
    · have := hi.bx b c h'
      exact ⟨by simp only [putB_len]; exact this.1, this.2.1, Nat.lt_of_lt_of_le this.2.2 hb.size⟩
    · simp only at hx
      by_cases hbs : b ∈ ss
      · obtain ⟨i, hi'⟩ := List.getElem?_of_mem hbs
        have hil := (List.getElem?_eq_some_iff.1 hi').1
        rw [putB_at ss _ _ hnd (by simp; omega) hlt i b hi', List.getElem?_map, Option.map_eq_some_iff] at hx
        obtain ⟨y, hy, rfl⟩ := hx
        have hsb := hsat i (by omega)
        rw [hi'] at hsb; obtain rfl := Option.some.inj hsb
        obtain ⟨c, hc, hok⟩ := hi1.bs i y (by rw [hgb, List.getElem?_append_left (by omega)]; exact hy)
        exact ⟨c, hb1 i c (by omega) hc, box_to hb2 him1 (List.all_eq_true.1 hyk y (List.mem_of_getElem? hy)) hok⟩
      · rw [putB_far ss _ _ b hbs] at hx
        obtain ⟨c, hc, hok⟩ := hi.bs b x hx
        exact ⟨c, hc, (hok.world (hun c (hi.bx b c hc).2.2 (hnk b c hbs hc))).mono hle2⟩
    · rcases hy with hy | ⟨hc, x, rfl, hok, hx⟩
      · obtain ⟨⟨u, hu, hr⟩, h2, h3⟩ := hi.im c i y hy
        refine ⟨⟨u, ?_, Rel.mono hle2 _ _ hr⟩, h2, h3⟩
        rw [World.cell?_of_block (w := w) (hun c (hi.im_lt hy) (fun ⟨j, hjk, hjc⟩ => h3 _ hjc))]; exact hu
      · rcases hx with hx | ⟨b, l, hbk, hbc, hl, hx⟩
        · obtain ⟨⟨u, hu, hr⟩, h2, _⟩ := hi1.im c i x hx
          exact ⟨⟨u, hu, ren_to hb2 him1 x u hok hr⟩, by rw [ren_flat]; exact h2, fun b hb' => by have := (hi.bx b c hb').2.2; omega⟩
        · obtain ⟨c', hc', hbk'⟩ := hi1.bs b _ hl
          rw [hbc] at hc'; obtain rfl := Option.some.inj hc'
          obtain ⟨us, E, e1, e2, e3⟩ := hbk'
          obtain ⟨u, hu, hr⟩ := e2.get i x hx
          exact ⟨⟨u, by simp [World.cell?, e1, hu], ren_to hb2 him1 x u hok hr⟩, by rw [ren_flat]; exact e3 x (List.mem_of_getElem? hx), fun b hb' => by have := (hi.bx b c hb').2.2; omega⟩
    · obtain ⟨kk, zs, h1, h2, h3⟩ := hi.tk t ht
      have hlt2 := h2.lt
      refine ⟨kk, zs, h1, ?_, fun c hc => ⟨(h3 c hc).1, fun i hii => ?_⟩⟩
      · obtain ⟨g1, g2⟩ := h2
        refine ⟨g1, ?_⟩
        rcases g2 with g2 | ⟨g, cap, cur, e1, e2, e3, e4⟩
        · exact .inl g2
        · refine .inr ⟨g, cap, cur, e1, e2, ?_, e4⟩
          have hg : kk.v.ownBlock = some g := by rw [e1]; rfl
          rw [hun g (hlt2 g hg).2 (fun ⟨j, hjk, hjc⟩ => (h3 g hg).1 _ hjc)]; exact e3
      · rintro ⟨zz, hz | ⟨hz, _⟩⟩
        · exact (h3 c hc).2 i hii ⟨zz, hz⟩
        · have := (hlt2 c hc).2; omega
    · obtain ⟨h1, h2, h3⟩ := hi.kp c o ho
      exact ⟨(hun c (Array.getElem?_eq_some_iff.1 h1).1 (fun ⟨j, hjk, hjc⟩ => h2 _ hjc)).trans h1, h2, h3⟩
  exact ⟨ren σ r', v, G2, _, he, ⟨r', ys, hR, hyl, rfl, rfl⟩, FY.rel hb2 hbx2 him1 hfy hrk hrel, hi2, hle2, hb⟩

/-- A body on a small heap. -/
theorem body_big {f : FuncId} {fn : Func} {c : Code} (hf : T.P.funcs[f]? = some fn) (hb : fn.body = some c) {args : List AV} {R : AV → List ABox → Prop} {n k : Nat} {xs : List ABox} (hn : fn.ntmps = n) (hle : Nat.ble args.length n = true) {rs : List ResultVar} (hrs : fn.results = rs.toArray)
    (h : AWp T n c (RetQ T rs (BigR T k R)) (fr0 args) ⟨xs, []⟩) : ACalls T f args ⟨xs, []⟩ (BigR T k R) :=
  body_q hf hb hn hle hrs h
theorem bigR {k : Nat} {R : AV → List ABox → Prop} {r : AV} {H1 : AH} (r' : AV) (ys : List ABox) (hf : FY T H1 k r r') (hr : ok k r' = true) (hyl : ys.length = k) (hy : ∃ gb, H1.bs = ys ++ gb) (hok : ys.all (okB k) = true) (hR : R r' ys) : BigR T k R r H1 :=
  ⟨r', ys, hf, hr, hyl, hy, hok, hR⟩
/-- A call whose outcome is one. -/
def One (y : AV) (zs : List ABox) (r : AV) (ys : List ABox) : Prop := r = y ∧ ys = zs
theorem acalls_one {f : FuncId} {args args' : List AV} {y y' : AV} {zs : List ABox} {bs : List ABox} (ss : List Nat) (xs : List ABox) (hxk : xs.length = ss.length) (hnd : ss.Nodup) {H : AH}
    (hσ : ∀ (i s : Nat) x, ss[i]? = some s → xs[i]? = some x → H.bs[s]? = some (renB (sg ss) x)) (hargs : okL ss.length args = true) (hxs : xs.all (okB ss.length) = true)
    (h : ACalls T f args ⟨xs, []⟩ (BigR T ss.length (One y zs))) (ha : renL (sg ss) args = args') (hy : ren (sg ss) y = y') (hbs : putB ss (zs.map (renB (sg ss))) H.bs = bs) :
    ACalls T f args' H (fun r H' => r = y' ∧ H' = ⟨bs, H.ts⟩) := by
  subst ha; subst hy; subst hbs
  refine (acalls_big ss xs hxk hnd hσ hargs hxs h).mono ?_
  rintro r H' ⟨r', ys, ⟨rfl, rfl⟩, _, rfl, rfl⟩
  exact ⟨rfl, rfl⟩
end
end Go.Proofs.Ytlclgpiabjlpbaa.Am
