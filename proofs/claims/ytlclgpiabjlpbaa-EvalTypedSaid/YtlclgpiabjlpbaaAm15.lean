/- A logic over the walk's rules, fifteenth part: boxes that are needed no more. -/
import Derived.Test.YtlclgpiabjlpbaaAm14
namespace Go.Proofs.Ytlclgpiabjlpbaa.Am
open Go.RowKit
set_option linter.unusedVariables false

mutual
/-- Does a value lead to the first 'n' boxes alone? -/
def bb (n : Nat) : AV → Bool
  | .ptr b _ => Nat.blt b n
  | .arr b _ _ => Nat.blt b n
  | .m b => Nat.blt b n
  | .cp cs => bbL n cs
  | .l _ _ es => bbLL n es
  | .fn _ cs => bbL n cs
  | .ifc _ x => bb n x
  | .agg cs => bbL n cs
  | .tup cs => bbL n cs
  | _ => true
def bbL (n : Nat) : List AV → Bool
  | [] => true
  | x :: xs => bb n x && bbL n xs
def bbLL (n : Nat) : List (List AV) → Bool
  | [] => true
  | x :: xs => bbL n x && bbLL n xs
end
theorem bbL_get {n : Nat} : ∀ {xs : List AV}, bbL n xs = true → ∀ {i : Nat} {x : AV}, xs[i]? = some x → bb n x = true
  | [], _, i, x, h => by simp at h
  | y :: ys, hc, 0, x, h => by simp only [bbL, Bool.and_eq_true] at hc; simp at h; subst h; exact hc.1
  | y :: ys, hc, i + 1, x, h => by simp only [bbL, Bool.and_eq_true] at hc; exact bbL_get hc.2 (by simpa using h)
theorem bbLL_get {n : Nat} : ∀ {xs : List (List AV)}, bbLL n xs = true → ∀ {i : Nat} {x : List AV}, xs[i]? = some x → bbL n x = true
  | [], _, i, x, h => by simp at h
  | y :: ys, hc, 0, x, h => by simp only [bbLL, Bool.and_eq_true] at hc; simp at h; subst h; exact hc.1
  | y :: ys, hc, i + 1, x, h => by simp only [bbLL, Bool.and_eq_true] at hc; exact bbLL_get hc.2 (by simpa using h)
theorem bbL_of {n : Nat} : ∀ {xs : List AV}, (∀ (i : Nat) (x : AV), xs[i]? = some x → bb n x = true) → bbL n xs = true
  | [], _ => rfl
  | x :: xs, h => by simp only [bbL, Bool.and_eq_true]; exact ⟨h 0 x rfl, bbL_of fun i y hy => h (i + 1) y (by simpa using hy)⟩
theorem bbLL_of {n : Nat} : ∀ {xs : List (List AV)}, (∀ (i : Nat) (x : List AV), xs[i]? = some x → bbL n x = true) → bbLL n xs = true
  | [], _ => rfl
  | x :: xs, h => by simp only [bbLL, Bool.and_eq_true]; exact ⟨h 0 x rfl, bbLL_of fun i y hy => h (i + 1) y (by simpa using hy)⟩
theorem bbLL_map {α : Type} {n : Nat} {g : α → List AV} : ∀ {xs : List α}, (∀ x ∈ xs, bbL n (g x) = true) → bbLL n (xs.map g) = true
  | [], _ => rfl
  | x :: xs, h => by simp only [List.map_cons, bbLL, Bool.and_eq_true]; exact ⟨h x (by simp), bbLL_map fun y hy => h y (by simp [hy])⟩

mutual
theorem clean_bb {n : Nat} : ∀ (x : AV), clean x = true → bb n x = true
  | .u, h => by cases h
  | .ptr _ _, h => by cases h
  | .arr _ _ _, h => by cases h
  | .m _, h => by cases h
  | .cp _, h => by cases h
  | .l (some _) _ _, h => by cases h
  | .l none _ es, h => by simp only [bb]; exact clean_bbLL es h
  | .fn _ cs, h => by simp only [bb]; exact clean_bbL cs h
  | .ifc _ x, h => by simp only [bb]; exact clean_bb x h
  | .agg cs, h => by simp only [bb]; exact clean_bbL cs h
  | .tup cs, h => by simp only [bb]; exact clean_bbL cs h
  | .b _, _ | .i _ _, _ | .f _, _ | .s _, _ | .np, _ | .nil, _ | .nm, _ | .nf, _ | .ni, _ | .k _, _ => rfl
theorem clean_bbL {n : Nat} : ∀ (xs : List AV), cleanL xs = true → bbL n xs = true
  | [], _ => rfl
  | x :: xs, h => by simp only [cleanL, Bool.and_eq_true] at h; simp only [bbL, Bool.and_eq_true]; exact ⟨clean_bb x h.1, clean_bbL xs h.2⟩
theorem clean_bbLL {n : Nat} : ∀ (xs : List (List AV)), cleanLL xs = true → bbLL n xs = true
  | [], _ => rfl
  | x :: xs, h => by simp only [cleanLL, Bool.and_eq_true] at h; simp only [bbLL, Bool.and_eq_true]; exact ⟨clean_bbL x h.1, clean_bbLL xs h.2⟩
end

section
variable {T : TT}
def Gh.cut (G : Gh) (n : Nat) : Gh := { im := fun c i x => G.im c i x ∧ bb n x = true, bx := fun b => if b < n then G.bx b else none, tk := G.tk, kp := G.kp }

mutual
theorem bb_rel {G : Gh} {n : Nat} : ∀ (x : AV) (v : Value), bb n x = true → Rel T G x v → Rel T (G.cut n) x v
  | .u, _, _, _ => trivial
  | .b _, _, _, e => e
  | .i _ _, _, _, e => e
  | .f _, _, _, e => e
  | .s _, _, _, e => e
  | .np, _, _, e => e
  | .ptr b _, _, hc, e => by obtain ⟨c, e1, e2⟩ := e; simp only [bb, Nat.blt_eq] at hc; exact ⟨c, by simp [Gh.cut, hc, e1], e2⟩
  | .cp cs, _, hc, e => by obtain ⟨c, o, e1, e2⟩ := e; exact ⟨c, o, e1, fun j y hj => ⟨e2 j y hj, bbL_get hc hj⟩⟩
  | .nil, _, _, e => e
  | .l _ _ es, _, hc, e => by
    obtain ⟨A, cap, e1, e2, e3, e4, e5, e6⟩ := e
    exact ⟨A, cap, e1, e2, e3, e4, fun hne => by
      obtain ⟨c, o, q1, q2⟩ := e5 hne
      exact ⟨c, o, q1, fun i j x y hx hy => ⟨q2 i j x y hx hy, bbL_get (bbLL_get hc hx) hy⟩⟩, e6⟩
  | .arr b _ _, _, hc, e => by obtain ⟨c, e1, e2⟩ := e; simp only [bb, Nat.blt_eq] at hc; exact ⟨c, by simp [Gh.cut, hc, e1], e2⟩
  | .m b, _, hc, e => by obtain ⟨c, e1, e2⟩ := e; simp only [bb, Nat.blt_eq] at hc; exact ⟨c, by simp [Gh.cut, hc, e1], e2⟩
  | .nm, _, _, e => e
  | .fn _ caps, _, hc, e => by obtain ⟨vs, e1, e2⟩ := e; exact ⟨vs, e1, bbL_rel caps vs hc e2⟩
  | .nf, _, _, e => e
  | .ni, _, _, e => e
  | .ifc _ x, _, hc, e => by obtain ⟨y, e1, e2⟩ := e; exact ⟨y, e1, bb_rel x y hc e2⟩
  | .agg cs, _, hc, e => by obtain ⟨vs, e1, e2⟩ := e; exact ⟨vs, e1, bbL_rel cs vs hc e2⟩
  | .tup cs, _, hc, e => by obtain ⟨vs, e1, e2⟩ := e; exact ⟨vs, e1, bbL_rel cs vs hc e2⟩
  | .k _, _, _, e => e
theorem bbL_rel {G : Gh} {n : Nat} : ∀ (xs : List AV) (vs : List Value), bbL n xs = true → RelL T G xs vs → RelL T (G.cut n) xs vs
  | [], _, _, e => e
  | x :: xs, _, hc, e => by
    simp only [bbL, Bool.and_eq_true] at hc
    obtain ⟨v, vs', e1, e2, e3⟩ := e
    exact ⟨v, vs', e1, bb_rel x v hc.1 e2, bbL_rel xs vs' hc.2 e3⟩
end

mutual
/-- What is related leads to boxes that are there. -/
theorem rel_bb {B : Nat} {G : Gh} {H : AH} {w : World} (hi : Inv T B G H w) : ∀ (x : AV) (v : Value), Rel T G x v → bb H.bs.length x = true
  | .u, _, _ => rfl
  | .b _, _, _ => rfl
  | .i _ _, _, _ => rfl
  | .f _, _, _ => rfl
  | .s _, _, _ => rfl
  | .np, _, _ => rfl
  | .ptr b _, _, e => by obtain ⟨c, e1, e2⟩ := e; simp only [bb, Nat.blt_eq]; exact (hi.bx b c e1).1
  | .cp cs, _, e => by obtain ⟨c, o, e1, e2⟩ := e; simp only [bb]; exact im_bbL hi cs fun j y hj => ⟨c, o + j, e2 j y hj⟩
  | .nil, _, _ => rfl
  | .l _ _ es, _, e => by
    obtain ⟨A, cap, e1, e2, e3, e4, e5, e6⟩ := e
    simp only [bb]
    exact im_bbLL hi es fun i j x y hx hy => by
      obtain ⟨c, o, q1, q2⟩ := e5 (fun q => by rw [q] at hx; simp at hx)
      exact ⟨c, _, q2 i j x y hx hy⟩
  | .arr b _ _, _, e => by obtain ⟨c, e1, e2⟩ := e; simp only [bb, Nat.blt_eq]; exact (hi.bx b c e1).1
  | .m b, _, e => by obtain ⟨c, e1, e2⟩ := e; simp only [bb, Nat.blt_eq]; exact (hi.bx b c e1).1
  | .nm, _, _ => rfl
  | .fn _ caps, _, e => by obtain ⟨vs, e1, e2⟩ := e; simp only [bb]; exact relL_bb hi caps vs e2
  | .nf, _, _ => rfl
  | .ni, _, _ => rfl
  | .ifc _ x, _, e => by obtain ⟨y, e1, e2⟩ := e; simp only [bb]; exact rel_bb hi x y e2
  | .agg cs, _, e => by obtain ⟨vs, e1, e2⟩ := e; simp only [bb]; exact relL_bb hi cs vs e2
  | .tup cs, _, e => by obtain ⟨vs, e1, e2⟩ := e; simp only [bb]; exact relL_bb hi cs vs e2
  | .k _, _, _ => rfl
theorem relL_bb {B : Nat} {G : Gh} {H : AH} {w : World} (hi : Inv T B G H w) : ∀ (xs : List AV) (vs : List Value), RelL T G xs vs → bbL H.bs.length xs = true
  | [], _, _ => rfl
  | x :: xs, _, e => by
    obtain ⟨v, vs', e1, e2, e3⟩ := e
    simp only [bbL, Bool.and_eq_true]
    exact ⟨rel_bb hi x v e2, relL_bb hi xs vs' e3⟩
theorem im_bbL {B : Nat} {G : Gh} {H : AH} {w : World} (hi : Inv T B G H w) : ∀ (xs : List AV), (∀ (j : Nat) (y : AV), xs[j]? = some y → ∃ c i, G.im c i y) → bbL H.bs.length xs = true
  | [], _ => rfl
  | x :: xs, h => by
    simp only [bbL, Bool.and_eq_true]
    obtain ⟨c, i, hx⟩ := h 0 x rfl
    obtain ⟨⟨v, _, hr⟩, _⟩ := hi.im c i x hx
    exact ⟨rel_bb hi x v hr, im_bbL hi xs fun j y hj => h (j + 1) y (by simpa using hj)⟩
theorem im_bbLL {B : Nat} {G : Gh} {H : AH} {w : World} (hi : Inv T B G H w) : ∀ (es : List (List AV)), (∀ (i j : Nat) (x : List AV) (y : AV), es[i]? = some x → x[j]? = some y → ∃ c i, G.im c i y) → bbLL H.bs.length es = true
  | [], _ => rfl
  | x :: xs, h => by
    simp only [bbLL, Bool.and_eq_true]
    exact ⟨im_bbL hi x fun j y hj => h 0 j x y rfl hj, im_bbLL hi xs fun i j x y hx hy => h (i + 1) j x y (by simpa using hx) hy⟩
end
def bbB (n : Nat) : ABox → Bool
  | .cells l => bbL n l
  | .map es => bbL n (es.map (·.1)) && bbL n (es.map (·.2))
def bbH (n : Nat) (bs : List ABox) : Bool := bs.all (bbB n)

theorem cut_inv {B : Nat} {G : Gh} {H : AH} {w : World} (hi : Inv T B G H w) (n : Nat) (hn : n ≤ H.bs.length) (hb : bbH n (H.bs.take n) = true) : Inv T B (G.cut n) ⟨H.bs.take n, H.ts⟩ w := by
  have hbx : ∀ {b c}, (G.cut n).bx b = some c → b < n ∧ G.bx b = some c := by
    intro b c h
    simp only [Gh.cut] at h
    split at h
    · rename_i hl; exact ⟨hl, h⟩
    · cases h
  refine ⟨hi.hB, fun b c h => ?_, fun b b' c h h' => hi.inj b b' c (hbx h).2 (hbx h').2, fun b x hx => ?_, fun c i x hx => ?_, fun t ht => ?_, hi.fs, hi.ne, fun c o ho => ⟨(hi.kp c o ho).1, fun b hb => (hi.kp c o ho).2.1 b (hbx hb).2, (hi.kp c o ho).2.2⟩⟩
  · obtain ⟨h1, h2⟩ := hbx h
    obtain ⟨q1, q2, q3⟩ := hi.bx b c h2
    exact ⟨by simp; omega, q2, q3⟩
  · have hbn : b < n := by
      have := (List.getElem?_eq_some_iff.1 hx).1
      simp at this; omega
    have hx' : H.bs[b]? = some x := by rw [List.getElem?_take_of_lt hbn] at hx; exact hx
    obtain ⟨c, hc, hk⟩ := hi.bs b x hx'
    have hbb : bbB n x = true := List.all_eq_true.1 hb x (List.mem_of_getElem? hx)
    refine ⟨c, by simp [Gh.cut, hbn, hc], ?_⟩
    cases x with
    | cells l => obtain ⟨vs, E, e1, e2, e3⟩ := hk; exact ⟨vs, E, e1, bbL_rel _ _ hbb e2, e3⟩
    | map es =>
      obtain ⟨ms, cl, e1, e2, e3, e4⟩ := hk
      simp only [bbB, Bool.and_eq_true] at hbb
      exact ⟨ms, cl, e1, bbL_rel _ _ hbb.1 e2, bbL_rel _ _ hbb.2 e3, e4⟩
  · obtain ⟨⟨v, hv, hr⟩, h2, h3⟩ := hi.im c i x hx.1
    exact ⟨⟨v, hv, bb_rel x v hx.2 hr⟩, h2, fun b hb => h3 b (hbx hb).2⟩
  · obtain ⟨k, xs, h1, h2, h3⟩ := hi.tk t ht
    exact ⟨k, xs, h1, h2, fun c hc => ⟨fun b hb => (h3 c hc).1 b (hbx hb).2, fun i hi' hz => by obtain ⟨zz, hz, _⟩ := hz; exact (h3 c hc).2 i hi' ⟨zz, hz⟩⟩⟩
theorem le_cut {B : Nat} {G0 G : Gh} {H0 : AH} {w0 : World} (hi : Inv T B G0 H0 w0) (hle : G0.le B G) {n : Nat} (hn : H0.bs.length = n) : G0.le B (G.cut n) := by
  refine ⟨fun c i x hx => ⟨hle.im c i x hx, ?_⟩, fun c i x hc hx => hle.lo c i x hc hx.1, fun b c hb => ?_, hle.tk, hle.kp, fun c i x hc hx => hle.kl c i x hc hx.1⟩
  · obtain ⟨⟨v, _, hr⟩, _⟩ := hi.im c i x hx
    exact hn ▸ rel_bb hi x v hr
  · have := (hi.bx b c hb).1
    have hbn : b < n := by omega
    simp [Gh.cut, hbn, hle.bx b c hb]

variable {N : Nat} {fr : FrA} {H : AH}
/-- At the end of a piece of code: what was laid out since is left behind. -/
theorem wp_drop {c : Code} {Q Q' : Exit → FrA → AH → Prop} {n : Nat} (hn : H.bs.length = n) (h : AWp T N c Q' fr H)
    (hq : ∀ e fr' H', Q' e fr' H' → Q e fr' H' ∨ ∃ F, Wkr F fr' ∧ (∀ d, bb n (F d) = true) ∧ n ≤ H'.bs.length ∧ bbH n (H'.bs.take n) = true ∧ Q e F ⟨H'.bs.take n, H'.ts⟩) : AWp T N c Q fr H := by
  intro B G w a hi hf
  refine wp_mono (h B G w a hi hf) fun e a1 w1 ⟨fr1, H1, G1, q, hf1, hi1, hg, hb⟩ => ?_
  rcases hq e fr1 H1 q with q | ⟨F, hw, hF, hl, hbb, hQ⟩
  · exact ⟨fr1, H1, G1, q, hf1, hi1, hg, hb⟩
  · have hf2 := hw.relF hf1
    exact ⟨F, _, G1.cut n, hQ, ⟨hf2.1, hf2.2, fun k => bb_rel _ _ (hF k) (hf2.rel k)⟩, cut_inv hi1 n hl hbb, le_cut hi hg hn, hb⟩
theorem bb_frl {n : Nat} {l : List (Nat × AV)} (h : bbL n (l.map (·.2)) = true) (d : Nat) : bb n (frl l d) = true := by
  unfold frl
  split
  · rename_i p hp
    have hm := List.mem_of_find?_eq_some hp
    obtain ⟨i, hi⟩ := List.getElem?_of_mem (List.mem_map_of_mem (f := (·.2)) hm)
    exact bbL_get h hi
  · rfl
/-- A loop; what a round has laid out is left behind. -/
theorem wp_loopD {α : Type} {c : Code} {Q : Exit → FrA → AH → Prop} (F : α → FrA) (Hs : α → AH) (n : Nat) (P : α → Prop) (μ : α → Nat) (a0 : α) (hP : P a0) (hw : Wkr (F a0) fr) (hH : H = Hs a0)
    (hn : ∀ a, (Hs a).bs.length = n) (hF : ∀ a, P a → ∀ d, bb n (F a d) = true) (hbh : ∀ a, P a → bbH n (Hs a).bs = true)
    (round : ∀ a, P a → AWp T N c (athen (fun fr' H' => ∃ a', P a' ∧ Wkr (F a') fr' ∧ (∃ gb, H'.bs = (Hs a').bs ++ gb) ∧ H'.ts = (Hs a').ts ∧ μ a' < μ a) Q) (F a) (Hs a)) : AWp T N (.loop c) Q fr H := by
  refine wp_loop F Hs P μ a0 hP hw hH fun a ha => ?_
  refine wp_drop (hn a) (round a ha) fun e fr' H' q => ?_
  cases e with
  | normal =>
    right
    obtain ⟨a', h1, h2, ⟨gb, h3⟩, h4, h5⟩ := q
    have ht : H'.bs.take n = (Hs a').bs := by rw [h3, ← hn a']; simp
    refine ⟨F a', h2, hF a' h1, ?_, ?_, a', h1, fun d => .inr rfl, ?_, h5⟩
    · rw [h3, ← hn a']; simp
    · rw [ht]; exact hbh a' h1
    · rw [ht, h4]
  | exit id => exact .inl q
  | goto l => exact .inl q
  | ret => exact .inl q
  | panic ch => exact .inl q
  | outgrown => exact .inl q
end
end Go.Proofs.Ytlclgpiabjlpbaa.Am
