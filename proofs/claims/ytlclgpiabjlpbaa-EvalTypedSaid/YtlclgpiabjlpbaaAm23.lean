/- A logic over the walk's rules, twenty-third part: calls on a small heap that lay new boxes. -/
import Derived.Test.YtlclgpiabjlpbaaAm22
namespace Go.Proofs.Ytlclgpiabjlpbaa.Am
open Go.RowKit
set_option linter.unusedVariables false

mutual
theorem ren_congr {σ τ : Nat → Nat} {n : Nat} (h : ∀ b, b < n → σ b = τ b) : ∀ (x : AV), ok n x = true → ren σ x = ren τ x
  | .u, _ | .b _, _ | .i _ _, _ | .f _, _ | .s _, _ | .np, _ | .nil, _ | .nm, _ | .nf, _ | .ni, _ | .k _, _ => rfl
  | .ptr b _, hc => by simp only [ok, Nat.blt_eq] at hc; simp only [ren, h b hc]
  | .arr b _ _, hc => by simp only [ok, Nat.blt_eq] at hc; simp only [ren, h b hc]
  | .m b, hc => by simp only [ok, Nat.blt_eq] at hc; simp only [ren, h b hc]
  | .cp cs, hc => by simp only [ren, renL_congr h cs hc]
  | .l (some _) _ _, hc => by cases hc
  | .l none _ es, hc => by simp only [ren, renLL_congr h es hc]
  | .fn _ cs, hc => by simp only [ren, renL_congr h cs hc]
  | .ifc _ x, hc => by simp only [ren, ren_congr h x hc]
  | .agg cs, hc => by simp only [ren, renL_congr h cs hc]
  | .tup cs, hc => by simp only [ren, renL_congr h cs hc]
theorem renL_congr {σ τ : Nat → Nat} {n : Nat} (h : ∀ b, b < n → σ b = τ b) : ∀ (xs : List AV), okL n xs = true → renL σ xs = renL τ xs
  | [], _ => rfl
  | x :: xs, hc => by simp only [okL, Bool.and_eq_true] at hc; simp only [renL, ren_congr h x hc.1, renL_congr h xs hc.2]
theorem renLL_congr {σ τ : Nat → Nat} {n : Nat} (h : ∀ b, b < n → σ b = τ b) : ∀ (xs : List (List AV)), okLL n xs = true → renLL σ xs = renLL τ xs
  | [], _ => rfl
  | x :: xs, hc => by simp only [okLL, Bool.and_eq_true] at hc; simp only [renLL, renL_congr h x hc.1, renLL_congr h xs hc.2]
end
mutual
theorem ren_id {n : Nat} {σ : Nat → Nat} (h : ∀ b, b < n → σ b = b) : ∀ (x : AV), ok n x = true → ren σ x = x
  | .u, _ | .b _, _ | .i _ _, _ | .f _, _ | .s _, _ | .np, _ | .nil, _ | .nm, _ | .nf, _ | .ni, _ | .k _, _ => rfl
  | .ptr b _, hc => by simp only [ok, Nat.blt_eq] at hc; simp only [ren, h b hc]
  | .arr b _ _, hc => by simp only [ok, Nat.blt_eq] at hc; simp only [ren, h b hc]
  | .m b, hc => by simp only [ok, Nat.blt_eq] at hc; simp only [ren, h b hc]
  | .cp cs, hc => by simp only [ren, renL_id h cs hc]
  | .l (some _) _ _, hc => by cases hc
  | .l none _ es, hc => by simp only [ren, renLL_id h es hc]
  | .fn _ cs, hc => by simp only [ren, renL_id h cs hc]
  | .ifc _ x, hc => by simp only [ren, ren_id h x hc]
  | .agg cs, hc => by simp only [ren, renL_id h cs hc]
  | .tup cs, hc => by simp only [ren, renL_id h cs hc]
theorem renL_id {n : Nat} {σ : Nat → Nat} (h : ∀ b, b < n → σ b = b) : ∀ (xs : List AV), okL n xs = true → renL σ xs = xs
  | [], _ => rfl
  | x :: xs, hc => by simp only [okL, Bool.and_eq_true] at hc; simp only [renL, ren_id h x hc.1, renL_id h xs hc.2]
theorem renLL_id {n : Nat} {σ : Nat → Nat} (h : ∀ b, b < n → σ b = b) : ∀ (xs : List (List AV)), okLL n xs = true → renLL σ xs = xs
  | [], _ => rfl
  | x :: xs, hc => by simp only [okLL, Bool.and_eq_true] at hc; simp only [renLL, renL_id h x hc.1, renLL_id h xs hc.2]
end

section
variable {T : TT}
/-- The names of the boxes: the old ones by a list, new ones behind all that are there. -/
def sgN (ss : List Nat) (n : Nat) (i : Nat) : Nat := if i < ss.length then ss.getD i 0 else n + (i - ss.length)
/-- What a call on a small heap comes to, at its end, with new boxes. -/
def BigN (T : TT) (k : Nat) (R : AV → List ABox → List ABox → Prop) (r : AV) (H1 : AH) : Prop :=
  ∃ r' ys ns, FY T H1 (k + ns.length) r r' ∧ ok (k + ns.length) r' = true ∧ ys.length = k ∧ (∃ gb, H1.bs = ys ++ ns ++ gb) ∧ (ys ++ ns).all (okB (k + ns.length)) = true ∧ R r' ys ns

theorem acalls_new {f : FuncId} {args : List AV} {R : AV → List ABox → List ABox → Prop} (ss : List Nat) (xs : List ABox) (hxk : xs.length = ss.length) (hnd : ss.Nodup) {H : AH}
    (hσ : ∀ (i s : Nat) x, ss[i]? = some s → xs[i]? = some x → H.bs[s]? = some (renB (sg ss) x)) (hargs : okL ss.length args = true) (hxs : xs.all (okB ss.length) = true)
    (h : ACalls T f args ⟨xs, []⟩ (BigN T ss.length R)) :
    ACalls T f (renL (sg ss) args) H (fun r H' => ∃ r' ys ns, R r' ys ns ∧ ys.length = ss.length ∧ r = ren (sgN ss H.bs.length) r' ∧ H' = ⟨putB ss (ys.map (renB (sgN ss H.bs.length))) H.bs ++ ns.map (renB (sgN ss H.bs.length)), H.ts⟩) := by
  classical
  intro B G w vs hi ha
  have hτ1 : ∀ i, i < ss.length → sgN ss H.bs.length i = sg ss i := fun i hi => by unfold sgN sg; rw [if_pos hi]
  have hτ2 : ∀ i, ss.length ≤ i → sgN ss H.bs.length i = H.bs.length + (i - ss.length) := fun i hi => by unfold sgN; rw [if_neg (by omega)]
  generalize hτ : sgN ss H.bs.length = τ at *
  generalize hk : ss.length = k at *
  generalize hs : sg ss = σ at *
  have hsat : ∀ i, i < k → ss[i]? = some (σ i) := fun i hik => by rw [← hs]; exact sg_at (by omega)
  have hbox : ∀ i, i < k → ∃ x, xs[i]? = some x ∧ H.bs[σ i]? = some (renB σ x) := fun i hik => ⟨_, List.getElem?_eq_getElem (by omega), hσ i _ _ (hsat i hik) (List.getElem?_eq_getElem (by omega))⟩
  have hinj : ∀ i j, i < k → j < k → σ i = σ j → i = j := fun i j hik hjk e => by
    have h1 := hsat i hik
    have h2 := hsat j hjk
    rw [e, ← h2] at h1
    exact (List.getElem?_inj (by omega) hnd).1 h1
  let isK : Nat → Prop := fun c => ∃ i, i < k ∧ G.bx (σ i) = some c
  let G0 : Gh := { im := fun c i x => ok k x = true ∧ G.im c i (ren σ x), bx := fun i => if i < k then G.bx (σ i) else none, tk := fun _ => none, kp := fun c => if isK c then none else w.heap[c]? }
  have hG0 : ∀ {b c}, G0.bx b = some c → b < k ∧ G.bx (σ b) = some c := by
    intro b c h
    have h' : (if b < k then G.bx (σ b) else none) = some c := h
    split at h'
    · exact ⟨by assumption, h'⟩
    · cases h'
  have hG0' : ∀ b c, b < k → G.bx (σ b) = some c → G0.bx b = some c := fun b c hb h => by
    show (if b < k then G.bx (σ b) else none) = some c
    rw [if_pos hb]; exact h
  have him0 : ∀ c i x, ok k x = true → G.im c i (ren σ x) → G0.im c i x := fun c i x h1 h2 => ⟨h1, h2⟩
  have hi0 : Inv T B G0 ⟨xs, []⟩ w := by
    refine ⟨hi.hB, fun b c hb => ?_, fun b b' c hb hb' => ?_, fun b x hx => ?_, fun c i x hx => ?_, (fun t ht => by cases ht), ⟨0, fun _ _ => rfl⟩, (fun t t' k k' ht => by cases ht), fun c o ho => ?_⟩
    · obtain ⟨h1, h2⟩ := hG0 hb
      exact ⟨by simp only; omega, (hi.bx _ c h2).2⟩
    · obtain ⟨h1, h2⟩ := hG0 hb
      obtain ⟨h3, h4⟩ := hG0 hb'
      exact hinj b b' h1 h3 (hi.inj _ _ c h2 h4)
    · have hbk : b < k := by have := (List.getElem?_eq_some_iff.1 hx).1; simp only at this; omega
      have hx' := hσ b _ x (hsat b hbk) hx
      obtain ⟨c, hc, hok⟩ := hi.bs _ _ hx'
      exact ⟨c, hG0' b c hbk hc, box_of hG0' him0 (List.all_eq_true.1 hxs x (List.mem_of_getElem? hx)) hok⟩
    · obtain ⟨h1, h2⟩ := hx
      obtain ⟨⟨v, hv, hr⟩, h3, h4⟩ := hi.im c i _ h2
      exact ⟨⟨v, hv, ren_of hG0' him0 x v h1 hr⟩, by rw [← ren_flat (σ := σ)]; exact h3, fun b hb => h4 _ (hG0 hb).2⟩
    · have ho' : (if isK c then none else w.heap[c]?) = some o := ho
      split at ho'
      · cases ho'
      · rename_i hnk
        exact ⟨ho', fun b hb => hnk ⟨b, hG0 hb⟩, fun t ht => by cases ht⟩
  refine Calls.mono' (h B G0 w vs hi0 (renL_of hG0' him0 args vs hargs ha)) fun e w' ⟨r, v, G1, H1, he, ⟨r', ys, ns, hfy, hrk, hyl, ⟨gb, hgb⟩, hyk, hR⟩, hrel, hi1, hle, hb⟩ => ?_
  generalize hm : ns.length = m at *
  have hkp : ∀ c, c < w.heap.size → ¬ isK c → G0.kp c = some w.heap[c]! ∧ w.heap[c]? = some w.heap[c]! := by
    intro c hc hnk
    have h1 : w.heap[c]? = some w.heap[c]! := by simp [hc]
    refine ⟨?_, h1⟩
    show (if isK c then none else w.heap[c]?) = _
    rw [if_neg hnk]; exact h1
  have hun : ∀ c, c < w.heap.size → ¬ isK c → w'.heap[c]? = w.heap[c]? := by
    intro c hc hnk
    obtain ⟨h1, h2⟩ := hkp c hc hnk
    rw [h2]
    exact (hi1.kp c _ (by rw [hle.kp]; exact h1)).1
  have hb1 : ∀ i c, i < k → G1.bx i = some c → G.bx (σ i) = some c := by
    intro i c hik h1
    obtain ⟨x, hx, hx'⟩ := hbox i hik
    obtain ⟨c', hc', _⟩ := hi.bs _ _ hx'
    have := hle.bx i c' (hG0' i c' hik hc')
    rw [this] at h1; obtain rfl := Option.some.inj h1
    exact hc'
  have hb1' : ∀ i c, i < k → G.bx (σ i) = some c → G1.bx i = some c := fun i c hik h1 => hle.bx i c (hG0' i c hik h1)
  have hnew : ∀ b c, k ≤ b → G1.bx b = some c → w.heap.size ≤ c := by
    intro b c hbk h1
    rcases Nat.lt_or_ge c w.heap.size with hc | hc
    · by_cases hK : isK c
      · obtain ⟨i, hik, hic⟩ := hK
        have := hi1.inj b i c h1 (hb1' i c hik hic)
        omega
      · exact absurd h1 ((hi1.kp c _ (by rw [hle.kp]; exact (hkp c hc hK).1)).2.1 b)
    · exact hc
  let G2 : Gh := { G with im := fun c i y => G.im c i y ∨ (w.heap.size ≤ c ∧ ∃ x, y = ren τ x ∧ ok (k + m) x = true ∧ (G1.im c i x ∨ ∃ b l, k + m ≤ b ∧ G1.bx b = some c ∧ H1.bs[b]? = some (.cells l) ∧ l[i]? = some x)), bx := fun b => if H.bs.length ≤ b ∧ b < H.bs.length + m then G1.bx (k + (b - H.bs.length)) else G.bx b }
  have hG2o : ∀ b c, b < H.bs.length → (G2.bx b = some c ↔ G.bx b = some c) := fun b c hb' => by
    show (if H.bs.length ≤ b ∧ b < H.bs.length + m then G1.bx (k + (b - H.bs.length)) else G.bx b) = some c ↔ _
    rw [if_neg (by omega)]
  have hG2 : ∀ {b c}, G2.bx b = some c → (b < H.bs.length ∧ G.bx b = some c) ∨ ∃ j, j < m ∧ b = H.bs.length + j ∧ G1.bx (k + j) = some c := by
    intro b c h'
    have h2 : (if H.bs.length ≤ b ∧ b < H.bs.length + m then G1.bx (k + (b - H.bs.length)) else G.bx b) = some c := h'
    split at h2
    · rename_i hc; exact .inr ⟨b - H.bs.length, by omega, by omega, h2⟩
    · exact .inl ⟨(hi.bx b c h2).1, h2⟩
  have hle2 : G.le B G2 := ⟨fun _ _ _ hx => .inl hx, fun c i x hc hx => by
    rcases hx with hx | ⟨hx, _⟩
    · exact hx
    · have := hi.hB; omega, fun b c hx => (hG2o b c (hi.bx b c hx).1).2 hx, fun _ _ hx => hx, fun _ => rfl, fun c i x hc hx => by
    rcases hx with hx | ⟨hx, _⟩
    · exact hx
    · have := hi.kp_lt hc; omega⟩
  have him1 : ∀ c i x, ok (k + m) x = true → G1.im c i x → G2.im c i (ren τ x) := by
    intro c i x hok hx
    rcases Nat.lt_or_ge c w.heap.size with hc | hc
    · by_cases hK : isK c
      · obtain ⟨j, hjk, hjc⟩ := hK
        exact absurd (hb1' j c hjk hjc) ((hi1.im c i x hx).2.2 j)
      · obtain ⟨q1, q2⟩ := hle.kl c i x (by rw [(hkp c hc hK).1]; simp) hx
        rw [ren_congr hτ1 x q1]; exact .inl q2
    · exact .inr ⟨hc, x, rfl, hok, .inl hx⟩
  have hbx2 : ∀ b c l, k + m ≤ b → G1.bx b = some c → H1.bs[b]? = some (.cells l) → ∀ i x, l[i]? = some x → ok (k + m) x = true → G2.im c i (ren τ x) :=
    fun b c l hbk hbc hl i x hx hok => .inr ⟨hnew b c (by omega) hbc, x, rfl, hok, .inr ⟨b, l, hbk, hbc, hl, hx⟩⟩
  have hσlt : ∀ i, i < k → σ i < H.bs.length := fun i hik => by
    obtain ⟨x, _, hx⟩ := hbox i hik
    exact (List.getElem?_eq_some_iff.1 hx).1
  have hb2 : ∀ b c, b < k + m → G1.bx b = some c → G2.bx (τ b) = some c := by
    intro b c h1 h2
    rcases Nat.lt_or_ge b k with q | q
    · rw [hτ1 b q]; exact (hG2o _ c (hσlt b q)).2 (hb1 b c q h2)
    · rw [hτ2 b q]
      show (if H.bs.length ≤ H.bs.length + (b - k) ∧ H.bs.length + (b - k) < H.bs.length + m then G1.bx (k + (H.bs.length + (b - k) - H.bs.length)) else G.bx _) = some c
      rw [if_pos (by omega), show k + (H.bs.length + (b - k) - H.bs.length) = b by omega]; exact h2
  have hlt : ∀ s ∈ ss, s < H.bs.length := by
    intro s hs'
    obtain ⟨i, hi'⟩ := List.getElem?_of_mem hs'
    have hil := (List.getElem?_eq_some_iff.1 hi').1
    obtain ⟨x, _, hx⟩ := hbox i (by omega)
    have := hsat i (by omega)
    rw [hi'] at this; obtain rfl := Option.some.inj this
    exact (List.getElem?_eq_some_iff.1 hx).1
  have hnk : ∀ b c, b ∉ ss → G.bx b = some c → ¬ isK c := by
    rintro b c hb hc ⟨i, hik, hic⟩
    have := hi.inj _ _ c hic hc
    exact hb (this ▸ List.mem_of_getElem? (hsat i hik))
  have hold : ∀ {c}, c < w.heap.size → ∀ b, G.bx b ≠ some c → G2.bx b ≠ some c := by
    intro c hc b hb' h'
    rcases hG2 h' with ⟨_, q⟩ | ⟨j, hj, rfl, q⟩
    · exact hb' q
    · have := hnew _ c (by omega) q; omega
  have hyn : ∀ j, j < m → H1.bs[k + j]? = ns[j]? := fun j hj => by
    rw [hgb, List.append_assoc, List.getElem?_append_right (by omega), hyl, show k + j - k = j by omega, List.getElem?_append_left (by omega)]
  have hi2 : Inv T B G2 ⟨putB ss (ys.map (renB τ)) H.bs ++ ns.map (renB τ), H.ts⟩ w' := by
    refine ⟨Nat.le_trans hi.hB hb.size, fun b c h' => ?_, fun b b' c h' h'' => ?_, fun b x hx => ?_, fun c i y hy => ?_, fun t ht => ?_, hi.fs, hi.ne, fun c o ho => ?_⟩
    · rcases hG2 h' with ⟨_, q⟩ | ⟨j, hj, rfl, q⟩
      · have := hi.bx b c q
        exact ⟨by simp only [List.length_append, putB_len]; omega, this.2.1, Nat.lt_of_lt_of_le this.2.2 hb.size⟩
      · have := hi1.bx _ c q
        exact ⟨by simp only [List.length_append, putB_len, List.length_map]; omega, this.2.1, this.2.2⟩
    · rcases hG2 h' with ⟨_, q⟩ | ⟨j, hj, rfl, q⟩ <;> rcases hG2 h'' with ⟨_, q'⟩ | ⟨j', hj', rfl, q'⟩
      · exact hi.inj _ _ c q q'
      · have := hnew _ c (by omega) q'; have := (hi.bx _ c q).2.2; omega
      · have := hnew _ c (by omega) q; have := (hi.bx _ c q').2.2; omega
      · have := hi1.inj _ _ c q q'; omega
    · simp only at hx
      rcases Nat.lt_or_ge b H.bs.length with hbl | hbl
      rotate_left
      · rw [List.getElem?_append_right (by rw [putB_len]; exact hbl), putB_len, List.getElem?_map, Option.map_eq_some_iff] at hx
        obtain ⟨y, hy, rfl⟩ := hx
        have hjm : b - H.bs.length < m := by have := (List.getElem?_eq_some_iff.1 hy).1; omega
        obtain ⟨c, hc, hok⟩ := hi1.bs (k + (b - H.bs.length)) y (by rw [hyn _ hjm]; exact hy)
        refine ⟨c, ?_, box_to hb2 him1 (List.all_eq_true.1 hyk y (List.mem_append.2 (.inr (List.mem_of_getElem? hy)))) hok⟩
        have := hb2 _ c (by omega) hc
        rwa [hτ2 _ (by omega), show H.bs.length + (k + (b - H.bs.length) - k) = b by omega] at this
      rw [List.getElem?_append_left (by rw [putB_len]; exact hbl)] at hx
      by_cases hbs : b ∈ ss
      · obtain ⟨i, hi'⟩ := List.getElem?_of_mem hbs
        have hil := (List.getElem?_eq_some_iff.1 hi').1
        rw [putB_at ss _ _ hnd (by simp; omega) hlt i b hi', List.getElem?_map, Option.map_eq_some_iff] at hx
        obtain ⟨y, hy, rfl⟩ := hx
        have hsb := hsat i (by omega)
        rw [hi'] at hsb; obtain rfl := Option.some.inj hsb
        obtain ⟨c, hc, hok⟩ := hi1.bs i y (by rw [hgb, List.append_assoc, List.getElem?_append_left (by omega)]; exact hy)
        exact ⟨c, (hG2o _ c hbl).2 (hb1 i c (by omega) hc), box_to hb2 him1 (List.all_eq_true.1 hyk y (List.mem_append.2 (.inl (List.mem_of_getElem? hy)))) hok⟩
      · rw [putB_far ss _ _ b hbs] at hx
        obtain ⟨c, hc, hok⟩ := hi.bs b x hx
        exact ⟨c, (hG2o b c hbl).2 hc, (hok.world (hun c (hi.bx b c hc).2.2 (hnk b c hbs hc))).mono hle2⟩
    · rcases hy with hy | ⟨hc, x, rfl, hok, hx⟩
      · obtain ⟨⟨u, hu, hr⟩, h2, h3⟩ := hi.im c i y hy
        refine ⟨⟨u, ?_, Rel.mono hle2 _ _ hr⟩, h2, fun b => hold (hi.im_lt hy) b (h3 b)⟩
        rw [World.cell?_of_block (w := w) (hun c (hi.im_lt hy) (fun ⟨j, hjk, hjc⟩ => h3 _ hjc))]; exact hu
      · rcases hx with hx | ⟨b, l, hbk, hbc, hl, hx⟩
        · obtain ⟨⟨u, hu, hr⟩, h2, _⟩ := hi1.im c i x hx
          refine ⟨⟨u, hu, ren_to hb2 him1 x u hok hr⟩, by rw [ren_flat]; exact h2, fun b hb' => ?_⟩
          rcases hG2 hb' with ⟨_, q⟩ | ⟨j, hj, rfl, q⟩
          · have := (hi.bx b c q).2.2; omega
          · exact (hi1.im c i x hx).2.2 _ q
        · obtain ⟨c', hc', hbk'⟩ := hi1.bs b _ hl
          rw [hbc] at hc'; obtain rfl := Option.some.inj hc'
          obtain ⟨us, E, e1, e2, e3⟩ := hbk'
          obtain ⟨u, hu, hr⟩ := e2.get i x hx
          refine ⟨⟨u, by simp [World.cell?, e1, hu], ren_to hb2 him1 x u hok hr⟩, by rw [ren_flat]; exact e3 x (List.mem_of_getElem? hx), fun b' hb' => ?_⟩
          rcases hG2 hb' with ⟨_, q⟩ | ⟨j, hj, rfl, q⟩
          · have := (hi.bx b' c q).2.2; omega
          · have := hi1.inj _ _ c q hbc; omega
    · obtain ⟨kk, zs, h1, h2, h3⟩ := hi.tk t ht
      have hlt2 := h2.lt
      refine ⟨kk, zs, h1, ?_, fun c hc => ⟨fun b => hold (hlt2 c hc).2 b ((h3 c hc).1 b), fun i hii => ?_⟩⟩
      · obtain ⟨g1, g2⟩ := h2
        refine ⟨g1, ?_⟩
        rcases g2 with g2 | ⟨g, cap, cur, e1, e2, e3, e4⟩
        · exact .inl g2
        · refine .inr ⟨g, cap, cur, e1, e2, ?_, e4⟩
          have hg : kk.v.ownBlock = some g := by rw [e1]; rfl
          rw [hun g (hlt2 g hg).2 (fun ⟨j, hjk, hjc⟩ => (h3 g hg).1 _ hjc)]; exact e3
      · rintro ⟨zz, hz | ⟨hz, _⟩⟩
        · exact (h3 c hc).2 i hii ⟨zz, hz⟩
        · have := (hlt2 c hc).2; omega
    · obtain ⟨h1, h2, h3⟩ := hi.kp c o ho
      exact ⟨(hun c (Array.getElem?_eq_some_iff.1 h1).1 (fun ⟨j, hjk, hjc⟩ => h2 _ hjc)).trans h1, fun b => hold (Array.getElem?_eq_some_iff.1 h1).1 b (h2 b), h3⟩
  exact ⟨ren τ r', v, G2, _, he, ⟨r', ys, ns, hR, hyl, rfl, rfl⟩, FY.rel hb2 hbx2 him1 hfy hrk hrel, hi2, hle2, hb⟩


/-- A call whose outcome is one. -/
def OneN (y : AV) (zs ns : List ABox) (r : AV) (ys ns' : List ABox) : Prop := r = y ∧ ys = zs ∧ ns' = ns
theorem acalls_oneN {f : FuncId} {args args' : List AV} {y y' : AV} {zs ns : List ABox} {bs : List ABox} (ss : List Nat) (xs : List ABox) (hxk : xs.length = ss.length) (hnd : ss.Nodup) {H : AH}
    (hσ : ∀ (i s : Nat) x, ss[i]? = some s → xs[i]? = some x → H.bs[s]? = some (renB (sg ss) x)) (hargs : okL ss.length args = true) (hxs : xs.all (okB ss.length) = true)
    (h : ACalls T f args ⟨xs, []⟩ (BigN T ss.length (OneN y zs ns))) (ha : renL (sg ss) args = args') (hy : ren (sgN ss H.bs.length) y = y') (hbs : putB ss (zs.map (renB (sgN ss H.bs.length))) H.bs ++ ns.map (renB (sgN ss H.bs.length)) = bs) :
    ACalls T f args' H (fun r H' => r = y' ∧ H' = ⟨bs, H.ts⟩) := by
  subst ha; subst hy; subst hbs
  refine (acalls_new ss xs hxk hnd hσ hargs hxs h).mono ?_
  rintro r H' ⟨r', ys, ns', ⟨rfl, rfl, rfl⟩, _, rfl, rfl⟩
  exact ⟨rfl, rfl⟩
theorem body_bigN {f : FuncId} {fn : Func} {c : Code} (hf : T.P.funcs[f]? = some fn) (hb : fn.body = some c) {args : List AV} {R : AV → List ABox → List ABox → Prop} {n k : Nat} {xs : List ABox} (hn : fn.ntmps = n) (hle : Nat.ble args.length n = true) {rs : List ResultVar} (hrs : fn.results = rs.toArray)
    (h : AWp T n c (RetQ T rs (BigN T k R)) (fr0 args) ⟨xs, []⟩) : ACalls T f args ⟨xs, []⟩ (BigN T k R) :=
  body_q hf hb hn hle hrs h
theorem bigN {k : Nat} {y r : AV} {zs ns : List ABox} {H1 : AH} (hf : FY T H1 (k + ns.length) r y) (hr : ok (k + ns.length) y = true) (hyl : zs.length = k) (hy : ∃ gb, H1.bs = zs ++ ns ++ gb) (hok : (zs ++ ns).all (okB (k + ns.length)) = true) : BigN T k (OneN y zs ns) r H1 :=
  ⟨y, zs, ns, hf, hr, hyl, hy, hok, rfl, rfl, rfl⟩
/-- On an empty heap: a call that lays boxes. -/
theorem acalls_emp {f : FuncId} {args : List AV} {R : AV → List ABox → List ABox → Prop} (hargs : cleanL args = true) (h : ACalls T f args ⟨[], []⟩ (BigN T 0 R)) (H : AH) :
    ACalls T f args H (fun r H' => ∃ r' ns, R r' [] ns ∧ r = ren (fun i => H.bs.length + i) r' ∧ H' = ⟨H.bs ++ ns.map (renB fun i => H.bs.length + i), H.ts⟩) := by
  have := acalls_new (T := T) (R := R) [] [] rfl List.nodup_nil (H := H) (fun i s x hs => by simp at hs) (clean_okL args hargs) rfl h
  rw [clean_renL args hargs] at this
  refine this.mono ?_
  rintro r H' ⟨r', ys, ns, hR, hyl, rfl, rfl⟩
  obtain rfl : ys = [] := List.eq_nil_of_length_eq_zero hyl
  have e : sgN [] H.bs.length = fun i => H.bs.length + i := by funext i; simp [sgN]
  exact ⟨r', ns, hR, by rw [e], by rw [e]; simp [putB]⟩
theorem renB_id {n : Nat} {σ : Nat → Nat} (hid : ∀ b, b < n → σ b = b) (x : ABox) (hx : okB n x = true) : renB σ x = x := by
  cases x with
  | cells l => simp only [renB, renL_id hid l hx]
  | map es =>
    simp only [okB, Bool.and_eq_true] at hx
    have h1 := renL_id hid _ hx.1
    have h2 := renL_id hid _ hx.2
    rw [← renB_fst] at h1
    rw [← renB_snd] at h2
    simp only [renB]
    congr 1
    apply List.ext_getElem?
    intro i
    have g1 := congrArg (·[i]?) h1
    have g2 := congrArg (·[i]?) h2
    simp only [List.getElem?_map] at g1 g2 ⊢
    cases hi : es[i]? with
    | none => rfl
    | some e =>
      rw [hi] at g1 g2
      simp only [Option.map_some, Option.some.injEq] at g1 g2 ⊢
      exact Prod.ext g1 g2
/-- A call that leaves the first boxes of a heap as they were. -/
theorem acalls_same {f : FuncId} {args : List AV} {y : AV} {xs : List ABox} (hargs : okL xs.length args = true) (hxs : xs.all (okB xs.length) = true) (hy : ok xs.length y = true)
    (h : ACalls T f args ⟨xs, []⟩ (BigR T xs.length (One y xs))) (H : AH) (hH : ∀ (i : Nat) x, xs[i]? = some x → H.bs[i]? = some x) : ACalls T f args H (fun r H' => r = y ∧ H' = H) := by
  have hlen : (List.range xs.length).length = xs.length := by simp
  have hid : ∀ b, b < xs.length → sg (List.range xs.length) b = b := fun b hb => by simp [sg, List.getD_eq_getElem?_getD, List.getElem?_range hb]
  have hB : ∀ x, x ∈ xs → renB (sg (List.range xs.length)) x = x := fun x hx => renB_id hid x (List.all_eq_true.1 hxs x hx)
  refine acalls_one (bs := H.bs) (List.range xs.length) xs (by simp) List.nodup_range (H := H) (fun i s x hs hx => ?_) (by rw [hlen]; exact hargs) (by rw [hlen]; exact hxs) (by rw [hlen]; exact h) (renL_id hid args hargs) (ren_id hid y hy) ?_
  · have hil := (List.getElem?_eq_some_iff.1 hx).1
    rw [List.getElem?_range hil] at hs
    obtain rfl := Option.some.inj hs
    rw [hB x (List.mem_of_getElem? hx)]
    exact hH _ x hx
  · have hmap : xs.map (renB (sg (List.range xs.length))) = xs := by
      apply List.ext_getElem?
      intro i
      rw [List.getElem?_map]
      cases hz : xs[i]? with
      | none => rfl
      | some z => rw [Option.map_some, hB z (List.mem_of_getElem? hz)]
    rw [hmap]
    refine putB_same List.nodup_range (by simp) fun i s y hs hy => ?_
    have hil := (List.getElem?_eq_some_iff.1 hy).1
    rw [List.getElem?_range hil] at hs
    obtain rfl := Option.some.inj hs
    exact hH _ y hy
end
end Go.Proofs.Ytlclgpiabjlpbaa.Am
