/- A logic over the walk's rules, eighth part: slices that are built and appended to. -/
import Derived.Test.YtlclgpiabjlpbaaAm7
namespace Go.Proofs.Ytlclgpiabjlpbaa.Am
open Go.RowKit
set_option linter.unusedVariables false

section
variable {T : TT} {B : Nat} {G : Gh} {H : AH} {w : World}

def Gh.addTok (G : Gh) (t : Nat) (v : Value) (n : Nat) (E : TypeId) (cs : List AV) : Gh :=
  { G with im := fun c i x => G.im c i x ∨ (v.ownBlock = some c ∧ cs[i]? = some x), tk := fun k => if k = t then some ⟨v, n, E⟩ else G.tk k }

theorem Inv.newTok (hi : Inv T B G H w) {w' : World} {row : Option Nat} (hg : w.grownBy w' row) (old : Option Nat)
    (hrow : ∀ c, row = some c → c < w.heap.size → (∀ b, G.bx b ≠ some c) ∧ B ≤ c ∧ (∀ t, t ∈ H.ts → some t ≠ old → ∀ k, G.tk t = some k → k.v.ownBlock ≠ some c) ∧ G.kp c = none ∧ ∀ i x, G.im c i x → w'.cell? ⟨c, i, none⟩ = w.cell? ⟨c, i, none⟩)
    {v : Value} {n : Nat} {E : TypeId} {vs : List Value} (hown : w'.ownsRow B E (T.sz E) v n vs) (hfr : ∀ c, v.ownBlock = some c → row = some c ∨ w.heap.size ≤ c)
    {cs : List AV} (hrel : RelL T G cs vs) (hfl : ∀ x ∈ cs, x.flat = true) (him : ∀ c, v.ownBlock = some c → ∀ i, n * T.sz E ≤ i → ¬ ∃ zz, G.im c i zz) :
    ∃ t, Inv T B (G.addTok t v n E cs) { H with ts := t :: H.ts.filter (fun x => some x ≠ old) } w' ∧ G.le B (G.addTok t v n E cs) ∧ Below B w w' ∧ t ∉ H.ts := by
  obtain ⟨t, ht⟩ := hi.fs
  have htn : G.tk t = none := ht t (Nat.le_refl _)
  have hnot : t ∉ H.ts := fun hm => by obtain ⟨k, _, h1, _⟩ := hi.tk t hm; rw [htn] at h1; cases h1
  have hle : G.le B (G.addTok t v n E cs) := by
    refine ⟨fun c i x h => .inl h, fun c i x hl h => ?_, fun _ _ h => h, fun t' k h => ?_, fun _ => rfl, fun c i x hl h => ?_⟩
    · rcases h with h | ⟨hc, _⟩
      · exact h
      · have := (hown.lt c hc).1; omega
    · show (if t' = t then some _ else G.tk t') = some k
      rw [if_neg (by intro e; subst e; rw [htn] at h; cases h)]; exact h
    · rcases h with h | ⟨hc, _⟩
      · exact h
      · have hlk := hi.kp_lt hl
        rcases hfr c hc with q | q
        · exact absurd (hrow c q hlk).2.2.2.1 hl
        · omega
  have hlt := hown.lt
  have hcsl : cs.length = n * T.sz E := by rw [← hrel.length]; exact hown.1
  have hrowlt : ∀ c, row = some c → c < w.heap.size ∨ w.heap.size ≤ c := fun c _ => Nat.lt_or_ge _ _
  -- an old block that is not the row
  have hold : ∀ t' k, t' ∈ H.ts → some t' ≠ old → G.tk t' = some k → ∀ c, k.v.ownBlock = some c → c < w.heap.size ∧ some c ≠ row ∧ v.ownBlock ≠ some c := by
    intro t' k hm ho hk c hc
    obtain ⟨k', xs, h1, h2, h3⟩ := hi.tk t' hm
    rw [hk] at h1; obtain rfl := Option.some.inj h1
    have hcl := (h2.lt c hc).2
    have hne : some c ≠ row := fun e => (hrow c e.symm hcl).2.2.1 t' hm ho k hk hc
    refine ⟨hcl, hne, fun e => ?_⟩
    rcases hfr c e with q | q
    · exact hne q.symm
    · omega
  refine ⟨t, ⟨Nat.le_trans hi.hB hg.size, fun b c h => ?_, hi.inj, fun b x hb => ?_, fun c i x h => ?_, fun t' ht' => ?_, ?_, fun t1 t2 k1 k2 h1 h2 hne hk1 hk2 => ?_, fun c o ho => ?_⟩, hle, ?_, hnot⟩
  · have := hi.bx b c h; exact ⟨this.1, this.2.1, Nat.lt_of_lt_of_le this.2.2 hg.size⟩
  · obtain ⟨c, hc, hx⟩ := hi.bs b x hb
    have hcl := (hi.bx b c hc).2.2
    refine ⟨c, hc, BoxOK.mono hle (hx.world (hg.block c hcl fun e => ?_))⟩
    exact (hrow c e.symm hcl).1 b hc
  · rcases h with h' | ⟨hc, h'⟩
    rotate_left
    · obtain ⟨u, hu, hr⟩ := hrel.get i x h'
      have hcell := hown.cells hc i u hu
      rw [add_plain, Nat.zero_add] at hcell
      refine ⟨⟨u, hcell, Rel.mono hle _ _ hr⟩, hfl x (List.mem_of_getElem? h'), fun b hb => ?_⟩
      have hb' : G.bx b = some c := hb
      have hcl := (hi.bx b c hb').2.2
      rcases hfr c hc with q | q
      · exact (hrow c q hcl).1 b hb'
      · omega
    · obtain ⟨⟨u, hu, hr⟩, h2, h3⟩ := hi.im c i x h'
      refine ⟨⟨u, ?_, Rel.mono hle _ _ hr⟩, h2, h3⟩
      by_cases e : row = some c
      · rw [(hrow c e (hi.im_lt h')).2.2.2.2 i x h']; exact hu
      · exact hg.cell hu (fun q => e q.symm)
  · simp only [List.mem_cons, List.mem_filter] at ht'
    rcases ht' with rfl | ⟨hm, ho⟩
    · refine ⟨⟨v, n, E⟩, vs, by simp [Gh.addTok], hown, fun c hc => ⟨fun b hb => ?_, fun i hii => ?_⟩⟩
      · have hb' : G.bx b = some c := hb
        have hcl := (hi.bx b c hb').2.2
        rcases hfr c hc with q | q
        · exact (hrow c q hcl).1 b hb'
        · omega
      · rintro ⟨zz, hz | ⟨_, hz⟩⟩
        · exact him c hc i hii ⟨zz, hz⟩
        · have := (List.getElem?_eq_some_iff.1 hz).1
          have hii' : n * T.sz E ≤ i := hii
          omega
    · have ho' : some t' ≠ old := by simpa using ho
      obtain ⟨k, xs, h1, h2, h3⟩ := hi.tk t' hm
      refine ⟨k, xs, hle.tk _ _ h1, h2.kept hg ?_, fun c hc => ?_⟩
      · cases hob : k.v.ownBlock with
        | none => exact .inl rfl
        | some c => exact .inr (hold t' k hm ho' h1 c hob).2.1
      · refine ⟨(h3 c hc).1, fun i hii => ?_⟩
        rintro ⟨zz, hz | ⟨q, _⟩⟩
        · exact (h3 c hc).2 i hii ⟨zz, hz⟩
        · exact (hold t' k hm ho' h1 c hc).2.2 q
  · exact ⟨t + 1, fun t' h => by
      show (if t' = t then some _ else G.tk t') = none
      rw [if_neg (by omega)]; exact ht t' (by omega)⟩
  · simp only [List.mem_cons, List.mem_filter] at h1 h2
    have hk1' : (if t1 = t then some (⟨v, n, E⟩ : Tok) else G.tk t1) = some k1 := hk1
    have hk2' : (if t2 = t then some (⟨v, n, E⟩ : Tok) else G.tk t2) = some k2 := hk2
    rcases h1 with rfl | ⟨m1, o1⟩ <;> rcases h2 with rfl | ⟨m2, o2⟩
    · exact absurd rfl hne
    · rw [if_pos rfl] at hk1'
      rw [if_neg (fun e => hne e.symm)] at hk2'
      obtain rfl := Option.some.inj hk1'
      cases hob : v.ownBlock with
      | none => exact .inl rfl
      | some c =>
        refine .inr fun e => ?_
        exact (hold t2 k2 m2 (by simpa using o2) hk2' c e.symm).2.2 hob
    · rw [if_pos rfl] at hk2'
      rw [if_neg hne] at hk1'
      obtain rfl := Option.some.inj hk2'
      cases hob : k1.v.ownBlock with
      | none => exact .inl rfl
      | some c =>
        refine .inr ?_
        intro e
        exact (hold t1 k1 m1 (by simpa using o1) hk1' c hob).2.2 e.symm
    · rw [if_neg (by rintro rfl; exact hnot m1)] at hk1'
      rw [if_neg (by rintro rfl; exact hnot m2)] at hk2'
      exact hi.ne t1 t2 k1 k2 m1 m2 hne hk1' hk2'
  · have ho' : G.kp c = some o := ho
    obtain ⟨h1, h2, h3⟩ := hi.kp c o ho'
    have hlk := hi.kp_lt (c := c) (by rw [ho']; simp)
    have hnr : row ≠ some c := fun e => by rw [(hrow c e hlk).2.2.2.1] at ho'; cases ho'
    refine ⟨(hg.block c hlk fun e => hnr e.symm).trans h1, h2, fun t' hm k hk => ?_⟩
    simp only [List.mem_cons, List.mem_filter] at hm
    have hk' : (if t' = t then some (⟨v, n, E⟩ : Tok) else G.tk t') = some k := hk
    rcases hm with rfl | ⟨hm, _⟩
    · rw [if_pos rfl] at hk'
      obtain rfl := Option.some.inj hk'
      intro e
      rcases hfr c e with q | q
      · exact hnr q
      · omega
    · rw [if_neg (by rintro rfl; exact hnot hm)] at hk'
      exact h3 t' hm k hk'
  · refine ⟨hg.os, hg.tape, hg.output, hg.size, fun k hk => hg.block k (by have := hi.hB; omega) fun e => ?_⟩
    have := hi.hB
    have := (hrow k e.symm (by omega)).2.1
    omega

/-- A list as a slice that may be appended to. -/
def IsOwn (H : AH) (r : AV) (E : TypeId) (xs : List (List AV)) : Prop := (r = .nil ∧ xs = []) ∨ ∃ t, r = .l (some t) E xs ∧ t ∈ H.ts
def IsList (r : AV) (E : TypeId) (xs : List (List AV)) : Prop := (r = .nil ∧ xs = []) ∨ ∃ t, r = .l t E xs

/-- What a slice holds, as values. -/
theorem list_cells (hi : Inv T B G H w) {t : Option Nat} {E : TypeId} (hsz : 0 < T.sz E) {ys : List (List AV)} {v : Value} (h : Rel T G (.l t E ys) v) :
    ∃ A cap vs, v = .slice A ys.length cap ∧ ys.length ≤ cap ∧ cap ≤ maxLen ∧ (∀ e ∈ ys, e.length = T.sz E) ∧ RelL T G ys.flatten vs ∧ (∀ x ∈ ys.flatten, x.flat = true) ∧ vs.length = ys.length * T.sz E ∧
      (ys ≠ [] → ∃ c o, A = some ⟨c, o, none⟩ ∧ imF G c o ys.flatten ∧ ∀ j u, vs[j]? = some u → w.cell? ⟨c, o + j, none⟩ = some u) ∧ ∀ u ∈ vs, u.oneCell' = true := by
  obtain ⟨A, cap, rfl, h2, h3, h4, h5, h6⟩ := h
  by_cases hne : ys = []
  · subst hne
    exact ⟨A, cap, [], rfl, h2, h3, h4, rfl, by simp, by simp, fun q => absurd rfl q, by simp⟩
  obtain ⟨c, o, hA, him⟩ := h5 hne
  have hF := imF_of hsz h4 him
  have hch : ∀ j : Nat, ∃ u : Value, ∀ y, ys.flatten[j]? = some y → w.cell? ⟨c, o + j, none⟩ = some u ∧ Rel T G y u ∧ y.flat = true := by
    intro j
    cases hj : ys.flatten[j]? with
    | none => exact ⟨undef, fun y hy => by cases hy⟩
    | some y =>
      obtain ⟨⟨u, hu, hr⟩, h2, _⟩ := hi.im c (o + j) y (hF j y hj)
      exact ⟨u, fun y' hy => by obtain rfl := Option.some.inj hy; exact ⟨hu, hr, h2⟩⟩
  obtain ⟨f, hf⟩ := Classical.axiomOfChoice hch
  have hfl := flatten_len h4
  have hget : ∀ (j : Nat) (u : Value), ((List.range ys.flatten.length).map f)[j]? = some u → ∃ y, ys.flatten[j]? = some y ∧ u = f j := by
    intro j u hu
    simp only [List.getElem?_map, Option.map_eq_some_iff] at hu
    obtain ⟨k, hk, rfl⟩ := hu
    have hjl : j < ys.flatten.length := by have := (List.getElem?_eq_some_iff.1 hk).1; simpa using this
    rw [List.getElem?_range hjl] at hk
    obtain rfl := Option.some.inj hk
    exact ⟨_, List.getElem?_eq_getElem hjl, rfl⟩
  refine ⟨A, cap, (List.range ys.flatten.length).map f, rfl, h2, h3, h4, RelL.of (by simp) fun j y u hy hu => ?_, fun x hx => ?_, by simp only [List.length_map, List.length_range]; exact hfl, fun _ => ⟨c, o, hA, hF, fun j u hu => ?_⟩, fun u hu => ?_⟩
  · obtain ⟨y', hy', rfl⟩ := hget j u hu
    exact (hf j y hy).2.1
  · obtain ⟨j, hj⟩ := List.getElem?_of_mem hx
    exact (hf j x hj).2.2
  · obtain ⟨y, hy, rfl⟩ := hget j u hu
    exact (hf j y hy).1
  · obtain ⟨j, hj⟩ := List.getElem?_of_mem hu
    obtain ⟨y, hy, rfl⟩ := hget j u hj
    exact ((hf j y hy).2.1.one (hf j y hy).2.2).1
end

section
variable {T : TT} {N : Nat} {o : Oper} {fr : FrA} {H : AH} {K : AV → AH → Prop}

/-- Where an appended slice lies: where it lay, or in the newest block. -/
theorem append_where {P : Program} (w : World) (base : Nat) (t ty e : TypeId) (i : TypeInfo) (z : Value) (size bytes : Nat) (ht : P.underlying t = some (.slice e)) (hi : P.info? e = some i) (hz : i.zero = some z)
    (hsize : i.size = size) (hby : i.bytes = bytes) (v : Value) (n : Nat) (xs : List Value) (hown : w.ownsRow base e size v n xs)
    (a : Addr) (m c : Nat) (news : List Value) (hl : news.length = m * size) (hnews : ∀ j u, news[j]? = some u → w.cell? (a.add j) = some u) (h1 : ∀ u ∈ news, u.oneCell' = true)
    (h63 : n + m ≤ maxLen) (hbytes : (n + m) * bytes ≤ 140737488355328) {v' : Value} {w' : World} (hrun : (Builtin.append_ #[t, t] ty #[v, .slice (some a) m c]).run P w = .ok v' w') (hnil : v' = .slice none 0 0 ↔ v = .slice none 0 0 ∧ m = 0) :
    v'.ownBlock = v.ownBlock ∨ v'.ownBlock = some w.heap.size ∧ ∀ k, k < w.heap.size → w'.heap[k]? = w.heap[k]? := by
  have hsmall : n + m ≤ 9223372036854775807 := by simp only [maxLen] at h63; omega
  rcases hown.2 with ⟨rfl, rfl⟩ | ⟨g, cap, cur, rfl, hbg, hg, hnc, hcm, hcs, htake⟩
  · by_cases hm : m = 0
    · rw [hnil.2 ⟨rfl, hm⟩]; exact .inl rfl
    · have hr := run_append_nil (P := P) w t ty e i z ht hi hz a m c news (by rw [hsize]; exact hl) hnews (by omega) (by omega) (by rw [hby]; simp only [Nat.zero_add] at hbytes; omega)
      rw [hr] at hrun
      injection hrun with q q2
      rw [← q, ← q2]; exact .inr ⟨rfl, fun k hk => Go.RowKit.Below.heap_alloc w.drew _ k hk⟩
  · by_cases hroom : n + m ≤ cap
    · obtain ⟨w2, hr, _⟩ := run_append_fits (P := P) w base t ty e i size ht hi hsize g n cap xs hown a m c news hl hnews h1 hroom
      rw [hr] at hrun
      injection hrun with q _
      rw [← q]; exact .inl rfl
    · have holds : ∀ j u, xs[j]? = some u → w.cell? ((⟨g, 0, none⟩ : Addr).add j) = some u := hown.cells (g := g) rfl
      have hr := run_append_grow (P := P) w t ty e i z ht hi hz ⟨g, 0, none⟩ n cap xs (by rw [hsize]; exact hown.1) holds a m c news (by rw [hsize]; exact hl) hnews (by omega) (by omega) (by rw [hby]; exact growslice_fits (by omega) hbytes)
      rw [hr] at hrun
      injection hrun with q q2
      rw [← q, ← q2]; exact .inr ⟨rfl, fun k hk => Go.RowKit.Below.heap_alloc w.drew _ k hk⟩

/-- The token that a slice bears. -/
def tokOf : AV → Option Nat
  | .l t _ _ => t
  | _ => none

theorem aop_append (t : TypeId) (s x : Operand) (ho : o.op = .call { callee := .builtin .append, args := #[s, x], argTypes := #[t, t] }) {E : TypeId} (hk : T.kd t = some (.slice E)) {z : List AV} (hz : T.zero E = some z) (hsz : 0 < T.sz E)
    {xs ys : List (List AV)} (hs : IsOwn H (ev fr s) E xs) (hx : IsList (ev fr x) E ys) (hb : (xs.length + ys.length) * T.by_ E ≤ 140737488355328) (hm : xs.length + ys.length ≤ maxLen)
    (h : ∀ r H', IsOwn H' r E (xs ++ ys) → H'.bs = H.bs → (∀ t', t' ∈ H.ts → some t' ≠ tokOf (ev fr s) → t' ∈ H'.ts) → K r H') : AOp T N o fr H K := by
  intro B G w a next Q' hi hf hnext
  obtain ⟨hzl, hzp, i, zv, h1, h2, h3, h4, h5⟩ := T.zero_ok E z hz
  have hzc : zv.cells.size = T.sz E := by have := congrArg List.length h5; rw [List.length_map, hzl] at this; simpa using this
  have hu := T.kd_ok _ _ hk
  have hvs := hf.ev s
  have hvx := hf.ev x
  have hexec : execOp a.eval o = (do pure (.value (← Builtin.append_ #[t, t] o.type #[a.eval s, a.eval x]))) := by simp [execOp, ho, resolve, invoke, builtin]
  -- the destination
  obtain ⟨v, vals, hv, hown, hxs, hsp, hxr, hxf, hve, hvnil⟩ : ∃ (v : Value) (vals : List Value), a.eval s = v ∧ w.ownsRow B E (T.sz E) v xs.length vals ∧ (∀ e ∈ xs, e.length = T.sz E) ∧
      (∀ c, v.ownBlock = some c → c < w.heap.size ∧ B ≤ c ∧ (G.kp c = none ∧ ∀ b, G.bx b ≠ some c) ∧ (∀ t', t' ∈ H.ts → some t' ≠ tokOf (ev fr s) → ∀ k, G.tk t' = some k → k.v.ownBlock ≠ some c) ∧ (∀ i, xs.length * T.sz E ≤ i → ¬ ∃ zz, G.im c i zz) ∧ imF G c 0 xs.flatten) ∧
      RelL T G xs.flatten vals ∧ (∀ y ∈ xs.flatten, y.flat = true) ∧ (∀ u ∈ vals, u.oneCell' = true) ∧ (ev fr s = .nil → v = .slice none 0 0) := by
    rcases hs with ⟨e1, rfl⟩ | ⟨tt, e1, hmem⟩
    · rw [e1] at hvs
      have hv : a.eval s = .slice none 0 0 := hvs
      exact ⟨_, [], hv, World.ownsRow_nil w B E _, by simp, fun c hc => by simp [Value.ownBlock] at hc, rfl, by simp, by simp, fun _ => rfl⟩
    · rw [e1] at hvs
      obtain ⟨A, cap, vs, q1, q2, q3, q4, q5, q6, q7, q8, q9⟩ := list_cells hi hsz hvs
      obtain ⟨A', cap', p1, p2, p3, p4, p5, p6⟩ := hvs
      have htk := p6 tt rfl
      obtain ⟨k, vals, r1, r2, r3⟩ := hi.tk tt hmem
      rw [htk] at r1
      obtain rfl := Option.some.inj r1
      have hcells : ∀ c, (a.eval s).ownBlock = some c → ∀ j u, vals[j]? = some u → w.cell? ⟨c, j, none⟩ = some u := fun c hc j u hu => by
        have := r2.cells hc j u hu
        rwa [add_plain, Nat.zero_add] at this
      have hA0 : xs ≠ [] → ∃ c, (a.eval s).ownBlock = some c ∧ A = some ⟨c, 0, none⟩ := by
        intro hne
        obtain ⟨c, o', e2, e3, e4⟩ := q8 hne
        rcases r2.2 with ⟨_, e5⟩ | ⟨g, cp, cur, e5, _⟩
        · exact absurd (List.eq_nil_of_length_eq_zero e5) hne
        · have e5' : a.eval s = .slice (some ⟨g, 0, none⟩) xs.length cp := e5
          rw [q1] at e5'
          injection e5' with e6
          exact ⟨g, by rw [q1, e6]; rfl, e6⟩
      have hvals : vals = vs := by
        apply List.ext_getElem?
        intro j
        have hl1 : vals.length = xs.length * T.sz E := r2.1
        by_cases hj : j < xs.length * T.sz E
        · have hne : xs ≠ [] := by rintro rfl; simp at hj
          obtain ⟨c, hc1, hc2⟩ := hA0 hne
          obtain ⟨c', o', e2, e3, e4⟩ := q8 hne
          rw [hc2] at e2
          injection e2 with e2
          injection e2 with e2 e2' _
          subst e2; subst e2'
          have a1 := e4 j vs[j] (List.getElem?_eq_getElem (by rw [q7]; exact hj))
          have a2 := hcells c hc1 j vals[j] (List.getElem?_eq_getElem (by rw [hl1]; exact hj))
          rw [Nat.zero_add, a2] at a1
          rw [List.getElem?_eq_getElem (by rw [hl1]; exact hj), List.getElem?_eq_getElem (by rw [q7]; exact hj)]
          exact a1
        · rw [List.getElem?_eq_none (by rw [hl1]; omega), List.getElem?_eq_none (by rw [q7]; omega)]
      refine ⟨a.eval s, vals, rfl, r2, q4, fun c hc => ?_, hvals ▸ q5, q6, hvals ▸ q9, fun e => by rw [e1] at e; cases e⟩
      have hlt := r2.lt c hc
      refine ⟨hlt.2, hlt.1, ⟨(by
          cases hkp : G.kp c with
          | none => rfl
          | some o => exact absurd hc ((hi.kp c o hkp).2.2 tt hmem _ htk)), (r3 c hc).1⟩, fun t' hm' hne' k' hk' => ?_, (r3 c hc).2, fun j y hj => ?_⟩
      · rw [e1] at hne'
        have hne2 : t' ≠ tt := fun e => hne' (by rw [e]; rfl)
        have := hi.ne tt t' _ k' hmem hm' (fun e => hne2 e.symm) htk hk'
        intro e
        rcases this with q | q
        · have hc' : (a.eval s).ownBlock = some c := hc
          rw [show (a.eval s).ownBlock = none from q] at hc'; cases hc'
        · exact q (by rw [e]; exact hc)
      · have hne : xs ≠ [] := by rintro rfl; simp at hj
        obtain ⟨c', hc1, hc2⟩ := hA0 hne
        have hc' : (a.eval s).ownBlock = some c := hc
        rw [hc1] at hc'; obtain rfl := Option.some.inj hc'
        obtain ⟨c2, o', e2, e3, e4⟩ := q8 hne
        rw [hc2] at e2
        injection e2 with e2
        injection e2 with e2 e2' _
        subst e2; subst e2'
        exact e3 j y hj
  -- the source
  obtain ⟨A, m, cap, news, hxe, hml, hnl, hnr, hnf, hyl, hna, hn1⟩ : ∃ (A : Option Addr) (m cap : Nat) (news : List Value), a.eval x = .slice A m cap ∧ m = ys.length ∧ news.length = ys.length * T.sz E ∧ RelL T G ys.flatten news ∧ (∀ y ∈ ys.flatten, y.flat = true) ∧ (∀ e ∈ ys, e.length = T.sz E) ∧
      ((A = none ∧ ys = []) ∨ ∃ ad, A = some ad ∧ ∀ j u, news[j]? = some u → w.cell? (ad.add j) = some u) ∧ ∀ u ∈ news, u.oneCell' = true := by
    rcases hx with ⟨e1, rfl⟩ | ⟨tt, e1⟩
    · rw [e1] at hvx
      have hv : a.eval x = .slice none 0 0 := hvx
      exact ⟨none, 0, 0, [], hv, rfl, by simp, rfl, by simp, by simp, .inl ⟨rfl, rfl⟩, by simp⟩
    · rw [e1] at hvx
      obtain ⟨A, cap, vs, q1, q2, q3, q4, q5, q6, q7, q8, q9⟩ := list_cells hi hsz hvx
      refine ⟨A, ys.length, cap, vs, q1, rfl, q7, q5, q6, q4, ?_, q9⟩
      by_cases hne : ys = []
      · subst hne
        cases A with
        | none => exact .inl ⟨rfl, rfl⟩
        | some ad => exact .inr ⟨ad, rfl, fun j u hu => by simp at q7; subst q7; simp at hu⟩
      · obtain ⟨c, o', rfl, _, e4⟩ := q8 hne
        exact .inr ⟨_, rfl, fun j u hu => by rw [add_plain]; exact e4 j u hu⟩
  subst hml
  -- the run
  obtain ⟨v', w', hrun, hown', hg, hnil, hwh⟩ : ∃ v' w', (Builtin.append_ #[t, t] o.type #[v, a.eval x]).run T.P w = .ok v' w' ∧ w'.ownsRow B E (T.sz E) v' (xs.length + ys.length) (vals ++ news) ∧ w.grownBy w' v.ownBlock ∧ (v' = .slice none 0 0 → v = .slice none 0 0 ∧ ys.length = 0) ∧
      (v'.ownBlock = v.ownBlock ∨ v'.ownBlock = some w.heap.size ∧ ∀ k, k < w.heap.size → w'.heap[k]? = w.heap[k]?) := by
    rcases hna with ⟨rfl, rfl⟩ | ⟨ad, rfl, hcell⟩
    · have hnn : news = [] := List.eq_nil_of_length_eq_zero (by simpa using hnl)
      subst hnn
      have hr := run_append_owned_none (P := T.P) w B t o.type E i (T.sz E) hu h1 v xs.length vals hown
      have hcap : a.eval x = .slice none 0 cap := hxe
      refine ⟨v, w, ?_, by simpa using hown, ⟨rfl, rfl, rfl, Nat.le_refl _, fun _ _ _ => rfl⟩, fun q => ⟨q, rfl⟩, .inl rfl⟩
      rw [hcap]
      rcases hown.2 with ⟨e1, e2⟩ | ⟨g, cp, cur, e1, _, _, hnc, _⟩
      · rw [e1]; simp [Builtin.append_, run_underlying hu, sizeOf, typeInfo, h1, Builtin.lenOf, Builtin.firstCells]
      · rw [e1]; simp [Builtin.append_, run_underlying hu, sizeOf, typeInfo, h1, Builtin.lenOf, Builtin.firstCells, hnc, storeCells]
    · obtain ⟨v', w', e1, e2, e3, e4⟩ := run_append_own (P := T.P) w B t o.type E i zv (T.sz E) (T.by_ E) hu h1 h2 h3 h4 hzc hsz v xs.length vals hown ad ys.length cap news hnl hcell hn1 hm hb hi.hB
      exact ⟨v', w', by rw [hxe]; exact e1, e2, e3, fun q => e4.1 q, append_where w B t o.type E i zv (T.sz E) (T.by_ E) hu h1 h2 h3 h4 v xs.length vals hown ad ys.length cap news hnl hcell hn1 hm hb e1 e4⟩
  have hfr : ∀ c, v'.ownBlock = some c → v.ownBlock = some c ∨ w.heap.size ≤ c := by
    intro c hc
    rcases hwh with q | ⟨q, _⟩
    · exact .inl (q ▸ hc)
    · rw [q] at hc; obtain rfl := Option.some.inj hc; exact .inr (Nat.le_refl _)
  have hcells0 : ∀ c, v.ownBlock = some c → ∀ j u, vals[j]? = some u → w.cell? ⟨c, j, none⟩ = some u := fun c hc j u hu => by
    have := hown.cells hc j u hu
    rwa [add_plain, Nat.zero_add] at this
  have hxlen : xs.flatten.length = xs.length * T.sz E := flatten_len hxs
  -- a cell of the old row, seen from the new world
  have hkeep : ∀ c, v.ownBlock = some c → ∀ j y, G.im c j y → w'.cell? ⟨c, j, none⟩ = w.cell? ⟨c, j, none⟩ := by
    intro c hc j y hj
    rcases hwh with q | ⟨_, q⟩
    · have hjl : j < vals.length := by
        rw [hown.1]
        rcases Nat.lt_or_ge j (xs.length * T.sz E) with q | q
        · exact q
        · exact absurd ⟨y, hj⟩ ((hsp c hc).2.2.2.2.1 j q)
      have hu : vals[j]? = some vals[j] := List.getElem?_eq_getElem hjl
      generalize vals[j] = u at hu
      rw [hcells0 c hc j u hu]
      have hvc : v'.ownBlock = some c := q ▸ hc
      have := hown'.cells hvc j u (by rw [List.getElem?_append_left (List.getElem?_eq_some_iff.1 hu).1]; exact hu)
      rwa [add_plain, Nat.zero_add] at this
    · exact World.cell?_of_block (w := w) (q c (hsp c hc).1)
  obtain ⟨t', hi', hle, hbl, hnt⟩ := hi.newTok hg (tokOf (ev fr s)) (fun c hc hcl => by
      obtain ⟨p1, p2, p3, p4, p5, p6⟩ := hsp c hc
      exact ⟨p3.2, p2, p4, p3.1, hkeep c hc⟩) hown' hfr (cs := (xs ++ ys).flatten) (by rw [List.flatten_append]; exact hxr.append hnr) (by
      rw [List.flatten_append]
      intro y hy
      rcases List.mem_append.1 hy with hy | hy
      · exact hxf y hy
      · exact hnf y hy) (fun c hc j hj => by
      rcases hfr c hc with q | q
      · exact (hsp c q).2.2.2.2.1 j (Nat.le_trans (Nat.mul_le_mul_right _ (Nat.le_add_right _ _)) hj)
      · rintro ⟨zz, hz⟩; have := hi.im_lt hz; omega)
  have hres : ∀ r : AV, Rel T (G.addTok t' v' (xs.length + ys.length) E (xs ++ ys).flatten) r v' → IsOwn { H with ts := t' :: H.ts.filter (fun x => some x ≠ tokOf (ev fr s)) } r E (xs ++ ys) → (o.wp T.P a w next Q') := by
    intro r hr ho'
    unfold Oper.wp
    rw [hexec]
    rw [hv]
    simp only [Sem.run_bind, hrun, Result.andThen_ok, Sem.run_pure]
    refine hnext r v' _ _ _ (h r _ ho' rfl fun t2 hm2 hne2 => ?_) hr hi' hle hbl
    simp only [List.mem_cons, List.mem_filter]
    exact .inr ⟨hm2, by simpa using hne2⟩
  have hall : ∀ e ∈ xs ++ ys, e.length = T.sz E := fun e he => by
    rcases List.mem_append.1 he with he | he
    · exact hxs e he
    · exact hyl e he
  rcases hown'.2 with ⟨e1, e2⟩ | ⟨g, cp, cur, e1, e2, e3, e4, e5, e6, e7⟩
  · have hx0 : xs = [] := List.eq_nil_of_length_eq_zero (by omega)
    have hy0 : ys = [] := List.eq_nil_of_length_eq_zero (by omega)
    exact hres .nil e1 (.inl ⟨rfl, by rw [hx0, hy0]; rfl⟩)
  · refine hres (.l (some t') E (xs ++ ys)) ⟨some ⟨g, 0, none⟩, cp, by rw [List.length_append]; exact e1, by rw [List.length_append]; exact e4, e5, hall, fun _ => ⟨g, 0, rfl, ?_⟩, fun tt ht => ?_⟩ (.inr ⟨t', rfl, by simp⟩)
    · refine imF_to hsz hall fun k y hk => ?_
      exact .inr ⟨by rw [e1]; rfl, by rw [Nat.zero_add]; exact hk⟩
    · obtain rfl := Option.some.inj ht
      rw [List.length_append]
      simp [Gh.addTok]
end
end Go.Proofs.Ytlclgpiabjlpbaa.Am
