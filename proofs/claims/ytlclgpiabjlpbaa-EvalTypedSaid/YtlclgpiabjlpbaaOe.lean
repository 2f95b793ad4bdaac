/- Shapes of the program's types: values, nodes, cells, attributes, scenes; what is of such a shape is such a thing. -/
import Derived.Test.YtlclgpiabjlpbaaOp
import Derived.Test.YtlclgpiabjlpbaaCe
namespace Go.Proofs.Ytlclgpiabjlpbaa.Am
open Go.RowKit
set_option linter.unusedVariables false

variable {B : Nat}
def refSh : Sh := .st [.nu .i64, .tx]
def celSh : Sh := .st [.nu .i64, .tx, .tx]
def valSh : Sh := .st [.nu .i64, .nu .i64, .tx, .bo, .fl]
def nodSh : Sh := .st [.nu .i64, valSh, refSh, .nu .i64, .nu .i64]
def attSh : Sh := .st [celSh, valSh, .nu .i64]
def scnSh : Sh := .st [.tx, .tx, .nu .i64, .nu .i64]
theorem wf_inI {n : Int} (h : (Lit.int .i64 n).wf = true) : inI n := by
  simp [Lit.wf, IntKind.min, IntKind.max, IntKind.signed, IntKind.bits] at h
  unfold inI; omega
theorem max63 {n : Nat} (hB : B ≤ maxLen) (h : n ≤ B) : n ≤ 9223372036854775807 := Nat.le_trans h hB
theorem fit_ref (hB : B ≤ maxLen) {xs : List AV} (h : fitS B refSh xs) : ∃ r : Ref, xs = r.av ∧ r.fit ∧ inI r.scope := by
  simp only [refSh, fitS, fitSL] at h
  obtain ⟨_, _, rfl, ⟨n, rfl, hn⟩, _, _, rfl, ⟨s, rfl, hs⟩, rfl⟩ := h
  exact ⟨⟨n, s⟩, rfl, max63 hB hs, wf_inI hn⟩
theorem fit_cel (hB : B ≤ maxLen) {xs : List AV} (h : fitS B celSh xs) : ∃ r : Cel, xs = r.av ∧ r.fit ∧ inI r.scope := by
  simp only [celSh, fitS, fitSL] at h
  obtain ⟨_, _, rfl, ⟨n, rfl, hn⟩, _, _, rfl, ⟨s, rfl, hs⟩, _, _, rfl, ⟨t, rfl, ht⟩, rfl⟩ := h
  exact ⟨⟨n, s, t⟩, rfl, ⟨max63 hB hs, max63 hB ht⟩, wf_inI hn⟩
theorem fit_val (hB : B ≤ maxLen) {xs : List AV} (h : fitS B valSh xs) : ∃ r : Val, xs = r.av ∧ r.fit ∧ inI r.int ∧ inI r.kind := by
  simp only [valSh, fitS, fitSL] at h
  obtain ⟨_, _, rfl, ⟨n, rfl, hn⟩, _, _, rfl, ⟨m, rfl, hm⟩, _, _, rfl, ⟨s, rfl, hs⟩, _, _, rfl, ⟨b, rfl⟩, _, _, rfl, ⟨q, rfl, hq⟩, rfl⟩ := h
  exact ⟨⟨n, m, s, b, q⟩, rfl, ⟨max63 hB hs, hq⟩, wf_inI hm, wf_inI hn⟩
theorem fit_nod (hB : B ≤ maxLen) {xs : List AV} (h : fitS B nodSh xs) : ∃ n : Nod, xs = n.av ∧ (n.fit ∧ inI n.value.int) ∧ inI n.a ∧ inI n.b := by
  have e : ∃ a v r b c, xs = [.i .i64 a] ++ (v ++ (r ++ ([.i .i64 b] ++ ([.i .i64 c] ++ [])))) ∧ fitS B valSh v ∧ fitS B refSh r ∧ inI b ∧ inI c := by
    simp only [nodSh, fitS, fitSL] at h
    obtain ⟨_, _, rfl, ⟨n, rfl, hn⟩, v, _, rfl, hv, r, _, rfl, hr, _, _, rfl, ⟨a, rfl, ha⟩, _, _, rfl, ⟨c, rfl, hc⟩, rfl⟩ := h
    exact ⟨n, v, r, a, c, rfl, hv, hr, wf_inI ha, wf_inI hc⟩
  obtain ⟨a, v, r, b, c, rfl, hv, hr, ib, ic⟩ := e
  obtain ⟨v, rfl, v1, v2, v3⟩ := fit_val hB hv
  obtain ⟨r, rfl, r1, r2⟩ := fit_ref hB hr
  exact ⟨⟨a, v, r, b, c⟩, rfl, ⟨⟨v1, r1⟩, v2⟩, ib, ic⟩
theorem fit_att (hB : B ≤ maxLen) {xs : List AV} (h : fitS B attSh xs) : ∃ n : Att, xs = n.av ∧ n.fit := by
  have e : ∃ a v b, xs = a ++ (v ++ ([.i .i64 b] ++ [])) ∧ fitS B celSh a ∧ fitS B valSh v ∧ inI b := by
    simp only [attSh, fitS, fitSL] at h
    obtain ⟨a, _, rfl, ha, v, _, rfl, hv, _, _, rfl, ⟨b, rfl, hb⟩, rfl⟩ := h
    exact ⟨a, v, b, rfl, ha, hv, wf_inI hb⟩
  obtain ⟨a, v, b, rfl, ha, hv, hb⟩ := e
  obtain ⟨v, rfl, v1, v2, v3⟩ := fit_val hB hv
  obtain ⟨a, rfl, a1, a2⟩ := fit_cel hB ha
  exact ⟨⟨a, v, b⟩, rfl, a1, v1, v2, hb⟩
theorem fit_scn (hB : B ≤ maxLen) {xs : List AV} (h : fitS B scnSh xs) : ∃ x : Scn, xs = [.s x.sub, .s x.obj, .i .i64 x.now, .i .i64 x.began] ∧ inI x.now ∧ inI x.began := by
  simp only [scnSh, fitS, fitSL] at h
  obtain ⟨_, _, rfl, ⟨s, rfl, hs⟩, _, _, rfl, ⟨t, rfl, ht⟩, _, _, rfl, ⟨n, rfl, hn⟩, _, _, rfl, ⟨m, rfl, hm⟩, rfl⟩ := h
  exact ⟨⟨s, t, n, m⟩, rfl, wf_inI hn, wf_inI hm⟩
theorem fit_nods (hB : B ≤ maxLen) {E : TypeId} {xs : List AV} (h : fitS B (.sl E nodSh) xs) : ∃ ns : List Nod, xs = [.l none E (ns.map Nod.av)] ∧ (∀ n ∈ ns, (n.fit ∧ inI n.value.int) ∧ inI n.a ∧ inI n.b) ∧ ns.length ≤ B := by
  unfold fitS at h
  obtain ⟨rows, rfl, h1, h2⟩ := h
  obtain ⟨ns, rfl, h3⟩ := rows_map (f := Nod.av) (p := fun n => (n.fit ∧ inI n.value.int) ∧ inI n.a ∧ inI n.b) fun r hr => fit_nod hB (h2 r hr)
  exact ⟨ns, rfl, h3, by simpa using h1⟩
theorem fit_atts (hB : B ≤ maxLen) {E : TypeId} {xs : List AV} (h : fitS B (.sl E attSh) xs) : ∃ ns : List Att, xs = [.l none E (ns.map Att.av)] ∧ (∀ n ∈ ns, n.fit) ∧ ns.length ≤ B := by
  unfold fitS at h
  obtain ⟨rows, rfl, h1, h2⟩ := h
  obtain ⟨ns, rfl, h3⟩ := rows_map (f := Att.av) (p := fun n => n.fit) fun r hr => fit_att hB (h2 r hr)
  exact ⟨ns, rfl, h3, by simpa using h1⟩
theorem fit_expr (hB : B ≤ maxLen) {E : TypeId} {xs : List AV} (h : fitS B (.st [.sl E nodSh]) xs) : ∃ ns : List Nod, xs = [.l none E (ns.map Nod.av)] ∧ (∀ n ∈ ns, (n.fit ∧ inI n.value.int) ∧ inI n.a ∧ inI n.b) ∧ ns.length ≤ B := by
  have e : fitS B (.sl E nodSh) xs := by
    unfold fitS fitSL at h
    obtain ⟨a, c, rfl, ha, hc⟩ := h
    unfold fitSL at hc
    subst hc
    simpa using ha
  exact fit_nods hB e
theorem fit_st6 {a b c d e f : Sh} {xs : List AV} (h : fitS B (.st [a, b, c, d, e, f]) xs) : ∃ xa xb xc xd xe xf, xs = xa ++ (xb ++ (xc ++ (xd ++ (xe ++ (xf ++ []))))) ∧ fitS B a xa ∧ fitS B b xb ∧ fitS B c xc ∧ fitS B d xd ∧ fitS B e xe ∧ fitS B f xf := by
  simp only [fitS, fitSL] at h
  obtain ⟨xa, _, rfl, ha, xb, _, rfl, hb, xc, _, rfl, hc, xd, _, rfl, hd, xe, _, rfl, he, xf, _, rfl, hf, rfl⟩ := h
  exact ⟨xa, xb, xc, xd, xe, xf, rfl, ha, hb, hc, hd, he, hf⟩
end Go.Proofs.Ytlclgpiabjlpbaa.Am
