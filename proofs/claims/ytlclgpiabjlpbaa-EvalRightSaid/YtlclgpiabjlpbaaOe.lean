/- Shapes of the program's types: values, nodes, cells, attributes, scenes; what is of such a shape is such a thing. -/
import Derived.Test.YtlclgpiabjlpbaaOp
import Derived.Test.YtlclgpiabjlpbaaCe
namespace Go.Proofs.Ytlclgpiabjlpbaa.Am
open Go.RowKit
set_option linter.unusedVariables false

def refSh : Sh := .st [.nu .i64, .tx]
def celSh : Sh := .st [.nu .i64, .tx, .tx]
def valSh : Sh := .st [.nu .i64, .nu .i64, .tx, .bo, .fl]
def nodSh : Sh := .st [.nu .i64, valSh, refSh, .nu .i64, .nu .i64]
def attSh : Sh := .st [celSh, valSh, .nu .i64]
def scnSh : Sh := .st [.tx, .tx, .nu .i64, .nu .i64]
theorem wf_inI {n : Int} (h : (Lit.int .i64 n).wf = true) : inI n := by
  simp [Lit.wf, IntKind.min, IntKind.max, IntKind.signed, IntKind.bits] at h
  unfold inI; omega
theorem max63 {n : Nat} (h : n ≤ maxLen) : n ≤ 9223372036854775807 := h
theorem fit_ref {xs : List AV} (h : fitS refSh xs) : ∃ r : Ref, xs = r.av ∧ r.fit ∧ inI r.scope := by
  simp only [refSh, fitS, fitSL] at h
  obtain ⟨_, _, rfl, ⟨n, rfl, hn⟩, _, _, rfl, ⟨s, rfl, hs⟩, rfl⟩ := h
  exact ⟨⟨n, s⟩, rfl, max63 hs, wf_inI hn⟩
theorem fit_cel {xs : List AV} (h : fitS celSh xs) : ∃ r : Cel, xs = r.av ∧ r.fit ∧ inI r.scope := by
  simp only [celSh, fitS, fitSL] at h
  obtain ⟨_, _, rfl, ⟨n, rfl, hn⟩, _, _, rfl, ⟨s, rfl, hs⟩, _, _, rfl, ⟨t, rfl, ht⟩, rfl⟩ := h
  exact ⟨⟨n, s, t⟩, rfl, ⟨max63 hs, max63 ht⟩, wf_inI hn⟩
theorem fit_val {xs : List AV} (h : fitS valSh xs) : ∃ r : Val, xs = r.av ∧ r.fit ∧ inI r.int ∧ inI r.kind := by
  simp only [valSh, fitS, fitSL] at h
  obtain ⟨_, _, rfl, ⟨n, rfl, hn⟩, _, _, rfl, ⟨m, rfl, hm⟩, _, _, rfl, ⟨s, rfl, hs⟩, _, _, rfl, ⟨b, rfl⟩, _, _, rfl, ⟨q, rfl, hq⟩, rfl⟩ := h
  exact ⟨⟨n, m, s, b, q⟩, rfl, ⟨max63 hs, hq⟩, wf_inI hm, wf_inI hn⟩
theorem fit_nod {xs : List AV} (h : fitS nodSh xs) : ∃ n : Nod, xs = n.av ∧ n.fit ∧ inI n.value.int := by
  have e : ∃ a v r b c, xs = [.i .i64 a] ++ (v ++ (r ++ ([.i .i64 b] ++ ([.i .i64 c] ++ [])))) ∧ fitS valSh v ∧ fitS refSh r := by
    simp only [nodSh, fitS, fitSL] at h
    obtain ⟨_, _, rfl, ⟨n, rfl, hn⟩, v, _, rfl, hv, r, _, rfl, hr, _, _, rfl, ⟨a, rfl, ha⟩, _, _, rfl, ⟨c, rfl, hc⟩, rfl⟩ := h
    exact ⟨n, v, r, a, c, rfl, hv, hr⟩
  obtain ⟨a, v, r, b, c, rfl, hv, hr⟩ := e
  obtain ⟨v, rfl, v1, v2, v3⟩ := fit_val hv
  obtain ⟨r, rfl, r1, r2⟩ := fit_ref hr
  exact ⟨⟨a, v, r, b, c⟩, rfl, ⟨v1, r1⟩, v2⟩
theorem fit_att {xs : List AV} (h : fitS attSh xs) : ∃ n : Att, xs = n.av ∧ n.fit := by
  have e : ∃ a v b, xs = a ++ (v ++ ([.i .i64 b] ++ [])) ∧ fitS celSh a ∧ fitS valSh v ∧ inI b := by
    simp only [attSh, fitS, fitSL] at h
    obtain ⟨a, _, rfl, ha, v, _, rfl, hv, _, _, rfl, ⟨b, rfl, hb⟩, rfl⟩ := h
    exact ⟨a, v, b, rfl, ha, hv, wf_inI hb⟩
  obtain ⟨a, v, b, rfl, ha, hv, hb⟩ := e
  obtain ⟨v, rfl, v1, v2, v3⟩ := fit_val hv
  obtain ⟨a, rfl, a1, a2⟩ := fit_cel ha
  exact ⟨⟨a, v, b⟩, rfl, a1, v1, v2, hb⟩
theorem fit_scn {xs : List AV} (h : fitS scnSh xs) : ∃ x : Scn, xs = [.s x.sub, .s x.obj, .i .i64 x.now, .i .i64 x.began] ∧ inI x.now ∧ inI x.began := by
  simp only [scnSh, fitS, fitSL] at h
  obtain ⟨_, _, rfl, ⟨s, rfl, hs⟩, _, _, rfl, ⟨t, rfl, ht⟩, _, _, rfl, ⟨n, rfl, hn⟩, _, _, rfl, ⟨m, rfl, hm⟩, rfl⟩ := h
  exact ⟨⟨s, t, n, m⟩, rfl, wf_inI hn, wf_inI hm⟩
theorem fit_nods {E : TypeId} {xs : List AV} (h : fitS (.sl E nodSh) xs) : ∃ ns : List Nod, xs = [.l none E (ns.map Nod.av)] ∧ (∀ n ∈ ns, n.fit ∧ inI n.value.int) ∧ ns.length ≤ 9223372036854775807 := by
  unfold fitS at h
  obtain ⟨rows, rfl, h1, h2⟩ := h
  obtain ⟨ns, rfl, h3⟩ := rows_map (f := Nod.av) (p := fun n => n.fit ∧ inI n.value.int) fun r hr => fit_nod (h2 r hr)
  exact ⟨ns, rfl, h3, by simpa using max63 h1⟩
theorem fit_atts {E : TypeId} {xs : List AV} (h : fitS (.sl E attSh) xs) : ∃ ns : List Att, xs = [.l none E (ns.map Att.av)] ∧ (∀ n ∈ ns, n.fit) ∧ ns.length ≤ 9223372036854775807 := by
  unfold fitS at h
  obtain ⟨rows, rfl, h1, h2⟩ := h
  obtain ⟨ns, rfl, h3⟩ := rows_map (f := Att.av) (p := fun n => n.fit) fun r hr => fit_att (h2 r hr)
  exact ⟨ns, rfl, h3, by simpa using max63 h1⟩
theorem fit_expr {E : TypeId} {xs : List AV} (h : fitS (.st [.sl E nodSh]) xs) : ∃ ns : List Nod, xs = [.l none E (ns.map Nod.av)] ∧ (∀ n ∈ ns, n.fit ∧ inI n.value.int) ∧ ns.length ≤ 9223372036854775807 := by
  have e : fitS (.sl E nodSh) xs := by
    unfold fitS fitSL at h
    obtain ⟨a, c, rfl, ha, hc⟩ := h
    unfold fitSL at hc
    subst hc
    simpa using ha
  exact fit_nods e
end Go.Proofs.Ytlclgpiabjlpbaa.Am
