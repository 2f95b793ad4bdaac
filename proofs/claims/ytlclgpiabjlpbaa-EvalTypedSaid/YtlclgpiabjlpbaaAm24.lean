/- A logic over the walk's rules, twenty-fourth part: a copy of a list that is written into. -/
import Derived.Test.YtlclgpiabjlpbaaAm23
namespace Go.Proofs.Ytlclgpiabjlpbaa.Am
open Go.RowKit
set_option linter.unusedVariables false
set_option linter.unusedSimpArgs false

section
variable {T : TT} {N : Nat} {o : Oper} {fr : FrA} {H : AH} {K : AV → AH → Prop}
theorem ofV_toV {x : AV} (h : x.plain = true) : ofV (toV x) = x := by cases x <;> simp [AV.plain] at h <;> rfl
/-- append to a nil slice: a row of its own, as a box; behind the elements there may be room. -/
theorem aop_appendB (t : TypeId) (s x : Operand) (ho : o.op = .call { callee := .builtin .append, args := #[s, x], argTypes := #[t, t] }) {E : TypeId} (hk : T.kd t = some (.slice E)) {z : List AV} (hz : T.zero E = some z) (hsz : 0 < T.sz E)
    {ys : List (List AV)} (hs : ev fr s = .nil) (hx : IsList (ev fr x) E ys) (hne : ys ≠ []) (hb : ys.length * T.by_ E ≤ 140737488355328) (hm : ys.length ≤ maxLen)
    (h : ∀ zs : List AV, zs.all AV.plain = true → K (.arr H.bs.length ys.length E) { H with bs := H.bs ++ [.cells (ys.flatten ++ zs)] }) : AOp T N o fr H K := by
  intro B G w a next Q' hi hf hnext
  obtain ⟨hzl, hzp, i, zv, h1, h2, h3, h4, h5⟩ := T.zero_ok E z hz
  have hu := T.kd_ok _ _ hk
  have hvs := hf.ev s
  have hvx := hf.ev x
  rw [hs] at hvs
  have hv : a.eval s = .slice none 0 0 := hvs
  have hexec : execOp a.eval o = (do pure (.value (← Builtin.append_ #[t, t] o.type #[a.eval s, a.eval x]))) := by simp [execOp, ho, resolve, invoke, builtin]
  obtain ⟨tt, e1⟩ : ∃ t, ev fr x = .l t E ys := by
    rcases hx with ⟨_, e⟩ | e
    · exact absurd e hne
    · exact e
  rw [e1] at hvx
  obtain ⟨A, cap, vs, q1, q2, q3, q4, q5, q6, q7, q8, q9⟩ := list_cells hi hsz hvx
  obtain ⟨c, o', hA, _, hcell⟩ := q8 hne
  have hlen : 0 < ys.length := List.length_pos_iff.2 hne
  have hrun := run_append_nil (P := T.P) w t o.type E i zv hu h1 h2 ⟨c, o', none⟩ ys.length cap vs (by rw [h3]; exact q7) (fun j u hu => by rw [add_plain]; exact hcell j u hu) hlen (by simp only [maxLen] at hm; omega) (by rw [h4]; omega)
  rw [← hA, ← q1, ← hv] at hrun
  generalize hcap : grownCap w ys.length 0 E = cp at hrun
  have hc1 : ys.length ≤ cp := hcap ▸ grownCap_ge w ys.length 0 E
  have hc2 : cp ≤ maxLen := hcap ▸ grownCap_le_maxLen w ys.length 0 E hm
  -- the room behind
  generalize hzs : Builtin.zeroCells zv.cells (cp - ys.length) = zc at hrun
  have hzc : ∀ u ∈ zc.toList, ∃ x : AV, x.plain = true ∧ u = toV x := by
    intro u hu
    rw [← hzs] at hu
    simp only [Builtin.zeroCells, Array.toList_map, Array.toList_range, List.mem_map, List.mem_range] at hu
    obtain ⟨k, hk, rfl⟩ := hu
    have hs0 : 0 < zv.cells.size := by
      rcases Nat.eq_zero_or_pos zv.cells.size with q | q
      · rw [q] at hk; omega
      · exact q
    have hlt : k % zv.cells.size < zv.cells.size := Nat.mod_lt _ hs0
    have hmem : zv.cells[k % zv.cells.size]! ∈ zv.cells.toList := by
      rw [getElem!_pos zv.cells _ hlt]
      simp
    rw [h5, List.mem_map] at hmem
    obtain ⟨x, hx, he⟩ := hmem
    exact ⟨x, List.all_eq_true.1 hzp x hx, he.symm⟩
  have hzp' : (zc.toList.map ofV).all AV.plain = true := by
    rw [List.all_eq_true]
    intro y hy
    obtain ⟨u, hu, rfl⟩ := List.mem_map.1 hy
    obtain ⟨x, hx, rfl⟩ := hzc u hu
    rw [ofV_toV hx]; exact hx
  have hzr : RelL T G (zc.toList.map ofV) zc.toList := RelL.of (by simp) fun j y u hy hu => by
    rw [List.getElem?_map, hu] at hy
    obtain rfl := Option.some.inj hy
    exact Rel.ofV G u
  have hdr : Below w.heap.size w w.drew := (Below.refl _ w).drew
  have hid := hi.below hdr
  obtain ⟨r1, r2, r3, r4⟩ := aop_new (E := E) hid (l := ys.flatten ++ zc.toList.map ofV) (vs := vs ++ zc.toList) (q5.append hzr) (fun y hy => by
    rcases List.mem_append.1 hy with hy | hy
    · exact q6 y hy
    · exact plain_flat (List.all_eq_true.1 hzp' y hy))
  have harr : (vs ++ zc.toList).toArray = vs.toArray ++ zc := by apply Array.ext'; simp
  rw [harr] at r1 r3
  have hhs : w.drew.heap.size = w.heap.size := rfl
  unfold Oper.wp
  rw [hexec]
  simp only [Sem.run_bind, hrun, Result.andThen_ok, Sem.run_pure]
  refine hnext _ _ _ _ _ (h _ hzp') ?_ r1 r2 ((hdr.mono hi.hB).trans r3)
  obtain ⟨c', hc', _⟩ := r4
  have : c' = w.heap.size := by
    have h9 : (G.addBox H.bs.length w.drew.heap.size).bx H.bs.length = some w.drew.heap.size := by simp [Gh.addBox]
    rw [h9] at hc'; exact (Option.some.inj hc').symm
  subst this
  exact ⟨w.heap.size, hc', cp, rfl, hc1, hc2⟩

/-- A part of an element of a row is written. -/
theorem aput_row {α : Type} {sz : Nat} : ∀ {es : List (List AV)} {zs : List AV} {i off : Nat} {e cs : List AV}, (∀ x ∈ es, x.length = sz) → es[i]? = some e → off + cs.length ≤ sz → aput (es.flatten ++ zs) (i * sz + off) cs = (es.set i (aput e off cs)).flatten ++ zs
  | [], zs, i, off, e, cs, _, hi, _ => by simp at hi
  | u :: es, zs, 0, off, e, cs, h, hi, hle => by
    simp at hi; subst hi
    have hu : u.length = sz := h u (by simp)
    rw [Nat.zero_mul, Nat.zero_add]
    unfold aput
    simp only [List.flatten_cons, List.set_cons_zero, List.append_assoc]
    rw [List.take_append_of_le_length (by omega), List.drop_append_of_le_length (by omega)]
  | u :: es, zs, i + 1, off, e, cs, h, hi, hle => by
    have hu : u.length = sz := h u (by simp)
    have ih := aput_row (α := α) (es := es) (zs := zs) (i := i) (off := off) (cs := cs) (fun x hx => h x (by simp [hx])) (by simpa using hi) hle
    unfold aput at ih ⊢
    simp only [List.set_cons_succ, List.flatten_cons, List.append_assoc]
    rw [show (i + 1) * sz + off = u.length + (i * sz + off) by rw [hu, Nat.add_mul]; omega]
    rw [List.take_length_add_append, show u.length + (i * sz + off) + cs.length = u.length + (i * sz + off + cs.length) by omega, List.drop_length_add_append]
    simp only [List.append_assoc] at ih ⊢
    rw [ih]
end
section
variable {T : TT} {N : Nat} {ops : Array Oper} {K : FrA → AH → Prop} {o : Oper} {rest : List Oper} {fr : FrA} {H : AH} {d : Nat}
theorem st_appendB {t : TypeId} {s x : Operand} {E : TypeId} {z : List AV} {ys : List (List AV)} (hd : o.dst = some d) (hn : Nat.blt d N = true) (hw : aw ops fr o = some true)
    (ho : o.op = .call { callee := .builtin .append, args := #[s, x], argTypes := #[t, t] }) (hk : T.kd t = some (.slice E)) (hz : T.zero E = some z) (hsz : Nat.blt 0 (T.sz E) = true)
    (hs : ev fr s = .nil) (hx : IsList (ev fr x) E ys) (hne : ys ≠ []) (hb : ys.length * T.by_ E ≤ 140737488355328) (hm : ys.length ≤ maxLen)
    (h : ∀ zs : List AV, zs.all AV.plain = true → AOps T N ops K rest (upd fr d (.arr H.bs.length ys.length E)) { H with bs := H.bs ++ [.cells (ys.flatten ++ zs)] }) : AOps T N ops K (o :: rest) fr H :=
  st_op hd hn hw (aop_appendB t s x ho hk hz (by simpa using hsz) hs hx hne hb hm h)
/-- An element of a row that is a box. -/
theorem st_idxB {t : TypeId} {x i : Operand} {b m : Nat} {E : TypeId} {kk : IntKind} {n : Nat} {off : Nat} (hd : o.dst = some d) (hn : Nat.blt d N = true) (hw : aw ops fr o = some true)
    (ho : o.op = .indexAddr t x i) (hx : ev fr x = .arr b m E) (hk : T.kd t = some (.slice E)) (hkn : T.kn E = true) (hi : ev fr i = .i kk (n : Nat)) (hlt : n < m) (hoff : n * T.sz E = off) (k : AOps T N ops K rest (upd fr d (.ptr b off)) H) : AOps T N ops K (o :: rest) fr H :=
  st_op hd hn hw (aop_pop (r := .ptr b off) (by simp [pop, ho, aidxA, hx, hk, hi, hkn, hlt, ← hoff]) k)
/-- A store into a box of which only some is known. -/
theorem st_storeX {t : TypeId} {p x : Operand} {b off : Nat} {l : List AV} {y : AV} (l' : List AV) {bs : List ABox} (hd : o.dst = none) (hw : aw ops fr o = some true) (ho : o.op = .store t p x) (hp : ev fr p = .ptr b off) (hb : H.bs[b]? = some (.cells l)) (hy : fo (ev fr x) = some y)
    (hst : y.sto = true) (hfl : (cellsOf y).all AV.flat = true) (hkn : T.kn t = true) (hsz : Nat.beq (cellsOf y).length (T.sz t) = true) (hle : off + T.sz t ≤ l.length) (hz : aput l off (cellsOf y) = l') (hbs : foS (H.bs.set b (.cells l')) = some bs)
    (k : AOps T N ops K rest fr { H with bs := bs }) : AOps T N ops K (o :: rest) fr H := by
  rw [← foS_eq hbs, ← hz] at k
  exact st_op0 hd hw (aop_store t p x ho hp hb (fo_eq hy) hst hfl hkn (Nat.eq_of_beq_eq_true hsz) hle k)
/-- A load out of a box of which only some is known. -/
theorem st_loadX {t : TypeId} {p : Operand} {b off : Nat} {l : List AV} (y : AV) (hd : o.dst = some d) (hn : Nat.blt d N = true) (hw : aw ops fr o = some true) (ho : o.op = .load t p) (hp : ev fr p = .ptr b off) (hb : H.bs[b]? = some (.cells l)) (hl : aload1 T t (l.drop off) = some y)
    (k : AOps T N ops K rest (upd fr d y) H) : AOps T N ops K (o :: rest) fr H :=
  st_op hd hn hw (aop_pop (r := y) (by simp only [pop, ho, aload, hp, hb]; exact hl) k)
end
/-- What lies from an element of a row on. -/
theorem drop_row {sz : Nat} : ∀ {es : List (List AV)} {zs : List AV} {i : Nat} {e : List AV}, (∀ x ∈ es, x.length = sz) → es[i]? = some e → ∃ r, (es.flatten ++ zs).drop (i * sz) = e ++ r
  | [], zs, i, e, _, hi => by simp at hi
  | u :: es, zs, 0, e, h, hi => by
    simp at hi; subst hi
    exact ⟨es.flatten ++ zs, by simp⟩
  | u :: es, zs, i + 1, e, h, hi => by
    have hu : u.length = sz := h u (by simp)
    obtain ⟨r, hr⟩ := drop_row (es := es) (zs := zs) (i := i) (fun x hx => h x (by simp [hx])) (by simpa using hi)
    refine ⟨r, ?_⟩
    rw [List.flatten_cons, List.append_assoc, show (i + 1) * sz = u.length + i * sz by rw [hu, Nat.add_mul]; omega, List.drop_length_add_append]
    exact hr
end Go.Proofs.Ytlclgpiabjlpbaa.Am
