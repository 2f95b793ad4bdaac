/- A logic over the walk's rules, ninth part: slices that are written out; what a body hands back; calls of functions that only compute. -/
import Derived.Test.YtlclgpiabjlpbaaAm8
namespace Go.Proofs.Ytlclgpiabjlpbaa.Am
open Go.RowKit
set_option linter.unusedVariables false

theorem fill_all (pl : Nat → Option (Nat × Nat)) (sz : Nat) (hpl : ∀ k, pl k = some (k * sz, sz)) : ∀ (vs : List Value) (k : Nat) (z : Array Value), z.size = (k + vs.length) * sz → (∀ v ∈ vs, v.cells.size = sz) →
    ∃ r, Instr.fill pl z ((List.range' k vs.length).zip vs) = some r ∧ r.toList = z.toList.take (k * sz) ++ (vs.map (·.cells.toList)).flatten
  | [], k, z, hz, _ => ⟨z, rfl, by simp only [List.map_nil, List.flatten_nil, List.append_nil]; rw [List.take_of_length_le]; simp only [List.length_nil, Nat.add_zero] at hz; simp [hz]⟩
  | v :: vs, k, z, hz, h => by
    have hv := h v (by simp)
    have hf := foldl_put v.cells.toList z (k * sz) 0 (by simp only [Array.length_toList, hv, Nat.add_zero]; rw [hz, List.length_cons, Nat.add_mul, Nat.add_mul]; omega)
    simp only [Nat.add_zero] at hf
    have hsz : (Array.foldl (fun cs (x : Value × Nat) => cs.setIfInBounds (k * sz + x.2) x.1) z v.cells.zipIdx).size = z.size := by
      have := congrArg List.length hf
      rw [← Array.foldl_toList, Array.toList_zipIdx]
      simp only [Array.length_toList, List.length_append, List.length_take, List.length_drop] at this
      rw [this, hz, hv, List.length_cons, Nat.add_mul, Nat.add_mul]
      omega
    obtain ⟨r, e1, e2⟩ := fill_all pl sz hpl vs (k + 1) _ (by rw [hsz, hz, List.length_cons, show k + (vs.length + 1) = k + 1 + vs.length by omega]) (fun u hu => h u (by simp [hu]))
    refine ⟨r, ?_, ?_⟩
    · simp only [List.length_cons, List.range'_succ, List.zip_cons_cons, Instr.fill, hpl]
      rw [if_neg (by rw [hv, hz, List.length_cons, Nat.add_mul, Nat.add_mul]; simp)]
      exact e1
    · rw [e2, List.map_cons, List.flatten_cons, ← List.append_assoc]
      congr 1
      rw [← Array.foldl_toList, Array.toList_zipIdx, hf]
      rw [List.take_append_of_le_length (by simp [hv]; rw [hz, List.length_cons, Nat.add_mul, Nat.add_mul, Nat.add_mul]; omega)]
      rw [List.take_of_length_le]
      simp [hv, Nat.add_mul]
      omega

section
variable {T : TT} {N : Nat} {o : Oper} {fr : FrA} {H : AH} {K : AV → AH → Prop}

theorem flatten_rel {G : Gh} : ∀ {es : List (List AV)} {us : List (List Value)}, es.length = us.length → (∀ (i : Nat) e u, es[i]? = some e → us[i]? = some u → RelL T G e u) → RelL T G es.flatten us.flatten
  | [], [], _, _ => rfl
  | [], _ :: _, h, _ => by simp at h
  | _ :: _, [], h, _ => by simp at h
  | e :: es, u :: us, h, hr => by
    rw [List.flatten_cons, List.flatten_cons]
    exact (hr 0 e u rfl rfl).append (flatten_rel (by simpa using h) fun i x y hx hy => hr (i + 1) x y (by simpa using hx) (by simpa using hy))

/-- A slice that is written out. -/
theorem aop_bslice (t : TypeId) (ps : List Operand) (ho : o.op = .buildSlice t ps.length ((List.range' 0 ps.length).zip ps).toArray) {E : TypeId} (hk : T.kd t = some (.slice E)) {z : List AV} (hz : T.zero E = some z) (hsz : 0 < T.sz E)
    (hps : ∀ p ∈ ps, (ev fr p).sto = true ∧ (cellsOf (ev fr p)).all AV.flat = true ∧ (cellsOf (ev fr p)).length = T.sz E) (hlen : ps.length * T.sz E ≤ 16777216)
    (h : ∀ t, K (.l (some t) E (ps.map fun p => cellsOf (ev fr p))) { H with ts := t :: H.ts }) : AOp T N o fr H K := by
  intro B G w a next Q' hi hf hn
  obtain ⟨hzl, hzp, i, zv, h1, h2, h3, h4, h5⟩ := T.zero_ok E z hz
  have hzc : zv.cells.size = T.sz E := by have := congrArg List.length h5; rw [List.length_map, hzl] at this; simpa using this
  have hu := T.kd_ok _ _ hk
  have hkn : ∀ w, (sizeOf E).run T.P w = .ok (T.sz E) w := fun w => by simp [sizeOf, typeInfo, h1, h3]
  have hvs : ∀ v ∈ ps.map a.eval, v.cells.size = T.sz E := by
    intro v hv
    obtain ⟨p, hp, rfl⟩ := List.mem_map.1 hv
    have hc := ((hf.ev p).cells (hps p hp).1).1.length
    rw [(hps p hp).2.2] at hc
    simpa using hc
  obtain ⟨r, e1, e2⟩ := fill_all (fun k => some (k * T.sz E, T.sz E)) (T.sz E) (fun _ => rfl) (ps.map a.eval) 0 ((Array.range (ps.length * T.sz E)).map (fun x => (if ps.length * T.sz E = 0 then #[] else zv.cells)[x % (if ps.length * T.sz E = 0 then (#[] : Array Value) else zv.cells).size]!)) (by simp) hvs
  simp only [Nat.zero_mul, List.take_zero, List.nil_append, List.length_map] at e1 e2
  have hrs : r.size = ps.length * T.sz E := by
    have := congrArg List.length e2
    rw [flatten_len (sz := T.sz E) (fun e he => by obtain ⟨v, hv, rfl⟩ := List.mem_map.1 he; have := hvs v hv; simpa using this)] at this
    simpa using this
  have hzip : (((List.range' 0 ps.length).zip ps).toArray.map fun (x : Nat × Operand) => (x.1, a.eval x.2)).toList = (List.range' 0 ps.length).zip (ps.map a.eval) := by
    rw [Array.toList_map, List.zip_map_right]; rfl
  have hrun : (execOp a.eval o).run T.P w = .ok (.value (.slice (some ⟨w.heap.size, 0, none⟩) ps.length ps.length)) (w.alloc (.cells r E)) := by
    have hlen' : ¬ 16777216 < ps.length * T.sz E := by omega
    simp only [execOp, ho, Instr.buildSlice, Sem.run_bind, run_underlying hu, Result.andThen_ok, hkn, Sem.run_ite, hzip]
    rw [if_neg (by simpa using hlen')]
    simp only [Sem.run_pure, Result.andThen_ok]
    by_cases c0 : ps.length * T.sz E = 0
    · simp only [c0, if_true] at e1 ⊢
      simp only [e1]
      simp [newRow]
    · simp only [c0, if_false] at e1 ⊢
      simp only [zeroValue, typeInfo, Sem.run_bind, run_program, Result.andThen_ok, h1, Sem.run_pure, h2, e1]
      simp [newRow]
  have hrel : RelL T G (ps.map fun p => cellsOf (ev fr p)).flatten r.toList := by
    rw [e2, List.map_map]
    refine flatten_rel (by simp) fun i e u he hu' => ?_
    simp only [List.getElem?_map, Option.map_eq_some_iff] at he hu'
    obtain ⟨p, hp, rfl⟩ := he
    obtain ⟨q, hq, rfl⟩ := hu'
    rw [hp] at hq; obtain rfl := Option.some.inj hq
    exact ((hf.ev p).cells (hps p (List.mem_of_getElem? hp)).1).1
  have hel : ∀ e ∈ ps.map fun p => cellsOf (ev fr p), e.length = T.sz E := by
    intro e he
    obtain ⟨p, hp, rfl⟩ := List.mem_map.1 he
    exact (hps p hp).2.2
  have hm : ps.length ≤ maxLen := by
    have : ps.length * 1 ≤ ps.length * T.sz E := Nat.mul_le_mul_left _ hsz
    unfold maxLen; omega
  obtain ⟨t', hi', hle, hbl, hnt⟩ := hi.newTok (World.grownBy_alloc w (.cells r E) none) none (fun c hc => by cases hc) (World.ownsRow_lit w r ps.length hi.hB hm hrs)
    (fun c hc => by obtain rfl := Option.some.inj hc; exact .inr (Nat.le_refl _)) hrel (fun x hx => by
      obtain ⟨e, he, hxe⟩ := List.mem_flatten.1 hx
      obtain ⟨p, hp, rfl⟩ := List.mem_map.1 he
      exact List.all_eq_true.1 (hps p hp).2.1 x hxe) (fun c hc i _ => by
      rintro ⟨zz, hz⟩
      obtain rfl := Option.some.inj hc
      exact absurd (hi.im_lt hz) (Nat.lt_irrefl _))
  have hfil : H.ts.filter (fun x => decide (some x ≠ (none : Option Nat))) = H.ts := by
    rw [List.filter_eq_self]; simp
  rw [hfil] at hi'
  unfold Oper.wp
  rw [hrun]
  refine hn _ _ _ _ _ (h t') ⟨some ⟨w.heap.size, 0, none⟩, ps.length, by simp, by simp, hm, hel, fun _ => ⟨w.heap.size, 0, rfl, imF_to hsz hel fun k y hky => Or.inr ⟨rfl, by rw [Nat.zero_add]; exact hky⟩⟩, fun tt ht => ?_⟩ hi' hle hbl
  obtain rfl := Option.some.inj ht
  simp [Gh.addTok]
end
end Go.Proofs.Ytlclgpiabjlpbaa.Am
