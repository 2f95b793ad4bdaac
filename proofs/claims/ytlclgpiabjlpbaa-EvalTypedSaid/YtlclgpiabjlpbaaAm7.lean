/- A logic over the walk's rules, seventh part: the operations that make or turn memory. -/
import Derived.Test.YtlclgpiabjlpbaaAm6
namespace Go.Proofs.Ytlclgpiabjlpbaa.Am
open Go.RowKit
set_option linter.unusedVariables false

section
variable {T : TT} {N : Nat} {o : Oper} {fr : FrA} {H : AH} {K : AV → AH → Prop}

theorem below_one (w : World) (O : Obj) : Below w.heap.size w (w.alloc O) := (Below.refl _ _).alloc (Nat.le_refl _) O

/-- A new variable with these cells. -/
theorem aop_new {B : Nat} {G : Gh} {w : World} (hi : Inv T B G H w) {l : List AV} {vs : List Value} {E : TypeId} (hr : RelL T G l vs) (hfl : ∀ x ∈ l, x.flat = true) :
    Inv T B (G.addBox H.bs.length w.heap.size) { H with bs := H.bs ++ [.cells l] } (w.alloc (.cells vs.toArray E)) ∧ G.le B (G.addBox H.bs.length w.heap.size) ∧ Below B w (w.alloc (.cells vs.toArray E)) ∧
      Rel T (G.addBox H.bs.length w.heap.size) (.ptr H.bs.length 0) (.pointer (some ⟨w.heap.size, 0, none⟩)) := by
  have hle := hi.le_addBox w.heap.size
  refine ⟨hi.newBox (below_one w _) (Nat.le_refl _) (by simp) ⟨vs, E, heap_alloc_new w _, RelL.mono hle _ _ hr, hfl⟩, hle, (Below.refl _ _).alloc hi.hB _, w.heap.size, by simp [Gh.addBox], rfl⟩

theorem aop_alloc (E : TypeId) (ho : o.op = .alloc E) {z : List AV} (hz : T.zero E = some z) (hk : K (.ptr H.bs.length 0) { H with bs := H.bs ++ [.cells z] }) : AOp T N o fr H K := by
  intro B G w a next Q' hi hf hn
  obtain ⟨hzl, hzp, i, v, h1, h2, h3, h4, h5⟩ := T.zero_ok E z hz
  have hr : RelL T G z v.cells.toList := by rw [h5]; exact RelL.toV hzp
  obtain ⟨e1, e2, e3, e4⟩ := aop_new (E := E) hi hr (fun x hx => plain_flat (List.all_eq_true.1 hzp x hx))
  have hrun : (execOp a.eval o).run T.P w = .ok (.value (.pointer (some ⟨w.heap.size, 0, none⟩))) (w.alloc (.cells v.cells.toList.toArray E)) := by
    simp [execOp, ho, Instr.alloc, zeroValue, typeInfo, h1, h2, newVar, newRow]
  unfold Oper.wp
  rw [hrun]
  exact hn _ _ _ _ _ hk e4 e1 e2 e3

theorem aop_box (E : TypeId) (x : Operand) (ho : o.op = .box E x) {y : AV} (hy : ev fr x = y) (hs : y.sto = true) (hfl : (cellsOf y).all AV.flat = true) (hk : K (.ptr H.bs.length 0) { H with bs := H.bs ++ [.cells (cellsOf y)] }) : AOp T N o fr H K := by
  intro B G w a next Q' hi hf hn
  have hx := hf.ev x
  rw [hy] at hx
  obtain ⟨hr, _⟩ := hx.cells hs
  obtain ⟨e1, e2, e3, e4⟩ := aop_new (E := E) hi hr (fun x hx => List.all_eq_true.1 hfl x hx)
  have hrun : (execOp a.eval o).run T.P w = .ok (.value (.pointer (some ⟨w.heap.size, 0, none⟩))) (w.alloc (.cells (a.eval x).cells.toList.toArray E)) := by
    simp [execOp, ho, Instr.box, newVar, newRow]
  unfold Oper.wp
  rw [hrun]
  exact hn _ _ _ _ _ hk e4 e1 e2 e3

/-- A store into a box. -/
theorem aop_store (t : TypeId) (p x : Operand) (ho : o.op = .store t p x) {b off : Nat} {l : List AV} {y : AV} (hp : ev fr p = .ptr b off) (hb : H.bs[b]? = some (.cells l)) (hy : ev fr x = y)
    (hst : y.sto = true) (hfl : (cellsOf y).all AV.flat = true) (hkn : T.kn t = true) (hsz : (cellsOf y).length = T.sz t) (hle : off + T.sz t ≤ l.length)
    (hk : K .u { H with bs := H.bs.set b (.cells (aput l off (cellsOf y))) }) : AOp T N o fr H K := by
  intro B G w a next Q' hi hf hn
  have hpv := hf.ev p
  rw [hp] at hpv
  obtain ⟨c, hc, hpe⟩ := hpv
  have hx := hf.ev x
  rw [hy] at hx
  obtain ⟨hr, hone⟩ := hx.cells hst
  obtain ⟨c', hc', vs, E, hh, hrv, hflv⟩ := hi.bs b _ hb
  rw [hc] at hc'; obtain rfl := Option.some.inj hc'
  have hvl := hrv.length
  have hcl := hr.length
  have hcs : (a.eval x).cells.size = T.sz t := by rw [hsz] at hcl; simpa using hcl
  have hsto := run_storeCells_at T.P c off E (a.eval x).cells.toList 0 vs.toArray w hh (by simp; omega) hone
  simp only [Nat.add_zero] at hsto
  have hrun : (execOp a.eval o).run T.P w = .ok .skip (w.setRow c (vs.take off ++ (a.eval x).cells.toList ++ vs.drop (off + (a.eval x).cells.toList.length)).toArray) := by
    simp only [execOp, ho, Instr.storeAt, hpe, Instr.sureAddr, storeVar, Sem.run_bind, Sem.run_pure, Result.andThen_ok, run_sizeOf t hkn]
    rw [Sem.run_ite, if_neg (by simp [hcs]), hsto]
    rfl
  have hrow := RelL.aput hrv hr off
  have hi' : Inv T B G { H with bs := H.bs.set b (.cells (aput l off (cellsOf y))) } (w.setRow c (vs.take off ++ (a.eval x).cells.toList ++ vs.drop (off + (a.eval x).cells.toList.length)).toArray) := by
    refine hi.setBox hb hc (by simp) (fun k hk => setRow_other w c k _ (by omega)) ⟨_, E, setRow_heap w c vs.toArray _ E _ hh, hrow, fun z hz => ?_⟩
    unfold aput at hz
    simp only [List.mem_append] at hz
    rcases hz with (hz | hz) | hz
    · exact hflv z (List.mem_of_mem_take hz)
    · exact List.all_eq_true.1 hfl z hz
    · exact hflv z (List.mem_of_mem_drop hz)
  unfold Oper.wp
  rw [hrun]
  refine hn _ undef _ _ _ hk trivial hi' (.refl _) ?_
  refine ⟨rfl, rfl, rfl, by simp, fun k hk => setRow_other w c k _ ?_⟩
  have := (hi.bx b c hc).2.1
  omega

/-- make([]E, n): an array of its own. -/
theorem aop_make (t : TypeId) (x y : Operand) (ho : o.op = .makeSlice t x y) {E : TypeId} (hk : T.kd t = some (.slice E)) {z : AV} (hz : T.zero E = some [z]) {k1 k2 : IntKind} {n : Nat} (hx : ev fr x = .i k1 n) (hy : ev fr y = .i k2 n)
    (hb : T.by_ E * n ≤ 281474976710656) (hn63 : n ≤ 9223372036854775807) (hkk : K (.arr H.bs.length n E) { H with bs := H.bs ++ [.cells (List.replicate n z)] }) : AOp T N o fr H K := by
  intro B G w a next Q' hi hf hn
  obtain ⟨hzl, hzp, i, v, h1, h2, h3, h4, h5⟩ := T.zero_ok E _ hz
  have hvx := hf.ev x
  rw [hx] at hvx
  have hvx : a.eval x = .int k1 n := hvx
  have hvy := hf.ev y
  rw [hy] at hvy
  have hvy : a.eval y = .int k2 n := hvy
  have hzp' : z.plain = true := by simpa using hzp
  have hsz1 : i.size = 1 := by rw [h3]; simpa using hzl.symm
  have hvc : v.cells = #[toV z] := by apply Array.ext'; simpa using h5
  have hcells : madeCells v.cells n = (List.replicate n (toV z)).toArray := by
    apply Array.ext'
    rw [hvc]
    simp only [madeCells, Array.toList_map, Array.toList_range]
    apply List.ext_getElem
    · simp
    · intro j _ _; simp [Nat.mod_one]
  have hr : RelL T G (List.replicate n z) (List.replicate n (toV z)) := RelL.of (by simp) fun j p u hp hu => by
    have hp' := List.mem_of_getElem? hp
    have hu' := List.mem_of_getElem? hu
    rw [List.eq_of_mem_replicate hp', List.eq_of_mem_replicate hu']
    exact Rel.toV hzp'
  obtain ⟨e1, e2, e3, e4⟩ := aop_new (E := E) hi hr (fun q hq => by rw [List.eq_of_mem_replicate hq]; exact plain_flat hzp')
  have hbI : (i.bytes : Int) * (n : Int) ≤ 281474976710656 := by
    rw [h4]
    have : ((T.by_ E * n : Nat) : Int) ≤ 281474976710656 := by omega
    rwa [Int.natCast_mul] at this
  have hm := run_make (P := T.P) w t E i v (T.kd_ok _ _ hk) h1 h2 k1 k2 n n (by omega) (by omega) hbI (by omega)
  simp only [Int.toNat_natCast, hsz1, Nat.mul_one, hcells] at hm
  have hrun : (execOp a.eval o).run T.P w = .ok (.value (.slice (some ⟨w.heap.size, 0, none⟩) n n)) (w.alloc (.cells (List.replicate n (toV z)).toArray E)) := by
    simp only [execOp, ho, hvx, hvy, Sem.run_bind, hm]; rfl
  unfold Oper.wp
  rw [hrun]
  refine hn _ _ _ _ _ hkk ⟨w.heap.size, by simp [Gh.addBox], n, rfl, Nat.le_refl _, by unfold maxLen; omega⟩ e1 e2 e3
end
end Go.Proofs.Ytlclgpiabjlpbaa.Am
