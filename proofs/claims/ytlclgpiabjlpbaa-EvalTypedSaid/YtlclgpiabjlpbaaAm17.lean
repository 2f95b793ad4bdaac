/- A logic over the walk's rules, seventeenth part: regions whose order is open and that write: what each operation yields, whichever others came ahead of it. -/
import Derived.Test.YtlclgpiabjlpbaaAm16
namespace Go.Proofs.Ytlclgpiabjlpbaa.Am
open Go.RowKit
set_option linter.unusedVariables false

section
variable {T : TT} {N : Nat}
/-- Which operation writes a place. -/
def ownT (l : List Oper) (t : Nat) : Option Nat := l.findIdx? fun o => o.dst == some t
def frS (l : List Oper) (vals : List AV) (fr : FrA) (S : Nat → Bool) : FrA := fun t => match ownT l t with
  | some j => if S j then vals.getD j .u else fr t
  | none => fr t
def mixB (l : List Oper) : Bool :=
  (List.range l.length).all fun i => match l[i]? with
    | some o => o.guard.isNone && (match o.dst with
        | some d => ownT l d == some i
        | none => true) && o.after.all fun e => !(Region.binds .any e) || Nat.blt e.on i
    | none => false
theorem ownT_dst {l : List Oper} {t j : Nat} (h : ownT l t = some j) : ∃ o, l[j]? = some o ∧ o.dst = some t := by
  unfold ownT at h
  rw [List.findIdx?_eq_some_iff_getElem] at h
  obtain ⟨hj, h1, _⟩ := h
  exact ⟨l[j], List.getElem?_eq_getElem hj, by simpa using h1⟩
theorem frS_get {l : List Oper} {vals : List AV} {fr : FrA} {S : Nat → Bool} {t j : Nat} {x : AV} (ho : ownT l t = some j) (hS : S j = true) (hx : vals[j]? = some x) : frS l vals fr S t = x := by
  unfold frS
  rw [ho]
  simp [hS, hx]
theorem frS_ext {l : List Oper} {vals : List AV} {fr : FrA} {S : Nat → Bool} {t : Nat} {x : AV} (ho : ownT l t = none) (hx : fr t = x) : frS l vals fr S t = x := by
  unfold frS
  rw [ho]
  exact hx
def setS (S : Nat → Bool) (i : Nat) : Nat → Bool := fun j => S j || Nat.beq j i
theorem setS_ne {S : Nat → Bool} {i j : Nat} (h : Nat.beq j i = false) : setS S i j = S j := by simp [setS, h]
theorem setS_same {S : Nat → Bool} {i : Nat} : setS S i i = true := by simp [setS]
def closedS (l : List Oper) (S : Nat → Bool) : Prop := ∀ j o, l[j]? = some o → S j = true → ∀ e ∈ o.after, Region.binds .any e = true → S e.on = true
theorem aop_wk {o : Oper} {F fr : FrA} {H : AH} {K : AV → AH → Prop} (hw : Wkr F fr) (h : AOp T N o F H K) : AOp T N o fr H K :=
  fun B G w a next Q' hi hf hn => h B G w a next Q' hi (hw.relF hf) hn
theorem aop_store' {o : Oper} {fr : FrA} {H : AH} {K : AV → AH → Prop} {t : TypeId} {p x : Operand} {b off : Nat} {l : List AV} {y : AV} (ho : o.op = .store t p x) (hp : ev fr p = .ptr b off) (hb : H.bs[b]? = some (.cells l)) (hy : fo (ev fr x) = some y)
    (hfl : y.flat = true) (hkn : T.kn t = true) (hsz : T.sz t = 1) (hle : off < l.length) (k : K .u { H with bs := H.bs.set b (.cells (l.set off y)) }) : AOp T N o fr H K := by
  have hc : cellsOf y = [y] := by cases y <;> first | rfl | cases hfl
  have hst : y.sto = true := by cases y <;> first | rfl | cases hfl
  have hy' := fo_eq hy
  refine aop_store t p x ho hp hb hy' hst (by rw [hc]; simp [hfl]) hkn (by rw [hc, hsz]; rfl) (by omega) ?_
  have : aput l off (cellsOf y) = l.set off y := by
    rw [hc, List.set_eq_take_append_cons_drop]
    simp [aput, hle]
  rw [this]
  exact k

theorem awp_mix {Q : Exit → FrA → AH → Prop} {fr : FrA} {H : AH} {id : Nat} {l : List Oper} (vals : List AV) (Hf : (Nat → Bool) → AH) (hB : mixB l = true) (h0 : Hf (fun _ => false) = H) (hext : ∀ S S', (∀ j, j < l.length → S j = S' j) → Hf S = Hf S')
    (hd : l.all (fun o => okD N o.dst) = true)
    (step : ∀ i o, l[i]? = some o → ∀ S, S i = false → closedS l S → (∀ e ∈ o.after, Region.binds .any e = true → S e.on = true) → AOp T N o (frS l vals fr S) (Hf S) fun r H' => (∀ d, o.dst = some d → r = vals.getD i .u) ∧ H' = Hf (setS S i))
    (hq : Q .normal (frS l vals fr (fun _ => true)) (Hf fun _ => true)) : AWp T N (.region id l.toArray true) Q fr H := by
  subst h0
  have hBi : ∀ i o, l[i]? = some o → o.guard = none ∧ (∀ d, o.dst = some d → ownT l d = some i) ∧ ∀ e ∈ o.after, Region.binds .any e = true → e.on < i := by
    intro i o ho
    have hi := (List.getElem?_eq_some_iff.1 ho).1
    have := List.all_eq_true.1 hB i (List.mem_range.2 hi)
    rw [ho] at this
    simp only [Bool.and_eq_true, Option.isNone_iff_eq_none] at this
    refine ⟨this.1.1, fun d hd => ?_, fun e he hb => ?_⟩
    · have h2 := this.1.2
      rw [hd] at h2
      simpa using h2
    · have h3 := (Array.all_eq_true_iff_forall_mem.1 this.2) e he
      rw [hb] at h3
      simpa using h3
  have hfrS : ∀ S S', (∀ j, j < l.length → S j = S' j) → frS l vals fr S = frS l vals fr S' := by
    intro S S' h
    funext t
    unfold frS
    split
    · rename_i j ho
      obtain ⟨o, hj, _⟩ := ownT_dst ho
      rw [h j (List.getElem?_eq_some_iff.1 hj).1]
    · rfl
  have key : ∀ (U : List Nat) (listed : Array Bool) (B : Nat) (G : Gh) (w : World) (a : Act) (Q' : Exit → Act → World → Prop), listed.size = l.length → U.Nodup → (∀ j, j ∈ U ↔ j < l.length ∧ listed.getD j false = false) →
      closedS l (fun j => listed.getD j false) → Inv T B G (Hf fun j => listed.getD j false) w → RelF T N G (frS l vals fr fun j => listed.getD j false) a → (∀ e a' w', Post T N B G w Q e a' w' → Q' e a' w') → wpAny T.P .any l.toArray Q' U.length listed a w := by
    intro U
    generalize hU : U.length = f
    induction f generalizing U with
    | zero =>
      intro listed B G w a Q' hsz hnd hmem hcl hi hf hq'
      have hU0 : U = [] := List.eq_nil_of_length_eq_zero hU
      have hall : ∀ j, j < l.length → listed.getD j false = true := by
        intro j hj
        cases hl : listed.getD j false with
        | true => rfl
        | false => have := (hmem j).2 ⟨hj, hl⟩; rw [hU0] at this; cases this
      refine ⟨?_, hq' _ _ _ ⟨_, _, G, hq, ?_, ?_, .refl _, .refl _ _⟩⟩
      · rw [List.eq_nil_iff_forall_not_mem]
        intro j hj
        obtain ⟨h1, o, ho, _⟩ := mem_ready.1 hj
        have hjl : j < l.length := (Array.getElem?_eq_some_iff.1 ho).1
        have h2 := hall j hjl
        rw [getD_both h1] at h2; cases h2
      · rw [← hfrS (fun j => listed.getD j false) (fun _ => true) hall]; exact hf
      · rw [← hext (fun j => listed.getD j false) (fun _ => true) hall]; exact hi
    | succ f ih =>
      intro listed B G w a Q' hsz hnd hmem hcl hi hf hq'
      have hrd : ∀ j, j ∈ U → ∃ i, i ∈ Region.ready .any l.toArray listed := by
        intro j
        induction j using Nat.strongRecOn with
        | _ j ihj =>
          intro hj
          obtain ⟨hjl, hun⟩ := (hmem j).1 hj
          have ho : l[j]? = some l[j] := List.getElem?_eq_getElem hjl
          by_cases hdeps : ∀ e ∈ l[j].after, Region.binds .any e = true → listed.getD e.on false = true
          · exact ⟨j, mem_ready.2 ⟨getD_in (by omega) hun, l[j], by simp, hdeps⟩⟩
          · simp only [Classical.not_forall] at hdeps
            obtain ⟨e, he, hb, hne⟩ := hdeps
            have hlt := (hBi j _ ho).2.2 e he hb
            exact ihj e.on hlt ((hmem _).2 ⟨by omega, by simpa using hne⟩)
      refine ⟨fun h0 => ?_, fun i hr => ?_⟩
      · obtain ⟨j, hj⟩ : ∃ j, j ∈ U := by
          cases U with
          | nil => cases hU
          | cons j U => exact ⟨j, by simp⟩
        obtain ⟨i, hi'⟩ := hrd j hj
        rw [h0] at hi'; cases hi'
      · obtain ⟨hun, o, ho, hdeps⟩ := mem_ready.1 hr
        have ho' : l[i]? = some o := by simpa using ho
        have hil : i < l.length := (List.getElem?_eq_some_iff.1 ho').1
        have hun' := getD_both hun
        obtain ⟨hg, hown, _⟩ := hBi i o ho'
        have hw : Region.wanted o (yielded l.toArray a.tmps) = true := by unfold Region.wanted; rw [hg]
        have hset : (fun j => (listed.setIfInBounds i true).getD j false) = setS (fun j => listed.getD j false) i := by
          funext j
          unfold setS
          by_cases e : j = i
          · subst e
            have hjs : j < listed.size := by omega
            simp [hjs]
          · rw [getD_set_ne false (Ne.symm e)]
            have : Nat.beq j i = false := by rw [← Bool.not_eq_true]; intro q; exact e (Nat.eq_of_beq_eq_true q)
            simp [this]
        have hstep := step i o ho' _ hun' hcl hdeps
        unfold wpOp
        simp only [ho, hw, if_true]
        refine .inl (hstep B G w a _ _ hi hf fun r v H' G' w' hk hrel hi' hle hbel => ?_)
        obtain ⟨hv, rfl⟩ := hk
        have hmi : i ∈ U := (hmem i).2 ⟨hil, hun'⟩
        refine ih (U.erase i) (by rw [List.length_erase_of_mem hmi]; omega) _ B G' w' _ Q' (by simpa using hsz) (hnd.erase i) (fun j => ?_) ?_ ?_ ?_ fun e a' w2 hp => hq' e a' w2 (Post.trans hle hbel hp)
        · have hsj : (listed.setIfInBounds i true).getD j false = setS (fun j => listed.getD j false) i j := congrFun hset j
          rw [hnd.mem_erase_iff, hmem j, hsj]
          unfold setS
          by_cases e : j = i
          · subst e; simp
          · have : Nat.beq j i = false := by rw [← Bool.not_eq_true]; intro q; exact e (Nat.eq_of_beq_eq_true q)
            simp [this, e]
        · rw [hset]
          intro j oj hj hSj e he hb
          have : setS (fun j => listed.getD j false) i j = true := hSj
          unfold setS at this ⊢
          simp only [Bool.or_eq_true] at this ⊢
          rcases this with q | q
          · exact .inl (hcl j oj hj q e he hb)
          · have hji := Nat.eq_of_beq_eq_true q
            subst hji
            rw [ho'] at hj
            obtain rfl := Option.some.inj hj
            exact .inl (hdeps e he hb)
        · rw [hset]; exact hi'
        · rw [hset]
          have hf' := hf.mono hle
          have hne : ∀ t j, ownT l t = some j → j ≠ i → setS (fun j => listed.getD j false) i j = listed.getD j false := by
            intro t j _ hji
            have : Nat.beq j i = false := by rw [← Bool.not_eq_true]; intro q; exact hji (Nat.eq_of_beq_eq_true q)
            simp [setS, this]
          have hok : okD N o.dst = true := List.all_eq_true.1 hd o (List.mem_of_getElem? ho')
          cases hdst : o.dst with
          | none =>
            have : frS l vals fr (setS (fun j => listed.getD j false) i) = frS l vals fr fun j => listed.getD j false := by
              funext t
              unfold frS
              split
              · rename_i j hj
                obtain ⟨oj, hoj, hdj⟩ := ownT_dst hj
                have hji : j ≠ i := by
                  intro e; subst e
                  rw [ho'] at hoj
                  obtain rfl := Option.some.inj hoj
                  rw [hdst] at hdj; cases hdj
                rw [hne t j hj hji]
              · rfl
            rw [this]
            exact hf'
          | some d =>
            have : frS l vals fr (setS (fun j => listed.getD j false) i) = upd (frS l vals fr fun j => listed.getD j false) d r := by
              funext t
              unfold upd
              by_cases e : t = d
              · subst e
                rw [if_pos rfl, hv t hdst]
                unfold frS
                rw [hown t hdst]
                simp [setS]
              · rw [if_neg e]
                unfold frS
                split
                · rename_i j hj
                  obtain ⟨oj, hoj, hdj⟩ := ownT_dst hj
                  have hji : j ≠ i := by
                    intro e'; subst e'
                    rw [ho'] at hoj
                    obtain rfl := Option.some.inj hoj
                    rw [hdst] at hdj
                    exact e (Option.some.inj hdj).symm
                  rw [hne t j hj hji]
                · rfl
            rw [this]
            exact hf'.put (d := some d) (hdst ▸ hok) hrel
  refine fun B G w a hi hf => wp_region_any T.mix ?_
  have hb : Below w.heap.size w w.drew := (Below.refl _ w).drew
  have hz : (fun j => (Array.replicate l.toArray.size false).getD j false) = fun _ => false := by funext j; exact getD_replicate_false _ _
  have := key (List.range l.length) (Array.replicate l.toArray.size false) B G w.drew a (fun e a' w' => Post T N B G w Q e a' w') (by simp) List.nodup_range (fun j => by rw [List.mem_range]; exact ⟨fun h => ⟨h, congrFun hz j⟩, fun h => h.1⟩)
    (by rw [hz]; intro j oj hj hSj; cases hSj) (by rw [hz]; exact hi.below hb)
    (by
      rw [hz]
      have : frS l vals fr (fun _ => false) = fr := by funext t; unfold frS; split <;> simp
      rw [this]; exact hf)
    (fun e a' w' hp => Post.trans (.refl _) (hb.mono hi.hB) hp)
  simpa using this

def allP (P : Nat → Oper → Prop) : Nat → List Oper → Prop
  | _, [] => True
  | k, o :: l => P k o ∧ allP P (k + 1) l
theorem allP_get {P : Nat → Oper → Prop} : ∀ {l : List Oper} {k : Nat}, allP P k l → ∀ i o, l[i]? = some o → P (k + i) o
  | [], _, _, i, o, h => by simp at h
  | o :: l, k, hp, 0, o', h => by simp at h; subst h; exact hp.1
  | o :: l, k, hp, i + 1, o', h => by
    have := allP_get hp.2 i o' (by simpa using h)
    rwa [show k + 1 + i = k + (i + 1) by omega] at this
theorem allP0 {P : Nat → Oper → Prop} {l : List Oper} (h : allP P 0 l) : ∀ i o, l[i]? = some o → P i o := fun i o ho => by
  have := allP_get h i o ho
  rwa [Nat.zero_add] at this
theorem pop_to {op : Op} {fr : FrA} {H : AH} {x y : AV} (h : (pop T op fr H).bind fo = some x) (e : x = y) : pop T op fr H = some y := by
  obtain ⟨z, h1, h2⟩ := Option.bind_eq_some_iff.1 h
  rw [h1, fo_eq h2, e]
theorem pop_idxR {t : TypeId} {x i : Operand} {fr : FrA} {H : AH} {b m : Nat} {E : TypeId} {kk : IntKind} {n : Nat} (hx : ev fr x = .arr b m E) (hk : T.kd t = some (.slice E)) (hkn : T.kn E = true) (hs : T.sz E = 1) (hi : ev fr i = .i kk (n : Nat)) (hlt : n < m) : pop T (.indexAddr t x i) fr H = some (.ptr b n) := by
  simp [pop, aidxA, hx, hk, hi, hkn, hlt, hs]
theorem pop_loadR {t : TypeId} {p : Operand} {fr : FrA} {H : AH} {b off : Nat} {l : List AV} {y : AV} (hp : ev fr p = .ptr b off) (hb : H.bs[b]? = some (.cells l)) (hag : T.ag t = some false) (hy : l[off]? = some y) : pop T (.load t p) fr H = some y := by
  simp [pop, aload, aload1, hp, hb, hag, hy]
end
/-! ### Lists of one's own -/
theorem own_more {ts : List Nat} {r : AV} {E : TypeId} {xs : List (List AV)} {bs : List ABox} {t : Nat} (h : IsOwn ⟨[], ts⟩ r E xs) : IsOwn ⟨bs, t :: ts⟩ r E xs := by
  rcases h with h | ⟨t', h1, h2⟩
  · exact .inl h
  · exact .inr ⟨t', h1, List.mem_cons_of_mem _ h2⟩
theorem own_wk {H : AH} {r : AV} {E : TypeId} {xs : List (List AV)} (h : IsOwn H r E xs) : Wk r (.l none E xs) := by
  rcases h with ⟨rfl, rfl⟩ | ⟨t, rfl, _⟩
  · exact .nil E
  · exact .l _ _ _
theorem own_bb {H : AH} {r : AV} {E : TypeId} {xs : List (List AV)} {n : Nat} (h : IsOwn H r E xs) (hx : bbLL n xs = true) : bb n r = true := by
  rcases h with ⟨rfl, rfl⟩ | ⟨t, rfl, _⟩
  · rfl
  · exact hx
theorem own_fz {T : TT} {H H' : AH} {r : AV} {E : TypeId} {xs : List (List AV)} (h : IsOwn H r E xs) : FZ T H' r (.l none E xs) := by
  rcases h with ⟨rfl, rfl⟩ | ⟨t, rfl, _⟩
  · exact .nil E
  · exact .l _ _ _
theorem own_fo {H : AH} {r : AV} {E : TypeId} {xs : List (List AV)} (h : IsOwn H r E xs) : fo r = some r ∧ r.flat = true ∧ cellsOf r = [r] ∧ r.sto = true ∧ fo0 r = some r := by
  rcases h with ⟨rfl, rfl⟩ | ⟨t, rfl, _⟩ <;> exact ⟨rfl, rfl, rfl, rfl, rfl⟩
section
variable {T : TT} {N : Nat} {ops : Array Oper} {K : FrA → AH → Prop} {o : Oper} {rest : List Oper} {fr : FrA} {H : AH} {d : Nat}
/-- Appended, and from here on what it is. -/
theorem st_appendW {t : TypeId} {s x : Operand} {E : TypeId} {z : List AV} {xs ys : List (List AV)} (hd : o.dst = some d) (hn : Nat.blt d N = true) (hw : aw ops fr o = some true)
    (ho : o.op = .call { callee := .builtin .append, args := #[s, x], argTypes := #[t, t] }) (hk : T.kd t = some (.slice E)) (hz : T.zero E = some z) (hsz : Nat.blt 0 (T.sz E) = true)
    (hs : IsOwn H (ev fr s) E xs) (hx : IsList (ev fr x) E ys) (hb : (xs.length + ys.length) * T.by_ E ≤ 140737488355328) (hm : xs.length + ys.length ≤ maxLen)
    (h : ∀ ts, AOps T N ops K rest (upd fr d (.l none E (xs ++ ys))) ⟨H.bs, ts⟩) : AOps T N ops K (o :: rest) fr H := by
  refine st_op hd hn hw ?_
  intro B G w a next Q' hi hf hnext
  refine (aop_append (K := fun r H' => ∃ ts, Wk r (.l none E (xs ++ ys)) ∧ H' = ⟨H.bs, ts⟩) t s x ho hk hz (by simpa using hsz) hs hx hb hm (fun r H' hr hbs _ => ⟨H'.ts, own_wk hr, by cases H'; simp at hbs; subst hbs; rfl⟩)) B G w a next Q' hi hf ?_
  rintro r v H' G' w' ⟨ts, hwk, rfl⟩ hrel hi' hle hb'
  exact hnext _ v _ G' w' (h ts) (hwk.rel hrel) hi' hle hb'
end
end Go.Proofs.Ytlclgpiabjlpbaa.Am
