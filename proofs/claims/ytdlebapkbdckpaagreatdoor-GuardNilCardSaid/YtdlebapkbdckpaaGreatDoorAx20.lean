/-
  Ax20: a region that draws its order: one turn (own work).
-/
import Derived.Test.YtdlebapkbdckpaaGreatDoorAx19
namespace Go.Ax
open Go

theorem bif_some' {α : Type} {c : Bool} {x : Option α} {r : α} (h : (bif c then x else none) = some r) : c = true ∧ x = some r := by
  cases c with
  | false => cases h
  | true => exact ⟨rfl, h⟩

theorem put_same {a : Act} {dst : Option Tmp} {t : Nat} {v : Value} (h : dst = some t) (ht : t < a.tmps.size) : (a.put dst v).tmps.getD t undef = v := by
  subst h
  simp [Act.put, ht]
theorem put_other {a : Act} {dst : Option Tmp} {t : Nat} {v : Value} (h : dst ≠ some t) : (a.put dst v).tmps.getD t undef = a.tmps.getD t undef := by
  cases dst with
  | none => rfl
  | some d =>
    have hne : d ≠ t := fun e => h (by rw [e])
    simp only [Act.put, Array.getD_eq_getD_getElem?, Array.getElem?_setIfInBounds_ne hne]
theorem put_size {a : Act} {dst : Option Tmp} {v : Value} : (a.put dst v).tmps.size = a.tmps.size := by
  cases dst <;> simp [Act.put]
theorem put_defers {a : Act} {dst : Option Tmp} {v : Value} : (a.put dst v).defers = a.defers := by
  cases dst <;> simp [Act.put]

theorem lst_set {listed : Array Bool} {i p : Nat} (hi : i < listed.size) : Lst (listed.setIfInBounds i true) p ↔ p = i ∨ Lst listed p := by
  unfold Lst
  simp only [Array.getD_eq_getD_getElem?]
  by_cases h : p = i
  · subst h; simp [hi]
  · rw [Array.getElem?_setIfInBounds_ne (fun e => h e.symm)]
    simp [h]

/-! ## What the operands show -/
theorem evE_rel {N0 : Nat} {ρ : Ren} {N : Nat} (hlow : N0 ≤ N) (fix : ∀ i, i < N0 → ρ i = i) {f : Nat → Option Value} {a : Act} (h : ∀ t v, f t = some v → VR ρ N v (a.tmps.getD t undef)) (x : Operand) : VR ρ N (evE N0 f x) (a.eval x) := by
  cases x with
  | tmp t =>
    simp only [evE]
    split
    · rename_i v hv; exact h t v hv
    · exact .top _
  | const v =>
    simp only [evE]
    cases hf : flat N0 v
    · exact .top _
    · exact flat_self hlow fix hf
  | global g =>
    simp only [evE]
    cases hf : Nat.blt g N0
    · exact .top _
    · have hlt := lt_of_blt hf
      have := VR.ptr (ρ := ρ) (N := N) g 0 (Nat.lt_of_lt_of_le hlt hlow)
      rw [fix g hlt] at this
      exact this
  | func f => exact .func _ _ _ _ _ rfl rfl (fun i h => absurd h (by simp)) (fun i h => absurd h (by simp))

theorem wantedE_sound {ρ : Ren} {N : Nat} {ops : Array Oper} {o : Oper} {f : Nat → Option Value} {a : Act} (h : ∀ t v, f t = some v → VR ρ N v (a.tmps.getD t undef)) {x : Bool} (hx : wantedE ops.toList f o = some x) : Region.wanted o (yielded ops a.tmps) = x := by
  unfold wantedE at hx
  unfold Region.wanted
  split at hx
  · rename_i hg; cases hx; rw [hg]
  · rename_i j want hg
    rw [hg]
    simp only
    split at hx
    · cases hx
    · rename_i t ht
      rw [Array.getElem?_toList] at ht
      split at hx
      · rename_i y hy
        cases hx
        have hv := (h t _ hy).inv_bool
        have hget : a.tmps[t]? = some (.bool y) := by
          rw [Array.getD_eq_getD_getElem?] at hv
          cases hq : a.tmps[t]? with
          | none => rw [hq] at hv; simp [undef] at hv
          | some u => rw [hq] at hv; simp at hv; rw [hv]
        simp only [yielded, ht, Option.bind_some, hget]
        cases y <;> cases want <;> rfl
      · rename_i kf nf hy
        obtain ⟨_, rfl⟩ := bif_some hx
        have hr := h t _ hy
        have hnb : ∀ y, a.tmps[t]? ≠ some (.bool y) := by
          intro y e
          have hv : a.tmps.getD t undef = .bool y := by rw [Array.getD_eq_getD_getElem?, e]; rfl
          rw [hv] at hr
          cases hr
        simp only [yielded, ht, Option.bind_some]
        rfl
      · cases hx

section
variable {P : Program} {N0 : Nat} {fns : Tr Func} {ext : ExtFn} {rcall : CallFn} {T0 : Tr Value} {H0 : AH} {ops : Array Oper} {L : List Ent} {ρ0 : Ren} {w0 : World} {a0 : Act}
variable {listed : Array Bool} {j : Nat} {R : Nat → Nat} {ρ : Ren} {a : Act} {w : World} {i : Nat} {o : Oper}

theorem Inv.dep (hI : Inv N0 H0 ops L ρ0 w0 a0 listed j R ρ a w) {k : Nat} (haw : Awaits ops.toList (Lst listed) i) (h : DP ops i k = true) : Lst listed k := dp_closed hI.closed i k haw h

theorem Inv.awaits (hI : Inv N0 H0 ops L ρ0 w0 a0 listed j R ρ a w) (ho : ops[i]? = some o) (hl : Lst listed i) : Awaits ops.toList (Lst listed) i :=
  ⟨o, by simpa using ho, fun e he hb => hI.closed i o e hl (by simpa using ho) he hb⟩

/-- The slots show what the pass says of them. -/
theorem tv_rel (c : Cx P N0 fns ext rcall T0 H0 ops L ρ0 a0) (hI : Inv N0 H0 ops L ρ0 w0 a0 listed j R ρ a w) (haw : Awaits ops.toList (Lst listed) i) (hnl : ¬ Lst listed i) {mats : List (Nat × Value)} {ρ1 : Ren} {N1 : Nat} (hN : (AA H0 L j).next ≤ N1) (hag : Agree (AA H0 L j).next ρ ρ1)
    (hm : ∀ p v, look p mats = some v → ∀ t, wr ops.toList t = some p → VR ρ1 N1 v (a.tmps.getD t undef)) {t : Nat} {v : Value} (h : tv (DP ops) T0 ops.toList (L.take i) (effsOf 0 (L.take i)) mats i t = some v) : VR ρ1 N1 v (a.tmps.getD t undef) := by
  have hold : (∀ p, wr ops.toList t = some p → ¬ Lst listed p) → T0.get t = some v → VR ρ1 N1 v (a.tmps.getD t undef) := by
    intro hp hv
    rw [hI.tmp0 t hp]
    exact (hI.fr.vr (c.t0 t v hv)).mono hN hag
  unfold tv at h
  split at h
  · rename_i hw
    exact hold (fun p hp => by rw [hw] at hp; cases hp) h
  · rename_i p hw
    cases hlt : Nat.blt p i with
    | true =>
      rw [hlt, cond_true] at h
      obtain ⟨hd, h⟩ := bif_some' h
      have hp := hI.dep haw hd
      split at h
      · rename_i u hu
        cases h
        exact hm p v hu t hw
      · refine (hI.tmp1 t p v hw hp ?_).mono hN hag
        unfold knownV at h
        rw [List.getElem?_take_of_lt (lt_of_blt hlt)] at h
        unfold kv
        split at h <;> rename_i hL <;> rw [hL] <;> try exact h
        obtain ⟨q, e, h1, h2, h3, h4⟩ := matDep_of h
        have hpre := effs_pre L i
        rw [← hpre] at h1 h4
        have hq : q < (effsOf 0 (L.take i)).length := by
          have := (List.getElem?_eq_some_iff.1 h1).1
          rw [List.length_take] at this
          omega
        have h1' : (effsOf 0 L)[q]? = some e := by rwa [List.getElem?_take_of_lt hq] at h1
        have hqj : q < j := (hI.effs q e h1').1 (hI.dep haw h3)
        refine matIn_of (q := q) (e := e) (by rw [List.getElem?_take_of_lt hqj]; exact h1') h2 fun q' e' hq' he' => h4 q' e' hq' ?_
        rw [List.getElem?_take_of_lt (by omega)] at he'
        rw [List.getElem?_take_of_lt (by omega)]
        exact he'
    | false =>
      rw [hlt, cond_false] at h
      cases hbe : Nat.beq p i with
      | true =>
        rw [hbe, cond_true] at h
        have := Nat.eq_of_beq_eq_true hbe
        subst this
        exact hold (fun p' hp' => by rw [hw] at hp'; cases hp'; exact hnl) h
      | false =>
        rw [hbe, cond_false] at h
        obtain ⟨hd, h⟩ := bif_some' h
        refine hold (fun p' hp' => ?_) h
        rw [hw] at hp'; cases hp'
        intro hl
        obtain ⟨o', ho', _⟩ := wr_dst hw
        exact hnl (hI.dep (hI.awaits (o := o') (by simpa using ho') hl) hd)

theorem effAt_spec (c : Cx P N0 fns ext rcall T0 H0 ops L ρ0 a0) {q : Nat} {e : Eff} (he : (effsOf 0 L)[q]? = some e) : ∃ o, ops[e.i]? = some o ∧ EffSpec P N0 fns ext rcall T0 H0 (DP ops) ops.toList (L.take e.i) e.i o (.eff e.v e.B e.A e.mats) := by
  have hL := effs_get L q e he
  have hlt : e.i < ops.size := by rw [← c.len]; exact (List.getElem?_eq_some_iff.1 hL).1
  obtain ⟨x, hx, hmk⟩ := c.ent e.i ops[e.i] (by simp [hlt])
  rw [hL] at hx
  cases hx
  refine ⟨ops[e.i], by simp [hlt], ?_⟩
  obtain ⟨_, h | ⟨_, h | ⟨ob, f, _, h⟩ | ⟨v, h, _⟩⟩⟩ := mkEnt_spec hmk
  · cases h.2
  · exact h
  · cases h
  · cases h

/-- What lies in a heap was listed. -/
theorem matIn_listed (c : Cx P N0 fns ext rcall T0 H0 ops L ρ0 a0) (hI : Inv N0 H0 ops L ρ0 w0 a0 listed j R ρ a w) {p : Nat} {v : Value} (h : matIn ((effsOf 0 L).take j) p = some v) : Lst listed p := by
  have : ∃ (q : Nat) (e : Eff), ((effsOf 0 L).take j)[q]? = some e ∧ look p e.mats = some v := by
    generalize (effsOf 0 L).take j = es at h
    induction es with
    | nil => cases h
    | cons x es ih =>
      simp only [matIn] at h
      split at h
      · rename_i u hu; cases h; exact ⟨0, x, by simp, hu⟩
      · obtain ⟨q, e, h1, h2⟩ := ih h; exact ⟨q + 1, e, by simpa using h1, h2⟩
  obtain ⟨q, e, h1, h2⟩ := this
  have hq : q < j := by
    have := (List.getElem?_eq_some_iff.1 h1).1
    rw [List.length_take] at this
    omega
  rw [List.getElem?_take_of_lt hq] at h1
  obtain ⟨o, ho, v', B, A, mats, heq, hmz, _⟩ := effAt_spec c h1
  cases heq
  have hps : ∀ (ps : List (Nat × AObj × (Nat → Value))) (H : AH), look p (matz ps H).2 = some v → ∃ x ∈ ps, x.1 = p := by
    intro ps
    induction ps with
    | nil => intro H h; cases h
    | cons x ps ih =>
      intro H h
      obtain ⟨p', ob, f⟩ := x
      simp only [matz, look] at h
      cases hb : Nat.beq p' p with
      | true => exact ⟨_, List.mem_cons_self, Nat.eq_of_beq_eq_true hb⟩
      | false =>
        rw [hb, cond_false] at h
        obtain ⟨x, hx, hxp⟩ := ih _ h
        exact ⟨x, List.mem_cons_of_mem _ hx, hxp⟩
  obtain ⟨x, hx, hxp⟩ := hps _ _ (by rw [hmz]; exact h2)
  subst hxp
  have hdep := ((pending_mem _ _ _).1 hx).2.2.1 e.i rfl
  have hl : Lst listed e.i := (hI.effs q e h1).2 hq
  exact hI.dep (hI.awaits ho hl) hdep

/-- From one turn to the next. -/
theorem Inv.turn (c : Cx P N0 fns ext rcall T0 H0 ops L ρ0 a0) (hI : Inv N0 H0 ops L ρ0 w0 a0 listed j R ρ a w) (ho : ops[i]? = some o) (hnl : ¬ Lst listed i) (haw : Awaits ops.toList (Lst listed) i) {j' : Nat} {R' : Nat → Nat} {ρ' : Ren} {w' : World} {v' : Value}
    (hwr : ∀ t, o.dst = some t → wr ops.toList t = some i)
    (heffs : ∀ (q : Nat) (e : Eff), (effsOf 0 L)[q]? = some e → ((e.i = i ∨ Lst listed e.i) ↔ q < j')) (hj : j' ≤ (effsOf 0 L).length)
    (hsim : Sim N0 ρ' (AA H0 L j') w') (hfr : Fr ρ0 H0 w0 ρ' (AA H0 L j') w')
    (h1 : ∀ t p v, wr ops.toList t = some p → Lst listed p → kv L ((effsOf 0 L).take j') p = some v → VR ρ' (AA H0 L j').next v (a.tmps.getD t undef))
    (h2 : ∀ v, kv L ((effsOf 0 L).take j') i = some v → VR ρ' (AA H0 L j').next v v')
    (hpb : ∀ p ob f, L[p]? = some (.float ob f) → (p = i ∨ Lst listed p) → matIn ((effsOf 0 L).take j') p = none → PB w0 ρ' (AA H0 L j') w' R' p ob)
    (hpv : ∀ p ob f, L[p]? = some (.float ob f) → Lst listed p → matIn ((effsOf 0 L).take j') p = none → ∀ t, wr ops.toList t = some p → PV R' p f (a.tmps.getD t undef))
    (hpi : ∀ ob f, L[i]? = some (.float ob f) → PV R' i f v')
    (hinj : ∀ p p' ob f ob' f', L[p]? = some (.float ob f) → L[p']? = some (.float ob' f') → (p = i ∨ Lst listed p) → (p' = i ∨ Lst listed p') → matIn ((effsOf 0 L).take j') p = none → matIn ((effsOf 0 L).take j') p' = none → R' p = R' p' → p = p') :
    Inv N0 H0 ops L ρ0 w0 a0 (listed.setIfInBounds i true) j' R' ρ' (a.put o.dst v') w' := by
  have hi : i < listed.size := by rw [hI.sz]; exact (Array.getElem?_eq_some_iff.1 ho).1
  have hset : ∀ p, Lst (listed.setIfInBounds i true) p ↔ p = i ∨ Lst listed p := fun p => lst_set hi
  have hnd : ∀ t p, wr ops.toList t = some p → p ≠ i → o.dst ≠ some t := fun t p hp hne e => by
    rw [hwr t e] at hp; cases hp; exact hne rfl
  have hsame : ∀ t, wr ops.toList t = some i → (a.put o.dst v').tmps.getD t undef = v' := by
    intro t ht
    obtain ⟨o', ho', hd⟩ := wr_dst ht
    rw [Array.getElem?_toList, ho] at ho'
    cases ho'
    exact put_same hd (by rw [hI.asz]; exact c.dst i o t ho hd)
  refine ⟨by simp [hI.sz], ?_, ?_, hj, hsim, hfr, by rw [put_size, hI.asz], by rw [put_defers, hI.df], ?_, ?_, ?_, ?_, ?_⟩
  · intro p o' e hp ho' he hb
    rcases (hset p).1 hp with rfl | hp
    · obtain ⟨o2, ho2, hall⟩ := haw
      rw [ho'] at ho2; cases ho2
      exact (hset _).2 (.inr (hall e he hb))
    · exact (hset _).2 (.inr (hI.closed p o' e hp ho' he hb))
  · intro q e he
    rw [hset]; exact heffs q e he
  · intro t ht
    have hne : o.dst ≠ some t := fun e => ht i (hwr t e) ((hset i).2 (.inl rfl))
    rw [put_other hne]
    exact hI.tmp0 t fun p hp hl => ht p hp ((hset p).2 (.inr hl))
  · intro t p v hp hl hk
    by_cases hpi' : p = i
    · subst hpi'
      rw [hsame t hp]
      exact h2 v hk
    · rw [put_other (hnd t p hp hpi')]
      exact h1 t p v hp (((hset p).1 hl).resolve_left hpi') hk
  · intro p ob f hp hl hm
    exact hpb p ob f hp ((hset p).1 hl) hm
  · intro p ob f hp hl hm t ht
    by_cases hpi' : p = i
    · subst hpi'
      rw [hsame t ht]
      exact hpi ob f hp
    · rw [put_other (hnd t p ht hpi')]
      exact hpv p ob f hp (((hset p).1 hl).resolve_left hpi') hm t ht
  · intro p p' ob f ob' f' hp hp' hl hl' hm hm' hr
    exact hinj p p' ob f ob' f' hp hp' ((hset p).1 hl) ((hset p').1 hl') hm hm' hr
end
end Go.Ax
