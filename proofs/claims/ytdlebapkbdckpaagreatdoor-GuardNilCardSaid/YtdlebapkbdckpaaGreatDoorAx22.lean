/-
  Ax22: a region that draws its order: from end to end (own work).
-/
import Derived.Test.YtdlebapkbdckpaaGreatDoorAx21
namespace Go.Ax
open Go

theorem binds_any {md : Region.Mode} {e : Edge} (h : Region.binds .any e = true) : Region.binds md e = true := by
  unfold Region.binds at h ⊢
  split at h <;> simp_all

/-! ## How many are left -/
def left (ops : Array Oper) (listed : Array Bool) : Nat := (List.range ops.size).countP fun i => !listed.getD i true

theorem countP_lt {p q : Nat → Bool} : ∀ {l : List Nat} {i : Nat}, (∀ x, q x = true → p x = true) → i ∈ l → p i = true → q i = false → l.countP q < l.countP p := by
  intro l
  induction l with
  | nil => intro i _ h; cases h
  | cons x l ih =>
    intro i hq hi hp hn
    have hm : l.countP q ≤ l.countP p := List.countP_mono_left fun x _ h => hq x h
    rw [List.countP_cons, List.countP_cons]
    rcases List.mem_cons.1 hi with rfl | hi
    · simp only [hp, hn]; simp; omega
    · have := ih hq hi hp hn
      cases hqx : q x with
      | true => rw [hq x hqx]; simp; exact this
      | false => simp; omega

theorem left_set {ops : Array Oper} {listed : Array Bool} {i : Nat} (hsz : listed.size = ops.size) (hi : i < ops.size) (h : listed.getD i true = false) : left ops (listed.setIfInBounds i true) < left ops listed := by
  refine countP_lt (i := i) (fun x hx => ?_) (List.mem_range.2 hi) (by rw [h]; rfl) ?_
  · simp only [Array.getD_eq_getD_getElem?] at hx ⊢
    by_cases e : i = x
    · subst e; simp [hsz, hi] at hx
    · rwa [Array.getElem?_setIfInBounds_ne e] at hx
  · simp [Array.getD_eq_getD_getElem?, hsz, hi]

theorem left_zero {ops : Array Oper} {listed : Array Bool} (hsz : listed.size = ops.size) (h : left ops listed = 0) (i : Nat) (hi : i < ops.size) : Lst listed i := by
  unfold left at h
  rw [List.countP_eq_zero] at h
  have := h i (List.mem_range.2 hi)
  unfold Lst
  simp only [Array.getD_eq_getD_getElem?] at this ⊢
  have hlt : i < listed.size := by omega
  rw [Array.getElem?_eq_getElem hlt] at this ⊢
  simpa using this

section
variable {P : Program} {N0 : Nat} {fns : Tr Func} {ext : ExtFn} {rcall : CallFn} {T0 : Tr Value} {H0 : AH} {ops : Array Oper} {L : List Ent} {ρ0 : Ren} {w0 : World} {a0 : Act} {b : Frame} {k : List Item} {cs : List Frame} {md : Region.Mode}

theorem sched_run (c : Cx P N0 fns ext rcall T0 H0 ops L ρ0 a0) (hun : Unstuck md ops) : ∀ (fuel t : Nat) (listed : Array Bool) (j : Nat) (R : Nat → Nat) (ρ : Ren) (a : Act) (w : World), Inv N0 H0 ops L ρ0 w0 a0 listed j R ρ a w → left ops listed ≤ fuel →
    ∃ listed' j' R' ρ' a' w', Inv N0 H0 ops L ρ0 w0 a0 listed' j' R' ρ' a' w' ∧ (∀ i, i < ops.size → Lst listed' i) ∧
      Steps P (lone (b.at a (.inRegion ops (Region.linearise.go md ops fuel t listed []) :: k)) cs w) (lone (b.at a' (.inRegion ops [] :: k)) cs w') := by
  intro fuel
  induction fuel with
  | zero =>
    intro t listed j R ρ a w hI hl
    exact ⟨listed, j, R, ρ, a, w, hI, left_zero hI.sz (Nat.le_zero.1 hl), by simp only [Region.linearise.go, List.reverse_nil]; exact Steps.refl _ _⟩
  | succ fuel ih =>
    intro t listed j R ρ a w hI hl
    simp only [Region.linearise.go]
    change ∃ listed' j' R' ρ' a' w', Inv N0 H0 ops L ρ0 w0 a0 listed' j' R' ρ' a' w' ∧ (∀ i, i < ops.size → Lst listed' i) ∧
      Steps P (lone (b.at a (.inRegion ops (match (Region.ready md ops listed)[t % (Region.ready md ops listed).length]? with
      | some i => Region.linearise.go md ops fuel (t / (Region.ready md ops listed).length) (listed.setIfInBounds i true) [i]
      | none => [].reverse) :: k)) cs w) (lone (b.at a' (.inRegion ops [] :: k)) cs w')
    cases hi : (Region.ready md ops listed)[t % (Region.ready md ops listed).length]? with
    | none =>
      have hnil : Region.ready md ops listed = [] := by
        cases hr : Region.ready md ops listed with
        | nil => rfl
        | cons x xs =>
          rw [hr] at hi
          have hlt : t % (x :: xs).length < (x :: xs).length := Nat.mod_lt _ (by simp)
          simp at hi
          simp at hlt
          omega
      exact ⟨listed, j, R, ρ, a, w, hI, hun listed hI.sz hnil, by simp only [List.reverse_nil]; exact Steps.refl _ _⟩
    | some i =>
      simp only []
      obtain ⟨hn, o, ho, haw⟩ := mem_ready.1 (List.mem_of_getElem? hi)
      have hilt : i < ops.size := (Array.getElem?_eq_some_iff.1 ho).1
      have hnl : ¬ Lst listed i := by
        unfold Lst
        rw [Array.getD_eq_getD_getElem?] at hn ⊢
        have : i < listed.size := by rw [hI.sz]; exact hilt
        rw [Array.getElem?_eq_getElem this] at hn ⊢
        simpa using hn
      rw [linearise_go_acc, List.reverse_singleton, List.singleton_append]
      obtain ⟨j1, R1, ρ1, a1, w1, hI1, hs1⟩ := inv_step (b := b) (k := k) (cs := cs) (rest := Region.linearise.go md ops fuel (t / (Region.ready md ops listed).length) (listed.setIfInBounds i true) []) c hI ho hnl
        ⟨o, by simpa using ho, fun e he hb => haw e (by simpa using he) (binds_any hb)⟩
      have hlt := left_set hI.sz hilt hn
      obtain ⟨l2, j2, R2, ρ2, a2, w2, hI2, hall, hs2⟩ := ih (t / (Region.ready md ops listed).length) _ j1 R1 ρ1 a1 w1 hI1 (by omega)
      exact ⟨l2, j2, R2, ρ2, a2, w2, hI2, hall, hs1.trans hs2⟩

theorem finalT_rel {Q : Nat → Value → Prop} {es : List Eff} {mats : List (Nat × Value)} (hq : ∀ (k : Nat) (o : Oper) (t : Nat), ops[k]? = some o → o.dst = some t → Q t (fv L es mats k)) : ∀ (os : List Oper) (k : Nat) (T : Tr Value), (∀ (m : Nat) (o : Oper), os[m]? = some o → ops[k + m]? = some o) →
    (∀ t v, T.get t = some v → Q t v ∨ ∃ p, k ≤ p ∧ p < k + os.length ∧ wr ops.toList t = some p) → ∀ t v, (finalT L es mats os k T).get t = some v → Q t v := by
  intro os
  induction os with
  | nil =>
    intro k T _ h t v ht
    rcases h t v ht with h | ⟨p, h1, h2, _⟩
    · exact h
    · simp at h2; omega
  | cons o os ih =>
    intro k T hops h
    have hok : ops[k]? = some o := by have := hops 0 o (by simp); simpa using this
    have hno : ∀ t, wr ops.toList t = some k → o.dst = some t := by
      intro t ht
      obtain ⟨o', ho', hd⟩ := wr_dst ht
      rw [Array.getElem?_toList, hok] at ho'
      cases ho'; exact hd
    rw [finalT]
    refine ih (k + 1) _ (fun m o' hm => by rw [show k + 1 + m = k + (m + 1) by omega]; exact hops (m + 1) o' (by simpa using hm)) ?_
    intro t v ht
    have old : o.dst ≠ some t → T.get t = some v → Q t v ∨ ∃ p, k + 1 ≤ p ∧ p < k + 1 + os.length ∧ wr ops.toList t = some p := by
      intro hne hT
      rcases h t v hT with h | ⟨p, h1, h2, h3⟩
      · exact .inl h
      · right
        have : p ≠ k := fun e => hne (hno t (e ▸ h3))
        rw [List.length_cons] at h2
        exact ⟨p, by omega, by omega, h3⟩
    cases hd : o.dst with
    | none => rw [hd] at ht; exact old (by rw [hd]; intro e; cases e) ht
    | some d =>
      rw [hd] at ht
      simp only at ht
      by_cases e : t = d
      · subst e
        have := Tr.get_set_same (t := T) (k := t) (v := fv L es mats k)
        rw [this] at ht; cases ht
        exact .inl (hq k o t hok hd)
      · rcases Tr.get_set ht with h1 | h1
        · exact absurd h1.1 e
        · exact old (by rw [hd]; intro e'; cases e'; exact e rfl) h1
end

theorem drawA_sound {P : Program} {N0 : Nat} {fns : Tr Func} {ext : ExtFn} (hfns : FnsOk P fns) (hext : ExtOk P N0 ext) : DrawSound P N0 (drawA P N0 fns ext) := by
  intro rcall hcall ops st st' h ρ0 a0 w0 b k cs0 cs hin t
  unfold drawA at h
  obtain ⟨hok, h⟩ := bif_some' h
  simp only [Bool.and_eq_true] at hok
  obtain ⟨⟨⟨hany, htext⟩, hgc⟩, hdst⟩ := hok
  split at h
  · cases h
  rename_i L hL
  split at h
  rename_i Z mats hmz
  cases h
  obtain ⟨⟨tl, htl, hlen⟩, hent⟩ := pass_spec _ 0 [] _ rfl hL
  simp only [List.nil_append] at htl
  subst htl
  rw [List.all_eq_true] at hdst
  have c : Cx P N0 fns ext rcall st.tm st.H ops L ρ0 a0 := by
    refine ⟨by simpa using hlen, fun i o ho => ?_, fun t v hv => (hin.act.get t v hv).2, fun i o d ho hd => ?_, hfns, hext, hcall⟩
    · obtain ⟨e, h1, h2⟩ := hent i o (by simpa using ho)
      rw [Nat.zero_add] at h1 h2
      exact ⟨e, h1, h2⟩
    · have := hdst o (by simpa using Array.mem_of_getElem? ho)
      rw [hd] at this
      rw [hin.act.size]
      exact lt_of_blt this
  have hno : ∀ p, ¬ Lst (Array.replicate ops.size false) p := by
    intro p h
    unfold Lst at h
    rw [Array.getD_eq_getD_getElem?, Array.getElem?_replicate] at h
    split at h <;> simp at h
  have hI : Inv N0 st.H ops L ρ0 w0 a0 (Array.replicate ops.size false) 0 (fun _ => 0) ρ0 a0 w0 := by
    refine ⟨by simp, fun i o e h => absurd h (hno i), fun q e he => ⟨fun h => absurd h (hno _), fun h => absurd h (Nat.not_lt_zero _)⟩, Nat.zero_le _, ?_, ?_, rfl, rfl, fun _ _ => rfl, fun t p v _ h => absurd h (hno p), fun p ob f _ h => absurd h (hno p), fun p ob f _ h => absurd h (hno p), fun p p' ob f ob' f' _ _ h => absurd h (hno p)⟩
    · simpa [AA, heapAfter] using hin.sim
    · simpa [AA, heapAfter] using Fr.refl ρ0 st.H w0
  have hleft : left ops (Array.replicate ops.size false) ≤ ops.size := by
    unfold left
    have := List.countP_le_length (l := List.range ops.size) (p := fun i => !(Array.replicate ops.size false).getD i true)
    simpa using this
  -- the way, in whatever mode
  have way : ∀ md t, Unstuck md ops → ∃ listed' j' R' ρ' a' w', Inv N0 st.H ops L ρ0 w0 a0 listed' j' R' ρ' a' w' ∧ (∀ i, i < ops.size → Lst listed' i) ∧
      Steps P (lone (b.at a0 (.inRegion ops (Region.linearise md ops t) :: k)) cs w0) (lone (b.at a' (.inRegion ops [] :: k)) cs w') := fun md t hun => sched_run c hun ops.size t _ _ _ _ _ _ hI hleft
  have way' : ∃ listed' j' R' ρ' a' w', Inv N0 st.H ops L ρ0 w0 a0 listed' j' R' ρ' a' w' ∧ (∀ i, i < ops.size → Lst listed' i) ∧
      Steps P (lone (b.at a0 (.inRegion ops (Region.schedule (P.follows .mixedOrders) ops t) :: k)) cs w0) (lone (b.at a' (.inRegion ops [] :: k)) cs w') := by
    unfold Region.schedule
    split
    · exact way _ _ (modeOk_unstuck hany)
    · split
      · exact way _ _ (modeOk_unstuck htext)
      · exact way _ _ (modeOk_unstuck hgc)
  obtain ⟨listed, j, R, ρ, a, w, hE, hall, hst⟩ := way'
  have hj : (effsOf 0 L).take j = effsOf 0 L := by
    refine List.take_of_length_le ?_
    rcases Nat.lt_or_ge j (effsOf 0 L).length with h | h
    · have he : (effsOf 0 L)[j]? = some (effsOf 0 L)[j] := by simp [h]
      have hlt : (effsOf 0 L)[j].i < ops.size := by rw [← c.len]; exact (List.getElem?_eq_some_iff.1 (effs_get L j _ he)).1
      exact absurd ((hE.effs j _ he).1 (hall _ hlt)) (Nat.lt_irrefl _)
    · exact h
  have hlst : ∀ {p : Nat} {x : Ent}, L[p]? = some x → Lst listed p := fun h => hall _ (by rw [← c.len]; exact (List.getElem?_eq_some_iff.1 h).1)
  have hAA : AA st.H L j = heapAfter st.H (effsOf 0 L) := by rw [AA, hj]
  generalize hps : pending (dpOf (masks ops.toList [])) none (effsOf 0 L) 0 L = ps at hmz
  have hmem : ∀ x, x ∈ ps ↔ L[x.1]? = some (.float x.2.1 x.2.2) ∧ matIn ((effsOf 0 L).take j) x.1 = none := by
    intro x
    rw [← hps, pending_mem, hj, Nat.sub_zero]
    constructor
    · rintro ⟨_, h2, _, h4⟩; exact ⟨h2, h4⟩
    · rintro ⟨h2, h4⟩; exact ⟨Nat.zero_le _, h2, (fun i h => by cases h), h4⟩
  have hpw : ps.Pairwise fun x y => R x.1 ≠ R y.1 := by
    rw [← hps]
    refine List.Pairwise.imp_of_mem ?_ (pending_pairwise L 0)
    intro x y hx hy hne hr
    rw [hps] at hx hy
    have h1 := (hmem x).1 hx
    have h2 := (hmem y).1 hy
    exact hne (hE.inj _ _ _ _ _ _ h1.1 h2.1 (hlst h1.1) (hlst h2.1) h1.2 h2.2 hr)
  obtain ⟨ρ1, m1, m2, m3, m4, m5, m6, m7⟩ := matz_sound (w := w) (w0 := w0) (ρ0 := ρ0) (H0 := st.H) (R := R) ps (AA st.H L j) ρ hE.sim hE.fr (fun x hx => hE.pb _ _ _ ((hmem x).1 hx).1 (hlst ((hmem x).1 hx).1) ((hmem x).1 hx).2) hpw
  rw [hAA, hmz] at m1 m2 m4 m5 m6 m7
  simp only at m1 m2 m4 m5 m6 m7
  rw [← hAA] at m4
  have hget : ∀ t v, (finalT L (effsOf 0 L) mats ops.toList 0 st.tm).get t = some v → t < st.nt ∧ VR ρ1 Z.next v (a.tmps.getD t undef) := by
    refine finalT_rel (ops := ops) (Q := fun t v => t < st.nt ∧ VR ρ1 Z.next v (a.tmps.getD t undef)) ?_ _ _ _ (fun m o h => by simpa using h) ?_
    · intro p o t ho hd
      refine ⟨by rw [← hin.act.size]; exact c.dst p o t ho hd, ?_⟩
      obtain ⟨x, hx, hmk⟩ := c.ent p o ho
      have hw := (mkEnt_spec hmk).1 t hd
      have hkv : ∀ v, kv L ((effsOf 0 L).take j) p = some v → VR ρ1 Z.next v (a.tmps.getD t undef) := fun v hv => (hE.tmp1 t p v hw (hlst hx) hv).mono m4 m3
      unfold kv at hkv
      rw [hj] at hkv
      unfold fv
      rw [hx] at hkv ⊢
      cases x with
      | skip => exact hkv _ rfl
      | still v => exact hkv _ rfl
      | eff v B A m => exact hkv _ rfl
      | float ob f =>
        simp only at hkv ⊢
        split
        · rename_i v hv; exact hkv v hv
        · rename_i hnone
          split
          · rename_i v hv
            obtain ⟨y, hy, id, h1, h2, h3, h4⟩ := m6 p v hv
            subst h1 h2
            have := (hmem y).1 hy
            exact hE.pv _ _ _ this.1 (hlst this.1) this.2 t hw ρ1 Z.next id h3 h4
          · exact .top _
    · intro t v hv
      cases hw : wr ops.toList t with
      | none =>
        left
        obtain ⟨h1, h2⟩ := hin.act.get t v hv
        refine ⟨h1, ?_⟩
        rw [hE.tmp0 t fun p hp => by rw [hw] at hp; cases hp]
        exact (hE.fr.vr h2).mono m4 m3
      | some p =>
        right
        obtain ⟨o, ho, _⟩ := wr_dst hw
        refine ⟨p, Nat.zero_le _, ?_, rfl⟩
        rw [Nat.zero_add]
        exact (List.getElem?_eq_some_iff.1 ho).1
  have hdf : All2 (DR ρ1 Z.next) st.df a.defers := by
    rw [hE.df]
    exact all2_imp (fun _ _ r => r.mono m2.next m2.agree) hin.act.defers
  exact ⟨ρ1, w, a, cs, m1, m2, ⟨by rw [hE.asz]; exact hin.act.size, hget, hdf⟩, hin.cs.mono m2.next m2.agree, rfl, hst.trans (.one step_region_end)⟩
end Go.Ax
