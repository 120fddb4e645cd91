/-
  Ax21: a region that draws its order: one turn, by what the pass says (own work).
-/
import Derived.Test.YtdlebapkbdckpaaGreatDoorAx20
namespace Go.Ax
open Go

theorem Fr.push (ρ : Ren) (H : AH) (w : World) (o : Obj) : Fr ρ H w ρ H { w with heap := w.heap.push o } :=
  ⟨fun _ _ => ⟨rfl, rfl⟩, Nat.le_refl _, fun r hr _ => by simp only [Array.getElem?_push]; rw [if_neg (by omega)], fun id o h => .inl ⟨id, o, h, rfl⟩, by simp, rfl, rfl, rfl⟩
theorem push_get {w : World} {o : Obj} {r : Nat} {q : Obj} (h : w.heap[r]? = some q) : (w.heap.push o)[r]? = some q := by
  have := (Array.getElem?_eq_some_iff.1 h).1
  simp only [Array.getElem?_push]; rw [if_neg (by omega)]; exact h
theorem Sim.push {N0 : Nat} {ρ : Ren} {H : AH} {w : World} (s : Sim N0 ρ H w) (o : Obj) : Sim N0 ρ H { w with heap := w.heap.push o } :=
  ⟨fun id p h => let ⟨h1, o', h2, h3⟩ := s.blk id p h; ⟨h1, o', push_get h2, h3⟩, s.inj, s.fix, s.low⟩

section
variable {P : Program} {N0 : Nat} {fns : Tr Func} {ext : ExtFn} {rcall : CallFn} {T0 : Tr Value} {H0 : AH} {ops : Array Oper} {L : List Ent} {ρ0 : Ren} {w0 : World} {a0 : Act}
variable {listed : Array Bool} {j : Nat} {R : Nat → Nat} {ρ : Ren} {a : Act} {w : World} {i : Nat} {o : Oper} {b : Frame} {k : List Item} {cs : List Frame} {rest : List Nat}

def Turned (P : Program) (N0 : Nat) (H0 : AH) (ops : Array Oper) (L : List Ent) (ρ0 : Ren) (w0 : World) (a0 : Act) (listed : Array Bool) (b : Frame) (k : List Item) (cs : List Frame) (rest : List Nat) (i : Nat) (a : Act) (w : World) : Prop :=
  ∃ j' R' ρ' a' w', Inv N0 H0 ops L ρ0 w0 a0 (listed.setIfInBounds i true) j' R' ρ' a' w' ∧ Steps P (lone (b.at a (.inRegion ops (i :: rest) :: k)) cs w) (lone (b.at a' (.inRegion ops rest :: k)) cs w')

theorem effs_keep (hI : Inv N0 H0 ops L ρ0 w0 a0 listed j R ρ a w) (hne : ∀ v B A m, L[i]? ≠ some (.eff v B A m)) (q : Nat) (e : Eff) (he : (effsOf 0 L)[q]? = some e) : (e.i = i ∨ Lst listed e.i) ↔ q < j := by
  rw [← hI.effs q e he]
  constructor
  · rintro (rfl | h)
    · exact absurd (effs_get L q e he) (hne _ _ _ _)
    · exact h
  · exact .inr

theorem tv_now (c : Cx P N0 fns ext rcall T0 H0 ops L ρ0 a0) (hI : Inv N0 H0 ops L ρ0 w0 a0 listed j R ρ a w) (haw : Awaits ops.toList (Lst listed) i) (hnl : ¬ Lst listed i) (t : Nat) (v : Value) (h : tv (DP ops) T0 ops.toList (L.take i) (effsOf 0 (L.take i)) [] i t = some v) :
    VR ρ (AA H0 L j).next v (a.tmps.getD t undef) :=
  tv_rel c hI haw hnl (Nat.le_refl _) (fun _ _ => ⟨rfl, rfl⟩) (fun p v h => by cases h) h

/-- Nothing but a slot turns. -/
theorem quiet_turn (c : Cx P N0 fns ext rcall T0 H0 ops L ρ0 a0) (hI : Inv N0 H0 ops L ρ0 w0 a0 listed j R ρ a w) (ho : ops[i]? = some o) (hnl : ¬ Lst listed i) (haw : Awaits ops.toList (Lst listed) i) (hwr : ∀ t, o.dst = some t → wr ops.toList t = some i)
    (hne : ∀ v B A m, L[i]? ≠ some (.eff v B A m)) (hnf : ∀ ob f, L[i]? ≠ some (.float ob f)) {v' : Value} (h2 : ∀ v, kv L ((effsOf 0 L).take j) i = some v → VR ρ (AA H0 L j).next v v')
    (hs : step P (lone (b.at a (.inRegion ops (i :: rest) :: k)) cs w) = .next (lone (b.at (a.put o.dst v') (.inRegion ops rest :: k)) cs w)) : Turned P N0 H0 ops L ρ0 w0 a0 listed b k cs rest i a w := by
  have hnf' : ∀ {p : Nat} {ob : AObj} {f : Nat → Value}, L[p]? = some (.float ob f) → (p = i ∨ Lst listed p) → Lst listed p := by
    rintro p ob f hp (rfl | h)
    · exact absurd hp (hnf _ _)
    · exact h
  refine ⟨j, R, ρ, a.put o.dst v', w, hI.turn c ho hnl haw hwr (effs_keep hI hne) hI.jle hI.sim hI.fr hI.tmp1 h2 ?_ hI.pv (fun ob f h => absurd h (hnf _ _)) ?_, .one hs⟩
  · intro p ob f hp hl hm; exact hI.pb p ob f hp (hnf' hp hl) hm
  · intro p p' ob f ob' f' hp hp' hl hl' hm hm' hr; exact hI.inj p p' ob f ob' f' hp hp' (hnf' hp hl) (hnf' hp' hl') hm hm' hr

theorem still_turn (c : Cx P N0 fns ext rcall T0 H0 ops L ρ0 a0) (hI : Inv N0 H0 ops L ρ0 w0 a0 listed j R ρ a w) (ho : ops[i]? = some o) (hnl : ¬ Lst listed i) (haw : Awaits ops.toList (Lst listed) i) (hwr : ∀ t, o.dst = some t → wr ops.toList t = some i)
    (hw : Region.wanted o (yielded ops a.tmps) = true) {v : Value} (hL : L[i]? = some (.still v)) (hall : ∀ A ∈ allowed (DP ops) i (effsOf 0 (L.take i)) [H0], opR P N0 fns ext rcall (evE N0 (tv (DP ops) T0 ops.toList (L.take i) (effsOf 0 (L.take i)) [] i)) A o = some (.still v)) :
    Turned P N0 H0 ops L ρ0 w0 a0 listed b k cs rest i a w := by
  have hop : opR P N0 fns ext rcall (evE N0 (tv (DP ops) T0 ops.toList (L.take i) (effsOf 0 (L.take i)) [] i)) (AA H0 L j) o = some (.still v) := by
    by_cases hj : j ≤ (effsOf 0 (L.take i)).length
    · refine hall _ ?_
      have hpre := effs_pre L i
      have : (effsOf 0 L).take j = (effsOf 0 (L.take i)).take j := by
        rw [← hpre, List.take_take, Nat.min_eq_left hj]
      rw [AA, this]
      refine allowed_spec _ _ H0 j (by simp) hj fun q e he hd => ?_
      have hq : q < (effsOf 0 (L.take i)).length := (List.getElem?_eq_some_iff.1 he).1
      have he' : (effsOf 0 L)[q]? = some e := by
        rw [← hpre, List.getElem?_take_of_lt hq] at he; exact he
      exact (hI.effs q e he').1 (hI.dep haw hd)
    · have hj1 : j - 1 < (effsOf 0 L).length := by have := hI.jle; omega
      have he : (effsOf 0 L)[j - 1]? = some (effsOf 0 L)[j - 1] := by simp [hj1]
      generalize (effsOf 0 L)[j - 1] = e at he
      have hge : i ≤ e.i := by
        rcases Nat.lt_or_ge e.i i with h | h
        · have := (effs_lt L i (j - 1) e he).1 h; omega
        · exact h
      have hne : e.i ≠ i := fun h => by
        have := effs_get L _ e he
        rw [h, hL] at this; cases this
      obtain ⟨o', ho', v', B, A, mats, heq, hmz, hdep, hre, _⟩ := effAt_spec c he
      cases heq
      have hl : Lst listed e.i := (hI.effs _ e he).2 (by omega)
      have hlt : i < e.i := by omega
      rcases recheck_spec _ _ hre i v (by rw [List.getElem?_take_of_lt hlt]; exact hL) with h | ⟨o2, ho2, h⟩
      · rw [Nat.zero_add] at h
        exact absurd (hI.dep (hI.awaits ho' hl) h) hnl
      · rw [Nat.zero_add] at ho2 h
        rw [Array.getElem?_toList, ho] at ho2
        cases ho2
        rw [List.take_take, Nat.min_eq_left (Nat.le_of_lt hlt)] at h
        have : AA H0 L j = e.A := by
          have := heapAfter_last (H0 := H0) he
          rw [show j - 1 + 1 = j by omega] at this
          exact this
        rw [this]
        exact h
  have hev := evE_rel hI.sim.low hI.sim.fix (tv_now c hI haw hnl)
  obtain ⟨v', hv, hs⟩ := opR_sound (b := b) c.fns c.ext c.call hI.sim hev ho hw hop
  refine quiet_turn c hI ho hnl haw hwr (fun v B A m h => by rw [hL] at h; cases h) (fun ob f h => by rw [hL] at h; cases h) (fun u hu => ?_) (hs rest k cs)
  simp only [kv, hL] at hu
  cases hu; exact hv

theorem float_turn (c : Cx P N0 fns ext rcall T0 H0 ops L ρ0 a0) (hI : Inv N0 H0 ops L ρ0 w0 a0 listed j R ρ a w) (ho : ops[i]? = some o) (hnl : ¬ Lst listed i) (haw : Awaits ops.toList (Lst listed) i) (hwr : ∀ t, o.dst = some t → wr ops.toList t = some i)
    (hw : Region.wanted o (yielded ops a.tmps) = true) {ob : AObj} {f : Nat → Value} (hL : L[i]? = some (.float ob f)) (hal : aAlloc P N0 (evE N0 (tv (DP ops) T0 ops.toList (L.take i) (effsOf 0 (L.take i)) [] i)) o = some (ob, f)) :
    Turned P N0 H0 ops L ρ0 w0 a0 listed b k cs rest i a w := by
  have hev := evE_rel hI.sim.low hI.sim.fix (tv_now c hI haw hnl)
  obtain ⟨o', v', g1, g2, g3⟩ := aAlloc_sound (w := w) hI.sim.low hI.sim.fix hev hal
  have hs := step_value (P := P) (b := b) (k := k) (cs := cs) (rest := rest) ho hw g2
  have hold : ∀ {p : Nat}, p ≠ i → (if p = i then w.heap.size else R p) = R p := fun h => by rw [if_neg h]
  have hlt : ∀ p ob f, L[p]? = some (.float ob f) → Lst listed p → matIn ((effsOf 0 L).take j) p = none → R p < w.heap.size := by
    intro p ob f hp hl hm
    obtain ⟨_, _, o2, h3, _⟩ := hI.pb p ob f hp hl hm
    exact (Array.getElem?_eq_some_iff.1 h3).1
  have hpi : ∀ {p}, Lst listed p → p ≠ i := fun h e => hnl (e ▸ h)
  refine ⟨j, fun p => if p = i then w.heap.size else R p, ρ, a.put o.dst v', _, hI.turn c ho hnl haw hwr (effs_keep hI fun v B A m h => by rw [hL] at h; cases h) hI.jle (hI.sim.push o') (hI.fr.trans (Fr.push _ _ _ _)) hI.tmp1 ?_ ?_ ?_ ?_ ?_, .one hs⟩
  · intro v hv
    simp only [kv, hL] at hv
    exact absurd (matIn_listed c hI hv) hnl
  · intro p ob' f' hp hl hm
    rcases hl with rfl | hl
    · rw [hL] at hp; cases hp
      have he : (if p = p then w.heap.size else R p) = w.heap.size := if_pos rfl
      refine ⟨?_, fun id q h => ?_, o', by simp, g1⟩
      · show w0.heap.size ≤ (if p = p then w.heap.size else R p)
        rw [he]; exact hI.fr.size
      · show ρ id ≠ (if p = p then w.heap.size else R p)
        rw [he]
        have := hI.sim.lt h; omega
    · have he := hold (hpi hl)
      obtain ⟨h1, h2, o2, h3, h4⟩ := hI.pb p ob' f' hp hl hm
      exact ⟨by simp only [he]; exact h1, fun id q h => by simp only [he]; exact h2 id q h, o2, by simp only [he]; exact push_get h3, h4⟩
  · intro p ob' f' hp hl hm t ht ρ' N' id hid hr
    have he := hold (hpi hl)
    exact hI.pv p ob' f' hp hl hm t ht ρ' N' id hid (by rw [hr]; exact he)
  · intro ob' f' hp ρ' N' id hid hr
    rw [hL] at hp; cases hp
    exact g3 ρ' N' id hid (by rw [hr]; exact if_pos rfl)
  · intro p p' ob1 f1 ob2 f2 hp hp' hl hl' hm hm' hr
    rcases hl with rfl | hl <;> rcases hl' with rfl | hl'
    · rfl
    · have he := hold (hpi hl')
      have := hlt _ _ _ hp' hl' hm'
      simp only [he, if_true] at hr
      omega
    · have he := hold (hpi hl)
      have := hlt _ _ _ hp hl hm
      simp only [he, if_true] at hr
      omega
    · have he := hold (hpi hl)
      have he' := hold (hpi hl')
      simp only [he, he'] at hr
      exact hI.inj p p' ob1 f1 ob2 f2 hp hp' hl hl' hm hm' hr

/-- What every kind of operation does, seen as an effect. -/
theorem rok_any {H : AH} {r : RRes} {v : Value} {A : AH} (s : Sim N0 ρ H w) (h : ROk P N0 ρ H w b a ops i o r) (hr : r = .eff v A ∨ (r = .still v ∧ A = H) ∨ ∃ ob f, r = .float ob f ∧ v = f H.next ∧ A = H.alloc ob) :
    ∃ ρ' w' v', Sim N0 ρ' A w' ∧ Fr ρ H w ρ' A w' ∧ VR ρ' A.next v v' ∧ Steps P (lone (b.at a (.inRegion ops (i :: rest) :: k)) cs w) (lone (b.at (a.put o.dst v') (.inRegion ops rest :: k)) cs w') := by
  rcases hr with rfl | ⟨rfl, rfl⟩ | ⟨ob, f, rfl, rfl, rfl⟩
  · exact h rest k cs
  · obtain ⟨v', hv, hs⟩ := h
    exact ⟨ρ, w, v', s, Fr.refl _ _ _, hv, .one (hs rest k cs)⟩
  · obtain ⟨o', v', h1, h2, h3⟩ := h
    obtain ⟨g1, g2⟩ := sim_alloc s h1
    exact ⟨_, _, v', g1, g2, h2 _ _ _ (Nat.lt_succ_self _) (ext_same _ _ _ _), .one (h3 rest k cs)⟩

theorem eff_turn (c : Cx P N0 fns ext rcall T0 H0 ops L ρ0 a0) (hI : Inv N0 H0 ops L ρ0 w0 a0 listed j R ρ a w) (ho : ops[i]? = some o) (hnl : ¬ Lst listed i) (haw : Awaits ops.toList (Lst listed) i) (hwr : ∀ t, o.dst = some t → wr ops.toList t = some i)
    (hw : Region.wanted o (yielded ops a.tmps) = true) {x : Ent} (hL : L[i]? = some x) (hsp : EffSpec P N0 fns ext rcall T0 H0 (DP ops) ops.toList (L.take i) i o x) :
    Turned P N0 H0 ops L ρ0 w0 a0 listed b k cs rest i a w := by
  obtain ⟨v, B, A, mats, rfl, hmz, hdep, _, r, hop, hr⟩ := hsp
  have hat := effs_at L hL
  have hpre := effs_pre L i
  -- the stage
  have hj : j = (effsOf 0 (L.take i)).length := by
    apply Nat.le_antisymm
    · rcases Nat.lt_or_ge (effsOf 0 (L.take i)).length j with h | h
      · exact absurd ((hI.effs _ _ hat).2 h) hnl
      · exact h
    · rcases Nat.lt_or_ge j (effsOf 0 (L.take i)).length with h | h
      · have he : (effsOf 0 (L.take i))[j]? = some (effsOf 0 (L.take i))[j] := by simp [h]
        have hd := hdep _ (List.mem_of_getElem? he)
        have he' : (effsOf 0 L)[j]? = some (effsOf 0 (L.take i))[j] := by
          rw [← List.getElem?_take_of_lt h, hpre]; exact he
        exact absurd ((hI.effs j _ he').1 (hI.dep haw hd)) (Nat.lt_irrefl _)
      · exact h
  have hAA : AA H0 L j = heapAfter H0 (effsOf 0 (L.take i)) := by rw [AA, hj, hpre]
  have hE : (effsOf 0 L).take j = effsOf 0 (L.take i) := by rw [hj, hpre]
  -- floats come into the heap
  generalize hps : pending (DP ops) (some i) (effsOf 0 (L.take i)) 0 (L.take i) = ps at hmz
  have hmem : ∀ x, x ∈ ps ↔ (x.1 < i ∧ L[x.1]? = some (.float x.2.1 x.2.2)) ∧ DP ops i x.1 = true ∧ matIn ((effsOf 0 L).take j) x.1 = none := by
    intro x
    rw [← hps, pending_mem, hE]
    constructor
    · rintro ⟨_, h2, h3, h4⟩
      rw [Nat.sub_zero] at h2
      have hlt : x.1 < i := by
        have := (List.getElem?_eq_some_iff.1 h2).1
        rw [List.length_take] at this; omega
      rw [List.getElem?_take_of_lt hlt] at h2
      exact ⟨⟨hlt, h2⟩, h3 i rfl, h4⟩
    · rintro ⟨⟨h1, h2⟩, h3, h4⟩
      refine ⟨Nat.zero_le _, ?_, fun i' hi' => by cases hi'; exact h3, h4⟩
      rw [Nat.sub_zero, List.getElem?_take_of_lt h1]; exact h2
  have hfl : ∀ x ∈ ps, Lst listed x.1 := fun x hx => hI.dep haw ((hmem x).1 hx).2.1
  have hpw : ps.Pairwise fun x y => R x.1 ≠ R y.1 := by
    rw [← hps]
    refine List.Pairwise.imp_of_mem ?_ (pending_pairwise (L.take i) 0)
    intro x y hx hy hne hr
    rw [hps] at hx hy
    have h1 := (hmem x).1 hx
    have h2 := (hmem y).1 hy
    exact hne (hI.inj _ _ _ _ _ _ h1.1.2 h2.1.2 (hfl x hx) (hfl y hy) h1.2.2 h2.2.2 hr)
  obtain ⟨ρ1, m1, m2, m3, m4, m5, m6, m7⟩ := matz_sound (w := w) (w0 := w0) (ρ0 := ρ0) (H0 := H0) (R := R) ps (AA H0 L j) ρ hI.sim hI.fr (fun x hx => hI.pb _ _ _ ((hmem x).1 hx).1.2 (hfl x hx) ((hmem x).1 hx).2.2) hpw
  rw [hAA, hmz] at m1 m2 m4 m5 m6 m7
  simp only at m1 m2 m4 m5 m6 m7
  rw [← hAA] at m4 m5
  -- the operation
  have hmats : ∀ p u, look p mats = some u → ∀ t, wr ops.toList t = some p → VR ρ1 B.next u (a.tmps.getD t undef) := by
    intro p u hu t ht
    obtain ⟨x, hx, id, h1, h2, h3, h4⟩ := m6 p u hu
    subst h1 h2
    exact hI.pv _ _ _ ((hmem x).1 hx).1.2 (hfl x hx) ((hmem x).1 hx).2.2 t ht ρ1 B.next id h3 h4
  have hev := evE_rel m1.low m1.fix (fun t u h => tv_rel c hI haw hnl m4 m3 hmats h)
  have hrok := opR_sound (b := b) c.fns c.ext c.call m1 hev ho hw hop
  obtain ⟨ρ', w', v', s', f', hv, hst⟩ := rok_any (rest := rest) (k := k) (cs := cs) m1 hrok hr
  have hA : AA H0 L (j + 1) = A := by
    have := heapAfter_last (H0 := H0) hat
    rw [← hj] at this; exact this
  have hE1 : (effsOf 0 L).take (j + 1) = (effsOf 0 L).take j ++ [⟨i, v, B, A, mats⟩] := by
    rw [← hj] at hat
    rw [List.take_add_one, hat]; rfl
  have hmat1 : ∀ p, matIn ((effsOf 0 L).take (j + 1)) p = match matIn ((effsOf 0 L).take j) p with | some v => some v | none => look p mats := by
    intro p; rw [hE1, matIn_snoc]; cases matIn ((effsOf 0 L).take j) p <;> rfl
  have hnone : ∀ p, matIn ((effsOf 0 L).take (j + 1)) p = none → matIn ((effsOf 0 L).take j) p = none ∧ look p mats = none := by
    intro p hp
    rw [hmat1] at hp
    cases hq : matIn ((effsOf 0 L).take j) p with
    | some u => rw [hq] at hp; cases hp
    | none => rw [hq] at hp; exact ⟨rfl, hp⟩
  have hup : (AA H0 L j).next ≤ A.next := Nat.le_trans m4 f'.next
  have hag : Agree (AA H0 L j).next ρ ρ' := fun n hn => ⟨(f'.agree n (Nat.lt_of_lt_of_le hn m4)).1.trans (m3 n hn).1, (f'.agree n (Nat.lt_of_lt_of_le hn m4)).2.trans (m3 n hn).2⟩
  have hnf : ∀ {p : Nat} {ob : AObj} {f : Nat → Value}, L[p]? = some (.float ob f) → (p = i ∨ Lst listed p) → Lst listed p := by
    rintro p ob f hp (rfl | h)
    · rw [hL] at hp; cases hp
    · exact h
  refine ⟨j + 1, R, ρ', a.put o.dst v', w', hI.turn c ho hnl haw hwr ?_ ?_ (by rw [hA]; exact s') (by rw [hA]; exact m2.trans f') ?_ ?_ ?_ ?_ ?_ ?_, hst⟩
  · intro q e he
    constructor
    · rintro (h | h)
      · have := effs_lt L i q e he
        have h2 := effs_lt L (i + 1) q e he
        have h3 := (effs_lt L (i + 1) q e he).1 (by omega)
        have hx := effsOf_append (L.take i) [Ent.eff v B A mats] 0
        have : L.take (i + 1) = L.take i ++ [Ent.eff v B A mats] := by rw [List.take_add_one, hL]; rfl
        rw [this, hx, List.length_append] at h3
        simp [effsOf] at h3
        omega
      · have := (hI.effs q e he).1 h; omega
    · intro hq
      rcases Nat.lt_or_ge q j with h | h
      · exact .inr ((hI.effs q e he).2 h)
      · left
        have : q = (effsOf 0 (L.take i)).length := by omega
        rw [this, hat] at he
        cases he; rfl
  · have := (List.getElem?_eq_some_iff.1 hat).1
    omega
  · intro t p u ht hl hk
    rw [hA]
    have hold : kv L ((effsOf 0 L).take j) p = some u → VR ρ' A.next u (a.tmps.getD t undef) := fun hk => (hI.tmp1 t p u ht hl hk).mono hup hag
    unfold kv at hk hold
    split at hk <;> rename_i hLp <;> rw [hLp] at hold <;> simp only at hold
    · exact hold hk
    · exact hold hk
    · exact hold hk
    · rw [hmat1] at hk
      split at hk
      · rename_i u' hu'
        cases hk
        exact hold hu'
      · exact f'.vr (hmats p u hk t ht)
    · cases hk
  · intro u hu
    rw [hA]
    simp only [kv, hL] at hu
    cases hu; exact hv
  · intro p ob f hp hl hm
    rw [hA]
    obtain ⟨hm1, hm2⟩ := hnone p hm
    have hl := hnf hp hl
    have hpb := hI.pb p ob f hp hl hm1
    have hnp : ∀ id q, B.tr.get id = some q → ρ1 id ≠ R p := by
      intro id q h e
      rcases m5 id q h with ⟨h1, h2⟩ | ⟨x, hx, h1⟩
      · rw [(m3 id h1).1] at e
        exact hpb.2.1 id q h2 e
      · rw [h1] at e
        have h2 := (hmem x).1 hx
        have := hI.inj _ _ _ _ _ _ h2.1.2 hp (hfl x hx) hl h2.2.2 hm1 e
        obtain ⟨u, hu⟩ := m7 x hx
        rw [this, hm2] at hu
        cases hu
    have hlt : R p < w.heap.size := by
      obtain ⟨_, _, o2, h3, _⟩ := hpb
      exact (Array.getElem?_eq_some_iff.1 h3).1
    refine hpb.mono hup hag (f'.kept _ hlt hnp) fun id q h e => ?_
    rcases f'.dom id q h with ⟨n, p2, h1, h2⟩ | h
    · exact hnp n p2 h1 (h2.trans e)
    · omega
  · intro p ob f hp hl hm
    exact hI.pv p ob f hp hl (hnone p hm).1
  · intro ob f h
    rw [hL] at h; cases h
  · intro p p' ob f ob' f' hp hp' hl hl' hm hm' hr
    exact hI.inj p p' ob f ob' f' hp hp' (hnf hp hl) (hnf hp' hl') (hnone p hm).1 (hnone p' hm').1 hr

theorem inv_step (c : Cx P N0 fns ext rcall T0 H0 ops L ρ0 a0) (hI : Inv N0 H0 ops L ρ0 w0 a0 listed j R ρ a w) (ho : ops[i]? = some o) (hnl : ¬ Lst listed i) (haw : Awaits ops.toList (Lst listed) i) : Turned P N0 H0 ops L ρ0 w0 a0 listed b k cs rest i a w := by
  obtain ⟨e, hL, hmk⟩ := c.ent i o ho
  obtain ⟨hwr, h⟩ := mkEnt_spec hmk
  rcases h with ⟨hwt, rfl⟩ | ⟨hwt, h⟩
  · have hw := wantedE_sound (tv_now c hI haw hnl) hwt
    have hs := step_op_skip (P := P) (b := b) (a := a) (k := k) (cs := cs) (w := w) (ops := ops) (i := i) (rest := rest) (by simp [ho]; simpa using hw)
    simp only [ho, Option.bind_some] at hs
    refine quiet_turn c hI ho hnl haw hwr (fun v B A m h => by rw [hL] at h; cases h) (fun ob f h => by rw [hL] at h; cases h) (fun u hu => ?_) hs
    simp only [kv, hL] at hu
    cases hu; exact VR.skip
  · have hw := wantedE_sound (tv_now c hI haw hnl) hwt
    rcases h with h | ⟨ob, f, hal, rfl⟩ | ⟨v, rfl, hall⟩
    · exact eff_turn c hI ho hnl haw hwr hw hL h
    · exact float_turn c hI ho hnl haw hwr hw hL hal
    · exact still_turn c hI ho hnl haw hwr hw hL hall
end
end Go.Ax
