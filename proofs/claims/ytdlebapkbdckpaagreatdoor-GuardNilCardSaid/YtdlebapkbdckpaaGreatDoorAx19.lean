/-
  Ax19: a region that draws its order: what holds between two turns (own work).
-/
import Derived.Test.YtdlebapkbdckpaaGreatDoorAx18
namespace Go.Ax
open Go

def DP (ops : Array Oper) : Dp := dpOf (masks ops.toList [])

def kv (L : List Ent) (es : List Eff) (p : Nat) : Option Value :=
  match L[p]? with
  | some .skip => some SKIP
  | some (.still v) => some v
  | some (.eff v _ _ _) => some v
  | some (.float _ _) => matIn es p
  | none => none

/-- A block that no abstract heap tells of yet. -/
def PB (w0 : World) (ρ : Ren) (H : AH) (w : World) (R : Nat → Nat) (p : Nat) (ob : AObj) : Prop :=
  w0.heap.size ≤ R p ∧ (∀ id q, H.tr.get id = some q → ρ id ≠ R p) ∧ ∃ o', w.heap[R p]? = some o' ∧ ObjR ρ H.next ob o'
def PV (R : Nat → Nat) (p : Nat) (f : Nat → Value) (v' : Value) : Prop := ∀ (ρ' : Ren) (N' id : Nat), id < N' → ρ' id = R p → VR ρ' N' (f id) v'

def AA (H0 : AH) (L : List Ent) (j : Nat) : AH := heapAfter H0 ((effsOf 0 L).take j)

structure Inv (N0 : Nat) (H0 : AH) (ops : Array Oper) (L : List Ent) (ρ0 : Ren) (w0 : World) (a0 : Act) (listed : Array Bool) (j : Nat) (R : Nat → Nat) (ρ : Ren) (a : Act) (w : World) : Prop where
  sz : listed.size = ops.size
  closed : ClosedS ops.toList (Lst listed)
  effs : ∀ (q : Nat) (e : Eff), (effsOf 0 L)[q]? = some e → (Lst listed e.i ↔ q < j)
  jle : j ≤ (effsOf 0 L).length
  sim : Sim N0 ρ (AA H0 L j) w
  fr : Fr ρ0 H0 w0 ρ (AA H0 L j) w
  asz : a.tmps.size = a0.tmps.size
  df : a.defers = a0.defers
  tmp0 : ∀ t, (∀ p, wr ops.toList t = some p → ¬ Lst listed p) → a.tmps.getD t undef = a0.tmps.getD t undef
  tmp1 : ∀ t p v, wr ops.toList t = some p → Lst listed p → kv L ((effsOf 0 L).take j) p = some v → VR ρ (AA H0 L j).next v (a.tmps.getD t undef)
  pb : ∀ p ob f, L[p]? = some (.float ob f) → Lst listed p → matIn ((effsOf 0 L).take j) p = none → PB w0 ρ (AA H0 L j) w R p ob
  pv : ∀ p ob f, L[p]? = some (.float ob f) → Lst listed p → matIn ((effsOf 0 L).take j) p = none → ∀ t, wr ops.toList t = some p → PV R p f (a.tmps.getD t undef)
  inj : ∀ p p' ob f ob' f', L[p]? = some (.float ob f) → L[p']? = some (.float ob' f') → Lst listed p → Lst listed p' → matIn ((effsOf 0 L).take j) p = none → matIn ((effsOf 0 L).take j) p' = none → R p = R p' → p = p'

structure Cx (P : Program) (N0 : Nat) (fns : Tr Func) (ext : ExtFn) (rcall : CallFn) (T0 : Tr Value) (H0 : AH) (ops : Array Oper) (L : List Ent) (ρ0 : Ren) (a0 : Act) : Prop where
  len : L.length = ops.size
  ent : ∀ i o, ops[i]? = some o → ∃ e, L[i]? = some e ∧ mkEnt P N0 fns ext rcall T0 H0 (DP ops) ops.toList (L.take i) i o = some e
  t0 : ∀ t v, T0.get t = some v → VR ρ0 H0.next v (a0.tmps.getD t undef)
  dst : ∀ (i : Nat) (o : Oper) (d : Nat), ops[i]? = some o → o.dst = some d → d < a0.tmps.size
  fns : FnsOk P fns
  ext : ExtOk P N0 ext
  call : CallSound P N0 rcall

theorem wr_dst {ops : List Oper} {t p : Nat} (h : wr ops t = some p) : ∃ o : Oper, ops[p]? = some o ∧ o.dst = some t := by
  unfold wr at h
  rw [List.findIdx?_eq_some_iff_getElem] at h
  obtain ⟨hlt, h1, _⟩ := h
  refine ⟨ops[p], by simp [hlt], ?_⟩
  split at h1
  · rename_i d hd; rw [hd, Nat.eq_of_beq_eq_true h1]
  · cases h1

/-! ## What the pass says of one operation -/
section
variable {P : Program} {N0 : Nat} {fns : Tr Func} {ext : ExtFn} {rcall : CallFn} {T0 : Tr Value} {H0 : AH} {dp : Dp} {ops : List Oper} {l : List Ent} {k : Nat} {o : Oper} {e : Ent}

theorem stillIs_spec {ev : Operand → Value} {H : AH} {v : Value} (h : stillIs P N0 fns ext rcall ev H o v = true) : opR P N0 fns ext rcall ev H o = some (.still v) := by
  unfold stillIs at h
  split at h
  · rename_i u hu; rw [hu, veq_eq h]
  · cases h

theorem recheck_spec {i : Nat} {A : AH} : ∀ (r : List Ent) (n : Nat), recheck P N0 fns ext rcall T0 dp ops l i A n r = true → ∀ m v, r[m]? = some (.still v) →
    dp i (n + m) = true ∨ ∃ o', ops[n + m]? = some o' ∧ opR P N0 fns ext rcall (evE N0 (tv dp T0 ops (l.take (n + m)) (effsOf 0 (l.take (n + m))) [] (n + m))) A o' = some (.still v) := by
  intro r
  induction r with
  | nil => intro n h m v hm; simp at hm
  | cons x r ih =>
    intro n h m v hm
    cases m with
    | zero =>
      simp at hm; subst hm
      simp only [recheck, Bool.and_eq_true, Bool.or_eq_true] at h
      rcases h.1 with h | h
      · exact .inl h
      · right
        split at h
        · rename_i o' ho'; exact ⟨o', ho', stillIs_spec h⟩
        · cases h
    | succ m =>
      have hr : recheck P N0 fns ext rcall T0 dp ops l i A (n + 1) r = true := by
        cases x <;> simp only [recheck, Bool.and_eq_true] at h <;> first | exact h | exact h.2
      have := ih (n + 1) hr m v (by simpa using hm)
      rw [show n + (m + 1) = n + 1 + m by omega]
      exact this

theorem heapAfter_cons (X : AH) (e : Eff) (l : List Eff) : heapAfter X (e :: l) = heapAfter e.A l := by
  unfold heapAfter
  cases l with
  | nil => rfl
  | cons a l =>
    rw [List.getLast?_cons_cons]
    cases h : (a :: l).getLast? with
    | none => simp at h
    | some x => rfl

theorem allowed_spec {i : Nat} : ∀ (es : List Eff) (c : List AH) (X : AH) (j : Nat), X ∈ c → j ≤ es.length → (∀ (q : Nat) (e : Eff), es[q]? = some e → dp i e.i = true → q < j) → heapAfter X (es.take j) ∈ allowed dp i es c := by
  intro es
  induction es with
  | nil => intro c X j hX hj h; simpa [heapAfter, allowed] using hX
  | cons e es ih =>
    intro c X j hX hj h
    cases j with
    | zero =>
      have hd : dp i e.i = false := by
        cases hd : dp i e.i with
        | false => rfl
        | true => exact absurd (h 0 e (by simp) hd) (Nat.not_lt_zero _)
      simp only [allowed, hd, cond_false]
      have := ih (e.A :: c) X 0 (List.mem_cons_of_mem _ hX) (Nat.zero_le _) fun q e' he hd' => absurd (h (q + 1) e' (by simpa using he) hd') (Nat.not_lt_zero _)
      simpa using this
    | succ j =>
      rw [List.take_succ_cons, heapAfter_cons]
      simp only [allowed]
      refine ih _ e.A j ?_ (by simpa using hj) fun q e' he hd' => by
        have := h (q + 1) e' (by simpa using he) hd'
        omega
      cases dp i e.i <;> simp

theorem stillEnt_spec (h : stillEnt P N0 fns ext rcall T0 H0 dp ops l k o = some e) : ∃ v, e = .still v ∧ ∀ A ∈ allowed dp k (effsOf 0 l) [H0], opR P N0 fns ext rcall (evE N0 (tv dp T0 ops l (effsOf 0 l) [] k)) A o = some (.still v) := by
  unfold stillEnt at h
  split at h
  · cases h
  rename_i A r ha
  split at h
  case h_2 => cases h
  rename_i v hv
  obtain ⟨hall, rfl⟩ := bif_some h
  refine ⟨v, rfl, fun X hX => ?_⟩
  rw [ha] at hX
  rcases List.mem_cons.1 hX with rfl | hX
  · exact hv
  · rw [List.all_eq_true] at hall
    exact stillIs_spec (hall X hX)

def EffSpec (P : Program) (N0 : Nat) (fns : Tr Func) (ext : ExtFn) (rcall : CallFn) (T0 : Tr Value) (H0 : AH) (dp : Dp) (ops : List Oper) (l : List Ent) (k : Nat) (o : Oper) (e : Ent) : Prop :=
  ∃ v B A mats, e = .eff v B A mats ∧ matz (pending dp (some k) (effsOf 0 l) 0 l) (heapAfter H0 (effsOf 0 l)) = (B, mats) ∧ (∀ x ∈ effsOf 0 l, dp k x.i = true) ∧ recheck P N0 fns ext rcall T0 dp ops l k A 0 l = true ∧
    ∃ r, opR P N0 fns ext rcall (evE N0 (tv dp T0 ops l (effsOf 0 l) mats k)) B o = some r ∧
      (r = .eff v A ∨ (r = .still v ∧ A = B) ∨ ∃ ob f, r = .float ob f ∧ v = f B.next ∧ A = B.alloc ob)

theorem effDone_spec {v : Value} {B A : AH} {mats : List (Nat × Value)} (h : effDone P N0 fns ext rcall T0 dp ops l k v B A mats = some e) :
    e = .eff v B A mats ∧ (∀ x ∈ effsOf 0 l, dp k x.i = true) ∧ recheck P N0 fns ext rcall T0 dp ops l k A 0 l = true := by
  unfold effDone at h
  obtain ⟨h1, rfl⟩ := bif_some h
  rw [Bool.and_eq_true, List.all_eq_true] at h1
  exact ⟨rfl, h1.1, h1.2⟩

theorem effEnt_spec (h : effEnt P N0 fns ext rcall T0 H0 dp ops l k o = some e) : EffSpec P N0 fns ext rcall T0 H0 dp ops l k o e := by
  unfold effEnt at h
  split at h
  rename_i B mats hmz
  split at h
  · rename_i v A hr
    obtain ⟨h1, h2, h3⟩ := effDone_spec h
    exact ⟨v, B, A, mats, h1, hmz, h2, h3, _, hr, .inl rfl⟩
  · rename_i v hr
    obtain ⟨h1, h2, h3⟩ := effDone_spec h
    exact ⟨v, B, B, mats, h1, hmz, h2, h3, _, hr, .inr (.inl ⟨rfl, rfl⟩)⟩
  · rename_i ob f hr
    obtain ⟨h1, h2, h3⟩ := effDone_spec h
    exact ⟨f B.next, B, B.alloc ob, mats, h1, hmz, h2, h3, _, hr, .inr (.inr ⟨ob, f, rfl, rfl, rfl⟩)⟩
  · cases h

theorem mkEnt_spec (h : mkEnt P N0 fns ext rcall T0 H0 dp ops l k o = some e) : (∀ t, o.dst = some t → wr ops t = some k) ∧
    ((wantedE ops (tv dp T0 ops l (effsOf 0 l) [] k) o = some false ∧ e = .skip) ∨
     (wantedE ops (tv dp T0 ops l (effsOf 0 l) [] k) o = some true ∧
      (EffSpec P N0 fns ext rcall T0 H0 dp ops l k o e ∨
       (∃ ob f, aAlloc P N0 (evE N0 (tv dp T0 ops l (effsOf 0 l) [] k)) o = some (ob, f) ∧ e = .float ob f) ∨
       ∃ v, e = .still v ∧ ∀ A ∈ allowed dp k (effsOf 0 l) [H0], opR P N0 fns ext rcall (evE N0 (tv dp T0 ops l (effsOf 0 l) [] k)) A o = some (.still v)))) := by
  unfold mkEnt at h
  have hd : dstOk ops k o = true ∧ (match wantedE ops (tv dp T0 ops l (effsOf 0 l) [] k) o with
    | none => none
    | some false => some .skip
    | some true =>
      bif heavy o then effEnt P N0 fns ext rcall T0 H0 dp ops l k o
      else bif allocish o && floatable ops o then
        match aAlloc P N0 (evE N0 (tv dp T0 ops l (effsOf 0 l) [] k)) o with
        | some (ob, f) => some (.float ob f)
        | none => none
      else
        match stillEnt P N0 fns ext rcall T0 H0 dp ops l k o with
        | some e => some e
        | none => effEnt P N0 fns ext rcall T0 H0 dp ops l k o) = some e := by
    cases hd : dstOk ops k o with
    | false => rw [hd] at h; cases h
    | true => rw [hd] at h; exact ⟨rfl, h⟩
  obtain ⟨hd, h⟩ := hd
  refine ⟨fun t ht => ?_, ?_⟩
  · unfold dstOk at hd
    rw [ht] at hd
    simp only at hd
    split at hd
    · rename_i p hp; rw [hp, Nat.eq_of_beq_eq_true hd]
    · cases hd
  · split at h
    · cases h
    · rename_i hw; cases h; exact .inl ⟨hw, rfl⟩
    · rename_i hw
      refine .inr ⟨hw, ?_⟩
      cases h1 : heavy o with
      | true => rw [h1, cond_true] at h; exact .inl (effEnt_spec h)
      | false =>
        rw [h1, cond_false] at h
        cases h2 : (allocish o && floatable ops o) with
        | true =>
          rw [h2, cond_true] at h
          split at h
          · rename_i ob f hf; cases h; exact .inr (.inl ⟨ob, f, hf, rfl⟩)
          · cases h
        | false =>
          rw [h2, cond_false] at h
          split at h
          · rename_i e' he'
            cases h
            exact .inr (.inr (stillEnt_spec he'))
          · exact .inl (effEnt_spec h)
end

/-! ## Floats come into the heap -/
theorem pending_mem {dp : Dp} {oi : Option Nat} {es : List Eff} : ∀ (l : List Ent) (n : Nat) (x : Nat × AObj × (Nat → Value)), x ∈ pending dp oi es n l ↔ n ≤ x.1 ∧ l[x.1 - n]? = some (.float x.2.1 x.2.2) ∧ (∀ i, oi = some i → dp i x.1 = true) ∧ matIn es x.1 = none := by
  intro l
  induction l with
  | nil => intro n x; simp [pending]
  | cons y l ih =>
    intro n x
    have tail : x ∈ pending dp oi es (n + 1) l ↔ (n ≤ x.1 ∧ x.1 ≠ n) ∧ (y :: l)[x.1 - n]? = some (.float x.2.1 x.2.2) ∧ (∀ i, oi = some i → dp i x.1 = true) ∧ matIn es x.1 = none := by
      rw [ih]
      constructor
      · rintro ⟨h1, h2, h3⟩
        refine ⟨by omega, ?_, h3⟩
        rw [show x.1 - n = (x.1 - (n + 1)) + 1 by omega, List.getElem?_cons_succ]; exact h2
      · rintro ⟨h1, h2, h3⟩
        refine ⟨by omega, ?_, h3⟩
        rw [show x.1 - n = (x.1 - (n + 1)) + 1 by omega, List.getElem?_cons_succ] at h2; exact h2
    have other : (∀ ob f, y ≠ .float ob f) → (x ∈ pending dp oi es (n + 1) l ↔ n ≤ x.1 ∧ (y :: l)[x.1 - n]? = some (.float x.2.1 x.2.2) ∧ (∀ i, oi = some i → dp i x.1 = true) ∧ matIn es x.1 = none) := by
      intro hy
      rw [tail]
      constructor
      · rintro ⟨h1, h2⟩; exact ⟨h1.1, h2⟩
      · rintro ⟨h1, h2, h3⟩
        refine ⟨⟨h1, fun he => ?_⟩, h2, h3⟩
        rw [he, Nat.sub_self] at h2
        simp at h2
        exact hy _ _ h2
    cases y with
    | float ob f =>
      simp only [pending]
      have hc : (due dp oi n && (matIn es n).isNone) = true ↔ ((∀ i, oi = some i → dp i n = true) ∧ matIn es n = none) := by
        cases oi <;> simp [due]
      cases hb : (due dp oi n && (matIn es n).isNone) with
      | true =>
        obtain ⟨c1, c2⟩ := hc.1 hb
        rw [cond_true, List.mem_cons, tail]
        constructor
        · rintro (rfl | ⟨h1, h2⟩)
          · exact ⟨Nat.le_refl _, by simp, c1, c2⟩
          · exact ⟨h1.1, h2⟩
        · rintro ⟨h1, h2, h3⟩
          by_cases he : x.1 = n
          · left
            rw [he, Nat.sub_self] at h2
            simp at h2
            obtain ⟨x1, x2, x3⟩ := x
            simp at he h2
            obtain ⟨e1, e2⟩ := h2
            subst he; subst e1; subst e2; rfl
          · exact .inr ⟨⟨h1, he⟩, h2, h3⟩
      | false =>
        rw [cond_false, tail]
        constructor
        · rintro ⟨h1, h2⟩; exact ⟨h1.1, h2⟩
        · rintro ⟨h1, h2, h3, h4⟩
          refine ⟨⟨h1, fun he => ?_⟩, h2, h3, h4⟩
          rw [he] at h3 h4
          rw [hc.2 ⟨h3, h4⟩] at hb
          cases hb
    | _ => exact other (by intro ob f h; cases h)

theorem pending_pairwise {dp : Dp} {oi : Option Nat} {es : List Eff} : ∀ (l : List Ent) (n : Nat), (pending dp oi es n l).Pairwise fun x y => x.1 ≠ y.1 := by
  intro l
  induction l with
  | nil => intro n; exact .nil
  | cons y l ih =>
    intro n
    cases y with
    | float ob f =>
      simp only [pending]
      cases (due dp oi n && (matIn es n).isNone)
      · exact ih _
      · refine .cons (fun x hx => ?_) (ih _)
        have := ((pending_mem l (n + 1) x).1 hx).1
        simp only; omega
    | _ => exact ih _

theorem PB.mono {w0 w : World} {ρ ρ' : Ren} {H H' : AH} {R : Nat → Nat} {p : Nat} {ob : AObj} (h : PB w0 ρ H w R p ob) (hN : H.next ≤ H'.next) (ha : Agree H.next ρ ρ') {w' : World} (hw : w'.heap[R p]? = w.heap[R p]?) (hn : ∀ id q, H'.tr.get id = some q → ρ' id ≠ R p) : PB w0 ρ' H' w' R p ob := by
  obtain ⟨h1, _, o', h3, h4⟩ := h
  exact ⟨h1, hn, o', by rw [hw]; exact h3, h4.mono hN ha⟩

theorem matz_sound {N0 : Nat} {ρ0 : Ren} {H0 : AH} {w0 w : World} {R : Nat → Nat} : ∀ (ps : List (Nat × AObj × (Nat → Value))) (H : AH) (ρ : Ren), Sim N0 ρ H w → Fr ρ0 H0 w0 ρ H w → (∀ x ∈ ps, PB w0 ρ H w R x.1 x.2.1) → (ps.Pairwise fun x y => R x.1 ≠ R y.1) →
    ∃ ρ', Sim N0 ρ' (matz ps H).1 w ∧ Fr ρ0 H0 w0 ρ' (matz ps H).1 w ∧ Agree H.next ρ ρ' ∧ H.next ≤ (matz ps H).1.next ∧ (∀ id q, (matz ps H).1.tr.get id = some q → (id < H.next ∧ H.tr.get id = some q) ∨ ∃ x ∈ ps, ρ' id = R x.1) ∧
      (∀ p v, look p (matz ps H).2 = some v → ∃ x ∈ ps, ∃ id, x.1 = p ∧ v = x.2.2 id ∧ id < (matz ps H).1.next ∧ ρ' id = R p) ∧ (∀ x ∈ ps, ∃ v, look x.1 (matz ps H).2 = some v) := by
  intro ps
  induction ps with
  | nil => intro H ρ s f _ _; exact ⟨ρ, s, f, fun _ _ => ⟨rfl, rfl⟩, Nat.le_refl _, fun id q h => .inl ⟨(s.blk id q h).1, h⟩, fun p v h => by simp [matz, look] at h, fun x h => by cases h⟩
  | cons x ps ih =>
    intro H ρ s fr hb hp
    obtain ⟨p, ob, f⟩ := x
    obtain ⟨b1, b2, o', b3, b4⟩ := hb _ List.mem_cons_self
    simp only at b1 b2 b3 b4
    have hs := sim_new (w' := w) s b4 b3 b2 (fun _ _ _ => rfl)
    have hag : Agree H.next ρ (ext ρ H.next (R p) (objSize o')) := ext_agree ρ
    have hfr : Fr ρ0 H0 w0 (ext ρ H.next (R p) (objSize o')) (H.alloc ob) w := by
      refine ⟨fun i hi => ⟨(hag i (Nat.lt_of_lt_of_le hi fr.next)).1.trans (fr.agree i hi).1, (hag i (Nat.lt_of_lt_of_le hi fr.next)).2.trans (fr.agree i hi).2⟩, Nat.le_succ_of_le fr.next, fr.kept, fun id q h => ?_, fr.size, fr.os, fr.tape, fr.output⟩
      rcases Tr.get_set h with h | h
      · right; rw [h.1, ext_same]; exact b1
      · rw [(hag id (s.blk id q h).1).1]; exact fr.dom id q h
    have hmono : H.next ≤ (H.alloc ob).next := Nat.le_succ _
    have hb' : ∀ y ∈ ps, PB w0 (ext ρ H.next (R p) (objSize o')) (H.alloc ob) w R y.1 y.2.1 := by
      intro y hy
      refine (hb y (List.mem_cons_of_mem _ hy)).mono hmono hag rfl fun id q h => ?_
      rcases Tr.get_set h with h | h
      · rw [h.1, ext_same]; exact (List.pairwise_cons.1 hp).1 y hy
      · rw [(hag id (s.blk id q h).1).1]; exact (hb y (List.mem_cons_of_mem _ hy)).2.1 id q h
    obtain ⟨ρ', g1, g2, g3, g4, g5, g6, g7⟩ := ih (H.alloc ob) _ hs hfr hb' (List.pairwise_cons.1 hp).2
    have hid : ρ' H.next = R p := by
      have := (g3 H.next (Nat.lt_succ_self _)).1
      rw [this, ext_same]
    refine ⟨ρ', g1, g2, fun i hi => ⟨(g3 i (Nat.lt_succ_of_lt hi)).1.trans (hag i hi).1, (g3 i (Nat.lt_succ_of_lt hi)).2.trans (hag i hi).2⟩, Nat.le_trans hmono g4, ?_, ?_, ?_⟩
    · intro id q h
      rcases g5 id q h with ⟨h1, h2⟩ | ⟨y, hy, h1⟩
      · rcases Tr.get_set h2 with h2 | h2
        · exact .inr ⟨_, List.mem_cons_self, by rw [h2.1]; exact hid⟩
        · exact .inl ⟨(s.blk id q h2).1, h2⟩
      · exact .inr ⟨y, List.mem_cons_of_mem _ hy, h1⟩
    · intro q v h
      simp only [matz, look] at h
      cases hq : Nat.beq p q with
      | true =>
        rw [hq, cond_true] at h
        cases h
        have := Nat.eq_of_beq_eq_true hq
        subst this
        exact ⟨_, List.mem_cons_self, H.next, rfl, rfl, Nat.lt_of_lt_of_le (Nat.lt_succ_self _) g4, hid⟩
      | false =>
        rw [hq, cond_false] at h
        obtain ⟨y, hy, id, h1, h2, h3, h4⟩ := g6 q v h
        exact ⟨y, List.mem_cons_of_mem _ hy, id, h1, h2, h3, h4⟩
    · intro y hy
      simp only [matz, look]
      cases hq : Nat.beq p y.1 with
      | true => exact ⟨_, rfl⟩
      | false =>
        rw [cond_false]
        rcases List.mem_cons.1 hy with rfl | hy
        · simp at hq
        · exact g7 y hy
end Go.Ax
