/-
  Ax18: a region that draws its order: what waits for what, the lists of the pass, no way that stops short (own work).
-/
import Derived.Test.YtdlebapkbdckpaaGreatDoorAx17
import Derived.Orders
namespace Go.Ax
open Go

/-! ## Who waits for whom -/
def ClosedS (ops : List Oper) (S : Nat → Prop) : Prop := ∀ i o e, S i → ops[i]? = some o → e ∈ o.after.toList → Region.binds .any e = true → S e.on
def Awaits (ops : List Oper) (S : Nat → Prop) (i : Nat) : Prop := ∃ o, ops[i]? = some o ∧ ∀ e ∈ o.after.toList, Region.binds .any e = true → S e.on

theorem maskFold_bit (ms : List Nat) (k : Nat) : ∀ (es : List Edge) (m : Nat), Nat.testBit (es.foldl (fun m e => bif Region.binds .any e then Nat.lor (Nat.lor m (Nat.shiftLeft 1 e.on)) (ms.getD e.on 0) else m) m) k = true →
    Nat.testBit m k = true ∨ ∃ e ∈ es, Region.binds .any e = true ∧ (e.on = k ∨ Nat.testBit (ms.getD e.on 0) k = true) := by
  intro es
  induction es with
  | nil => intro m h; exact .inl h
  | cons e es ih =>
    intro m h
    rw [List.foldl_cons] at h
    rcases ih _ h with h1 | ⟨e', he', h1⟩
    · cases hb : Region.binds .any e with
      | false => rw [hb] at h1; exact .inl h1
      | true =>
        rw [hb, cond_true] at h1
        have h2 : Nat.testBit ((m ||| (1 <<< e.on)) ||| (ms.getD e.on 0)) k = true := h1
        rw [Nat.testBit_or, Nat.testBit_or, Bool.or_eq_true, Bool.or_eq_true] at h2
        rcases h2 with (h2 | h2) | h2
        · exact .inl h2
        · refine .inr ⟨e, List.mem_cons_self, hb, .inl ?_⟩
          rw [Nat.one_shiftLeft, Nat.testBit_two_pow] at h2
          exact of_decide_eq_true h2
        · exact .inr ⟨e, List.mem_cons_self, hb, .inr h2⟩
    · exact .inr ⟨e', List.mem_cons_of_mem _ he', h1⟩

theorem maskOf_bit {ms : List Nat} {o : Oper} {k : Nat} (h : Nat.testBit (maskOf ms o) k = true) : ∃ e ∈ o.after.toList, Region.binds .any e = true ∧ (e.on = k ∨ Nat.testBit (ms.getD e.on 0) k = true) := by
  rcases maskFold_bit ms k _ 0 h with h | h
  · simp at h
  · exact h

theorem masks_prefix : ∀ (os : List Oper) (ms : List Nat), ∃ t, masks os ms = ms ++ t ∧ t.length = os.length := by
  intro os
  induction os with
  | nil => intro ms; exact ⟨[], by simp [masks], rfl⟩
  | cons o os ih =>
    intro ms
    obtain ⟨t, h, hl⟩ := ih (ms ++ [maskOf ms o])
    exact ⟨maskOf ms o :: t, by rw [masks, h, List.append_assoc]; rfl, by simp [hl]⟩

theorem masks_get : ∀ (os : List Oper) (ms : List Nat) (k : Nat) (o : Oper), os[k]? = some o → (masks os ms)[ms.length + k]? = some (maskOf ((masks os ms).take (ms.length + k)) o) := by
  intro os
  induction os with
  | nil => intro ms k o h; simp at h
  | cons o os ih =>
    intro ms k o' h
    rw [masks]
    cases k with
    | zero =>
      simp at h; subst h
      obtain ⟨t, ht, _⟩ := masks_prefix os (ms ++ [maskOf ms o])
      rw [ht]
      simp
    | succ k =>
      have := ih (ms ++ [maskOf ms o]) k o' (by simpa using h)
      rw [List.length_append, List.length_singleton] at this
      rw [show ms.length + (k + 1) = ms.length + 1 + k by omega]
      exact this

theorem getD_take_bit {l : List Nat} {n j k : Nat} (h : Nat.testBit ((l.take n).getD j 0) k = true) : j < n ∧ Nat.testBit (l.getD j 0) k = true := by
  by_cases hj : j < n
  · refine ⟨hj, ?_⟩
    rw [List.getD_eq_getElem?_getD, List.getElem?_take_of_lt hj] at h
    rwa [List.getD_eq_getElem?_getD]
  · rw [List.getD_eq_getElem?_getD, List.getElem?_take_eq_none (Nat.le_of_not_lt hj)] at h
    simp at h

theorem dp_closed {ops : List Oper} {S : Nat → Prop} (hS : ClosedS ops S) : ∀ (i k : Nat), Awaits ops S i → dpOf (masks ops []) i k = true → S k := by
  intro i
  induction i using Nat.strongRecOn with
  | ind i ih =>
    intro k ⟨o, ho, haw⟩ h
    have hm := masks_get ops [] i o ho
    simp only [List.length_nil, Nat.zero_add] at hm
    unfold dpOf at h
    rw [List.getD_eq_getElem?_getD, hm, Option.getD_some] at h
    obtain ⟨e, he, hb, hk⟩ := maskOf_bit h
    rcases hk with hk | hk
    · exact hk ▸ haw e he hb
    · obtain ⟨hlt, hbit⟩ := getD_take_bit hk
      have hSe := haw e he hb
      cases hoe : ops[e.on]? with
      | none =>
        obtain ⟨t, ht, hl⟩ := masks_prefix ops []
        rw [List.getD_eq_getElem?_getD, List.getElem?_eq_none (by rw [ht]; simp [hl]; exact List.getElem?_eq_none_iff.1 hoe)] at hbit
        simp at hbit
      | some o' => exact ih e.on hlt k ⟨o', hoe, fun e' he' hb' => hS _ _ _ hSe hoe he' hb'⟩ hbit

/-! ## The effects of a list -/
theorem effsOf_append : ∀ (l m : List Ent) (n : Nat), effsOf n (l ++ m) = effsOf n l ++ effsOf (n + l.length) m := by
  intro l
  induction l with
  | nil => intro m n; simp [effsOf]
  | cons e l ih =>
    intro m n
    have hn : n + 1 + l.length = n + (e :: l).length := by rw [List.length_cons]; omega
    cases e <;> simp only [List.cons_append, effsOf, ih, hn]

theorem effsOf_mem : ∀ (l : List Ent) (n : Nat) (e : Eff), e ∈ effsOf n l → n ≤ e.i ∧ e.i < n + l.length ∧ l[e.i - n]? = some (.eff e.v e.B e.A e.mats) := by
  intro l
  induction l with
  | nil => intro n e h; simp [effsOf] at h
  | cons x l ih =>
    intro n e h
    have tail : e ∈ effsOf (n + 1) l → n ≤ e.i ∧ e.i < n + (x :: l).length ∧ (x :: l)[e.i - n]? = some (.eff e.v e.B e.A e.mats) := by
      intro h
      obtain ⟨h1, h2, h3⟩ := ih _ _ h
      refine ⟨by omega, by rw [List.length_cons]; omega, ?_⟩
      rw [show e.i - n = (e.i - (n + 1)) + 1 by omega, List.getElem?_cons_succ]
      exact h3
    cases x with
    | eff v B A m =>
      rw [effsOf, List.mem_cons] at h
      rcases h with rfl | h
      · simp
      · exact tail h
    | _ => exact tail h

/-- Where an effect stands. -/
theorem effs_at (L : List Ent) {i : Nat} {v : Value} {B A : AH} {m : List (Nat × Value)} (h : L[i]? = some (.eff v B A m)) : (effsOf 0 L)[(effsOf 0 (L.take i)).length]? = some ⟨i, v, B, A, m⟩ := by
  have hlt : i < L.length := (List.getElem?_eq_some_iff.1 h).1
  have hd : L.drop i = .eff v B A m :: L.drop (i + 1) := by
    rw [List.drop_eq_getElem_cons hlt]
    rw [List.getElem?_eq_getElem hlt] at h
    rw [Option.some.inj h]
  have := effsOf_append (L.take i) (L.drop i) 0
  rw [List.take_append_drop, hd] at this
  rw [this, List.getElem?_append_right (Nat.le_refl _), Nat.sub_self, effsOf, List.length_take, Nat.min_eq_left (Nat.le_of_lt hlt)]
  simp

theorem effs_pre (L : List Ent) (i : Nat) : (effsOf 0 L).take (effsOf 0 (L.take i)).length = effsOf 0 (L.take i) := by
  have := effsOf_append (L.take i) (L.drop i) 0
  rw [List.take_append_drop] at this
  rw [this, List.take_left']
  rfl

theorem effs_lt (L : List Ent) (i q : Nat) (e : Eff) (h : (effsOf 0 L)[q]? = some e) : e.i < i ↔ q < (effsOf 0 (L.take i)).length := by
  have ha := effsOf_append (L.take i) (L.drop i) 0
  rw [List.take_append_drop] at ha
  by_cases hi : i ≤ L.length
  · constructor
    · intro hlt
      rcases Nat.lt_or_ge q (effsOf 0 (L.take i)).length with hq | hq
      · exact hq
      · rw [ha, List.getElem?_append_right hq] at h
        have := (effsOf_mem _ _ _ (List.mem_of_getElem? h)).1
        rw [List.length_take, Nat.min_eq_left hi] at this
        omega
    · intro hq
      rw [ha, List.getElem?_append_left hq] at h
      have := (effsOf_mem _ _ _ (List.mem_of_getElem? h)).2.1
      rw [List.length_take, Nat.min_eq_left hi] at this
      omega
  · have hi' : L.length ≤ i := by omega
    rw [List.take_of_length_le hi']
    have h1 := (effsOf_mem _ _ _ (List.mem_of_getElem? h)).2.1
    have h2 := (List.getElem?_eq_some_iff.1 h).1
    constructor
    · intro _; exact h2
    · intro _; omega

theorem effs_get (L : List Ent) (q : Nat) (e : Eff) (h : (effsOf 0 L)[q]? = some e) : L[e.i]? = some (.eff e.v e.B e.A e.mats) := by
  have := (effsOf_mem _ _ _ (List.mem_of_getElem? h)).2.2
  simpa using this

theorem heapAfter_last {H0 : AH} {l : List Eff} {j : Nat} {e : Eff} (h : l[j]? = some e) : heapAfter H0 (l.take (j + 1)) = e.A := by
  unfold heapAfter
  have hlt := (List.getElem?_eq_some_iff.1 h).1
  have : (l.take (j + 1)).getLast? = some e := by
    rw [List.getLast?_eq_getElem?, List.length_take, Nat.min_eq_left (by omega), Nat.add_sub_cancel, List.getElem?_take_of_lt (Nat.lt_succ_self _)]
    exact h
  rw [this]

/-! ## What was laid into the heap -/
theorem matIn_of : ∀ {es : List Eff} {p : Nat} {v : Value} {q : Nat} {e : Eff}, es[q]? = some e → look p e.mats = some v → (∀ q' e', q' < q → es[q']? = some e' → look p e'.mats = none) → matIn es p = some v := by
  intro es
  induction es with
  | nil => intro p v q e h; simp at h
  | cons x es ih =>
    intro p v q e h hl hn
    cases q with
    | zero => simp at h; subst h; simp [matIn, hl]
    | succ q =>
      have := hn 0 x (by omega) (by simp)
      simp only [matIn, this]
      exact ih (by simpa using h) hl fun q' e' hq he => hn (q' + 1) e' (by omega) (by simpa using he)

theorem matDep_of : ∀ {dp : Dp} {i : Nat} {es : List Eff} {p : Nat} {v : Value}, matDep dp i es p = some v → ∃ (q : Nat) (e : Eff), es[q]? = some e ∧ look p e.mats = some v ∧ dp i e.i = true ∧ ∀ (q' : Nat) (e' : Eff), q' < q → es[q']? = some e' → look p e'.mats = none := by
  intro dp i es
  induction es with
  | nil => intro p v h; simp [matDep] at h
  | cons x es ih =>
    intro p v h
    simp only [matDep] at h
    split at h
    · rename_i u hu
      obtain ⟨hd, rfl⟩ := bif_some h
      exact ⟨0, x, by simp, hu, hd, fun q' _ h => absurd h (Nat.not_lt_zero _)⟩
    · rename_i hu
      obtain ⟨q, e, h1, h2, h3, h4⟩ := ih h
      refine ⟨q + 1, e, by simpa using h1, h2, h3, fun q' e' hq he => ?_⟩
      cases q' with
      | zero => simp at he; subst he; exact hu
      | succ q' => exact h4 q' e' (by omega) (by simpa using he)

theorem matIn_snoc (es : List Eff) (e : Eff) (p : Nat) : matIn (es ++ [e]) p = match matIn es p with | some v => some v | none => look p e.mats := by
  induction es with
  | nil => simp only [List.nil_append, matIn]; split <;> simp_all
  | cons x es ih =>
    simp only [List.cons_append, matIn]
    split
    · rfl
    · exact ih

/-! ## The pass -/
section
variable {P : Program} {N0 : Nat} {fns : Tr Func} {ext : ExtFn} {rcall : CallFn} {T0 : Tr Value} {H0 : AH} {dp : Dp} {ops : List Oper}
theorem pass_spec : ∀ (os : List Oper) (k : Nat) (l L : List Ent), k = l.length → pass P N0 fns ext rcall T0 H0 dp ops os k l = some L →
    (∃ t, L = l ++ t ∧ t.length = os.length) ∧ ∀ m o, os[m]? = some o → ∃ e, L[k + m]? = some e ∧ mkEnt P N0 fns ext rcall T0 H0 dp ops (L.take (k + m)) (k + m) o = some e := by
  intro os
  induction os with
  | nil => intro k l L hk h; cases h; exact ⟨⟨[], by simp, rfl⟩, fun m o h => by simp at h⟩
  | cons o os ih =>
    intro k l L hk h
    simp only [pass] at h
    split at h
    · cases h
    rename_i e he
    obtain ⟨⟨t, ht, hl⟩, h2⟩ := ih (k + 1) (l ++ [e]) L (by simp [hk]) h
    have hL : L = l ++ (e :: t) := by rw [ht, List.append_assoc]; rfl
    refine ⟨⟨e :: t, hL, by simp [hl]⟩, fun m o' hm => ?_⟩
    cases m with
    | zero =>
      simp at hm; subst hm
      refine ⟨e, by rw [hL, Nat.add_zero, hk]; simp, ?_⟩
      rw [Nat.add_zero, hL, hk, List.take_left', ← hk]
      · exact he
      · rfl
    | succ m =>
      obtain ⟨e', h3, h4⟩ := h2 m o' (by simpa using hm)
      rw [show k + (m + 1) = k + 1 + m by omega]
      exact ⟨e', h3, h4⟩
end

/-! ## No way stops short -/
def Lst (listed : Array Bool) (i : Nat) : Prop := listed.getD i false = true
theorem not_lst {listed : Array Bool} {i : Nat} (h : ¬ Lst listed i) (hi : i < listed.size) : listed.getD i true = false := by
  unfold Lst at h
  rw [Array.getD_eq_getD_getElem?, Array.getElem?_eq_getElem hi] at *
  simpa using h

def Unstuck (md : Region.Mode) (ops : Array Oper) : Prop := ∀ listed : Array Bool, listed.size = ops.size → Region.ready md ops listed = [] → ∀ i, i < ops.size → Lst listed i

theorem unstuck_text {md : Region.Mode} {ops : Array Oper} (h : ∀ i o, ops[i]? = some o → ∀ e ∈ o.after.toList, Region.binds md e = true → e.on < i) : Unstuck md ops := by
  intro listed hsz hr i
  induction i using Nat.strongRecOn with
  | ind i ih =>
    intro hi
    refine Classical.byContradiction fun hn => ?_
    have hmem : i ∈ Region.ready md ops listed := by
      rw [mem_ready]
      refine ⟨not_lst hn (by omega), ops[i], by simp [hi], fun e he hb => ?_⟩
      have hlt := h i ops[i] (by simp [hi]) e (by simpa using he) hb
      exact ih e.on hlt (by omega)
    rw [hr] at hmem
    cases hmem

theorem any_beq {l : List Nat} {i : Nat} (h : (l.any fun j => Nat.beq j i) = true) : i ∈ l := by
  rw [List.any_eq_true] at h
  obtain ⟨j, hj, he⟩ := h
  rw [Nat.eq_of_beq_eq_true he] at hj
  exact hj

theorem unstuck_ord {md : Region.Mode} {ops : Array Oper} {l : List Nat} (h : ordOk md ops [] l = true) : Unstuck md ops := by
  intro listed hsz hr
  have key : ∀ (l seen : List Nat), ordOk md ops seen l = true → (∀ i ∈ seen, Lst listed i) → ∀ i, i < ops.size → Lst listed i := by
    intro l
    induction l with
    | nil =>
      intro seen h hs i hi
      simp only [ordOk, List.all_eq_true, List.mem_range] at h
      exact hs i (any_beq (h i hi))
    | cons j l ih =>
      intro seen h hs
      simp only [ordOk, Bool.and_eq_true] at h
      obtain ⟨h1, h2⟩ := h
      refine ih _ h2 fun i hi => ?_
      rcases List.mem_cons.1 hi with rfl | hi
      · split at h1
        case h_2 => cases h1
        rename_i o ho
        refine Classical.byContradiction fun hn => ?_
        have hlt : i < ops.size := (Array.getElem?_eq_some_iff.1 ho).1
        have hmem : i ∈ Region.ready md ops listed := by
          rw [mem_ready]
          refine ⟨not_lst hn (by omega), o, ho, fun e he hb => ?_⟩
          rw [List.all_eq_true] at h1
          have := h1 e (by simpa using he)
          rw [hb] at this
          exact hs e.on (any_beq (by simpa using this))
        rw [hr] at hmem
        cases hmem
      · exact hs i hi
  exact key l [] h (fun i hi => by cases hi)

theorem modeOk_unstuck {md : Region.Mode} {ops : Array Oper} (h : modeOk md ops = true) : Unstuck md ops := by
  unfold modeOk at h
  rw [Bool.or_eq_true] at h
  rcases h with h | h
  · refine unstuck_text fun i o ho e he hb => ?_
    rw [List.all_eq_true] at h
    have hm : (o, i) ∈ ops.toList.zipIdx := by
      rw [List.mem_zipIdx_iff_getElem?]
      simpa using ho
    have := h _ hm
    simp only [List.all_eq_true] at this
    have := this e he
    rw [hb] at this
    exact lt_of_blt (by simpa using this)
  · exact unstuck_ord h
end Go.Ax
