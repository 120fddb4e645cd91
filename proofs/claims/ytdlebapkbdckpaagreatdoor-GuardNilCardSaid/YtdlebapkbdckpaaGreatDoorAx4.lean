/-
  Ax4: more operations that leave the heap as it is (own work).
-/
import Derived.Test.YtdlebapkbdckpaaGreatDoorAx3
namespace Go.Ax
open Go

section
variable {P : Program} {N0 : Nat} {ρ : Ren} {H : AH} {w : World} {ev ev' : Operand → Value}

theorem blt_true {a b : Nat} (h : a < b) : Nat.blt a b = true := Nat.blt_eq ▸ h
theorem blt_false {a b : Nat} (h : b ≤ a) : Nat.blt a b = false := by
  cases e : Nat.blt a b
  · rfl
  · rw [Nat.blt_eq] at e; omega
theorem lt_of_blt {a b : Nat} (h : Nat.blt a b = true) : a < b := Nat.blt_eq ▸ h
theorem le_of_blt {a b : Nat} (h : Nat.blt a b = false) : b ≤ a := by
  rcases Nat.lt_or_ge a b with h' | h'
  · rw [blt_true h'] at h; cases h
  · exact h'
theorem beq_false_of {a b : Nat} (h : a ≠ b) : Nat.beq a b = false := by
  cases hq : Nat.beq a b
  · rfl
  · exact absurd (Nat.eq_of_beq_eq_true hq) h

theorem cap_le {k o c c' B : Nat} (h : (c < B ∧ c' = c) ∨ (B ≤ c ∧ c % B ≤ c' ∧ o + c' * (c / B) ≤ k)) : (bif Nat.blt c B then c else c % B) ≤ c' := by
  rcases h with ⟨h1, rfl⟩ | ⟨h1, h2, _⟩
  · rw [blt_true h1]; exact Nat.le_refl _
  · rw [blt_false h1]; exact h2
theorem capR_le {k o c c' : Nat} (h : CapR k o c c') : (bif Nat.blt c BIG then c else c % BIG) ≤ c' := cap_le h

theorem cap_sub {c l B : Nat} (h : l ≤ c % B) (hB : 0 < B) : (c - l) % B = c % B - l ∧ (c - l) / B = c / B := by
  have hc := Nat.div_add_mod c B
  have hlt := Nat.mod_lt c hB
  have e : c - l = (c % B - l) + B * (c / B) := by omega
  rw [e, Nat.add_mul_mod_self_left, Nat.add_mul_div_left _ _ hB, Nat.mod_eq_of_lt (by omega), Nat.div_eq_of_lt (by omega)]
  omega
theorem big_pos : 0 < BIG := lt_of_blt (by decide)

/-! ### slices -/
/-- A bound: an integer from 0 to y. -/
def bndA (v : Value) (y : Nat) : Option Nat :=
  match v with
  | .int _ i => bif decide (0 ≤ i) && decide (i ≤ y) then some i.toNat else none
  | _ => none

theorem bndA_rel {v v' : Value} (hv : VR ρ H.next v v') {y y' : Nat} (hy : y ≤ y') {n : Nat} (h : bndA v y = some n) (code : BoundsCode) :
    (Instr.sliceBound v' y' code).run P w = .ok n w ∧ n ≤ y := by
  unfold bndA at h
  split at h
  · rename_i k i
    obtain rfl := hv.inv_int
    cases hb : (decide (0 ≤ i) && decide (i ≤ (y : Int))) <;> simp only [hb, cond_true, cond_false] at h
    · cases h
    · simp only [Bool.and_eq_true, decide_eq_true_eq] at hb
      simp only [Option.some.injEq] at h
      subst h
      have h2 : i ≤ (y' : Int) := by omega
      exact ⟨by simp [Instr.sliceBound, asIntOf, hb.1, h2], by omega⟩
  · cases h

def obndA (v : Option Value) (d y : Nat) : Option Nat :=
  match v with
  | none => some d
  | some v => bndA v y

/-- x[lo:hi] of a slice (no max): what stands where, and what room is left. -/
def aSlice2 (P : Program) (t : TypeId) (v : Value) (lo hi : Option Value) : Option SRes :=
  match P.underlying t, v with
  | some (.slice elem), .slice (some ⟨b, o, _⟩) len cap =>
    bif Nat.blt o BIG then
      match szA P elem with
      | none => none
      | some s =>
        bif Nat.blt cap BIG then
          match obndA hi len cap with
          | none => none
          | some h =>
            match obndA lo 0 h with
            | none => none
            | some l => some (.val (.slice (some ⟨b, bif Nat.beq cap l then o else o + l * s, none⟩) (h - l) (cap - l)))
        else
          match obndA hi len (cap % BIG) with
          | none => none
          | some h =>
            match obndA lo 0 h with
            | none => none
            | some l =>
              bif Nat.beq (cap / BIG) s && Nat.ble l (cap % BIG) && (Nat.blt l (cap % BIG) || Nat.beq l 0) then some (.val (.slice (some ⟨b, o + l * s, none⟩) (h - l) (cap - l)))
              else bif Nat.beq h l && Nat.beq (cap % BIG) l then some (.val (.slice (some ⟨b, BIG, none⟩) 0 BIG)) else none
    else none
  | some (.slice elem), .slice none len cap =>
    match szA P elem with
    | none => none
    | some _ =>
      match obndA hi len cap with
      | none => none
      | some h =>
        match obndA lo 0 h with
        | none => none
        | some l => some (.val (.slice none (h - l) (cap - l)))
  | some (.array n elem), .pointer (some ⟨b, o, _⟩) =>
    match szA P elem with
    | none => none
    | some s =>
      match obndA hi n n with
      | none => none
      | some h =>
        match obndA lo 0 h with
        | none => none
        | some l => bif Nat.blt n BIG then some (.val (.slice (some ⟨b, bif Nat.beq n l then o else o + l * s, none⟩) (h - l) (n - l))) else none
  | _, _ => none

theorem bounds_rel {lo hi lo' hi' : Option Value} (hlo : ∀ v, lo = some v → ∃ v', lo' = some v' ∧ VR ρ H.next v v') (nlo : lo = none → lo' = none)
    (hhi : ∀ v, hi = some v → ∃ v', hi' = some v' ∧ VR ρ H.next v v') (nhi : hi = none → hi' = none) {isS : Bool} {len cap cap' h l : Nat} (hc : cap ≤ cap')
    (e1 : obndA hi len cap = some h) (e2 : obndA lo 0 h = some l) :
    (Instr.sliceBounds isS len cap' lo' hi' none).run P w = .ok (l, h, cap') w ∧ l ≤ h ∧ (hi ≠ none → h ≤ cap) ∧ (hi = none → h = len) := by
  cases hi with
  | none =>
    obtain rfl := nhi rfl
    simp only [obndA, Option.some.injEq] at e1
    subst e1
    cases lo with
    | none =>
      obtain rfl := nlo rfl
      simp only [obndA, Option.some.injEq] at e2
      subst e2
      exact ⟨by simp [Instr.sliceBounds], by omega, by simp, by simp⟩
    | some v =>
      obtain ⟨v', rfl, hv⟩ := hlo v rfl
      obtain ⟨h3, h4⟩ := bndA_rel (P := P) (w := w) hv (Nat.le_refl _) e2 .sliceB
      exact ⟨by simp [Instr.sliceBounds, h3], h4, by simp, by simp⟩
  | some u =>
    obtain ⟨u', rfl, hu⟩ := hhi u rfl
    cases lo with
    | none =>
      obtain rfl := nlo rfl
      simp only [obndA, Option.some.injEq] at e2
      subst e2
      have := fun c => (bndA_rel (P := P) (w := w) hu hc e1 c)
      refine ⟨?_, by omega, fun _ => (this .index).2, by simp⟩
      simp only [Instr.sliceBounds]
      simp [(this _).1]
    | some v =>
      obtain ⟨v', rfl, hv⟩ := hlo v rfl
      have := fun c => (bndA_rel (P := P) (w := w) hu hc e1 c)
      have g := fun c => (bndA_rel (P := P) (w := w) hv (Nat.le_refl _) e2 c)
      refine ⟨?_, (g .index).2, fun _ => (this .index).2, by simp⟩
      simp only [Instr.sliceBounds]
      simp [(this _).1, (g _).1]

theorem aSlice2_sound {t : TypeId} {v v' : Value} (hv : VR ρ H.next v v') {lo hi lo' hi' : Option Value} (hlo : ∀ v, lo = some v → ∃ v', lo' = some v' ∧ VR ρ H.next v v') (nlo : lo = none → lo' = none)
    (hhi : ∀ v, hi = some v → ∃ v', hi' = some v' ∧ VR ρ H.next v v') (nhi : hi = none → hi' = none) {r : SRes} (h : aSlice2 P t v lo hi = some r) :
    SOk P ρ H.next w (do pure (.value (← Instr.sliceAt t v' lo' hi' none))) r := by
  unfold aSlice2 at h
  split at h
  · rename_i elem b o sp len cap ht
    cases hob : Nat.blt o BIG <;> simp only [hob, cond_true, cond_false] at h
    · cases h
    have hob' : o < BIG := lt_of_blt hob
    split at h
    · cases h
    rename_i s hs
    obtain ⟨_, hb, hx⟩ := hv.inv_sl
    rcases hx with ⟨c', rfl, hcr⟩ | ⟨hbig, _⟩
    case inr => simp only at hbig; omega
    cases hcb : Nat.blt cap BIG <;> simp only [hcb, cond_true, cond_false] at h
    · -- a capacity that is not known
      have hcb' : BIG ≤ cap := le_of_blt hcb
      rcases hcr with ⟨h1, _⟩ | ⟨_, hle, hfit⟩
      · omega
      simp only at hfit
      split at h
      · cases h
      rename_i h0 e1
      split at h
      · cases h
      rename_i l e2
      obtain ⟨hrun, hlh, hh1, hh2⟩ := bounds_rel (P := P) (w := w) (isS := true) hlo nlo hhi nhi hle e1 e2
      have base : ∀ (a : Addr), (if c' = l then (⟨ρ b, o, none⟩ : Addr) else (⟨ρ b, o, none⟩ : Addr).add (l * s)) = a →
          (Instr.sliceAt t (.slice (some ⟨ρ b, o, none⟩) len c') lo' hi' none).run P w = .ok (.slice (some a) (h0 - l) (c' - l)) w := by
        intro a ha
        simp only [Instr.sliceAt, Instr.slice, Sem.run_bind, run_underlying_of ht, Result.andThen_ok, hrun, run_sizeOf_of hs, Sem.run_pure]
        subst ha
        by_cases e : c' = l <;> simp [e]
      cases hc1 : (Nat.beq (cap / BIG) s && Nat.ble l (cap % BIG) && (Nat.blt l (cap % BIG) || Nat.beq l 0)) <;> simp only [hc1, cond_true, cond_false] at h
      · cases hc2 : (Nat.beq h0 l && Nat.beq (cap % BIG) l) <;> simp only [hc2, cond_true, cond_false] at h
        · cases h
        simp only [Bool.and_eq_true, Nat.beq_eq] at hc2
        cases h
        obtain ⟨rfl, hcl⟩ := hc2
        by_cases e : c' = h0
        · refine ⟨.slice (some ⟨ρ b, o, none⟩) 0 (c' - h0), ?_, .slz b o _ hb⟩
          rw [Sem.run_bind, base _ (if_pos e)]
          simp
        · refine ⟨.slice (some ⟨ρ b, o + h0 * s, none⟩) 0 (c' - h0), ?_, .slz b _ _ hb⟩
          rw [Sem.run_bind, base _ (if_neg e), add_none]
          simp
      · cases h
        simp only [Bool.and_eq_true, Bool.or_eq_true, Nat.blt_eq, Nat.beq_eq] at hc1
        obtain ⟨⟨hg, hl1⟩, hl2⟩ := hc1
        have hl1' : l ≤ cap % BIG := Nat.le_of_ble_eq_true hl1
        have ha : (if c' = l then (⟨ρ b, o, none⟩ : Addr) else (⟨ρ b, o, none⟩ : Addr).add (l * s)) = ⟨ρ b, o + l * s, none⟩ := by
          rw [add_none]
          split
          · rename_i e
            have : l = 0 := by omega
            subst this; simp
          · rfl
        obtain ⟨q1, q2⟩ := cap_sub hl1' big_pos
        refine ⟨.slice (some ⟨ρ b, o + l * s, none⟩) (h0 - l) (c' - l), ?_, .sl b _ _ _ _ hb (.inr ⟨?_, ?_, ?_⟩)⟩
        · rw [Sem.run_bind, base _ ha]; simp
        · have := Nat.mod_le cap BIG
          have hd := Nat.div_add_mod cap BIG
          have h1 : 1 ≤ cap / BIG := (Nat.le_div_iff_mul_le big_pos).2 (by omega)
          have h2 : BIG * 1 ≤ BIG * (cap / BIG) := Nat.mul_le_mul_left _ h1
          omega
        · rw [q1]; omega
        · rw [q2, hg]
          rw [hg] at hfit
          have : l * s + (c' - l) * s = c' * s := by rw [← Nat.add_mul]; congr 1; omega
          omega
    · have hcb' : cap < BIG := lt_of_blt hcb
      rcases hcr with ⟨_, ec⟩ | ⟨h1, _⟩
      case inr => omega
      rw [ec]
      split at h
      · cases h
      rename_i h0 e1
      split at h
      · cases h
      rename_i l e2
      obtain ⟨hrun, hlh, hh1, hh2⟩ := bounds_rel (P := P) (w := w) (isS := true) hlo nlo hhi nhi (Nat.le_refl _) e1 e2
      cases h
      refine ⟨.slice (some ⟨ρ b, bif Nat.beq cap l then o else o + l * s, none⟩) (h0 - l) (cap - l), ?_, .sl b _ _ _ _ hb (.inl ⟨by omega, rfl⟩)⟩
      simp only [Instr.sliceAt, Instr.slice, Sem.run_bind, run_underlying_of ht, Result.andThen_ok, hrun, run_sizeOf_of hs, Sem.run_pure]
      by_cases e : cap = l
      · subst e; simp
      · have : Nat.beq cap l = false := by
          cases hq : Nat.beq cap l
          · rfl
          · exact absurd (Nat.eq_of_beq_eq_true hq) e
        simp [e, this, add_none]
  · rename_i elem len cap ht
    split at h
    · cases h
    rename_i s hs
    split at h
    · cases h
    rename_i h0 e1
    split at h
    · cases h
    rename_i l e2
    cases h
    obtain rfl := hv.inv_slnil
    obtain ⟨hrun, hlh, hh1, hh2⟩ := bounds_rel (P := P) (w := w) (isS := true) hlo nlo hhi nhi (Nat.le_refl _) e1 e2
    refine ⟨.slice none (h0 - l) (cap - l), ?_, .slnil _ _⟩
    simp only [Instr.sliceAt, Instr.slice, Sem.run_bind, run_underlying_of ht, Result.andThen_ok, hrun, run_sizeOf_of hs, Sem.run_pure]
    by_cases e : cap = l <;> simp [e]
  · rename_i n elem b o sp ht
    split at h
    · cases h
    rename_i s hs
    split at h
    · cases h
    rename_i h0 e1
    split at h
    · cases h
    rename_i l e2
    cases hcb : Nat.blt n BIG <;> simp only [hcb, cond_true, cond_false] at h
    · cases h
    cases h
    have hcb' : n < BIG := lt_of_blt hcb
    obtain ⟨_, hb, rfl⟩ := hv.inv_ptr
    obtain ⟨hrun, hlh, hh1, hh2⟩ := bounds_rel (P := P) (w := w) (isS := false) hlo nlo hhi nhi (Nat.le_refl _) e1 e2
    refine ⟨.slice (some ⟨ρ b, bif Nat.beq n l then o else o + l * s, none⟩) (h0 - l) (n - l), ?_, .sl b _ _ _ _ hb (.inl ⟨by omega, rfl⟩)⟩
    simp only [Instr.sliceAt, Instr.sureAddr, Sem.run_bind, run_underlying_of ht, Result.andThen_ok, hrun, run_sizeOf_of hs, Sem.run_pure]
    by_cases e : n = l
    · subst e; simp
    · have : Nat.beq n l = false := by
        cases hq : Nat.beq n l
        · rfl
        · exact absurd (Nat.eq_of_beq_eq_true hq) e
      simp [e, this, add_none]
  · cases h

/-- x[lo:hi:max] of a slice. -/
def aSlice3 (P : Program) (t : TypeId) (v : Value) (lo : Option Value) (hi mx : Value) : Option SRes :=
  match P.underlying t, v with
  | some (.slice elem), .slice (some ⟨b, o, _⟩) _ cap =>
    bif Nat.blt o BIG then
      match szA P elem with
      | none => none
      | some s =>
        match bndA mx (bif Nat.blt cap BIG then cap else cap % BIG) with
        | none => none
        | some m =>
          bif Nat.blt m BIG then
            match bndA hi m with
            | none => none
            | some h =>
              match obndA lo 0 h with
              | none => none
              | some l => some (.val (.slice (some ⟨b, bif Nat.beq m l then o else o + l * s, none⟩) (h - l) (m - l)))
          else none
    else none
  | some (.slice elem), .slice none _ cap =>
    match szA P elem with
    | none => none
    | some _ =>
      match bndA mx cap with
      | none => none
      | some m =>
        match bndA hi m with
        | none => none
        | some h =>
          match obndA lo 0 h with
          | none => none
          | some l => some (.val (.slice none (h - l) (m - l)))
  | _, _ => none

theorem bounds3_rel {lo lo' : Option Value} {hi mx hi' mx' : Value} (hlo : ∀ v, lo = some v → ∃ v', lo' = some v' ∧ VR ρ H.next v v') (nlo : lo = none → lo' = none)
    (hhi : VR ρ H.next hi hi') (hmx : VR ρ H.next mx mx') {len cap cap' m h l : Nat} (hc : cap ≤ cap')
    (e0 : bndA mx cap = some m) (e1 : bndA hi m = some h) (e2 : obndA lo 0 h = some l) :
    (Instr.sliceBounds true len cap' lo' (some hi') (some mx')).run P w = .ok (l, h, m) w ∧ l ≤ h ∧ h ≤ m ∧ m ≤ cap := by
  have a0 := fun c => (bndA_rel (P := P) (w := w) hmx hc e0 c)
  have a1 := fun c => (bndA_rel (P := P) (w := w) hhi (Nat.le_refl m) e1 c)
  cases lo with
  | none =>
    obtain rfl := nlo rfl
    simp only [obndA, Option.some.injEq] at e2
    subst e2
    exact ⟨by simp [Instr.sliceBounds, (a0 _).1, (a1 _).1], by omega, (a1 .index).2, (a0 .index).2⟩
  | some v =>
    obtain ⟨v', rfl, hv⟩ := hlo v rfl
    have g := fun c => (bndA_rel (P := P) (w := w) hv (Nat.le_refl _) e2 c)
    exact ⟨by simp [Instr.sliceBounds, (a0 _).1, (a1 _).1, (g _).1], (g .index).2, (a1 .index).2, (a0 .index).2⟩

theorem aSlice3_sound {t : TypeId} {v v' : Value} (hv : VR ρ H.next v v') {lo lo' : Option Value} {hi mx hi' mx' : Value} (hlo : ∀ v, lo = some v → ∃ v', lo' = some v' ∧ VR ρ H.next v v') (nlo : lo = none → lo' = none)
    (hhi : VR ρ H.next hi hi') (hmx : VR ρ H.next mx mx') {r : SRes} (h : aSlice3 P t v lo hi mx = some r) :
    SOk P ρ H.next w (do pure (.value (← Instr.sliceAt t v' lo' (some hi') (some mx')))) r := by
  unfold aSlice3 at h
  split at h
  · rename_i elem b o sp len cap ht
    cases hob : Nat.blt o BIG <;> simp only [hob, cond_true, cond_false] at h
    · cases h
    have hob' : o < BIG := lt_of_blt hob
    split at h
    · cases h
    rename_i s hs
    obtain ⟨_, hb, hx⟩ := hv.inv_sl
    rcases hx with ⟨c', rfl, hcr⟩ | ⟨hbig, _⟩
    case inr => simp only at hbig; omega
    split at h
    · cases h
    rename_i m e0
    have hle : (bif Nat.blt cap BIG then cap else cap % BIG) ≤ c' := capR_le hcr
    cases hmb : Nat.blt m BIG <;> simp only [hmb, cond_true, cond_false] at h
    · cases h
    have hmb' : m < BIG := lt_of_blt hmb
    split at h
    · cases h
    rename_i h0 e1
    split at h
    · cases h
    rename_i l e2
    cases h
    obtain ⟨hrun, hlh, hhm, hmc⟩ := bounds3_rel (P := P) (w := w) (len := len) hlo nlo hhi hmx hle e0 e1 e2
    refine ⟨.slice (some ⟨ρ b, bif Nat.beq m l then o else o + l * s, none⟩) (h0 - l) (m - l), ?_, .sl b _ _ _ _ hb (.inl ⟨by omega, rfl⟩)⟩
    simp only [Instr.sliceAt, Instr.slice, Sem.run_bind, run_underlying_of ht, Result.andThen_ok, hrun, run_sizeOf_of hs, Sem.run_pure]
    by_cases e : m = l
    · subst e; simp
    · have : Nat.beq m l = false := by
        cases hq : Nat.beq m l
        · rfl
        · exact absurd (Nat.eq_of_beq_eq_true hq) e
      simp [e, this, add_none]
  · rename_i elem len cap ht
    split at h
    · cases h
    rename_i s hs
    split at h
    · cases h
    rename_i m e0
    split at h
    · cases h
    rename_i h0 e1
    split at h
    · cases h
    rename_i l e2
    cases h
    obtain rfl := hv.inv_slnil
    obtain ⟨hrun, hlh, hhm, hmc⟩ := bounds3_rel (P := P) (w := w) (len := len) hlo nlo hhi hmx (Nat.le_refl _) e0 e1 e2
    refine ⟨.slice none (h0 - l) (m - l), ?_, .slnil _ _⟩
    simp only [Instr.sliceAt, Instr.slice, Sem.run_bind, run_underlying_of ht, Result.andThen_ok, hrun, run_sizeOf_of hs, Sem.run_pure]
    by_cases e : m = l <;> simp [e]
  · cases h
end
end Go.Ax
