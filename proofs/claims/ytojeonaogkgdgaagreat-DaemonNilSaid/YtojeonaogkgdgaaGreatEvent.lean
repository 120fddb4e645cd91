/-
  event (own work).
-/
import Derived.Test.YtojeonaogkgdgaaGreatTwin
import Derived.Deep.RegionHeld3
namespace Go.Proofs.YtojeonaogkgdgaaGreat
open Go Go.RowKit

/-- What event leaves. -/
def EvPost (k c n : Int) (w : World) (e : Ending) (w' : World) : Prop := (∃ u, e = .returned (.agg #[.int .u8 k, .int .i64 c, u, .int .i64 n])) ∧ Below w.heap.size w w'

def zv (j : Nat) : Value := (#[.int .u8 0, .int .i64 0, .slice none 0 0, .int .i64 0] : Array Value).getD j undef
def EvB (w w' : World) : Prop := Below w.heap.size w w' ∧ w.heap.size + 1 < w'.heap.size

/-- What is held while the region runs. -/
abbrev EvS (k c n : Int) (v : Value) (w w' : World) : Prop := w'.cell? ⟨w.heap.size, 0, none⟩ = some (.int .u8 k) ∧ w'.cell? ⟨w.heap.size, 1, none⟩ = some (.int .i64 c) ∧ w'.cell? ⟨w.heap.size, 2, none⟩ = some v ∧ w'.cell? ⟨w.heap.size, 3, none⟩ = some (.int .i64 n) ∧
  EvB w w' ∧ (∀ j, j < 4 → w'.cell? ⟨w.heap.size + 1, j, none⟩ = some (zv j)) ∧ (∀ j, w'.frozen? ⟨w.heap.size + 1, j, none⟩ = false)

theorem ev_start (k c n : Int) (v : Value) (w : World) : EvS k c n v w (((w.alloc (.cells #[.int .u8 k, .int .i64 c, v, .int .i64 n] 24)).alloc (.cells #[.int .u8 0, .int .i64 0, .slice none 0 0, .int .i64 0] 29))) := by
  have hh := heap_alloc_new (w.alloc (.cells #[.int .u8 k, .int .i64 c, v, .int .i64 n] 24)) (.cells #[.int .u8 0, .int .i64 0, .slice none 0 0, .int .i64 0] 29)
  simp only [World.size_alloc] at hh
  refine ⟨by simp [go_sem], by simp [go_sem], by simp [go_sem], by simp [go_sem], ⟨((Below.refl _ w).alloc (Nat.le_refl _) _).alloc (by simp) _, by simp⟩, fun j hj => ?_, fun j => ?_⟩
  · simp only [World.cell?, hh]
    match j, hj with
    | 0, _ => rfl
    | 1, _ => rfl
    | 2, _ => rfl
    | 3, _ => rfl
  · simp only [World.frozen?, hh]
    simp


theorem ev_below {k c n : Int} {v : Value} {w w1 w2 : World} (h : EvS k c n v w w1) (hb : Below w1.heap.size w1 w2) : EvS k c n v w w2 := by
  obtain ⟨h0, h1, h2, h3, ⟨h4, h5⟩, h6, h7⟩ := h
  have hlt : w.heap.size < w1.heap.size := by omega
  have hle : w.heap.size ≤ w1.heap.size := by omega
  refine ⟨by rw [hb.cell hlt]; exact h0, by rw [hb.cell hlt]; exact h1, by rw [hb.cell hlt]; exact h2, by rw [hb.cell hlt]; exact h3, ⟨h4.trans (hb.mono hle), Nat.lt_of_lt_of_le h5 hb.size⟩, fun j hj => by rw [hb.cell h5]; exact h6 j hj, fun j => by rw [hb.frozen h5]; exact h7 j⟩

theorem ev_drew {k c n : Int} {v : Value} {w w1 : World} (h : EvS k c n v w w1) : EvS k c n v w w1.drew := ev_below h (Below.refl _ w1).drew

set_option maxRecDepth 100000 in
theorem ev_twin (k c n : Int) (v : Value) (m : Nat) (news : List Value) (w : World) (hsrc : ∀ W', Below w.heap.size w W' → Src Tryz.prog 1 22 v m news W') (hn : m ≤ 281474976710656) (hl : news.length = m) :
    ∀ w1, EvS k c n v w w1 → Calls Tryz.prog 25 #[v] w1 fun e w' => (∃ p l c, e = .returned (.slice p l c)) ∧ EvS k c n v w w' := fun w1 h1 =>
    (twin_any w1 v m news (hsrc _ (h1.2.2.2.2.1.1.alloc (Nat.le_of_lt (Nat.lt_of_succ_lt h1.2.2.2.2.1.2)) _)) hn hl).mono fun _ _ h => ⟨h.1, ev_below h1 h.2⟩

/-- Behind the region. -/
theorem ev_end {k c n : Int} {v : Value} {w w' : World} {p : Option Addr} {l cc : Nat} {K : Act → World → Prop} {Q : Exit → Act → World → Prop} (h : EvS k c n v w w') (hK : ∀ (a : Act) (w_1 : World), Code.wp Tryz.prog Code.ret (bodyPost Tryz.prog Tryz.f6 (EvPost k c n w)) a w_1 → K a w_1) :
    Exit.then K Q Exit.normal
    { tmps :=
        #[Value.agg #[Value.int IntKind.u8 k, Value.int IntKind.i64 c, v, Value.int IntKind.i64 n],
          Value.pointer (some { block := w.heap.size, off := 0 }),
          Value.pointer (some { block := w.heap.size + 1, off := 0 }),
          Value.pointer (some { block := w.heap.size, off := 0 }), Value.int IntKind.u8 k,
          Value.pointer (some { block := w.heap.size, off := 1 }), Value.int IntKind.i64 c,
          Value.pointer (some { block := w.heap.size, off := 2 }), v, Value.slice p l cc,
          Value.pointer (some { block := w.heap.size, off := 3 }), Value.int IntKind.i64 n,
          Value.agg #[Value.int IntKind.u8 k, Value.int IntKind.i64 c, Value.slice p l cc, Value.int IntKind.i64 n]],
      defers := [] }
    ((((w'.setCell { block := w.heap.size + 1, off := 0 } (Value.int IntKind.u8 k)).setCell
              { block := w.heap.size + 1, off := 1 } (Value.int IntKind.i64 c)).setCell
          { block := w.heap.size + 1, off := 2 } (Value.slice p l cc)).setCell
      { block := w.heap.size + 1, off := 3 } (Value.int IntKind.i64 n)) := by
  refine hK _ _ ?_
  obtain ⟨h0, h1, h2, h3, ⟨hb, hr⟩, h5, h6⟩ := h
  have g0 := h5 0 (by omega)
  have g1 := h5 1 (by omega)
  have g2 := h5 2 (by omega)
  have g3 := h5 3 (by omega)
  have hbel : Below w.heap.size w ((((w'.setCell ⟨w.heap.size + 1, 0, none⟩ (.int .u8 k)).setCell ⟨w.heap.size + 1, 1, none⟩ (.int .i64 c)).setCell ⟨w.heap.size + 1, 2, none⟩ (.slice p l cc)).setCell ⟨w.heap.size + 1, 3, none⟩ (.int .i64 n)) :=
    (((hb.setCell (by simp) _).setCell (by simp) _).setCell (by simp) _).setCell (by simp) _
  go_wp2
  refine bodyPost_ret (v := .agg #[.int .u8 k, .int .i64 c, .slice p l cc, .int .i64 n]) ?_ rfl ⟨⟨_, rfl⟩, hbel⟩
  simp only [results, Tryz.f6]
  go_simp

set_option maxRecDepth 100000 in
set_option maxHeartbeats 4000000 in
theorem event_any (k c n : Int) (v : Value) (w : World) (htw : ∀ w1, EvS k c n v w w1 → Calls Tryz.prog 25 #[v] w1 fun e w' => (∃ p l c, e = .returned (.slice p l c)) ∧ EvS k c n v w w') :
    Calls Tryz.prog 6 #[.agg #[.int .u8 k, .int .i64 c, v, .int .i64 n]] w (EvPost k c n w) := by
  have hst := ev_start k c n v w
  go_enter Tryz.func6, Tryz.ntmps6
  go_wp2
  go_region_with (first | (go_at_call 25; refine (htw _ (by first | assumption | with_reducible exact ev_drew hst | with_reducible exact hst)).mono ?_; rintro e w' ⟨⟨p, l, cc, rfl⟩, hs'⟩))
  all_goals refine ev_end hs' ?_
  all_goals assumption
end Go.Proofs.YtojeonaogkgdgaaGreat
