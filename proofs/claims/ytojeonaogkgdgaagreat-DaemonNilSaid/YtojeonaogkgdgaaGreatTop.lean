/-
  The law (own work).
-/
import Derived.Test.YtojeonaogkgdgaaGreatSmall
import Derived.Test.YtojeonaogkgdgaaGreatEvent
import Derived.Deep.RegionHeld3
namespace Go.Proofs.YtojeonaogkgdgaaGreat
open Go Go.RowKit

def BoxB (w w' : World) : Prop := Below w.heap.size w w' ∧ w.heap.size < w'.heap.size

/-- The argument's own block. -/
abbrev BoxS (k c n : Int) (v : Value) (w w' : World) : Prop := w'.cell? ⟨w.heap.size, 0, none⟩ = some (.int .u8 k) ∧ w'.cell? ⟨w.heap.size, 1, none⟩ = some (.int .i64 c) ∧ w'.cell? ⟨w.heap.size, 2, none⟩ = some v ∧ w'.cell? ⟨w.heap.size, 3, none⟩ = some (.int .i64 n) ∧ BoxB w w'

theorem box_start (k c n : Int) (v : Value) (w : World) : BoxS k c n v w (w.alloc (.cells #[.int .u8 k, .int .i64 c, v, .int .i64 n] 24)) :=
  ⟨by simp [go_sem], by simp [go_sem], by simp [go_sem], by simp [go_sem], (Below.refl _ w).alloc (Nat.le_refl _) _, by simp⟩

theorem box_go {k c n : Int} {v : Value} {w w1 w2 : World} (h : BoxS k c n v w w1) (hb : Below w1.heap.size w1 w2) : BoxS k c n v w w2 :=
  have hlt : w.heap.size < w1.heap.size := h.2.2.2.2.2
  ⟨by rw [hb.cell hlt]; exact h.1, by rw [hb.cell hlt]; exact h.2.1, by rw [hb.cell hlt]; exact h.2.2.1, by rw [hb.cell hlt]; exact h.2.2.2.1, h.2.2.2.2.1.trans (hb.mono (Nat.le_of_lt hlt)), Nat.lt_of_lt_of_le hlt hb.size⟩

theorem box_drew {k c n : Int} {v : Value} {w w1 : World} (h : BoxS k c n v w w1) : BoxS k c n v w w1.drew := box_go h (Below.refl _ w1).drew

theorem lift {k c n : Int} {v : Value} {w w1 : World} {f : FuncId} {args : Array Value} {r : Value} (h : BoxS k c n v w w1) (hc : Calls Tryz.prog f args w1 fun e w' => e = .returned r ∧ Below w1.heap.size w1 w') : Calls Tryz.prog f args w1 fun e w' => e = .returned r ∧ BoxS k c n v w w' :=
  hc.mono fun _ _ hh => ⟨hh.1, box_go h hh.2⟩

theorem awake_b (w : World) : Calls Tryz.prog 4 #[] w fun e w' => e = .returned (.bool true) ∧ Below w.heap.size w w' := (awake_true w).mono fun _ _ h => ⟨h.1, h.2.below⟩

set_option maxRecDepth 100000 in
set_option maxHeartbeats 2000000 in
theorem law_any (k c n : Int) (v : Value) (w : World) (hev : ∀ w', BoxS k c n v w w' → Calls Tryz.prog 6 #[.agg #[.int .u8 k, .int .i64 c, v, .int .i64 n]] w' (fun e w'' => (∃ u, e = .returned (.agg #[.int .u8 k, .int .i64 c, u, .int .i64 n])) ∧ BoxS k c n v w w'')) :
    Calls Tryz.prog 3 #[.agg #[.int .u8 k, .int .i64 c, v, .int .i64 n]] w fun e w' => e = .returned (.bool true) ∧ Below w.heap.size w w' := by
  have hst := box_start k c n v w
  go_enter Tryz.func3, Tryz.ntmps3
  go_wp2
  go_region_held3 (fun w' => w'.cell? ⟨w.heap.size, 0, none⟩ = some (.int .u8 k) ∧ w'.cell? ⟨w.heap.size, 1, none⟩ = some (.int .i64 c) ∧ w'.cell? ⟨w.heap.size, 2, none⟩ = some v ∧ w'.cell? ⟨w.heap.size, 3, none⟩ = some (.int .i64 n) ∧ BoxB w w')
    (first | assumption | with_reducible exact hst | with_reducible exact box_drew hst)
    (first
      | (go_at_call 4; refine (lift (by first | assumption | with_reducible exact box_drew hst | with_reducible exact hst) (awake_b _)).mono ?_; rintro e w' ⟨rfl, hs'⟩)
      | (go_at_call 6; refine (hev _ (by first | assumption | with_reducible exact box_drew hst | with_reducible exact hst)).mono ?_; rintro e w' ⟨⟨u, rfl⟩, hs'⟩)
      | (go_at_call 5; refine (lift (by first | assumption | with_reducible exact box_drew hst | with_reducible exact hst) (do_nil _ _ _ _ _)).mono ?_; rintro e w' ⟨rfl, hs'⟩)
      | (go_at_call 7; refine (lift (by first | assumption | with_reducible exact box_drew hst | with_reducible exact hst) (docdo_nil _ _ _ _ _)).mono ?_; rintro e w' ⟨rfl, hs'⟩)
      | (go_at_call 8; refine (lift (by first | assumption | with_reducible exact box_drew hst | with_reducible exact hst) (out_nil _ _)).mono ?_; rintro e w' ⟨rfl, hs'⟩)
      | (go_at_call 9; refine (lift (by first | assumption | with_reducible exact box_drew hst | with_reducible exact hst) (state_nil _ _)).mono ?_; rintro e w' ⟨rfl, hs'⟩)
      | (go_at_call 10; refine (lift (by first | assumption | with_reducible exact box_drew hst | with_reducible exact hst) (ledger_nil _ _)).mono ?_; rintro e w' ⟨rfl, hs'⟩)
      | (go_at_call 11; refine (lift (by first | assumption | with_reducible exact box_drew hst | with_reducible exact hst) (cells_nil _)).mono ?_; rintro e w' ⟨rfl, hs'⟩)
      | (go_at_call 12; refine (lift (by first | assumption | with_reducible exact box_drew hst | with_reducible exact hst) (steps_nil _)).mono ?_; rintro e w' ⟨rfl, hs'⟩)
      | (go_at_call 13; refine (lift (by first | assumption | with_reducible exact box_drew hst | with_reducible exact hst) (quiet_nil _)).mono ?_; rintro e w' ⟨rfl, hs'⟩))
  go_wp2
  go_ret
  exact ⟨rfl, hs'.2.2.2.2.1⟩
end Go.Proofs.YtojeonaogkgdgaaGreat
