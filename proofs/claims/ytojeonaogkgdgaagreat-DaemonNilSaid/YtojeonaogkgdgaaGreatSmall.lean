/-
  Small walks (own work).
-/
import Derived.Test.YtojeonaogkgdgaaGreatNil
import Derived.WalkKit
import Derived.WalkSpells
import Derived.WalkLawsBesides
namespace Go.Proofs.YtojeonaogkgdgaaGreat
open Go Go.RowKit

set_option maxHeartbeats 400000 in
theorem is_any (n : Int) (w : World) : Calls Tryz.prog 17 #[.int .i64 n] w fun e w' => e = .returned (.bool (decide (0 ≤ n) && decide (n < 63))) ∧ w' = w := by
  go_enter Tryz.func17, Tryz.ntmps17
  go_wp2
  all_goals go_ret
  all_goals rename_i h
  · simp [h]
  · simp [show ¬ (0 ≤ n) by omega]

set_option maxHeartbeats 400000 in
theorem form_any (n : Int) (w : World) : Calls Tryz.prog 18 #[.int .i64 n] w fun e w' => e = .returned (.bool (decide (0 ≤ n) && decide (n ≤ 4611686018427387903))) ∧ w' = w := by
  go_enter Tryz.func18, Tryz.ntmps18
  go_wp2
  all_goals go_ret
  all_goals rename_i h
  · simp [h]
  · simp [show ¬ (0 ≤ n) by omega]

set_option maxHeartbeats 400000 in
theorem form2_any (n : Int) (w : World) : Calls Tryz.prog 26 #[.int .i64 n] w fun e w' => e = .returned (.bool (decide (0 ≤ n) && decide (n ≤ 4611686018427387903))) ∧ w' = w := by
  go_enter Tryz.func26, Tryz.ntmps26
  go_wp2
  all_goals go_ret
  all_goals rename_i h
  · simp [h]
  · simp [show ¬ (0 ≤ n) by omega]

def Bad (k c n : Int) : Prop := k < 1 ∨ 6 < k ∨ (k ≤ 4 ∧ ¬ (0 ≤ c ∧ c < 63)) ∨ (k = 5 ∧ ¬ (0 ≤ n ∧ n ≤ 4611686018427387903))
open Classical in
noncomputable def ans (k c n : Int) : Int := if Bad k c n then 1 else 7
theorem ans_bad {k c n : Int} (h : Bad k c n) : ans k c n = 1 := by unfold ans; rw [if_pos h]
theorem ans_good {k c n : Int} (h : ¬ Bad k c n) : ans k c n = 7 := by unfold ans; rw [if_neg h]

set_option maxHeartbeats 1000000 in
theorem do_nil (k c n : Int) (d : Value) (w : World) : Calls Tryz.prog 5 #[.pointer none, .agg #[.int .u8 k, .int .i64 c, d, .int .i64 n]] w fun e w' => e = .returned (.int .i64 (ans k c n)) ∧ Below w.heap.size w w' := by
  go_enter Tryz.func5, Tryz.ntmps5
  go_wp2_with (first | (go_at_call 17; refine (is_any _ _).mono ?_; rintro e w' ⟨rfl, rfl⟩) | (go_at_call 18; refine (form_any _ _).mono ?_; rintro e w' ⟨rfl, rfl⟩))
  all_goals go_ret
  all_goals refine ⟨?_, (Below.refl _ w).alloc (Nat.le_refl _) _⟩
  all_goals (try simp only [Bool.not_eq_true', decide_eq_false_iff_not, Bool.not_eq_false', decide_eq_true_eq] at *)
  all_goals first
    | (rw [ans_bad (by unfold Bad; omega)]; rfl)
    | (rw [ans_good (by unfold Bad; omega)]; rfl)

set_option maxHeartbeats 1000000 in
theorem docdo_nil (k c n : Int) (d : Value) (w : World) : Calls Tryz.prog 7 #[.pointer none, .agg #[.int .u8 k, .int .i64 c, d, .int .i64 n]] w fun e w' => e = .returned (.int .i64 (ans k c n)) ∧ Below w.heap.size w w' := by
  go_enter Tryz.func7, Tryz.ntmps7
  go_wp2_with (first | (go_at_call 26; refine (form2_any _ _).mono ?_; rintro e w' ⟨rfl, rfl⟩))
  all_goals go_ret
  all_goals refine ⟨?_, (Below.refl _ w).alloc (Nat.le_refl _) _⟩
  all_goals (try simp only [Bool.not_eq_true', decide_eq_false_iff_not, Bool.not_eq_false', decide_eq_true_eq] at *)
  all_goals first
    | (rw [ans_bad (by unfold Bad; omega)]; rfl)
    | (rw [ans_good (by unfold Bad; omega)]; rfl)
end Go.Proofs.YtojeonaogkgdgaaGreat
