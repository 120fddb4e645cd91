/-
  The calls at a nil daemon whose answers are plain (own work).
-/
import Derived.Test.YtojeonaogkgdgaaGreatAwake
import Derived.Test.YtojeonaogkgdgaaGreatAx24
namespace Go.Proofs.YtojeonaogkgdgaaGreat
open Go Go.Ax Go.RowKit

noncomputable def nilfl : List (Nat × Func) := [(8, Tryz.f8), (9, Tryz.f9), (10, Tryz.f10), (11, Tryz.f11), (12, Tryz.f12), (13, Tryz.f13), (19, Tryz.f19), (17, Tryz.f17)]
theorem nm10 : (Tryz.f10.name == "runtime.NumGoroutine") = false := by kernel_rfl
theorem nm11 : (Tryz.f11.name == "runtime.NumGoroutine") = false := by kernel_rfl
theorem nilfns_ok : FnsOk Tryz.prog (tabOf nilfl) := fnsOk_of (ok_cons Tryz.func8 rfl nm8 (ok_cons Tryz.func9 rfl nm9 (ok_cons Tryz.func10 rfl nm10 (ok_cons Tryz.func11 rfl nm11 (ok_cons Tryz.func12 rfl nm12 (ok_cons Tryz.func13 rfl nm13 (ok_cons Tryz.func19 rfl nm19 (ok_cons Tryz.func17 rfl nm17 (ok_nil _)))))))))

theorem two_args (x : Value) : All2 ArgR [.pointer none, undef] [.pointer none, x] := .cons (.inr ⟨rfl, by kernel_rfl⟩) (.cons (.inl rfl) .nil)
theorem one_arg : All2 ArgR [.pointer none] [.pointer none] := .cons (.inr ⟨rfl, by kernel_rfl⟩) .nil

theorem out_nil (x : Value) (w : World) : Calls Tryz.prog 8 #[.pointer none, x] w fun e w' => e = .returned (.slice none 0 0) ∧ Below w.heap.size w w' :=
  calls_plain (N0 := 0) (n := 300) nilfns_ok (noExt_ok _ _) (two_args x) (by kernel_rfl) w
theorem state_nil (x : Value) (w : World) : Calls Tryz.prog 9 #[.pointer none, x] w fun e w' => e = .returned (.int .i64 0) ∧ Below w.heap.size w w' :=
  calls_plain (N0 := 0) (n := 300) nilfns_ok (noExt_ok _ _) (two_args x) (by kernel_rfl) w
theorem ledger_nil (x : Value) (w : World) : Calls Tryz.prog 10 #[.pointer none, x] w fun e w' => e = .returned (.slice none 0 0) ∧ Below w.heap.size w w' :=
  calls_plain (N0 := 0) (n := 300) nilfns_ok (noExt_ok _ _) (two_args x) (by kernel_rfl) w
theorem cells_nil (w : World) : Calls Tryz.prog 11 #[.pointer none] w fun e w' => e = .returned (.slice none 0 0) ∧ Below w.heap.size w w' :=
  calls_plain (N0 := 0) (n := 300) nilfns_ok (noExt_ok _ _) one_arg (by kernel_rfl) w
theorem steps_nil (w : World) : Calls Tryz.prog 12 #[.pointer none] w fun e w' => e = .returned (.int .i64 0) ∧ Below w.heap.size w w' :=
  calls_plain (N0 := 0) (n := 300) nilfns_ok (noExt_ok _ _) one_arg (by kernel_rfl) w
theorem quiet_nil (w : World) : Calls Tryz.prog 13 #[.pointer none] w fun e w' => e = .returned (.bool true) ∧ Below w.heap.size w w' :=
  calls_plain (N0 := 0) (n := 300) nilfns_ok (noExt_ok _ _) one_arg (by kernel_rfl) w
end Go.Proofs.YtojeonaogkgdgaaGreat
