/-
  The abstract run of 'awake' (own work; the table is printed by a program of mine).
-/
import Derived.Test.YtojeonaogkgdgaaGreatRows
import Derived.Test.YtojeonaogkgdgaaGreatAx23
namespace Go.Proofs.YtojeonaogkgdgaaGreat
open Go Go.Ax

noncomputable def fnl : List (Nat × Func) := [(4, Tryz.f4), (5, Tryz.f5), (8, Tryz.f8), (9, Tryz.f9), (12, Tryz.f12), (13, Tryz.f13), (14, Tryz.f14), (15, Tryz.f15), (16, Tryz.f16), (17, Tryz.f17), (18, Tryz.f18), (19, Tryz.f19), (21, Tryz.f21), (22, Tryz.f22), (23, Tryz.f23), (31, Tryz.f31), (34, Tryz.f34), (35, Tryz.f35), (36, Tryz.f36), (37, Tryz.f37), (39, Tryz.f39), (40, Tryz.f40), (41, Tryz.f41), (42, Tryz.f42), (43, Tryz.f43), (44, Tryz.f44), (45, Tryz.f45), (46, Tryz.f46), (47, Tryz.f47), (48, Tryz.f48), (63, Tryz.f63), (64, Tryz.f64), (65, Tryz.f65), (66, Tryz.f66), (67, Tryz.f67), (68, Tryz.f68), (69, Tryz.f69), (71, Tryz.f71), (72, Tryz.f72), (73, Tryz.f73), (74, Tryz.f74), (75, Tryz.f75), (76, Tryz.f76), (77, Tryz.f77), (78, Tryz.f78), (83, Tryz.f83), (84, Tryz.f84), (85, Tryz.f85), (86, Tryz.f86), (101, Tryz.f101), (105, Tryz.f105), (107, Tryz.f107), (108, Tryz.f108), (109, Tryz.f109), (114, Tryz.f114), (115, Tryz.f115), (117, Tryz.f117), (118, Tryz.f118), (119, Tryz.f119), (125, Tryz.f125), (126, Tryz.f126), (127, Tryz.f127), (128, Tryz.f128), (129, Tryz.f129), (130, Tryz.f130), (153, Tryz.f153), (154, Tryz.f154), (155, Tryz.f155), (156, Tryz.f156), (157, Tryz.f157), (158, Tryz.f158), (159, Tryz.f159), (160, Tryz.f160), (190, Tryz.f190), (191, Tryz.f191), (198, Tryz.f198), (199, Tryz.f199), (200, Tryz.f200), (201, Tryz.f201), (202, Tryz.f202), (203, Tryz.f203), (204, Tryz.f204), (205, Tryz.f205), (206, Tryz.f206), (246, Tryz.f246), (247, Tryz.f247), (248, Tryz.f248), (249, Tryz.f249)]
theorem nm4 : (Tryz.f4.name == "runtime.NumGoroutine") = false := by kernel_rfl
theorem nm5 : (Tryz.f5.name == "runtime.NumGoroutine") = false := by kernel_rfl
theorem nm8 : (Tryz.f8.name == "runtime.NumGoroutine") = false := by kernel_rfl
theorem nm9 : (Tryz.f9.name == "runtime.NumGoroutine") = false := by kernel_rfl
theorem nm12 : (Tryz.f12.name == "runtime.NumGoroutine") = false := by kernel_rfl
theorem nm13 : (Tryz.f13.name == "runtime.NumGoroutine") = false := by kernel_rfl
theorem nm14 : (Tryz.f14.name == "runtime.NumGoroutine") = false := by kernel_rfl
theorem nm15 : (Tryz.f15.name == "runtime.NumGoroutine") = false := by kernel_rfl
theorem nm16 : (Tryz.f16.name == "runtime.NumGoroutine") = false := by kernel_rfl
theorem nm17 : (Tryz.f17.name == "runtime.NumGoroutine") = false := by kernel_rfl
theorem nm18 : (Tryz.f18.name == "runtime.NumGoroutine") = false := by kernel_rfl
theorem nm19 : (Tryz.f19.name == "runtime.NumGoroutine") = false := by kernel_rfl
theorem nm21 : (Tryz.f21.name == "runtime.NumGoroutine") = false := by kernel_rfl
theorem nm22 : (Tryz.f22.name == "runtime.NumGoroutine") = false := by kernel_rfl
theorem nm23 : (Tryz.f23.name == "runtime.NumGoroutine") = false := by kernel_rfl
theorem nm31 : (Tryz.f31.name == "runtime.NumGoroutine") = false := by kernel_rfl
theorem nm34 : (Tryz.f34.name == "runtime.NumGoroutine") = false := by kernel_rfl
theorem nm35 : (Tryz.f35.name == "runtime.NumGoroutine") = false := by kernel_rfl
theorem nm36 : (Tryz.f36.name == "runtime.NumGoroutine") = false := by kernel_rfl
theorem nm37 : (Tryz.f37.name == "runtime.NumGoroutine") = false := by kernel_rfl
theorem nm39 : (Tryz.f39.name == "runtime.NumGoroutine") = false := by kernel_rfl
theorem nm40 : (Tryz.f40.name == "runtime.NumGoroutine") = false := by kernel_rfl
theorem nm41 : (Tryz.f41.name == "runtime.NumGoroutine") = false := by kernel_rfl
theorem nm42 : (Tryz.f42.name == "runtime.NumGoroutine") = false := by kernel_rfl
theorem nm43 : (Tryz.f43.name == "runtime.NumGoroutine") = false := by kernel_rfl
theorem nm44 : (Tryz.f44.name == "runtime.NumGoroutine") = false := by kernel_rfl
theorem nm45 : (Tryz.f45.name == "runtime.NumGoroutine") = false := by kernel_rfl
theorem nm46 : (Tryz.f46.name == "runtime.NumGoroutine") = false := by kernel_rfl
theorem nm47 : (Tryz.f47.name == "runtime.NumGoroutine") = false := by kernel_rfl
theorem nm48 : (Tryz.f48.name == "runtime.NumGoroutine") = false := by kernel_rfl
theorem nm63 : (Tryz.f63.name == "runtime.NumGoroutine") = false := by kernel_rfl
theorem nm64 : (Tryz.f64.name == "runtime.NumGoroutine") = false := by kernel_rfl
theorem nm65 : (Tryz.f65.name == "runtime.NumGoroutine") = false := by kernel_rfl
theorem nm66 : (Tryz.f66.name == "runtime.NumGoroutine") = false := by kernel_rfl
theorem nm67 : (Tryz.f67.name == "runtime.NumGoroutine") = false := by kernel_rfl
theorem nm68 : (Tryz.f68.name == "runtime.NumGoroutine") = false := by kernel_rfl
theorem nm69 : (Tryz.f69.name == "runtime.NumGoroutine") = false := by kernel_rfl
theorem nm71 : (Tryz.f71.name == "runtime.NumGoroutine") = false := by kernel_rfl
theorem nm72 : (Tryz.f72.name == "runtime.NumGoroutine") = false := by kernel_rfl
theorem nm73 : (Tryz.f73.name == "runtime.NumGoroutine") = false := by kernel_rfl
theorem nm74 : (Tryz.f74.name == "runtime.NumGoroutine") = false := by kernel_rfl
theorem nm75 : (Tryz.f75.name == "runtime.NumGoroutine") = false := by kernel_rfl
theorem nm76 : (Tryz.f76.name == "runtime.NumGoroutine") = false := by kernel_rfl
theorem nm77 : (Tryz.f77.name == "runtime.NumGoroutine") = false := by kernel_rfl
theorem nm78 : (Tryz.f78.name == "runtime.NumGoroutine") = false := by kernel_rfl
theorem nm83 : (Tryz.f83.name == "runtime.NumGoroutine") = false := by kernel_rfl
theorem nm84 : (Tryz.f84.name == "runtime.NumGoroutine") = false := by kernel_rfl
theorem nm85 : (Tryz.f85.name == "runtime.NumGoroutine") = false := by kernel_rfl
theorem nm86 : (Tryz.f86.name == "runtime.NumGoroutine") = false := by kernel_rfl
theorem nm101 : (Tryz.f101.name == "runtime.NumGoroutine") = false := by kernel_rfl
theorem nm105 : (Tryz.f105.name == "runtime.NumGoroutine") = false := by kernel_rfl
theorem nm107 : (Tryz.f107.name == "runtime.NumGoroutine") = false := by kernel_rfl
theorem nm108 : (Tryz.f108.name == "runtime.NumGoroutine") = false := by kernel_rfl
theorem nm109 : (Tryz.f109.name == "runtime.NumGoroutine") = false := by kernel_rfl
theorem nm114 : (Tryz.f114.name == "runtime.NumGoroutine") = false := by kernel_rfl
theorem nm115 : (Tryz.f115.name == "runtime.NumGoroutine") = false := by kernel_rfl
theorem nm117 : (Tryz.f117.name == "runtime.NumGoroutine") = false := by kernel_rfl
theorem nm118 : (Tryz.f118.name == "runtime.NumGoroutine") = false := by kernel_rfl
theorem nm119 : (Tryz.f119.name == "runtime.NumGoroutine") = false := by kernel_rfl
theorem nm125 : (Tryz.f125.name == "runtime.NumGoroutine") = false := by kernel_rfl
theorem nm126 : (Tryz.f126.name == "runtime.NumGoroutine") = false := by kernel_rfl
theorem nm127 : (Tryz.f127.name == "runtime.NumGoroutine") = false := by kernel_rfl
theorem nm128 : (Tryz.f128.name == "runtime.NumGoroutine") = false := by kernel_rfl
theorem nm129 : (Tryz.f129.name == "runtime.NumGoroutine") = false := by kernel_rfl
theorem nm130 : (Tryz.f130.name == "runtime.NumGoroutine") = false := by kernel_rfl
theorem nm153 : (Tryz.f153.name == "runtime.NumGoroutine") = false := by kernel_rfl
theorem nm154 : (Tryz.f154.name == "runtime.NumGoroutine") = false := by kernel_rfl
theorem nm155 : (Tryz.f155.name == "runtime.NumGoroutine") = false := by kernel_rfl
theorem nm156 : (Tryz.f156.name == "runtime.NumGoroutine") = false := by kernel_rfl
theorem nm157 : (Tryz.f157.name == "runtime.NumGoroutine") = false := by kernel_rfl
theorem nm158 : (Tryz.f158.name == "runtime.NumGoroutine") = false := by kernel_rfl
theorem nm159 : (Tryz.f159.name == "runtime.NumGoroutine") = false := by kernel_rfl
theorem nm160 : (Tryz.f160.name == "runtime.NumGoroutine") = false := by kernel_rfl
theorem nm190 : (Tryz.f190.name == "runtime.NumGoroutine") = false := by kernel_rfl
theorem nm191 : (Tryz.f191.name == "runtime.NumGoroutine") = false := by kernel_rfl
theorem nm198 : (Tryz.f198.name == "runtime.NumGoroutine") = false := by kernel_rfl
theorem nm199 : (Tryz.f199.name == "runtime.NumGoroutine") = false := by kernel_rfl
theorem nm200 : (Tryz.f200.name == "runtime.NumGoroutine") = false := by kernel_rfl
theorem nm201 : (Tryz.f201.name == "runtime.NumGoroutine") = false := by kernel_rfl
theorem nm202 : (Tryz.f202.name == "runtime.NumGoroutine") = false := by kernel_rfl
theorem nm203 : (Tryz.f203.name == "runtime.NumGoroutine") = false := by kernel_rfl
theorem nm204 : (Tryz.f204.name == "runtime.NumGoroutine") = false := by kernel_rfl
theorem nm205 : (Tryz.f205.name == "runtime.NumGoroutine") = false := by kernel_rfl
theorem nm206 : (Tryz.f206.name == "runtime.NumGoroutine") = false := by kernel_rfl
theorem nm246 : (Tryz.f246.name == "runtime.NumGoroutine") = false := by kernel_rfl
theorem nm247 : (Tryz.f247.name == "runtime.NumGoroutine") = false := by kernel_rfl
theorem nm248 : (Tryz.f248.name == "runtime.NumGoroutine") = false := by kernel_rfl
theorem nm249 : (Tryz.f249.name == "runtime.NumGoroutine") = false := by kernel_rfl
theorem fns_ok : FnsOk Tryz.prog (tabOf fnl) := fnsOk_of (ok_cons Tryz.func4 rfl nm4 (ok_cons Tryz.func5 rfl nm5 (ok_cons Tryz.func8 rfl nm8 (ok_cons Tryz.func9 rfl nm9 (ok_cons Tryz.func12 rfl nm12 (ok_cons Tryz.func13 rfl nm13 (ok_cons Tryz.func14 rfl nm14 (ok_cons Tryz.func15 rfl nm15 (ok_cons Tryz.func16 rfl nm16 (ok_cons Tryz.func17 rfl nm17 (ok_cons Tryz.func18 rfl nm18 (ok_cons Tryz.func19 rfl nm19 (ok_cons Tryz.func21 rfl nm21 (ok_cons Tryz.func22 rfl nm22 (ok_cons Tryz.func23 rfl nm23 (ok_cons Tryz.func31 rfl nm31 (ok_cons Tryz.func34 rfl nm34 (ok_cons Tryz.func35 rfl nm35 (ok_cons Tryz.func36 rfl nm36 (ok_cons Tryz.func37 rfl nm37 (ok_cons Tryz.func39 rfl nm39 (ok_cons Tryz.func40 rfl nm40 (ok_cons Tryz.func41 rfl nm41 (ok_cons Tryz.func42 rfl nm42 (ok_cons Tryz.func43 rfl nm43 (ok_cons Tryz.func44 rfl nm44 (ok_cons Tryz.func45 rfl nm45 (ok_cons Tryz.func46 rfl nm46 (ok_cons Tryz.func47 rfl nm47 (ok_cons Tryz.func48 rfl nm48 (ok_cons Tryz.func63 rfl nm63 (ok_cons Tryz.func64 rfl nm64 (ok_cons Tryz.func65 rfl nm65 (ok_cons Tryz.func66 rfl nm66 (ok_cons Tryz.func67 rfl nm67 (ok_cons Tryz.func68 rfl nm68 (ok_cons Tryz.func69 rfl nm69 (ok_cons Tryz.func71 rfl nm71 (ok_cons Tryz.func72 rfl nm72 (ok_cons Tryz.func73 rfl nm73 (ok_cons Tryz.func74 rfl nm74 (ok_cons Tryz.func75 rfl nm75 (ok_cons Tryz.func76 rfl nm76 (ok_cons Tryz.func77 rfl nm77 (ok_cons Tryz.func78 rfl nm78 (ok_cons Tryz.func83 rfl nm83 (ok_cons Tryz.func84 rfl nm84 (ok_cons Tryz.func85 rfl nm85 (ok_cons Tryz.func86 rfl nm86 (ok_cons Tryz.func101 rfl nm101 (ok_cons Tryz.func105 rfl nm105 (ok_cons Tryz.func107 rfl nm107 (ok_cons Tryz.func108 rfl nm108 (ok_cons Tryz.func109 rfl nm109 (ok_cons Tryz.func114 rfl nm114 (ok_cons Tryz.func115 rfl nm115 (ok_cons Tryz.func117 rfl nm117 (ok_cons Tryz.func118 rfl nm118 (ok_cons Tryz.func119 rfl nm119 (ok_cons Tryz.func125 rfl nm125 (ok_cons Tryz.func126 rfl nm126 (ok_cons Tryz.func127 rfl nm127 (ok_cons Tryz.func128 rfl nm128 (ok_cons Tryz.func129 rfl nm129 (ok_cons Tryz.func130 rfl nm130 (ok_cons Tryz.func153 rfl nm153 (ok_cons Tryz.func154 rfl nm154 (ok_cons Tryz.func155 rfl nm155 (ok_cons Tryz.func156 rfl nm156 (ok_cons Tryz.func157 rfl nm157 (ok_cons Tryz.func158 rfl nm158 (ok_cons Tryz.func159 rfl nm159 (ok_cons Tryz.func160 rfl nm160 (ok_cons Tryz.func190 rfl nm190 (ok_cons Tryz.func191 rfl nm191 (ok_cons Tryz.func198 rfl nm198 (ok_cons Tryz.func199 rfl nm199 (ok_cons Tryz.func200 rfl nm200 (ok_cons Tryz.func201 rfl nm201 (ok_cons Tryz.func202 rfl nm202 (ok_cons Tryz.func203 rfl nm203 (ok_cons Tryz.func204 rfl nm204 (ok_cons Tryz.func205 rfl nm205 (ok_cons Tryz.func206 rfl nm206 (ok_cons Tryz.func246 rfl nm246 (ok_cons Tryz.func247 rfl nm247 (ok_cons Tryz.func248 rfl nm248 (ok_cons Tryz.func249 rfl nm249 (ok_nil _)))))))))))))))))))))))))))))))))))))))))))))))))))))))))))))))))))))))))))))))))))))))))

theorem awake_true (w : World) : Calls Tryz.prog 4 #[] w fun e w' => e = .returned (.bool true) ∧ Kept w w' :=
  calls_true (N0 := 6) (n := 3000) fns_ok (noExt_ok _ _) (by kernel_rfl) w
end Go.Proofs.YtojeonaogkgdgaaGreat
