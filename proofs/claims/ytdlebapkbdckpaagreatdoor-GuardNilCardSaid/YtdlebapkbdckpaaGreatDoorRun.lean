/-
  The abstract run of the whole law (own work; the table is printed by a program of mine).
-/
import Derived.Test.YtdlebapkbdckpaaGreatDoorExt
import Derived.Test.YtdlebapkbdckpaaGreatDoorIdx
namespace Go.Proofs.YtdlebapkbdckpaaGreatDoor
open Go Go.Ax Go.RowKit

noncomputable def fnl : List (Nat × Func) := [(3, Tryz.f3), (4, Tryz.f4), (5, Tryz.f5), (6, Tryz.f6), (7, Tryz.f7), (8, Tryz.f8), (9, Tryz.f9), (10, Tryz.f10), (11, Tryz.f11), (12, Tryz.f12), (13, Tryz.f13), (14, Tryz.f14), (15, Tryz.f15), (16, Tryz.f16), (17, Tryz.f17), (18, Tryz.f18), (19, Tryz.f19), (20, Tryz.f20), (21, Tryz.f21), (22, Tryz.f22), (23, Tryz.f23), (24, Tryz.f24), (25, Tryz.f25), (27, Tryz.f27), (28, Tryz.f28), (29, Tryz.f29), (35, Tryz.f35), (36, Tryz.f36), (38, Tryz.f38), (47, Tryz.f47), (52, Tryz.f52)]
theorem nm3 : (Tryz.f3.name == "runtime.NumGoroutine") = false := by kernel_rfl
theorem nm4 : (Tryz.f4.name == "runtime.NumGoroutine") = false := by kernel_rfl
theorem nm5 : (Tryz.f5.name == "runtime.NumGoroutine") = false := by kernel_rfl
theorem nm6 : (Tryz.f6.name == "runtime.NumGoroutine") = false := by kernel_rfl
theorem nm7 : (Tryz.f7.name == "runtime.NumGoroutine") = false := by kernel_rfl
theorem nm8 : (Tryz.f8.name == "runtime.NumGoroutine") = false := by kernel_rfl
theorem nm9 : (Tryz.f9.name == "runtime.NumGoroutine") = false := by kernel_rfl
theorem nm10 : (Tryz.f10.name == "runtime.NumGoroutine") = false := by kernel_rfl
theorem nm11 : (Tryz.f11.name == "runtime.NumGoroutine") = false := by kernel_rfl
theorem nm12 : (Tryz.f12.name == "runtime.NumGoroutine") = false := by kernel_rfl
theorem nm13 : (Tryz.f13.name == "runtime.NumGoroutine") = false := by kernel_rfl
theorem nm14 : (Tryz.f14.name == "runtime.NumGoroutine") = false := by kernel_rfl
theorem nm15 : (Tryz.f15.name == "runtime.NumGoroutine") = false := by kernel_rfl
theorem nm16 : (Tryz.f16.name == "runtime.NumGoroutine") = false := by kernel_rfl
theorem nm17 : (Tryz.f17.name == "runtime.NumGoroutine") = false := by kernel_rfl
theorem nm18 : (Tryz.f18.name == "runtime.NumGoroutine") = false := by kernel_rfl
theorem nm19 : (Tryz.f19.name == "runtime.NumGoroutine") = false := by kernel_rfl
theorem nm20 : (Tryz.f20.name == "runtime.NumGoroutine") = false := by kernel_rfl
theorem nm21 : (Tryz.f21.name == "runtime.NumGoroutine") = false := by kernel_rfl
theorem nm22 : (Tryz.f22.name == "runtime.NumGoroutine") = false := by kernel_rfl
theorem nm23 : (Tryz.f23.name == "runtime.NumGoroutine") = false := by kernel_rfl
theorem nm24 : (Tryz.f24.name == "runtime.NumGoroutine") = false := by kernel_rfl
theorem nm25 : (Tryz.f25.name == "runtime.NumGoroutine") = false := by kernel_rfl
theorem nm27 : (Tryz.f27.name == "runtime.NumGoroutine") = false := by kernel_rfl
theorem nm28 : (Tryz.f28.name == "runtime.NumGoroutine") = false := by kernel_rfl
theorem nm29 : (Tryz.f29.name == "runtime.NumGoroutine") = false := by kernel_rfl
theorem nm35 : (Tryz.f35.name == "runtime.NumGoroutine") = false := by kernel_rfl
theorem nm36 : (Tryz.f36.name == "runtime.NumGoroutine") = false := by kernel_rfl
theorem nm38 : (Tryz.f38.name == "runtime.NumGoroutine") = false := by kernel_rfl
theorem nm47 : (Tryz.f47.name == "runtime.NumGoroutine") = false := by kernel_rfl
theorem nm52 : (Tryz.f52.name == "runtime.NumGoroutine") = false := by kernel_rfl
theorem fns_ok : FnsOk Tryz.prog (tabOf fnl) := fnsOk_of (ok_cons Tryz.func3 rfl nm3 (ok_cons Tryz.func4 rfl nm4 (ok_cons Tryz.func5 rfl nm5 (ok_cons Tryz.func6 rfl nm6 (ok_cons Tryz.func7 rfl nm7 (ok_cons Tryz.func8 rfl nm8 (ok_cons Tryz.func9 rfl nm9 (ok_cons Tryz.func10 rfl nm10 (ok_cons Tryz.func11 rfl nm11 (ok_cons Tryz.func12 rfl nm12 (ok_cons Tryz.func13 rfl nm13 (ok_cons Tryz.func14 rfl nm14 (ok_cons Tryz.func15 rfl nm15 (ok_cons Tryz.func16 rfl nm16 (ok_cons Tryz.func17 rfl nm17 (ok_cons Tryz.func18 rfl nm18 (ok_cons Tryz.func19 rfl nm19 (ok_cons Tryz.func20 rfl nm20 (ok_cons Tryz.func21 rfl nm21 (ok_cons Tryz.func22 rfl nm22 (ok_cons Tryz.func23 rfl nm23 (ok_cons Tryz.func24 rfl nm24 (ok_cons Tryz.func25 rfl nm25 (ok_cons Tryz.func27 rfl nm27 (ok_cons Tryz.func28 rfl nm28 (ok_cons Tryz.func29 rfl nm29 (ok_cons Tryz.func35 rfl nm35 (ok_cons Tryz.func36 rfl nm36 (ok_cons Tryz.func38 rfl nm38 (ok_cons Tryz.func47 rfl nm47 (ok_cons Tryz.func52 rfl nm52 (ok_nil _))))))))))))))))))))))))))))))))

/-- What is told of the first heap: errors.errorType; bytealg.MaxLen. -/
def H1 (n : Int) (t : TypeId) (fz : Nat × Nat) : AH := ⟨19, (Tr.nil.set 0 (mkCells #[.iface 117 (.agg #[.pointer (some ⟨14, 83, none⟩)])] 98)).set 3 (.anyInt n t fz)⟩

/-- What is asked of the run's end: true; and blocks 0 and 3 told as they were. -/
def endOf : Option (AEnd × FrameMode × AH) → Bool × Option AObj × Option AObj
  | some (.ret (.bool true), _, H) => (true, H.tr.get 0, H.tr.get 3)
  | _ => (false, none, none)

theorem run_end (n : Int) (t : TypeId) (fz : Nat × Nat) : endOf ((runO Tryz.prog 19 (tabOf fnl) extG (drawA Tryz.prog 19 (tabOf fnl) extG) spG 2000).2 3 #[undef] false .run (H1 n t fz)) =
    (true, some (mkCells #[.iface 117 (.agg #[.pointer (some ⟨14, 83, none⟩)])] 98), some (.anyInt n t fz)) := by kernel_rfl

theorem endOf_true {o : Option (AEnd × FrameMode × AH)} {a b : Option AObj} (h : endOf o = (true, a, b)) : ∃ u H, o = some (.ret (.bool true), u, H) ∧ H.tr.get 0 = a ∧ H.tr.get 3 = b := by
  unfold endOf at h
  split at h
  · rename_i u H
    cases h
    exact ⟨u, H, rfl, rfl, rfl⟩
  · cases h

def ren1 : Ren := ⟨fun i => i, fun _ => 1⟩
def hdErr : Value := .iface 117 (.agg #[.pointer (some ⟨14, 83, none⟩)])

theorem hdErr_flat : flat 19 hdErr = true := by rfl

theorem h1_get {n : Int} {t : TypeId} {fz : Nat × Nat} {i : Nat} {o : AObj} (h : (H1 n t fz).tr.get i = some o) : (i = 3 ∧ o = .anyInt n t fz) ∨ (i = 0 ∧ o = mkCells #[hdErr] 98) := by
  rcases Tr.get_set h with h | h
  · exact .inl h
  · rcases Tr.get_set h with h | h
    · exact .inr h
    · simp [nil_get] at h

theorem sim1 {w : World} {n : Int} {t : TypeId} {fz : Nat × Nat} (h0 : w.heap[0]? = some (.cells #[hdErr] 98 (0, 0))) (h3 : w.heap[3]? = some (.cells #[.int .i64 n] t fz)) : Sim 19 ren1 (H1 n t fz) w := by
  refine ⟨?_, ?_, fun _ _ => rfl, Nat.le_refl _⟩
  · intro id o h
    rcases h1_get h with ⟨rfl, rfl⟩ | ⟨rfl, rfl⟩
    · exact ⟨by show 3 < 19; omega, _, h3, .anyInt n t fz, rfl⟩
    · refine ⟨by show 0 < 19; omega, _, h0, mkCells_rel (AR.singleton ?_) 98, rfl⟩
      exact flat_self (N0 := 19) (Nat.le_refl _) (fun _ _ => rfl) hdErr_flat
  · intro i j o p _ _ e; exact e

/-- The law's function, from a world in which the two variables read as told: it returns true, and no block of before has turned. -/
theorem nil_any (x : Value) (w : World) {n : Int} {t : TypeId} {fz : Nat × Nat} (h0 : w.heap[0]? = some (.cells #[hdErr] 98 (0, 0))) (h3 : w.heap[3]? = some (.cells #[.int .i64 n] t fz)) :
    Calls Tryz.prog 3 #[x] w fun e w' => e = .returned (.bool true) ∧ Below w.heap.size w w' := by
  obtain ⟨u, H', hr, g0, g3⟩ := endOf_true (run_end n t fz)
  have ha : AR ren1 (H1 n t fz).next #[undef] #[x] := AR.singleton (.top _)
  have hs := sim1 h0 h3
  intro cs
  obtain ⟨ρ', w', cs', fr, en, q1, q2, q3, q4, q5, q6, v', rfl, hv⟩ := (runO_sound fns_ok extG_ok (drawA_sound fns_ok extG_ok) spG_ok 2000).2 _ _ _ _ _ _ _ _ hr ren1 w #[x] cs cs hs ha rfl
  simp only [Cs] at q3
  subst q3
  have hb := hv.inv_bool
  subst hb
  obtain ⟨hm, hd, fn, hf, hres⟩ := q6
  have k0 : w'.heap[0]? = w.heap[0]? := by
    obtain ⟨_, o', ho, hobj, hz⟩ := q1.blk 0 _ g0
    have e0 : ρ' 0 = 0 := q1.fix 0 (by omega)
    have ek : ρ'.k 0 = 1 := (q2.agree 0 (by show 0 < 19; omega)).2
    rw [e0] at ho
    rw [ek] at hz
    generalize hmk : mkCells #[Value.iface 117 (.agg #[.pointer (some ⟨14, 83, none⟩)])] 98 = mk at hobj
    unfold mkCells at hmk
    cases hobj with
    | cells size tr elem fz c' fz' hsz hfz hcell =>
      cases hmk
      have hz1 : c'.size = 1 := hz
      have hfz1 : fz' = (0, 0) := hfz
      obtain ⟨v1, hv1, hv2⟩ := hcell 0 hdErr (by decide) (by rfl)
      have hv3 := flat_eq (N0 := 19) q1.fix hv2 hdErr_flat
      subst hv3
      have hc : c' = #[hdErr] := by
        apply Array.ext (by simpa using hz1)
        intro i h1 h2
        have hi : i = 0 := by simp at h2; exact h2
        subst hi
        have := (Array.getElem?_eq_some_iff.1 hv1).2
        simpa using this
      rw [ho, h0, hfz1, hc]
    | map => cases hmk
    | chan => cases hmk
    | strIter => cases hmk
    | anyInt => cases hmk
  have k3 : w'.heap[3]? = w.heap[3]? := by
    obtain ⟨_, o', ho, hobj, _⟩ := q1.blk 3 _ g3
    rw [q1.fix 3 (by omega)] at ho
    cases hobj
    rw [ho, h3]
  refine ⟨.returned (.bool true), w', fr, ⟨rfl, q2.os, q2.tape, q2.output, q2.size, fun r hr => ?_⟩, q4, q5.2, hm, hd, q5.1, fn, hf, hres⟩
  by_cases e0 : r = 0
  · subst e0; exact k0
  by_cases e3 : r = 3
  · subst e3; exact k3
  refine q2.kept r hr fun id o ho => ?_
  rcases h1_get ho with ⟨rfl, _⟩ | ⟨rfl, _⟩
  · exact fun e => e3 e.symm
  · exact fun e => e0 e.symm
end Go.Proofs.YtdlebapkbdckpaaGreatDoor
