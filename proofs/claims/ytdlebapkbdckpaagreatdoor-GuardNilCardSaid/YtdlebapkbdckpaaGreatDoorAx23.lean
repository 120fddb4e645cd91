/-
  Ax23: what a run of the abstract machine says of a call (own work).
-/
import Derived.Test.YtdlebapkbdckpaaGreatDoorAx22
namespace Go.Ax
open Go

/-! ## Tables -/
theorem nil_get {α : Type} {k : Nat} : (Tr.nil : Tr α).get k = none := by
  unfold Tr.get
  cases k <;> rfl
def tabOf {α : Type} (l : List (Nat × α)) : Tr α := l.foldl (fun t x => t.set x.1 x.2) .nil
theorem tab_get {α : Type} : ∀ (l : List (Nat × α)) (t : Tr α) (k : Nat) (v : α), (l.foldl (fun t x => t.set x.1 x.2) t).get k = some v → (k, v) ∈ l ∨ t.get k = some v := by
  intro l
  induction l with
  | nil => intro t k v h; exact .inr h
  | cons x l ih =>
    intro t k v h
    rw [List.foldl_cons] at h
    rcases ih _ _ _ h with h | h
    · exact .inl (List.mem_cons_of_mem _ h)
    · by_cases e : k = x.1
      · subst e
        rw [Tr.get_set_same] at h
        cases h
        exact .inl List.mem_cons_self
      · rcases Tr.get_set h with h | h
        · exact absurd h.1 e
        · exact .inr h
theorem tabOf_get {α : Type} {l : List (Nat × α)} {k : Nat} {v : α} (h : (tabOf l).get k = some v) : (k, v) ∈ l := by
  rcases tab_get l .nil k v h with h | h
  · exact h
  · simp [nil_get] at h

theorem fnsOk_of {P : Program} {l : List (Nat × Func)} (h : ∀ x ∈ l, P.funcs[x.1]? = some x.2 ∧ x.2.body.isSome = true ∧ (x.2.name == "runtime.NumGoroutine") = false) : FnsOk P (tabOf l) :=
  fun g fn hg => h (g, fn) (tabOf_get hg)

abbrev OkL (P : Program) (l : List (Nat × Func)) : Prop := ∀ x ∈ l, P.funcs[x.1]? = some x.2 ∧ x.2.body.isSome = true ∧ (x.2.name == "runtime.NumGoroutine") = false
theorem ok_nil (P : Program) : OkL P [] := fun x h => by cases h
theorem ok_cons {P : Program} {g : Nat} {fn : Func} {l : List (Nat × Func)} (h1 : P.funcs[g]? = some fn) (h2 : fn.body.isSome = true) (h3 : (fn.name == "runtime.NumGoroutine") = false) (h : OkL P l) : OkL P ((g, fn) :: l) := by
  intro x hx
  rcases List.mem_cons.1 hx with rfl | hx
  · exact ⟨h1, h2, h3⟩
  · exact h x hx

def noExt : ExtFn := fun _ _ _ => none
theorem noExt_ok (P : Program) (N0 : Nat) : ExtOk P N0 noExt := fun g args H v H' h => by cases h

def idRen : Ren := ⟨fun i => i, fun _ => 0⟩
theorem sim_nil (N0 : Nat) (w : World) : Sim N0 idRen ⟨N0, .nil⟩ w :=
  ⟨fun id o h => by simp [nil_get] at h, fun i j o p h => by simp [nil_get] at h, fun _ _ => rfl, Nat.le_refl _⟩

/-- A call behind which no block of before has turned. -/
structure Kept (w w' : World) : Prop where
  heap : ∀ r, r < w.heap.size → w'.heap[r]? = w.heap[r]?
  size : w.heap.size ≤ w'.heap.size
  os : w'.os = w.os
  tape : w'.tape = w.tape
  output : w'.output = w.output

def isTrue : Option (AEnd × FrameMode × AH) → Bool
  | some (.ret (.bool true), _, _) => true
  | _ => false

theorem calls_true {P : Program} {N0 : Nat} {fns : Tr Func} {ext : ExtFn} {f n : Nat} (hfns : FnsOk P fns) (hext : ExtOk P N0 ext) (h : isTrue ((runA P N0 fns ext (drawA P N0 fns ext) n).2 f #[] false .run ⟨N0, .nil⟩) = true) (w : World) :
    Calls P f #[] w fun e w' => e = .returned (.bool true) ∧ Kept w w' := by
  unfold isTrue at h
  split at h
  case h_2 => cases h
  rename_i u H' hr
  intro cs
  obtain ⟨ρ', w', cs', fr, en, q1, q2, q3, q4, q5, q6, v', rfl, hv⟩ := (run_sound hfns hext (drawA_sound hfns hext) n).2 _ _ _ _ _ _ _ _ hr idRen w #[] cs cs (sim_nil N0 w) ⟨rfl, fun i h => absurd h (by simp)⟩ rfl
  simp only [Cs] at q3
  subst q3
  have hb := hv.inv_bool
  subst hb
  obtain ⟨hm, hd, fn, hf, hres⟩ := q6
  refine ⟨.returned (.bool true), w', fr, ⟨rfl, fun r hr => q2.kept r hr fun id o ho => by simp [nil_get] at ho, q2.size, q2.os, q2.tape, q2.output⟩, q4, q5.2, hm, hd, q5.1, fn, hf, hres⟩
end Go.Ax
