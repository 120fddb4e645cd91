/-
  Ax24: a call whose result is plain (own work).
-/
import Derived.Test.YtdlebapkbdckpaaGreatDoorAx23
import Derived.Below
namespace Go.Ax
open Go Go.RowKit

def isPlain (N0 : Nat) (v : Value) : Option (AEnd × FrameMode × AH) → Bool
  | some (.ret u, _, _) => veq u v && flat N0 v
  | _ => false

theorem Kept.below {w w' : World} (h : Kept w w') : Below w.heap.size w w' := ⟨h.os, h.tape, h.output, h.size, fun k hk => h.heap k hk⟩

/-- Arguments whose abstract form is themselves or nothing. -/
def ArgR (a b : Value) : Prop := a = undef ∨ (a = b ∧ flat 0 a = true)

theorem flat_mono0 {ρ : Ren} {N : Nat} (fix : ∀ i, i < 0 → ρ i = i) {v : Value} (h : flat 0 v = true) : VR ρ N v v := flat_self (Nat.zero_le _) fix h

theorem args_rel {ρ : Ren} {N : Nat} {l m : List Value} (h : All2 ArgR l m) : AR ρ N l.toArray m.toArray := by
  have key : ∀ {l m : List Value}, All2 ArgR l m → l.length = m.length ∧ ∀ (i : Nat) (v : Value), l[i]? = some v → ∃ v', m[i]? = some v' ∧ VR ρ N v v' := by
    intro l m h
    induction h with
    | nil => exact ⟨rfl, fun i v h => by simp at h⟩
    | cons r _ ih =>
      refine ⟨by simp [ih.1], fun i v h => ?_⟩
      cases i with
      | zero =>
        simp at h; subst h
        rcases r with rfl | ⟨rfl, hf⟩
        · exact ⟨_, rfl, .top _⟩
        · exact ⟨_, rfl, flat_mono0 (fun i hi => absurd hi (Nat.not_lt_zero _)) hf⟩
      | succ i => exact ih.2 i v (by simpa using h)
  obtain ⟨hl, hk⟩ := key h
  refine ⟨by simpa using hl, fun i h1 h2 => ?_⟩
  obtain ⟨v', h3, h4⟩ := hk i l.toArray[i] (by simp)
  have : m.toArray[i] = v' := by
    have h5 : m.toArray[i]? = some m.toArray[i] := by simp
    rw [List.getElem?_toArray, h3] at h5
    exact (Option.some.inj h5).symm
  rw [this]; exact h4

theorem calls_plain {P : Program} {N0 : Nat} {fns : Tr Func} {ext : ExtFn} {f n : Nat} {v : Value} {aargs args : List Value} (hfns : FnsOk P fns) (hext : ExtOk P N0 ext) (ha : All2 ArgR aargs args)
    (h : isPlain N0 v ((runA P N0 fns ext (drawA P N0 fns ext) n).2 f aargs.toArray false .run ⟨N0, .nil⟩) = true) (w : World) :
    Calls P f args.toArray w fun e w' => e = .returned v ∧ Below w.heap.size w w' := by
  unfold isPlain at h
  split at h
  case h_2 => cases h
  rename_i u m H' hr
  rw [Bool.and_eq_true] at h
  obtain ⟨h1, hfl⟩ := h
  have := veq_eq h1
  subst this
  intro cs
  obtain ⟨ρ', w', cs', fr, en, q1, q2, q3, q4, q5, q6, v', rfl, hv⟩ := (run_sound hfns hext (drawA_sound hfns hext) n).2 _ _ _ _ _ _ _ _ hr idRen w args.toArray cs cs (sim_nil N0 w) (args_rel ha) rfl
  simp only [Cs] at q3
  subst q3
  have hb := flat_eq q1.fix hv hfl
  subst hb
  obtain ⟨hm, hd, fn, hf, hres⟩ := q6
  have hk : Kept w w' := ⟨fun r hr => q2.kept r hr fun id o ho => by simp [nil_get] at ho, q2.size, q2.os, q2.tape, q2.output⟩
  exact ⟨.returned v', w', fr, ⟨rfl, hk.below⟩, q4, q5.2, hm, hd, q5.1, fn, hf, hres⟩
end Go.Ax
