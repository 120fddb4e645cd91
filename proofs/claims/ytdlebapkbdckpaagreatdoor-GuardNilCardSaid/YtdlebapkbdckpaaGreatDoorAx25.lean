/-
  Ax25: a run in which some calls go by contracts that are known besides; a run that begins with blocks already told (own work).
-/
import Derived.Test.YtdlebapkbdckpaaGreatDoorAx24
namespace Go.Ax
open Go Go.RowKit

/-- What a call returns by a contract known besides; it leaves the world as it was. -/
abbrev SpecFn := Nat → Array Value → AH → Option Value
def SpecOk (P : Program) (N0 : Nat) (sp : SpecFn) : Prop :=
  ∀ f args H v, sp f args H = some v → ∀ ρ w args', Sim N0 ρ H w → AR ρ H.next args args' → Calls P f args' w fun e w' => (∃ v', e = .returned v' ∧ VR ρ H.next v v') ∧ w' = w

def ovr (sp : SpecFn) (rcall : CallFn) : CallFn := fun f args kd u H =>
  match kd with
  | true => rcall f args true u H
  | false =>
    match sp f args H with
    | some v => some (.ret v, u, H)
    | none => rcall f args false u H

theorem ovr_sound {P : Program} {N0 : Nat} {sp : SpecFn} {rcall : CallFn} (hsp : SpecOk P N0 sp) (hc : CallSound P N0 rcall) : CallSound P N0 (ovr sp rcall) := by
  intro f args kd u H e u' H' h ρ w args' cs0 cs hs ha hcs
  unfold ovr at h
  cases kd with
  | true => exact hc _ _ _ _ _ _ _ _ h ρ w args' cs0 cs hs ha hcs
  | false =>
    simp only at h
    split at h
    · rename_i v hv
      cases h
      obtain ⟨e, w', fr, ⟨⟨v', rfl, hvr⟩, rfl⟩, hcomes, hfn, hleave⟩ := hsp _ _ _ _ hv ρ w args' hs ha cs
      obtain ⟨hm, hd, hk, fn, hf, hr⟩ := hleave
      exact ⟨ρ, w', cs, fr, .returned v', hs, Fr.refl _ _ _, hcs, hcomes, ⟨hk, hfn⟩, ⟨hm, hd, fn, hf, hr⟩, v', rfl, hvr⟩
    · exact hc _ _ _ _ _ _ _ _ h ρ w args' cs0 cs hs ha hcs

/-- The run: 'n' is how deep. -/
def runO (P : Program) (N0 : Nat) (fns : Tr Func) (ext : ExtFn) (drw : DrawFn) (sp : SpecFn) (n : Nat) : CodeFn × CallFn :=
  Nat.rec (motive := fun _ => CodeFn × CallFn) (fun _ _ => none, fun _ _ _ _ _ => none) (fun _ p => (codeStep P N0 fns ext drw p.1 p.2, ovr sp (callStep P fns p.1 p.2))) n

theorem runO_sound {P : Program} {N0 : Nat} {fns : Tr Func} {ext : ExtFn} {drw : DrawFn} {sp : SpecFn} (hfns : FnsOk P fns) (hext : ExtOk P N0 ext) (hdrw : DrawSound P N0 drw) (hsp : SpecOk P N0 sp) :
    ∀ n, CodeSound P N0 (runO P N0 fns ext drw sp n).1 ∧ CallSound P N0 (runO P N0 fns ext drw sp n).2 := by
  intro n
  induction n with
  | zero => exact ⟨fun c st e st' h => by simp [runO] at h, fun f args kd u H e u' H' h => by simp [runO] at h⟩
  | succ n ih => exact ⟨code_out hfns hext hdrw ih.1 ih.2, ovr_sound hsp (call_out hfns ih.1 ih.2)⟩

/-- A call from a heap of which something is told. The blocks that are told of may turn; no other of before does. -/
theorem calls_from {P : Program} {N0 : Nat} {fns : Tr Func} {ext : ExtFn} {sp : SpecFn} {f n : Nat} {v : Value} {aargs args : List Value} {H : AH} {ρ : Ren} (hfns : FnsOk P fns) (hext : ExtOk P N0 ext) (hsp : SpecOk P N0 sp) (ha : All2 ArgR aargs args)
    (h : isPlain N0 v ((runO P N0 fns ext (drawA P N0 fns ext) sp n).2 f aargs.toArray false .run H) = true) (w : World) (hs : Sim N0 ρ H w) :
    Calls P f args.toArray w fun e w' => e = .returned v ∧ w'.os = w.os ∧ w'.tape = w.tape ∧ w'.output = w.output ∧ w.heap.size ≤ w'.heap.size ∧ ∀ r, r < w.heap.size → (∀ id o, H.tr.get id = some o → ρ id ≠ r) → w'.heap[r]? = w.heap[r]? := by
  unfold isPlain at h
  split at h
  case h_2 => cases h
  rename_i u m H' hr
  rw [Bool.and_eq_true] at h
  obtain ⟨h1, hfl⟩ := h
  have := veq_eq h1
  subst this
  intro cs
  obtain ⟨ρ', w', cs', fr, en, q1, q2, q3, q4, q5, q6, v', rfl, hv⟩ := (runO_sound hfns hext (drawA_sound hfns hext) hsp n).2 _ _ _ _ _ _ _ _ hr ρ w args.toArray cs cs hs (args_rel ha) rfl
  simp only [Cs] at q3
  subst q3
  have hb := flat_eq q1.fix hv hfl
  subst hb
  obtain ⟨hm, hd, fn, hf, hres⟩ := q6
  exact ⟨.returned v', w', fr, ⟨rfl, q2.os, q2.tape, q2.output, q2.size, q2.kept⟩, q4, q5.2, hm, hd, q5.1, fn, hf, hres⟩
end Go.Ax
