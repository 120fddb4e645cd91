/-
  Ax3: operations that leave the heap as it is: what they give on the abstract heap, and that they give it in the real one (own work).
-/
import Derived.Test.YtdlebapkbdckpaaGreatDoorAx2
namespace Go.Ax
open Go

inductive SRes where
  | val (v : Value)
  | pan (v : Value)

def SOk (P : Program) (ρ : Ren) (N : Nat) (w : World) (s : Sem Next) : SRes → Prop
  | .val v => ∃ v', s.run P w = .ok (.value v') w ∧ VR ρ N v v'
  | .pan v => ∃ v', s.run P w = .halt (.panic v') w ∧ VR ρ N v v'

theorem run_underlying_of {P : Program} {t : TypeId} {d : TypeDesc} (h : P.underlying t = some d) (w : World) : (underlying t).run P w = .ok d w := by
  simp [underlying, h]
theorem run_typeInfo_of {P : Program} {t : TypeId} {i : TypeInfo} (h : P.info? t = some i) (w : World) : (typeInfo t).run P w = .ok i w := by
  simp [typeInfo, h]

section
variable {P : Program} {N0 : Nat} {ρ : Ren} {H : AH} {w : World} {ev ev' : Operand → Value}

/-! ### extract, field, index -/
def aExtract (v : Value) (i : Nat) : Option SRes :=
  match v with
  | .tuple vs => (vs[i]?).map .val
  | _ => none

theorem aExtract_sound {v v' : Value} (hv : VR ρ H.next v v') {i : Nat} {r : SRes} (h : aExtract v i = some r) :
    SOk P ρ H.next w (do pure (.value (← Instr.extract v' i))) r := by
  unfold aExtract at h
  split at h
  · rename_i vs
    simp only [Option.map_eq_some_iff] at h
    obtain ⟨x, hx, rfl⟩ := h
    obtain ⟨a', rfl, ha⟩ := hv.inv_tuple (by intro e; have := Array.eq_empty_of_size_eq_zero e; subst this; simp at hx)
    obtain ⟨x', hx', hr⟩ := ha.get hx
    exact ⟨x', by simp [Instr.extract, hx'], hr⟩
  · cases h

def partA (P : Program) (t : TypeId) (cs : Array Value) (off : Nat) : Option Value :=
  match aggA P t with
  | some true =>
    match szA P t with
    | some n => some (.agg (cs.extract off (off + n)))
    | none => none
  | some false => cs[off]?
  | none => none

theorem partA_rel {t : TypeId} {cs cs' : Array Value} (hc : AR ρ H.next cs cs') {off : Nat} {v : Value} (h : partA P t cs off = some v) :
    ∃ v', (part t cs' off).run P w = .ok v' w ∧ VR ρ H.next v v' := by
  unfold partA at h
  split at h
  · rename_i ha
    split at h
    · rename_i n hn
      simp only [Option.some.injEq] at h
      subst h
      have := hc.extract off (off + n)
      exact ⟨_, by simp [part, run_isAgg_of ha, run_sizeOf_of hn], .agg _ _ this.1 this.2⟩
    · cases h
  · rename_i ha
    obtain ⟨v', h1, h2⟩ := hc.get h
    exact ⟨v', by simp [part, run_isAgg_of ha, h1], h2⟩
  · cases h

def aField (P : Program) (t : TypeId) (v : Value) (f : Nat) : Option SRes :=
  match P.underlying t, v with
  | some (.struct fields), .agg cs =>
    match fields[f]? with
    | some fd => (partA P fd.type cs fd.offset).map .val
    | none => none
  | _, _ => none

theorem aField_sound {t : TypeId} {v v' : Value} (hv : VR ρ H.next v v') {f : Nat} {r : SRes} (h : aField P t v f = some r) :
    SOk P ρ H.next w (do pure (.value (← Instr.field t v' f))) r := by
  unfold aField at h
  split at h
  · rename_i fields cs ht
    split at h
    · rename_i fd hf
      simp only [Option.map_eq_some_iff] at h
      obtain ⟨x, hx, rfl⟩ := h
      obtain ⟨cs', rfl, hc⟩ := hv.inv_agg
      obtain ⟨x', h1, h2⟩ := partA_rel (w := w) hc hx
      exact ⟨x', by simp [Instr.field, run_underlying_of ht, hf, asAgg, h1], h2⟩
    · cases h
  · cases h

def aIndex (P : Program) (t : TypeId) (v i : Value) : Option SRes :=
  match P.underlying t, v, i with
  | some (.array len elem), .agg cs, .int _ n =>
    bif decide (0 ≤ n) && decide (n < len) then
      match szA P elem with
      | some s => (partA P elem cs (n.toNat * s)).map .val
      | none => none
    else none
  | _, _, _ => none

theorem aIndex_sound {t : TypeId} {v v' i i' : Value} (hv : VR ρ H.next v v') (hi : VR ρ H.next i i') {r : SRes} (h : aIndex P t v i = some r) :
    SOk P ρ H.next w (do pure (.value (← Instr.index t v' i'))) r := by
  unfold aIndex at h
  split at h
  · rename_i len elem cs k n ht
    cases hb : (decide (0 ≤ n) && decide (n < (len : Int))) <;> simp only [hb, cond_true, cond_false] at h
    · cases h
    · simp only [Bool.and_eq_true, decide_eq_true_eq] at hb
      split at h
      · rename_i s hs
        simp only [Option.map_eq_some_iff] at h
        obtain ⟨x, hx, rfl⟩ := h
        obtain ⟨cs', rfl, hc⟩ := hv.inv_agg
        obtain rfl := hi.inv_int
        obtain ⟨x', h1, h2⟩ := partA_rel (w := w) hc hx
        exact ⟨x', by simp [Instr.index, asIntOf, run_underlying_of ht, run_sizeOf_of hs, hb, h1], h2⟩
      · cases h
  · cases h

/-! ### addresses -/
def aFieldAddr (P : Program) (s : TypeId) (v : Value) (f : Nat) : Option SRes :=
  match P.underlying s, v with
  | some (.struct fields), .pointer (some ⟨b, o, _⟩) =>
    match fields[f]? with
    | some fd =>
      match szA P fd.type with
      | some (_ + 1) => some (.val (.pointer (some ⟨b, o + fd.offset, none⟩)))
      | _ => none
    | none => none
  | _, _ => none

theorem aFieldAddr_sound {s : TypeId} {v v' : Value} (hv : VR ρ H.next v v') {f : Nat} {r : SRes} (h : aFieldAddr P s v f = some r) :
    SOk P ρ H.next w (do pure (.value (← Instr.fieldAt s v' f))) r := by
  unfold aFieldAddr at h
  split at h
  · rename_i fields b o sp ht
    split at h
    · rename_i fd hf
      split at h
      · rename_i n hn
        simp only [Option.some.injEq] at h
        subst h
        obtain ⟨h1, h2, rfl⟩ := hv.inv_ptr
        exact ⟨_, by simp [Instr.fieldAt, run_underlying_of ht, hf, Instr.sureAddr, fieldPlace, run_sizeOf_of hn, add_none], .ptr b (o + fd.offset) h2⟩
      · cases h
    · cases h
  · cases h

def aIndexAddr (P : Program) (t : TypeId) (v i : Value) : Option SRes :=
  match i with
  | .int _ n =>
    match P.underlying t, v with
    | some (.array len elem), .pointer (some ⟨b, o, _⟩) =>
      bif decide (0 ≤ n) && decide (n < len) then
        match szA P elem with
        | some s => some (.val (.pointer (some ⟨b, o + n.toNat * s, none⟩)))
        | none => none
      else none
    | some (.slice elem), .slice (some ⟨b, o, _⟩) len _ =>
      bif decide (0 ≤ n) && decide (n < len) then
        match szA P elem with
        | some s => some (.val (.pointer (some ⟨b, o + n.toNat * s, none⟩)))
        | none => none
      else none
    | _, _ => none
  | _ => none

theorem aIndexAddr_sound {t : TypeId} {v v' i i' : Value} (hv : VR ρ H.next v v') (hi : VR ρ H.next i i') {r : SRes} (h : aIndexAddr P t v i = some r) :
    SOk P ρ H.next w (do pure (.value (← Instr.indexAt t v' i'))) r := by
  unfold aIndexAddr at h
  split at h
  · rename_i k n
    obtain rfl := hi.inv_int
    split at h
    · rename_i len elem b o sp ht
      cases hb : (decide (0 ≤ n) && decide (n < (len : Int))) <;> simp only [hb, cond_true, cond_false] at h
      · cases h
      · simp only [Bool.and_eq_true, decide_eq_true_eq] at hb
        split at h
        · rename_i s hs
          simp only [Option.some.injEq] at h
          subst h
          obtain ⟨h1, h2, rfl⟩ := hv.inv_ptr
          exact ⟨_, by simp [Instr.indexAt, asIntOf, run_underlying_of ht, Instr.sureAddr, run_sizeOf_of hs, hb, add_none], .ptr b _ h2⟩
        · cases h
    · rename_i elem b o sp len c ht
      cases hb : (decide (0 ≤ n) && decide (n < (len : Int))) <;> simp only [hb, cond_true, cond_false] at h
      · cases h
      · simp only [Bool.and_eq_true, decide_eq_true_eq] at hb
        split at h
        · rename_i s hs
          simp only [Option.some.injEq] at h
          subst h
          obtain ⟨h1, h2, h3⟩ := hv.inv_sl
          rcases h3 with ⟨c', rfl, _⟩ | ⟨_, h0, _⟩
          · exact ⟨_, by simp [Instr.indexAt, asIntOf, run_underlying_of ht, run_sizeOf_of hs, hb, add_none], .ptr b _ h2⟩
          · omega
        · cases h
    · cases h
  · cases h

/-! ### load -/
def aLoad (P : Program) (H : AH) (t : TypeId) (v : Value) : Option SRes :=
  match v with
  | .pointer (some ⟨b, o, _⟩) => (loadVarA P H t b o).map .val
  | _ => none

theorem aLoad_sound (s : Sim N0 ρ H w) {t : TypeId} {v v' : Value} (hv : VR ρ H.next v v') {r : SRes} (h : aLoad P H t v = some r) :
    SOk P ρ H.next w (do pure (.value (← Instr.loadAt t v'))) r := by
  unfold aLoad at h
  split at h
  · rename_i b o sp
    simp only [Option.map_eq_some_iff] at h
    obtain ⟨x, hx, rfl⟩ := h
    obtain ⟨h1, h2, rfl⟩ := hv.inv_ptr
    obtain ⟨x', h3, h4⟩ := loadVarA_rel (P := P) s hx
    exact ⟨x', by simp [Instr.loadAt, Instr.sureAddr, h3], h4⟩
  · cases h

/-! ### makeInterface, makeFunc, nilCheck -/
def aMakeIface (P : Program) (t : TypeId) (v : Value) : Option SRes :=
  match P.underlying t with
  | some (.interface _) | none => none
  | some _ => some (.val (.iface t v))

theorem aMakeIface_sound {t : TypeId} {v v' : Value} (hv : VR ρ H.next v v') {r : SRes} (h : aMakeIface P t v = some r) :
    SOk P ρ H.next w (do pure (.value (← Instr.makeInterface t v'))) r := by
  unfold aMakeIface at h
  split at h
  · cases h
  · cases h
  · rename_i d h1 ht
    simp only [Option.some.injEq] at h
    subst h
    refine ⟨.iface t v', ?_, .iface t v v' hv⟩
    simp only [Instr.makeInterface, Sem.run_bind, run_underlying_of ht, Result.andThen_ok]; rfl

def aNilCheck (v : Value) : Option SRes :=
  match v with
  | .pointer (some _) | .func (.func _) _ _ | .iface _ _ | .map _ | .slice _ _ _ | .chan _ => some (.val v)
  | _ => none

theorem aNilCheck_sound {x : Operand} (hv : VR ρ H.next (ev x) (ev' x)) {dst : Option Tmp} {ty : TypeId} {pos : String} {after : Array Edge} {guard : Option (Nat × Bool)} {r : SRes} (h : aNilCheck (ev x) = some r) :
    SOk P ρ H.next w (execOp ev' { dst := dst, op := .nilCheck x, type := ty, pos := pos, after := after, guard := guard }) r := by
  unfold aNilCheck at h
  split at h
  · rename_i a e
    cases h
    refine ⟨ev' x, ?_, hv⟩
    rw [e] at hv
    obtain ⟨_, _, e'⟩ := hv.inv_ptr
    simp [execOp, e']
  · rename_i f a c e
    cases h
    refine ⟨ev' x, ?_, hv⟩
    rw [e] at hv
    obtain ⟨a', c', e', _, _⟩ := hv.inv_func
    simp [execOp, e']
  · rename_i t u e
    cases h
    refine ⟨ev' x, ?_, hv⟩
    rw [e] at hv
    obtain ⟨u', e', _⟩ := hv.inv_iface
    simp [execOp, e']
  · rename_i m e
    cases h
    refine ⟨ev' x, ?_, hv⟩
    rw [e] at hv
    cases m with
    | none =>
      have e' := flat_eq (N0 := 0) (fun i hi => absurd hi (by omega)) hv (by rfl)
      simp [execOp, e']
    | some m =>
      obtain ⟨_, e'⟩ := hv.inv_map
      simp [execOp, e']
  · rename_i a l c e
    cases h
    refine ⟨ev' x, ?_, hv⟩
    rw [e] at hv
    cases a with
    | none => simp [execOp, hv.inv_slnil]
    | some a =>
      obtain ⟨_, _, h3⟩ := hv.inv_sl
      rcases h3 with ⟨c', e', _⟩ | ⟨_, _, o', c', e'⟩ <;> simp [execOp, e']
  · rename_i m e
    cases h
    refine ⟨ev' x, ?_, hv⟩
    rw [e] at hv
    cases m with
    | none =>
      have e' := flat_eq (N0 := 0) (fun i hi => absurd hi (by omega)) hv (by rfl)
      simp [execOp, e']
    | some m =>
      obtain ⟨_, e'⟩ := hv.inv_chan
      simp [execOp, e']
  · cases h
end
end Go.Ax
