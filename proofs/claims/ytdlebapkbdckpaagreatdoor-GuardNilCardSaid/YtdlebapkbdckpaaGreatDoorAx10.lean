/-
  Ax10: append, copy, a string to bytes, a string's iterator, close (own work).
-/
import Derived.Test.YtdlebapkbdckpaaGreatDoorAx9
namespace Go.Ax
open Go

section
variable {P : Program} {N0 : Nat} {ρ : Ren} {H : AH} {w : World} {ev ev' : Operand → Value}

def byteVals (s : ByteArray) : List Value := s.data.toList.map fun b => .int .u8 b.toNat

/-- What a slice or a string hands to append or copy: how many elements, and their first n's cells. -/
def srcLen : Value → Option Nat
  | .slice _ n _ => some n
  | .string s => some s.size
  | _ => none

def srcCells (H : AH) (size n : Nat) : Value → Option (List Value)
  | .slice (some ⟨b, o, _⟩) _ _ => bif Nat.blt o BIG then loadA H b o (n * size) else bif Nat.beq n 0 then some [] else none
  | .slice none _ _ => some []
  | .string s => some (byteVals (s.extract 0 n))
  | _ => none

theorem srcLen_rel {v v' : Value} (hv : VR ρ H.next v v') {n : Nat} (h : srcLen v = some n) : (Builtin.lenOf v').run P w = .ok n w := by
  unfold srcLen at h
  split at h
  · rename_i a n' c
    cases h
    cases a with
    | none => obtain rfl := hv.inv_slnil; rfl
    | some a =>
      obtain ⟨_, _, h3⟩ := hv.inv_sl
      rcases h3 with ⟨c', rfl, _⟩ | ⟨_, rfl, o', c', rfl⟩ <;> rfl
  · cases h
    obtain rfl := hv.inv_string
    rfl
  · cases h

theorem byteVals_rel {N : Nat} (s : ByteArray) : AR ρ N (byteVals s).toArray (s.data.map fun b => .int .u8 b.toNat) := by
  have : (byteVals s).toArray = (s.data.map fun b => Value.int .u8 b.toNat) := by
    apply Array.toList_inj.1
    simp [byteVals]
  rw [this]
  refine ⟨rfl, fun i h1 h2 => ?_⟩
  simp only [Array.getElem_map]
  exact .int _ _

theorem srcCells_rel (s : Sim N0 ρ H w) {size n : Nat} {v v' : Value} (hv : VR ρ H.next v v') {l : List Value} (h : srcCells H size n v = some l) :
    ∃ a', (Builtin.firstCells size n v').run P w = .ok a' w ∧ AR ρ H.next l.toArray a' := by
  unfold srcCells at h
  split at h
  · rename_i b o sp len c
    obtain ⟨_, hb, h3⟩ := hv.inv_sl
    cases hob : Nat.blt o BIG <;> simp only [hob, cond_true, cond_false] at h
    · obtain ⟨hn, rfl⟩ := bif_some h
      have hn' := Nat.eq_of_beq_eq_true hn
      subst hn'
      have : ∃ o' c', v' = .slice (some ⟨ρ b, o', none⟩) len c' := by
        rcases h3 with ⟨c', rfl, _⟩ | ⟨_, rfl, o', c', rfl⟩ <;> exact ⟨_, _, rfl⟩
      obtain ⟨o', c', rfl⟩ := this
      exact ⟨#[], by simp [Builtin.firstCells, loadCells, loadCellsFrom], AR.nil⟩
    · have hob' := lt_of_blt hob
      rcases h3 with ⟨c', rfl, _⟩ | ⟨hbig, _⟩
      case inr => simp only at hbig; omega
      obtain ⟨r', h1, h2⟩ := loadA_rel (P := P) s h
      exact ⟨r', by simp [Builtin.firstCells, h1], h2⟩
  · cases h
    obtain rfl := hv.inv_slnil
    exact ⟨#[], by simp [Builtin.firstCells], AR.nil⟩
  · rename_i str
    cases h
    obtain rfl := hv.inv_string
    exact ⟨_, by simp [Builtin.firstCells], byteVals_rel _⟩
  · cases h

/-! ### copy -/
def aCopy (P : Program) (H : AH) (t0 : Option TypeId) (d x : Value) : Option (Value × AH) :=
  match t0 with
  | none => none
  | some t =>
    match P.underlying t, d, srcLen x with
    | some (.slice elem), .slice base dl _, some n =>
      match szA P elem with
      | none => none
      | some size =>
        match srcCells H size (Nat.min n dl) x with
        | none => none
        | some l =>
          match base with
          | none => some (goInt (Nat.min n dl), H)
          | some ⟨b, o, _⟩ =>
            bif Nat.blt o BIG then
              match writeA H b o l with
              | some H' => some (goInt (Nat.min n dl), H')
              | none => none
            else bif l.isEmpty then some (goInt (Nat.min n dl), H) else none
    | _, _, _ => none

theorem aCopy_sound (s : Sim N0 ρ H w) {ts : Array TypeId} {ty : TypeId} {args : Array Value} {d d' x x' : Value} (h0 : args[0]? = some d') (h1 : args[1]? = some x') (hd : VR ρ H.next d d') (hx : VR ρ H.next x x') {v : Value} {H' : AH} (h : aCopy P H ts[0]? d x = some (v, H')) :
    EOk P N0 ρ H w (do pure (.value (← Builtin.copy_ ts ty args))) v H' := by
  unfold aCopy at h
  split at h
  · cases h
  rename_i t ht0
  split at h
  case h_2 => cases h
  rename_i elem base dl c n ht hn
  split at h
  · cases h
  rename_i size hs
  split at h
  · cases h
  rename_i l hl
  have hlen := srcLen_rel (P := P) (w := w) hx hn
  obtain ⟨a', g1, g2⟩ := srcCells_rel (P := P) s hx hl
  split at h
  · cases h
    obtain rfl := hd.inv_slnil
    refine ⟨ρ, w, s, Fr.refl _ _ _, .inl ⟨_, ?_, .int _ _⟩⟩
    simp only [Builtin.copy_, ht0, h0, h1, Sem.run_bind, run_underlying_of ht, Result.andThen_ok, hlen, run_sizeOf_of hs, g1, Sem.run_pure]
    rfl
  · rename_i b o sp
    obtain ⟨_, hb, h3⟩ := hd.inv_sl
    cases hob : Nat.blt o BIG <;> simp only [hob, cond_true, cond_false] at h
    · obtain ⟨hn0, he⟩ := bif_some h
      cases he
      have hl0 : l = [] := List.isEmpty_iff.1 hn0
      subst hl0
      have ha : a' = #[] := Array.eq_empty_of_size_eq_zero (by have := g2.1; simpa using this.symm)
      subst ha
      have : ∃ o' c', d' = .slice (some ⟨ρ b, o', none⟩) dl c' := by
        rcases h3 with ⟨c', rfl, _⟩ | ⟨_, rfl, o', c', rfl⟩ <;> exact ⟨_, _, rfl⟩
      obtain ⟨o', c', rfl⟩ := this
      refine ⟨ρ, w, s, Fr.refl _ _ _, .inl ⟨_, ?_, .int _ _⟩⟩
      simp only [Builtin.copy_, ht0, h0, h1, Sem.run_bind, run_underlying_of ht, Result.andThen_ok, hlen, run_sizeOf_of hs, g1, Sem.run_pure, storeCells]
      rfl
    · have hob' := lt_of_blt hob
      rcases h3 with ⟨c', rfl, _⟩ | ⟨hbig, _⟩
      case inr => simp only at hbig; omega
      split at h
      case h_2 => cases h
      rename_i H2 hw
      cases h
      obtain ⟨w', k1, k2, k3⟩ := writeA_sound (P := P) s (by simpa using g2.all2) hw
      refine ⟨ρ, w', k2, k3, .inl ⟨_, ?_, .int _ _⟩⟩
      simp only [Builtin.copy_, ht0, h0, h1, Sem.run_bind, run_underlying_of ht, Result.andThen_ok, hlen, run_sizeOf_of hs, g1, Sem.run_pure, k1]
      rfl

/-! ### a string's iterator -/
def aNextStr (H : AH) (it : Value) : Option (Value × AH) :=
  match it with
  | .pointer (some ⟨r, 0, _⟩) =>
    match H.tr.get r with
    | some (.strIter s pos) =>
      bif Nat.blt pos s.size then
        some (.tuple #[.bool true, goInt pos, .int .i32 (Utf8.decode s pos).1], H.put r (.strIter s (pos + (Utf8.decode s pos).2)))
      else some (.tuple #[.bool false], H)
    | _ => none
  | _ => none

theorem aNextStr_sound (s : Sim N0 ρ H w) {it it' : Value} {ty : TypeId} (hi : VR ρ H.next it it') {v : Value} {H' : AH} (h : aNextStr H it = some (v, H')) :
    EOk P N0 ρ H w (do pure (.value (← Instr.next it' true ty))) v H' := by
  unfold aNextStr at h
  split at h
  case h_2 => cases h
  rename_i r sp
  split at h
  case h_2 => cases h
  rename_i str pos hr
  obtain ⟨_, _, rfl⟩ := hi.inv_ptr
  obtain ⟨_, o', ho, hro, hks⟩ := s.blk r _ hr
  have hlt := s.lt hr
  cases hro with
  | strIter =>
    cases hb : Nat.blt pos str.size <;> simp only [hb, cond_true, cond_false] at h
    · cases h
      have := le_of_blt hb
      refine ⟨ρ, w, s, Fr.refl _ _ _, .inl ⟨.tuple #[.bool false], ?_, flat_self (N0 := N0) s.low s.fix rfl⟩⟩
      simp [Instr.next, getObj, Sem.run, ho, show ¬ pos < str.size from by omega]
    · cases h
      have hp := lt_of_blt hb
      obtain ⟨g1, g2⟩ := sim_put (w' := { w with heap := w.heap.setIfInBounds (ρ r) (.stringIter str (pos + (Utf8.decode str pos).2)) }) s hr (.strIter str (pos + (Utf8.decode str pos).2)) trivial (by simp [hlt])
        (fun k hk => by simp only; rw [Array.getElem?_setIfInBounds_ne (by omega)]) (by simp) rfl rfl rfl
      refine ⟨ρ, _, g1, g2, .inl ⟨.tuple #[.bool true, goInt pos, .int .i32 (Utf8.decode str pos).1], ?_, flat_self (N0 := N0) s.low s.fix rfl⟩⟩
      simp [Instr.next, getObj, setObj, Sem.run, ho, hp]

/-! ### close -/
def aClose (H : AH) (c : Value) : Option (Value × AH) :=
  match c with
  | .chan (some r) =>
    match H.tr.get r with
    | some (.chan room false sent received timer) => some (undef, H.put r (.chan room true sent received timer))
    | _ => none
  | _ => none

theorem aClose_sound (s : Sim N0 ρ H w) {ts : Array TypeId} {ty : TypeId} {c c' : Value} (hc : VR ρ H.next c c') {v : Value} {H' : AH} (h : aClose H c = some (v, H')) :
    EOk P N0 ρ H w (do pure (.value (← Builtin.close_ ts ty #[c']))) v H' := by
  unfold aClose at h
  split at h
  case h_2 => cases h
  rename_i r
  split at h
  case h_2 => cases h
  rename_i room sent received timer hr
  cases h
  obtain ⟨_, rfl⟩ := hc.inv_chan
  obtain ⟨_, o', ho, hro, hks⟩ := s.blk r _ hr
  have hlt := s.lt hr
  cases hro with
  | chan =>
    obtain ⟨g1, g2⟩ := sim_put (w' := { w with heap := w.heap.setIfInBounds (ρ r) (.chan room #[] true sent received timer) }) s hr (.chan room true sent received timer) trivial (by simp [hlt])
        (fun k hk => by simp only; rw [Array.getElem?_setIfInBounds_ne (by omega)]) (by simp) rfl rfl rfl
    refine ⟨ρ, _, g1, g2, .inl ⟨.tuple #[], ?_, .top _⟩⟩
    have e : Builtin.close_ ts ty #[Value.chan (some (ρ r))] = (do
        let .chan room buf closed sent received timer ← getObj (ρ r) | stuck "close: no channel in this block"
        if closed then runtimePanic (.plain "close of closed channel")
        setObj (ρ r) (.chan room buf true sent received timer)
        pure (.tuple #[])) := rfl
    rw [e]
    simp [getObj, setObj, Sem.run, ho]

end
end Go.Ax
