/-
  Ax2: pure runs, inversions, reading the abstract heap, and the operations that leave the heap as it is (own work).
-/
import Derived.Test.YtdlebapkbdckpaaGreatDoorAx1
import Derived.WalkKit
namespace Go.Ax
open Go

inductive PRes (α : Type) where
  | fail
  | ok (a : α)
  | panic (v : Value)

/-- A run that looks at no world. -/
def pe {α : Type} (P : Program) : Sem α → PRes α
  | .pure a => .ok a
  | .program k => pe P (k P)
  | .mark _ k => pe P k
  | .choose q k => bif q.forced then pe P (k 0) else .fail
  | .halt (.panic v) => .panic v
  | _ => .fail

theorem pe_ok {α : Type} {P : Program} {s : Sem α} {a : α} (h : pe P s = .ok a) (w : World) : s.run P w = .ok a w := by
  induction s with
  | pure b => simp only [pe, PRes.ok.injEq] at h; subst h; rfl
  | program k ih => simp only [pe] at h; simp only [Sem.run]; exact ih P h
  | mark m k ih => simp only [pe] at h; simp only [Sem.run]; exact ih h
  | choose q k ih =>
    simp only [pe] at h
    cases hq : q.forced <;> simp only [hq, cond_true, cond_false] at h
    · cases h
    · simp only [Sem.run, hq, if_true]; exact ih 0 h
  | halt x => cases x <;> simp only [pe] at h <;> cases h
  | _ => simp only [pe] at h; cases h

theorem pe_panic {α : Type} {P : Program} {s : Sem α} {v : Value} (h : pe P s = .panic v) (w : World) : s.run P w = .halt (.panic v) w := by
  induction s with
  | pure b => simp only [pe] at h; cases h
  | program k ih => simp only [pe] at h; simp only [Sem.run]; exact ih P h
  | mark m k ih => simp only [pe] at h; simp only [Sem.run]; exact ih h
  | choose q k ih =>
    simp only [pe] at h
    cases hq : q.forced <;> simp only [hq, cond_true, cond_false] at h
    · cases h
    · simp only [Sem.run, hq, if_true]; exact ih 0 h
  | halt x => cases x <;> simp only [pe] at h <;> first | (cases h; rfl) | cases h
  | _ => simp only [pe] at h; cases h

/-! ## Inversions -/
section inv
variable {ρ : Ren} {N : Nat} {v' : Value}
theorem VR.inv_bool {b : Bool} (h : VR ρ N (.bool b) v') : v' = .bool b := by
  generalize hx : Value.bool b = x at h
  cases h <;> simp [undef] at hx <;> simp
theorem VR.inv_int {k : IntKind} {n : Int} (h : VR ρ N (.int k n) v') : v' = .int k n := by
  generalize hx : Value.int k n = x at h
  cases h <;> simp [undef] at hx <;> simp
theorem VR.inv_string {s : ByteArray} (h : VR ρ N (.string s) v') : v' = .string s := by
  generalize hx : Value.string s = x at h
  cases h <;> simp [undef] at hx <;> simp
theorem VR.inv_pnil (h : VR ρ N (.pointer none) v') : v' = .pointer none := by
  generalize hx : Value.pointer none = x at h
  cases h <;> simp [undef] at hx <;> rfl
theorem VR.inv_ptr {a : Addr} (h : VR ρ N (.pointer (some a)) v') : a.spot = none ∧ a.block < N ∧ v' = .pointer (some ⟨ρ a.block, a.off, none⟩) := by
  generalize hx : Value.pointer (some a) = x at h
  cases h <;> simp [undef] at hx
  subst hx; exact ⟨rfl, by assumption, rfl⟩
theorem VR.inv_slnil {l c : Nat} (h : VR ρ N (.slice none l c) v') : v' = .slice none l c := by
  generalize hx : Value.slice none l c = x at h
  cases h <;> simp [undef] at hx <;> simp
theorem VR.inv_sl {a : Addr} {l c : Nat} (h : VR ρ N (.slice (some a) l c) v') : a.spot = none ∧ a.block < N ∧
    ((∃ c', v' = .slice (some ⟨ρ a.block, a.off, none⟩) l c' ∧ CapR (ρ.k a.block) a.off c c') ∨ (a.off = BIG ∧ l = 0 ∧ ∃ o' c', v' = .slice (some ⟨ρ a.block, o', none⟩) 0 c')) := by
  generalize hx : Value.slice (some a) l c = x at h
  cases h <;> simp [undef] at hx
  case sl b o l' c1 c2 hb hc => obtain ⟨rfl, rfl, rfl⟩ := hx; exact ⟨rfl, hb, .inl ⟨c2, rfl, hc⟩⟩
  case slz b o' c' hb => obtain ⟨rfl, rfl, rfl⟩ := hx; exact ⟨rfl, hb, .inr ⟨rfl, rfl, o', c', rfl⟩⟩
theorem VR.inv_map {r : Nat} (h : VR ρ N (.map (some r)) v') : r < N ∧ v' = .map (some (ρ r)) := by
  generalize hx : Value.map (some r) = x at h
  cases h <;> simp [undef] at hx
  subst hx; exact ⟨by assumption, rfl⟩
theorem VR.inv_chan {r : Nat} (h : VR ρ N (.chan (some r)) v') : r < N ∧ v' = .chan (some (ρ r)) := by
  generalize hx : Value.chan (some r) = x at h
  cases h <;> simp [undef] at hx
  subst hx; exact ⟨by assumption, rfl⟩
theorem VR.inv_iface {t : TypeId} {v : Value} (h : VR ρ N (.iface t v) v') : ∃ u, v' = .iface t u ∧ VR ρ N v u := by
  generalize hx : Value.iface t v = x at h
  cases h <;> simp [undef] at hx
  obtain ⟨rfl, rfl⟩ := hx; exact ⟨_, rfl, by assumption⟩
theorem VR.inv_niliface (h : VR ρ N .nilIface v') : v' = .nilIface := by
  generalize hx : Value.nilIface = x at h
  cases h <;> simp [undef] at hx <;> rfl
theorem VR.inv_nilfunc (h : VR ρ N .nilFunc v') : v' = .nilFunc := by
  generalize hx : Value.nilFunc = x at h
  cases h <;> simp [undef] at hx <;> rfl
theorem VR.inv_agg {a : Array Value} (h : VR ρ N (.agg a) v') : ∃ a', v' = .agg a' ∧ AR ρ N a a' := by
  generalize hx : Value.agg a = x at h
  cases h <;> simp [undef] at hx
  subst hx; exact ⟨_, rfl, by assumption, by assumption⟩
theorem VR.inv_tuple {a : Array Value} (h : VR ρ N (.tuple a) v') (hs : a.size ≠ 0) : ∃ a', v' = .tuple a' ∧ AR ρ N a a' := by
  generalize hx : Value.tuple a = x at h
  cases h <;> simp [undef] at hx
  · subst hx; exact absurd rfl hs
  · subst hx; exact ⟨_, rfl, by assumption, by assumption⟩
theorem VR.inv_func {fn : Fn} {a c : Array Value} (h : VR ρ N (.func fn a c) v') : ∃ a' c', v' = .func fn a' c' ∧ AR ρ N a a' ∧ AR ρ N c c' := by
  generalize hx : Value.func fn a c = x at h
  cases h <;> simp [undef] at hx
  obtain ⟨rfl, rfl, rfl⟩ := hx; exact ⟨_, _, rfl, ⟨by assumption, by assumption⟩, by assumption, by assumption⟩
end inv

def isTuple : Value → Bool
  | .tuple _ => true
  | .float _ n => Nat.ble 18446744073709551616 n
  | _ => false

theorem VR.cells {ρ : Ren} {N : Nat} {v v' : Value} (h : VR ρ N v v') (hv : isTuple v = false) : AR ρ N v.cells v'.cells ∧ isTuple v' = false := by
  cases h with
  | top => simp [isTuple, undef] at hv
  | skip => exact absurd hv (by decide)
  | tuple a a' ha ra => simp [isTuple] at hv
  | agg a a' ha ra => exact ⟨⟨ha, ra⟩, rfl⟩
  | bool b => exact ⟨.singleton (.bool b), rfl⟩
  | int k n => exact ⟨.singleton (.int k n), rfl⟩
  | float k n => exact ⟨.singleton (.float k n), hv⟩
  | complex k a b => exact ⟨.singleton (.complex k a b), rfl⟩
  | string s => exact ⟨.singleton (.string s), rfl⟩
  | nilFunc => exact ⟨.singleton .nilFunc, rfl⟩
  | nilIface => exact ⟨.singleton .nilIface, rfl⟩
  | pnil => exact ⟨.singleton .pnil, rfl⟩
  | mapnil => exact ⟨.singleton .mapnil, rfl⟩
  | channil => exact ⟨.singleton .channil, rfl⟩
  | slnil l c => exact ⟨.singleton (.slnil l c), rfl⟩
  | ptr b o h => exact ⟨.singleton (.ptr b o h), rfl⟩
  | sl b o l c c' h hc => exact ⟨.singleton (.sl b o l c c' h hc), rfl⟩
  | slz b o' c' h => exact ⟨.singleton (.slz b o' c' h), rfl⟩
  | map r h => exact ⟨.singleton (.map r h), rfl⟩
  | chan r h => exact ⟨.singleton (.chan r h), rfl⟩
  | func fn a a' c c' ha hc ra rc => exact ⟨.singleton (.func fn a a' c c' ha hc ra rc), rfl⟩
  | iface t v v' r => exact ⟨.singleton (.iface t v v' r), rfl⟩

/-! ## Reading the abstract heap -/
theorem add_none (b o n : Nat) : (⟨b, o, none⟩ : Addr).add n = ⟨b, o + n, none⟩ := by
  unfold Addr.add
  by_cases h : n = 0
  · simp [h]
  · simp [h]

def cellA (H : AH) (b o : Nat) : Option Value :=
  match H.tr.get b with
  | some (.cells size tr _ _) => bif Nat.blt o size then tr.get o else none
  | _ => none

theorem cellA_rel {N0 : Nat} {ρ : Ren} {H : AH} {w : World} (s : Sim N0 ρ H w) {b o : Nat} {v : Value} (h : cellA H b o = some v) :
    ∃ v', w.cell? ⟨ρ b, o, none⟩ = some v' ∧ VR ρ H.next v v' := by
  unfold cellA at h
  split at h
  · rename_i size tr elem fz hb
    cases hlt : Nat.blt o size <;> simp only [hlt, cond_true, cond_false] at h
    · cases h
    · obtain ⟨_, o', ho, hr, _⟩ := s.blk b _ hb
      cases hr with
      | cells _ _ _ _ c' fz' hs hz hc =>
        obtain ⟨v', hv, hvr⟩ := hc o v (by simpa [Nat.blt_eq] using hlt) h
        exact ⟨v', by simp [World.cell?, ho, hv], hvr⟩
  · cases h

def loadA (H : AH) (b : Nat) : Nat → Nat → Option (List Value)
  | _, 0 => some []
  | o, n + 1 =>
    match cellA H b o with
    | none => none
    | some v =>
      match loadA H b (o + 1) n with
      | none => none
      | some r => some (v :: r)

theorem loadA_from {P : Program} {N0 : Nat} {ρ : Ren} {H : AH} {w : World} (s : Sim N0 ρ H w) (b o : Nat) : ∀ (n i : Nat) (l : List Value) (acc acc' : Array Value),
    loadA H b (o + i) n = some l → AR ρ H.next acc acc' → ∃ r', (loadCellsFrom ⟨ρ b, o, none⟩ i n acc').run P w = .ok r' w ∧ AR ρ H.next (acc ++ l.toArray) r' := by
  intro n
  induction n with
  | zero =>
    intro i l acc acc' h ha
    simp only [loadA, Option.some.injEq] at h
    subst h
    exact ⟨acc', by simp [loadCellsFrom], by simpa using ha⟩
  | succ n ih =>
    intro i l acc acc' h ha
    simp only [loadA] at h
    split at h
    · cases h
    · rename_i v hv
      split at h
      · cases h
      · rename_i r hr
        simp only [Option.some.injEq] at h
        subst h
        obtain ⟨v', hv', hvr⟩ := cellA_rel s hv
        obtain ⟨r', h1, h2⟩ := ih (i + 1) r (acc.push v) (acc'.push v') (by rw [show o + (i + 1) = o + i + 1 from by omega]; exact hr) (ha.push hvr)
        refine ⟨r', ?_, ?_⟩
        · simp only [loadCellsFrom, Sem.run_bind, run_load, add_none, hv', Result.andThen_ok]
          exact h1
        · simpa using h2

theorem loadA_rel {P : Program} {N0 : Nat} {ρ : Ren} {H : AH} {w : World} (s : Sim N0 ρ H w) {b o n : Nat} {l : List Value} (h : loadA H b o n = some l) :
    ∃ r', (loadCells ⟨ρ b, o, none⟩ n).run P w = .ok r' w ∧ AR ρ H.next l.toArray r' := by
  obtain ⟨r', h1, h2⟩ := loadA_from (P := P) s b o n 0 l #[] #[] h AR.nil
  exact ⟨r', h1, by simpa using h2⟩

def szA (P : Program) (t : TypeId) : Option Nat := (P.info? t).map (·.size)
def aggA (P : Program) (t : TypeId) : Option Bool :=
  match P.underlying t with
  | some (.struct _) | some (.array _ _) => some true
  | some _ => some false
  | none => none

theorem run_sizeOf_of {P : Program} {t : TypeId} {n : Nat} (h : szA P t = some n) (w : World) : (sizeOf t).run P w = .ok n w := by
  unfold szA at h
  simp only [Option.map_eq_some_iff] at h
  obtain ⟨i, hi, rfl⟩ := h
  simp [sizeOf, typeInfo, hi]

theorem run_isAgg_of {P : Program} {t : TypeId} {b : Bool} (h : aggA P t = some b) (w : World) : (isAgg t).run P w = .ok b w := by
  unfold aggA at h
  unfold isAgg underlying
  simp only [Sem.run_bind, run_program, Result.andThen_ok]
  split at h
  · rename_i f hf; cases h; simp [hf]
  · rename_i n e hf; cases h; simp [hf]
  · rename_i d h1 h2 hf
    cases h
    simp only [hf]
    simp only [Sem.run_pure, Result.andThen_ok]
  · cases h

def loadVarA (P : Program) (H : AH) (t : TypeId) (b o : Nat) : Option Value :=
  match aggA P t with
  | some true =>
    match szA P t with
    | some n =>
      match loadA H b o n with
      | some l => some (.agg l.toArray)
      | none => none
    | none => none
  | some false => cellA H b o
  | none => none

theorem loadVarA_rel {P : Program} {N0 : Nat} {ρ : Ren} {H : AH} {w : World} (s : Sim N0 ρ H w) {t : TypeId} {b o : Nat} {v : Value} (h : loadVarA P H t b o = some v) :
    ∃ v', (loadVar t ⟨ρ b, o, none⟩).run P w = .ok v' w ∧ VR ρ H.next v v' := by
  unfold loadVarA at h
  split at h
  · rename_i ha
    split at h
    · rename_i n hn
      split at h
      · rename_i l hl
        simp only [Option.some.injEq] at h
        subst h
        obtain ⟨r', h1, h2⟩ := loadA_rel (P := P) s hl
        exact ⟨.agg r', by simp [loadVar, run_isAgg_of ha, run_sizeOf_of hn, h1], .agg _ _ h2.1 h2.2⟩
      · cases h
    · cases h
  · rename_i ha
    obtain ⟨v', h1, h2⟩ := cellA_rel s h
    exact ⟨v', by simp [loadVar, run_isAgg_of ha, h1], h2⟩
  · cases h
end Go.Ax
