/-
  reflectlite's three entries that look at memory, at this program's one type (own work, after the kit's worked errors.As).
-/
import Derived.Test.YtdlebapkbdckpaaGreatDoorRows
import Derived.Test.YtdlebapkbdckpaaGreatDoorAx25
import Derived.Laws.Externs
namespace Go.Proofs.YtdlebapkbdckpaaGreatDoor
open Go Go.Ax Go.RowKit Go.Extern

theorem valueOf87 (t : Addr) (w : World) : (callFunc 32 #[.iface 87 (.pointer (some t))]).run Tryz.prog w
    = .ok (.value (.agg #[.pointer (some ⟨14, 87, none⟩), .pointer (some ⟨w.heap.size, 0, none⟩), .int .u64 150])) (w.alloc (.cells #[.pointer (some t)] 87)) := by kernel_rfl
theorem type87 (a : Addr) (w : World) : (callFunc 33 #[.agg #[.pointer (some ⟨14, 87, none⟩), .pointer (some a), .int .u64 150]]).run Tryz.prog w
    = .ok (.value (.iface 117 (.agg #[.pointer (some ⟨14, 87, none⟩)]))) w := by kernel_rfl
theorem isNil_eq (v : Value) (w : World) : (callFunc 34 #[v]).run Tryz.prog w = ((ReflectliteValue.method (ReflectliteValue.valueError "reflectlite.Value.IsNil" 0) ReflectliteValue.isNil #[v]).run Tryz.prog w).andThen fun x w' => .ok (.value x) w' :=
  run_callFunc_extern Tryz.func34 (by kernel_rfl) rfl (by kernel_rfl) (by kernel_rfl) _ _
theorem rlm (z : Sem Value) (f : TypeId → Addr → Nat → Nat → Sem Value) (v : Value) :
    ReflectliteValue.method z f #[v] = (do match ← ReflectliteValue.parts v with | none => z | some (t, a, fl) => f t a fl (fl % 32)) := rfl
theorem parts87 (a : Addr) (w : World) : (ReflectliteValue.parts (.agg #[.pointer (some ⟨14, 87, none⟩), .pointer (some a), .int .u64 150])).run Tryz.prog w = .ok (some (87, a, 150)) w := by kernel_rfl
theorem isNil87 (a p : Addr) (W : World) (ha : W.cell? a = some (.pointer (some p))) :
    (callFunc 34 #[.agg #[.pointer (some ⟨14, 87, none⟩), .pointer (some a), .int .u64 150]]).run Tryz.prog W = .ok (.value (.bool false)) W := by
  rw [isNil_eq, rlm]
  simp only [Sem.run_bind, parts87, Result.andThen]
  simp [ReflectliteValue.isNil, loadVar, isAgg, underlying, Tryz.underlying87, ha, Result.andThen]

def hd87 : Value := .pointer (some ⟨14, 87, none⟩)
/-- The parts of a reflectlite.Value of the one type: where its variable lies. -/
def parts? (v : Value) : Option (Nat × Nat) :=
  match v with
  | .agg a =>
    match a.toList with
    | [h, .pointer (some ⟨b, o, none⟩), k] => bif veq h hd87 && veq k (.int .u64 150) then some (b, o) else none
    | _ => none
  | _ => none

def extG : ExtFn := fun g args H =>
  match args.toList with
  | [x] =>
    bif Nat.beq g 32 then
      match x with
      | .iface t (.pointer (some ⟨b, o, none⟩)) => bif Nat.beq t 87 then some (.agg #[hd87, .pointer (some ⟨H.next, 0, none⟩), .int .u64 150], H.alloc (mkCells #[.pointer (some ⟨b, o, none⟩)] 87)) else none
      | _ => none
    else bif Nat.beq g 33 then
      match parts? x with
      | some _ => some (.iface 117 (.agg #[hd87]), H)
      | none => none
    else bif Nat.beq g 34 then
      match parts? x with
      | some (b, o) =>
        match H.tr.get b with
        | some (.cells size tr _ _) =>
          match tr.get o with
          | some (.pointer (some ⟨_, _, none⟩)) => bif Nat.blt o size then some (.bool false, H) else none
          | _ => none
        | _ => none
      | none => none
    else none
  | _ => none

theorem hd_rel {ρ : Ren} {N : Nat} (hN : 19 ≤ N) (fix : ∀ i, i < 19 → ρ i = i) : VR ρ N hd87 hd87 := by
  have := VR.ptr (ρ := ρ) (N := N) 14 87 (by omega)
  rw [fix 14 (by omega)] at this
  exact this

theorem one_rel {ρ : Ren} {N : Nat} {args args' : Array Value} {x : Value} (h : AR ρ N args args') (hx : args.toList = [x]) : ∃ x', args' = #[x'] ∧ VR ρ N x x' := by
  obtain ⟨l⟩ := args
  simp only at hx
  subst hx
  obtain ⟨hs, hv⟩ := h
  obtain ⟨l'⟩ := args'
  match l', hs with
  | [x'], _ => exact ⟨x', rfl, hv 0 (by simp) (by simp)⟩

theorem parts_rel {ρ : Ren} {N : Nat} {x x' : Value} {b o : Nat} (fix : ∀ i, i < 19 → ρ i = i) (h : VR ρ N x x') (hp : parts? x = some (b, o)) : x' = .agg #[.pointer (some ⟨14, 87, none⟩), .pointer (some ⟨ρ b, o, none⟩), .int .u64 150] := by
  unfold parts? at hp
  split at hp
  case h_2 => cases hp
  rename_i a
  split at hp
  case h_2 => cases hp
  rename_i h0 b' o' k ha
  obtain ⟨hc, he⟩ := bif_some hp
  cases he
  rw [Bool.and_eq_true] at hc
  have e1 := veq_eq hc.1
  have e2 := veq_eq hc.2
  subst e1 e2
  obtain ⟨l⟩ := a
  simp only at ha
  subst ha
  cases h with
  | agg _ a' hs hv =>
    obtain ⟨l'⟩ := a'
    match l', hs with
    | [y0, y1, y2], _ =>
      have h0 : VR ρ N hd87 y0 := hv 0 (by simp) (by simp)
      have h1 : VR ρ N (.pointer (some ⟨b, o, none⟩)) y1 := hv 1 (by simp) (by simp)
      have h2 : VR ρ N (.int .u64 150) y2 := hv 2 (by simp) (by simp)
      unfold hd87 at h0
      cases h0; cases h1; cases h2
      rw [fix 14 (by omega)]

theorem extG_ok : ExtOk Tryz.prog 19 extG := by
  intro g args H v H' h ρ w args' hs ha
  unfold extG at h
  split at h
  case h_2 => cases h
  rename_i x hx
  obtain ⟨x', rfl, hr⟩ := one_rel ha hx
  cases h32 : Nat.beq g 32 with
  | true =>
    rw [h32, cond_true] at h
    have := Nat.eq_of_beq_eq_true h32
    subst this
    split at h
    case h_2 => cases h
    rename_i t b o
    obtain ⟨ht, he⟩ := bif_some h
    have := Nat.eq_of_beq_eq_true ht
    subst this
    cases he
    cases hr with
    | iface _ _ y hy =>
      cases hy with
      | ptr _ _ hb =>
        have har : AR ρ H.next #[.pointer (some ⟨b, o, none⟩)] #[.pointer (some ⟨ρ b, o, none⟩)] := ⟨rfl, fun i h1 h2 => by
          have h3 : i < 1 := h1
          have : i = 0 := by omega
          subst this
          exact VR.ptr b o hb⟩
        have ho : ObjR ρ H.next (mkCells #[.pointer (some ⟨b, o, none⟩)] 87) (.cells #[.pointer (some ⟨ρ b, o, none⟩)] 87) := mkCells_rel har 87
        obtain ⟨g1, g2⟩ := sim_alloc hs ho
        have hN : 19 ≤ (H.alloc (mkCells #[.pointer (some ⟨b, o, none⟩)] 87)).next := Nat.le_succ_of_le hs.low
        refine ⟨_, _, g1, g2, .inl ⟨_, valueOf87 ⟨ρ b, o, none⟩ w, ?_⟩⟩
        refine .agg _ _ rfl fun i h1 h2 => ?_
        have hi : i = 0 ∨ i = 1 ∨ i = 2 := by simp at h1; omega
        rcases hi with rfl | rfl | rfl
        · exact hd_rel hN g1.fix
        · have := VR.ptr (ρ := Go.Ax.ext ρ H.next w.heap.size (objSize (.cells #[.pointer (some ⟨ρ b, o, none⟩)] 87))) (N := (H.alloc (mkCells #[.pointer (some ⟨b, o, none⟩)] 87)).next) H.next 0 (Nat.lt_succ_self _)
          rw [ext_same] at this
          exact this
        · exact .int _ _
  | false =>
    rw [h32, cond_false] at h
    cases h33 : Nat.beq g 33 with
    | true =>
      rw [h33, cond_true] at h
      have := Nat.eq_of_beq_eq_true h33
      subst this
      split at h
      case h_2 => cases h
      rename_i p hp
      obtain ⟨b, o⟩ := p
      cases h
      have := parts_rel hs.fix hr hp
      subst this
      refine ⟨ρ, w, hs, Fr.refl _ _ _, .inl ⟨_, type87 _ w, ?_⟩⟩
      refine .iface _ _ _ (.agg _ _ rfl fun i h1 h2 => ?_)
      have : i = 0 := by simp at h1; omega
      subst this
      exact hd_rel hs.low hs.fix
    | false =>
      rw [h33, cond_false] at h
      obtain ⟨h34, h⟩ := bif_some' h
      have := Nat.eq_of_beq_eq_true h34
      subst this
      split at h
      case h_2 => cases h
      rename_i b o hp
      split at h
      case h_2 => cases h
      rename_i size tr el fz hg
      split at h
      case h_2 => cases h
      rename_i pb po hc
      obtain ⟨hlt, he⟩ := bif_some h
      cases he
      have := parts_rel hs.fix hr hp
      subst this
      obtain ⟨_, o', ho', hobj, _⟩ := hs.blk _ _ hg
      cases hobj with
      | cells _ _ _ _ c' fz' hsz hz hcell =>
        obtain ⟨v', hv1, hv2⟩ := hcell o _ (lt_of_blt hlt) hc
        cases hv2 with
        | ptr _ _ hb =>
          refine ⟨ρ, w, hs, Fr.refl _ _ _, .inl ⟨_, isNil87 ⟨ρ b, o, none⟩ ⟨ρ pb, po, none⟩ w ?_, .bool _⟩⟩
          simp [World.cell?, ho', hv1]
end Go.Proofs.YtdlebapkbdckpaaGreatDoor
