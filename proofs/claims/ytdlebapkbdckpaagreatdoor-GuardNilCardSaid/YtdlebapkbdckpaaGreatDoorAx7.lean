/-
  Ax7: what a quiet operation gives on the abstract heap it gives in the real one (own work).
-/
import Derived.Test.YtdlebapkbdckpaaGreatDoorAx6
namespace Go.Ax
open Go

section
variable {P : Program} {N0 : Nat} {ρ : Ren} {H : AH} {w : World} {ev ev' : Operand → Value}

/-- What stands at a comparison of two values that are not numbers, strings, structs or two nil interfaces. -/
def PlainCmp (P : Program) (t : TypeId) (x y : Value) : Prop :=
  (∀ op a b w, (eqGuard op t a b x y).run P w = .ok () w) ∧ binOp .eql t x y = (do pure (.bool (← Op.equal t x y))) ∧ binOp .neq t x y = (do pure (.bool (!(← Op.equal t x y))))

theorem plainCmp_of {t : TypeId} {x y : Value} (h1 : ∀ op a b w, (eqGuard op t a b x y).run P w = .ok () w) (h2 : binOp .eql t x y = (do pure (.bool (← Op.equal t x y))))
    (h3 : binOp .neq t x y = (do pure (.bool (!(← Op.equal t x y))))) : PlainCmp P t x y := ⟨h1, h2, h3⟩

theorem aEql_plain {t : TypeId} {x y x' y' : Value} (hx : VR ρ H.next x x') (hy : VR ρ H.next y y') {b : Bool} (h : aEql P t x y = some b) : PlainCmp P t x' y' := by
  unfold aEql at h
  have run0 : ∀ (op : BinOp) (w : World), (if (!(op matches .eql | .neq)) = true then (pure () : Sem Unit) else pure ()).run P w = .ok () w := by
    intro op w; split <;> rfl
  split at h
  · rename_i e bb ht
    obtain rfl := hx.inv_pnil
    cases bb with
    | none => obtain rfl := hy.inv_pnil; exact ⟨fun op _ _ _ => by cases op <;> rfl, rfl, rfl⟩
    | some a => obtain ⟨_, _, rfl⟩ := hy.inv_ptr; exact ⟨fun op _ _ _ => by cases op <;> rfl, rfl, rfl⟩
  · obtain ⟨_, _, rfl⟩ := hx.inv_ptr
    obtain rfl := hy.inv_pnil
    exact ⟨fun op _ _ _ => by cases op <;> rfl, rfl, rfl⟩
  · obtain ⟨_, _, rfl⟩ := hx.inv_ptr
    obtain ⟨_, _, rfl⟩ := hy.inv_ptr
    exact ⟨fun op _ _ _ => by cases op <;> rfl, rfl, rfl⟩
  · obtain rfl := hx.inv_niliface
    obtain ⟨_, rfl, _⟩ := hy.inv_iface
    exact ⟨fun op _ _ _ => by cases op <;> rfl, rfl, rfl⟩
  · obtain rfl := hy.inv_niliface
    obtain ⟨_, rfl, _⟩ := hx.inv_iface
    exact ⟨fun op _ _ _ => by cases op <;> rfl, rfl, rfl⟩
  · obtain ⟨_, rfl, _⟩ := hx.inv_iface
    obtain ⟨_, rfl, _⟩ := hy.inv_iface
    exact ⟨fun op _ _ _ => by cases op <;> rfl, rfl, rfl⟩
  · rename_i e l c bb l2 c2 ht
    obtain rfl := hx.inv_slnil
    cases bb with
    | none => obtain rfl := hy.inv_slnil; exact ⟨fun op _ _ _ => by cases op <;> rfl, rfl, rfl⟩
    | some a =>
      obtain ⟨_, _, h3⟩ := hy.inv_sl
      rcases h3 with ⟨c', rfl, _⟩ | ⟨_, _, o', c', rfl⟩ <;> exact ⟨fun op _ _ _ => by cases op <;> rfl, rfl, rfl⟩
  · obtain rfl := hy.inv_slnil
    obtain ⟨_, _, h3⟩ := hx.inv_sl
    rcases h3 with ⟨c', rfl, _⟩ | ⟨_, _, o', c', rfl⟩ <;> exact ⟨fun op _ _ _ => by cases op <;> rfl, rfl, rfl⟩
  · rename_i k e bb ht
    have hx' := flat_eq (N0 := 0) (fun i hi => absurd hi (by omega)) hx (by rfl)
    subst hx'
    cases bb with
    | none =>
      have hy' := flat_eq (N0 := 0) (fun i hi => absurd hi (by omega)) hy (by rfl)
      subst hy'; exact ⟨fun op _ _ _ => by cases op <;> rfl, rfl, rfl⟩
    | some a => obtain ⟨_, rfl⟩ := hy.inv_map; exact ⟨fun op _ _ _ => by cases op <;> rfl, rfl, rfl⟩
  · have hy' := flat_eq (N0 := 0) (fun i hi => absurd hi (by omega)) hy (by rfl)
    subst hy'
    obtain ⟨_, rfl⟩ := hx.inv_map
    exact ⟨fun op _ _ _ => by cases op <;> rfl, rfl, rfl⟩
  · obtain rfl := hx.inv_nilfunc
    obtain ⟨_, _, rfl, _, _⟩ := hy.inv_func
    exact ⟨fun op _ _ _ => by cases op <;> rfl, rfl, rfl⟩
  · obtain rfl := hy.inv_nilfunc
    obtain ⟨_, _, rfl, _, _⟩ := hx.inv_func
    exact ⟨fun op _ _ _ => by cases op <;> rfl, rfl, rfl⟩
  · cases h

theorem aCmp_sound {op : BinOp} {t : TypeId} {x y : Operand} (hev : ∀ x, VR ρ H.next (ev x) (ev' x)) {r : SRes} (h : aCmp P op t (ev x) (ev y) = some r) :
    SOk P ρ H.next w (do pure (.value (← (do eqGuard op t x y (ev' x) (ev' y); binOp op t (ev' x) (ev' y))))) r := by
  unfold aCmp at h
  split at h
  · simp only [Option.map_eq_some_iff] at h
    obtain ⟨b, hb, rfl⟩ := h
    obtain ⟨h1, h2, h3⟩ := aEql_plain (hev x) (hev y) hb
    have h4 := aEql_sound (w := w) (hev x) (hev y) hb 9999
    refine ⟨.bool b, ?_, .bool b⟩
    simp only [Sem.run_bind, h1, Result.andThen_ok, h2, Op.equal]
    rw [show Op.maxDepth = 9999 + 1 from rfl, h4]
    rfl
  · simp only [Option.map_eq_some_iff] at h
    obtain ⟨b, hb, rfl⟩ := h
    obtain ⟨h1, h2, h3⟩ := aEql_plain (hev x) (hev y) hb
    have h4 := aEql_sound (w := w) (hev x) (hev y) hb 9999
    refine ⟨.bool (!b), ?_, .bool _⟩
    simp only [Sem.run_bind, h1, Result.andThen_ok, h3, Op.equal]
    rw [show Op.maxDepth = 9999 + 1 from rfl, h4]
    rfl
  · cases h

theorem orElse_cases {a : Option SRes} {b : Unit → Option SRes} {r : SRes} (h : orElse' a b = some r) : a = some r ∨ b () = some r := by
  unfold orElse' at h
  split at h
  · exact .inl h
  · exact .inr h

theorem omap_some {f g : Operand → Value} (hev : ∀ x, VR ρ H.next (f x) (g x)) (o : Option Operand) : (∀ v, o.map f = some v → ∃ v', o.map g = some v' ∧ VR ρ H.next v v') ∧ (o.map f = none → o.map g = none) := by
  cases o with
  | none => exact ⟨fun v h => by simp at h, fun _ => rfl⟩
  | some x => exact ⟨fun v h => by simp at h; subst h; exact ⟨g x, rfl, hev x⟩, fun h => by simp at h⟩

theorem aStill_sound (s : Sim N0 ρ H w) (hev : ∀ x, VR ρ H.next (ev x) (ev' x)) {o : Oper} {r : SRes} (h : aStill P N0 ev H o = some r) :
    SOk P ρ H.next w (execOp ev' o) r := by
  have flatOk : ∀ {r}, aFlat P N0 ev o = some r → SOk P ρ H.next w (execOp ev' o) r := fun h => aFlat_sound s.low s.fix hev h
  obtain ⟨dst, op, ty, pos, after, guard⟩ := o
  unfold aStill at h
  split at h
  · rename_i x heq; simp only at heq; subst heq; cases h; exact ⟨ev' x, rfl, hev x⟩
  · rename_i x heq; simp only at heq; subst heq; cases h; exact ⟨ev' x, rfl, hev x⟩
  · rename_i t i heq; simp only at heq; subst heq; exact aExtract_sound (hev t) h
  · rename_i t x f heq; simp only at heq; subst heq; exact aField_sound (hev x) h
  · rename_i t x i heq; simp only at heq; subst heq
    rcases orElse_cases h with h | h
    · exact aIndex_sound (hev x) (hev i) h
    · exact flatOk h
  · rename_i t x f heq; simp only at heq; subst heq; exact aFieldAddr_sound (hev x) h
  · rename_i t x i heq; simp only at heq; subst heq; exact aIndexAddr_sound (hev x) (hev i) h
  · rename_i t a heq; simp only at heq; subst heq; exact aLoad_sound s (hev a) h
  · rename_i t x heq; simp only at heq; subst heq; exact aMakeIface_sound (hev x) h
  · rename_i fn first cap heq; simp only at heq; subst heq; cases h
    have h1 := AR.map first ev ev' fun x _ => hev x
    have h2 := AR.map cap ev ev' fun x _ => hev x
    exact ⟨.func fn (first.map ev') (cap.map ev'), rfl, .func fn _ _ _ _ h1.1 h2.1 h1.2 h2.2⟩
  · rename_i x heq; simp only at heq; subst heq
    rcases orElse_cases h with h | h
    · exact aNilCheck_sound (hev x) h
    · exact flatOk h
  · rename_i c a b heq; simp only at heq; subst heq
    have hc := hev c
    split at h
    · rename_i e; rw [e] at hc; cases h; exact ⟨ev' a, by simp [execOp, hc.inv_bool, asBool], hev a⟩
    · rename_i e; rw [e] at hc; cases h; exact ⟨ev' b, by simp [execOp, hc.inv_bool, asBool], hev b⟩
    · cases h
  · rename_i t x lo hi heq; simp only at heq; subst heq
    rcases orElse_cases h with h | h
    · exact aSlice2_sound (hev x) (omap_some hev lo).1 (omap_some hev lo).2 (omap_some hev hi).1 (omap_some hev hi).2 h
    · exact flatOk h
  · rename_i t x lo hi mx heq; simp only at heq; subst heq
    rcases orElse_cases h with h | h
    · exact aSlice3_sound (hev x) (omap_some hev lo).1 (omap_some hev lo).2 (hev hi) (hev mx) h
    · exact flatOk h
  · rename_i x xt asserted ok heq; simp only at heq; subst heq
    rcases orElse_cases h with h | h
    · exact aTypeAssert_sound s.low s.fix (hev x) h
    · exact flatOk h
  · rename_i t m k ok heq; simp only at heq; subst heq
    rcases orElse_cases h with h | h
    · exact aLookup_sound s (hev m) (hev k) h
    · exact flatOk h
  · rename_i src dst' x heq; simp only at heq; subst heq
    rcases orElse_cases h with h | h
    · exact flatOk h
    · exact aBytesToString_sound s (hev x) h
  · rename_i t parts heq; simp only at heq; subst heq
    split at h
    · cases h
    · rename_i ps hps
      simp only [Option.map_eq_some_iff] at h
      obtain ⟨v, hv, rfl⟩ := h
      have := partsA_rel hev hps
      obtain ⟨v', h1, h2⟩ := aBuild_sound (w := w) (ps' := parts.map fun (i, x) => (i, ev' x)) s.low s.fix (by simpa using this) hv
      exact ⟨v', by simp [execOp, h1], h2⟩
  · rename_i op t x y yt heq; simp only at heq; subst heq
    rcases orElse_cases h with h | h
    · exact flatOk h
    · exact aCmp_sound hev h
  · rename_i args ts heq; simp only at heq; subst heq
    split at h
    · rename_i x hx
      rcases orElse_cases h with h | h
      · have := aLen_sound (P := P) (ts := ts) (ty := ty) (args := args.map ev') s (by simp [hx]) (hev x) h
        exact this
      · exact flatOk h
    · cases h
  · cases h
  · exact flatOk h
  · exact flatOk h
  · exact flatOk h
  · cases h
end
end Go.Ax
