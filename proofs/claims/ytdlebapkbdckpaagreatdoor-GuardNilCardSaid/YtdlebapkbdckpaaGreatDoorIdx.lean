/-
  strings' Index, by the shelf (own work).
-/
import Derived.Test.YtdlebapkbdckpaaGreatDoorRows
import Derived.Test.YtdlebapkbdckpaaGreatDoorAx25
import Derived.Ground.NamesProg
import Derived.Shelf.Lay
import Derived.Shelf.Strings.Search2
namespace Go.Proofs
open Go.Shelf
shelf_lay Lays.n219 Nm 219 at Tryz as Tryz.lays219
end Go.Proofs
namespace Go.Proofs.YtdlebapkbdckpaaGreatDoor
open Go Go.Ax Go.RowKit

theorem idx_fn : Tryz.lays219_ren.f 219 = 52 := by kernel_rfl
theorem idx_var : Tryz.lays219_ren.g 1 = 3 := by kernel_rfl
theorem idx_any (s sub : ByteArray) (m : Int) (w : World) (hs : s.size < 4294967281) (hm : w.cell? ⟨3, 0, none⟩ = some (.int .i64 m)) :
    Calls Tryz.prog 52 #[.string s, .string sub] w fun e w' => e = .returned (.int .i64 (Lib.index s.data.toList sub.data.toList)) ∧ w' = w := by
  have := Any.stringslite_Index Tryz.lays219 s sub m w hs (by rw [idx_var]; exact hm)
  rwa [idx_fn] at this

def spG : SpecFn := fun f args H =>
  bif Nat.beq f 52 then
    match args.toList with
    | [.string a, .string b] =>
      match H.tr.get 3 with
      | some (.anyInt _ _ _) => bif Nat.blt a.size 4294967281 then some (.int .i64 (Lib.index a.data.toList b.data.toList)) else none
      | _ => none
    | _ => none
  else none

set_option maxRecDepth 100000 in
theorem spG_ok : SpecOk Tryz.prog 19 spG := by
  intro f args H v h ρ w args' hs ha
  unfold spG at h
  obtain ⟨h52, h⟩ := bif_some' h
  have := Nat.eq_of_beq_eq_true h52
  subst this
  split at h
  case h_2 => cases h
  rename_i a b hab
  split at h
  case h_2 => cases h
  rename_i n t fz hg
  obtain ⟨hlt, he⟩ := bif_some h
  cases he
  obtain ⟨l⟩ := args
  simp only at hab
  subst hab
  obtain ⟨hsz, hv⟩ := ha
  obtain ⟨l'⟩ := args'
  match l', hsz with
  | [y0, y1], _ =>
    have h0 : VR ρ H.next (.string a) y0 := hv 0 (by simp) (by simp)
    have h1 : VR ρ H.next (.string b) y1 := hv 1 (by simp) (by simp)
    cases h0; cases h1
    obtain ⟨_, o', ho, hobj, _⟩ := hs.blk 3 _ hg
    rw [hs.fix 3 (by omega)] at ho
    cases hobj
    refine (idx_any a b n w (lt_of_blt hlt) (by simp [World.cell?, ho])).mono fun e w' hh => ?_
    exact ⟨⟨_, hh.1, .int _ _⟩, hh.2⟩
end Go.Proofs.YtdlebapkbdckpaaGreatDoor
