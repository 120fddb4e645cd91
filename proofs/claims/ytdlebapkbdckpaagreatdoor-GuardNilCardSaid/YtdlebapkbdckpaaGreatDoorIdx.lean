/-
  strings' Index, by the shelf (own work).
-/
import Derived.Test.YtdlebapkbdckpaaGreatDoorRows
import Derived.Test.YtdlebapkbdckpaaGreatDoorAx25
import Derived.Shelf.Strings.Search2
namespace Go.Proofs
open Go.Shelf
def Tryz.lays219_ren : Go.Shelf.Ren := ⟨fun | 219 => 52 | 217 => 56 | 225 => 57 | 224 => 58 | 267 => 59 | 266 => 64 | 314 => 65 | n => n, fun | 9 => 9 | 3 => 3 | 4 => 4 | 5 => 5 | 46 => 139 | 146 => 158 | 51 => 157 | n => n, fun | 1 => 3 | n => n⟩
theorem Tryz.lays219 : Go.Proofs.Lays.n219 Tryz.prog Tryz.lays219_ren := {
  mixed := by kernel_rfl,
  f217 := Tryz.func56.trans (congrArg some (by kernel_rfl)),
  f219 := Tryz.func52.trans (congrArg some (by kernel_rfl)),
  f224 := Tryz.func58.trans (congrArg some (by kernel_rfl)),
  f225 := Tryz.func57.trans (congrArg some (by kernel_rfl)),
  f266 := Tryz.func64.trans (congrArg some (by kernel_rfl)),
  f267 := Tryz.func59.trans (congrArg some (by kernel_rfl)),
  f314 := Tryz.func65.trans (congrArg some (by kernel_rfl)),
  t3 := Tryz.underlying3,
  a3 := Tryz.isAgg3,
  z3 := Tryz.sizeOf3,
  v3 := Tryz.zeroValue3,
  t4 := Tryz.underlying4,
  a4 := Tryz.isAgg4,
  z4 := Tryz.sizeOf4,
  v4 := Tryz.zeroValue4,
  t5 := Tryz.underlying5,
  a5 := Tryz.isAgg5,
  z5 := Tryz.sizeOf5,
  v5 := Tryz.zeroValue5,
  t9 := Tryz.underlying9,
  a9 := Tryz.isAgg9,
  z9 := Tryz.sizeOf9,
  v9 := Tryz.zeroValue9,
  t46 := Tryz.underlying139,
  a46 := Tryz.isAgg139,
  z46 := Tryz.sizeOf139,
  v46 := Tryz.zeroValue139,
  t51 := Tryz.underlying157,
  a51 := Tryz.isAgg157,
  z51 := Tryz.sizeOf157,
  v51 := Tryz.zeroValue157,
  t146 := Tryz.underlying158,
  a146 := Tryz.isAgg158,
  z146 := Tryz.sizeOf158,
  v146 := Tryz.zeroValue158,
  g1 := by kernel_rfl }
end Go.Proofs
namespace Go.Proofs.YtdlebapkbdckpaaGreatDoor
open Go Go.Ax Go.RowKit

theorem idx_fn : Tryz.lays219_ren.f 219 = 52 := by kernel_rfl
theorem idx_var : Tryz.lays219_ren.g 1 = 3 := by kernel_rfl
theorem idx_any (s sub : ByteArray) (m : Int) (w : World) (hs : s.size < 4294967281) (hm : w.cell? ⟨3, 0, none⟩ = some (.int .i64 m)) :
    Calls Tryz.prog 52 #[.string s, .string sub] w fun e w' => e = .returned (.int .i64 (Lib.index s.data.toList sub.data.toList)) ∧ w' = w := by
  have := Any.stringslite_Index Tryz.lays219 s sub m w hs (by rw [idx_var]; exact hm)
  rwa [idx_fn] at this

def spG : SpecFn := fun f args H =>
  bif Nat.beq f 52 then
    match args.toList with
    | [.string a, .string b] =>
      match H.tr.get 3 with
      | some (.anyInt _ _ _) => bif Nat.blt a.size 4294967281 then some (.int .i64 (Lib.index a.data.toList b.data.toList)) else none
      | _ => none
    | _ => none
  else none

set_option maxRecDepth 100000 in
theorem spG_ok : SpecOk Tryz.prog 19 spG := by
  intro f args H v h ρ w args' hs ha
  unfold spG at h
  obtain ⟨h52, h⟩ := bif_some' h
  have := Nat.eq_of_beq_eq_true h52
  subst this
  split at h
  case h_2 => cases h
  rename_i a b hab
  split at h
  case h_2 => cases h
  rename_i n t fz hg
  obtain ⟨hlt, he⟩ := bif_some h
  cases he
  obtain ⟨l⟩ := args
  simp only at hab
  subst hab
  obtain ⟨hsz, hv⟩ := ha
  obtain ⟨l'⟩ := args'
  match l', hsz with
  | [y0, y1], _ =>
    have h0 : VR ρ H.next (.string a) y0 := hv 0 (by simp) (by simp)
    have h1 : VR ρ H.next (.string b) y1 := hv 1 (by simp) (by simp)
    cases h0; cases h1
    obtain ⟨_, o', ho, hobj, _⟩ := hs.blk 3 _ hg
    rw [hs.fix 3 (by omega)] at ho
    cases hobj
    refine (idx_any a b n w (lt_of_blt hlt) (by simp [World.cell?, ho])).mono fun e w' hh => ?_
    exact ⟨⟨_, hh.1, .int _ _⟩, hh.2⟩
end Go.Proofs.YtdlebapkbdckpaaGreatDoor
