/-
  Twin and event (own work).
-/
import Derived.Test.YtojeonaogkgdgaaGreatNil
import Derived.WalkKit
import Derived.WalkSpells
import Derived.WalkLawsBesides
import Derived.Deep.AppendSrc
namespace Go.Proofs.YtojeonaogkgdgaaGreat
open Go Go.RowKit

theorem info5 : ∃ i z, Tryz.prog.info? 5 = some i ∧ i.size = 1 ∧ i.bytes = 1 ∧ i.zero = some z := by
  have h : (Tryz.prog.info? 5).map (fun i => (i.size, i.bytes, i.zero.isSome)) = some (1, 1, true) := by kernel_rfl
  obtain ⟨i, hi, hb⟩ := Option.map_eq_some_iff.1 h
  simp only [Prod.mk.injEq] at hb
  obtain ⟨z, hz⟩ := Option.isSome_iff_exists.1 hb.2.2
  exact ⟨i, z, hi, hb.1, hb.2.1, hz⟩

set_option maxRecDepth 100000 in
theorem app_src (w : World) (v : Value) (n : Nat) (news : List Value) (hs : Src Tryz.prog 1 22 v n news (w.alloc (.cells #[] 5))) (hn : n ≤ 281474976710656) (hl : news.length = n) :
    ∃ p l c w2, (Builtin.append_ #[22, 22] 22 #[.slice (some ⟨w.heap.size, 0, none⟩) 0 0, v]).run Tryz.prog (w.alloc (.cells #[] 5)) = .ok (.slice p l c) w2 ∧ Below w.heap.size w w2 := by
  obtain ⟨i, z, hi, h1, hb, hz⟩ := info5
  rcases Nat.eq_zero_or_pos n with rfl | hp
  · have hnil : news = [] := List.length_eq_zero_iff.1 hl
    subst hnil
    refine ⟨_, _, _, _, run_append_room_src (P := Tryz.prog) (w.alloc (.cells #[] 5)) 22 22 22 5 i Tryz.underlying22 hi w.heap.size 0 0 0 v 0 [] (by rw [h1]; exact hs) (Nat.le_refl _) (fun j hj => absurd hj (by simp)) (fun j hj => absurd hj (by simp)), ?_⟩
    simpa [World.setCells] using (Below.refl w.heap.size w).alloc (Nat.le_refl _) _
  · refine ⟨_, _, _, _, run_append_grow_src (P := Tryz.prog) (w.alloc (.cells #[] 5)) 22 22 22 5 i z Tryz.underlying22 hi hz (some ⟨w.heap.size, 0, none⟩) 0 0 [] (by simp [Builtin.firstCells, go_sem]) v n news (by rw [h1]; exact hs) (by omega) (by omega) (by rw [hb, Nat.zero_add, nextslicecap_zero hp]; omega), ?_⟩
    have := ((Below.refl w.heap.size w).alloc (Nat.le_refl _) (.cells #[] 5)).drew.alloc (by simp) (.cells (([] ++ news).toArray ++ Builtin.zeroCells z.cells (grownCap (w.alloc (.cells #[] 5)) (0 + n) 0 5 - (0 + n))) 5)
    exact this

theorem wpList_append_run {P : Program} (w : World) {ops : Array Oper} {rest : List Oper} {o : Oper} {a : Act} {Q : Exit → Act → World → Prop} (hgd : o.guard = none) (s x : Operand) (t tx : TypeId)
    (ho : o.op = .call { callee := .builtin .append, args := #[s, x], argTypes := #[t, tx] }) {sv xv r : Value} {w2 : World} (hs : a.eval s = sv) (hx : a.eval x = xv)
    (hrun : (Builtin.append_ #[t, tx] o.type #[sv, xv]).run P w = .ok r w2) (hK : wpList P ops Q rest (a.put o.dst r) w2) : wpList P ops Q (o :: rest) a w := by
  refine wpList_plain hgd fun K hK' => ?_
  unfold Oper.wp
  simp [execOp, ho, resolve, invoke, builtin, hs, hx, hrun, Result.andThen]
  exact hK' _ _ hK

set_option maxRecDepth 100000 in
set_option maxHeartbeats 1000000 in
theorem twin_any (w : World) (v : Value) (n : Nat) (news : List Value) (hs : Src Tryz.prog 1 22 v n news (w.alloc (.cells #[] 5))) (hn : n ≤ 281474976710656) (hl : news.length = n) :
    Calls Tryz.prog 25 #[v] w fun e w' => (∃ p l c, e = .returned (.slice p l c)) ∧ Below w.heap.size w w' := by
  obtain ⟨p, l, c, w2, hap, hbel⟩ := app_src w v n news hs hn hl
  go_enter Tryz.func25, Tryz.ntmps25
  go_wp2_with (at_builtin; refine wpList_append_run _ rfl (.tmp 3) (.tmp 4) 22 22 rfl rfl rfl hap ?_)
  go_ret
  exact ⟨⟨_, _, _, rfl⟩, hbel⟩
end Go.Proofs.YtojeonaogkgdgaaGreat
