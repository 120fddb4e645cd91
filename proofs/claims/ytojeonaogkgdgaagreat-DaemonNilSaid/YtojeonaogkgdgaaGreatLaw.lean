/-
  Proved: for every event that can be read as data, DaemonNil returns true and the event reads afterwards as it read before; no condition but the row's own (each slice within the form's reach).
  The row and its proof (own work; the frame is the kit's template's).
-/
import Derived.Test.YtojeonaogkgdgaaGreatRows
import Derived.Test.YtojeonaogkgdgaaGreatTop
import Derived.ProofKit
import Derived.Carry
import Derived.Lib.SmallJoins
import Derived.Deep.Slices
import Derived.Deep.AppendSrc
import Derived.SizedLaws
namespace Go.Proofs.YtojeonaogkgdgaaGreat
open Go Go.ChangeShapes Go.WideShapes Go.ChangeAt Go.RowKit Go.Joins Go.Deep

theorem Tryz.own : ownKnob Tryz.prog.godebug = none := by kernel_rfl
theorem Tryz.laidOut : laidOutB Tryz.prog = true := by kernel_rfl

section
variable {H : Type} {enc : TypeId × Value → H} {P : Program}
theorem post_below {f : Func} {s : ChangeSpec} {apart fresh handsOn again : Bool} {W W' : World} {args : Array Value} {v : Value} {ds gs : List (DataW H)} {before pa pv : List MemPlace}
    (hW : DataW.Whole enc P f.params.toList s.vars apart W args.toList ds gs before)
    (hres : ∀ (b : Nat) (sp : Nat → Bool) (hd : Bool), DataW.TrodAll enc P W' b sp hd f.resultTypes.toList (v.resultList f.resultTypes.size) (s.fn H (ds ++ gs)).results [])
    (hargs : ∀ sp : Nat → Bool, (∀ p ∈ before, sp p.block = true) → DataW.TrodAll enc P W' 0 sp true f.params.toList args.toList (s.fn H (ds ++ gs)).args pa)
    (hvars : ∀ sp : Nat → Bool, (∀ p ∈ before, sp p.block = true) → DataW.TrodVars enc P W' sp s.vars (s.fn H (ds ++ gs)).vars pv)
    (hps : before = pa ++ pv) (hb : Below W.heap.size W W')
    (hok : ∀ (j : Nat) (t : TypeId) (r : Value), f.resultTypes[j]? = some t → (v.resultList f.resultTypes.size)[j]? = some r → Value.okWide P W' .any 0 t r) :
    s.post enc P f apart fresh handsOn again W args v W' := by
  have hlt : ∀ p ∈ before, p.block < W.heap.size := fun p hp => hW.lt p hp
  have hold : ∀ p ∈ before, (fun b => decide (b < W.heap.size)) p.block = true := fun p hp => by simpa using hlt p hp
  refine ⟨ds, gs, before, [], pa, pv, hW, hres _ _ _, hargs _ hold, hvars _ hold, World.keptBut_mono (fun p hp => ⟨hp, ?_⟩) (hb.frame (· ∈ before)), fun _ => ?_⟩
  · rw [hps, List.mem_append] at hp
    exact Or.inr hp
  · obtain ⟨_, _, _, _, _, hz, hn⟩ := hW
    refine ⟨hok, _, _, ([] ++ pa) ++ pv, ⟨[] ++ pa, pv, trodAll_append (hargs _ (fun _ _ => rfl)) (hres _ _ _), hvars _ (fun _ _ => rfl), rfl, ?_, ?_⟩, ?_⟩
    · intro b off hp
      have hin : MemPlace.cell b off ∈ before := by rw [hps]; simpa using hp
      rw [hb.frozen (hlt _ hin)]
      exact hz b off hin
    · intro ha
      have := hn ha
      rw [hps] at this
      simpa using this
    · intro p hp _
      rw [hps]
      simpa using hp
end

set_option maxRecDepth 100000 in
theorem src_of {H : Type} {enc : TypeId × Value → H} {W : World} {base n : Nat} {spare : Nat → Bool} {held : Bool} {v : Value} {y : DataW H × List MemPlace} (h : DataW.trod enc Tryz.prog W base spare held n 22 [v] = some y) (hw : ∀ el sp, y.1 = .slice el sp → el.length ≤ 281474976710656) :
    ∃ m news, (∀ W', Below W.heap.size W W' → Src Tryz.prog 1 22 v m news W') ∧ m ≤ 281474976710656 ∧ news.length = m := by
  have hC : Tryz.prog.cellsOf 5 = 1 := by kernel_rfl
  rcases open_slice Tryz.underlying22 h with ⟨h0, _⟩ | ⟨a, len, cap, m, n', D, Pl, hcs, _, hl, hm, hmm, hx, hi⟩
  · cases h0
    exact ⟨0, [], fun W' _ => Src.ofNil _ Tryz.underlying22 0, Nat.zero_le _, rfl⟩
  · cases hcs
    have hlm : len ≤ m := by rw [hmm]; split <;> omega
    have hcell : ∀ i, i < len → ∃ z, W.cell? (a.add i) = some (.int .u8 z) := by
      intro i hil
      obtain ⟨cs', hc, ht⟩ := hi i (by omega)
      rw [hC] at hc
      obtain ⟨_, _, hat⟩ := World.cells?_some hc
      obtain ⟨z, hz, _, _⟩ := DataW.trod_int Tryz.underlying5 ht
      have := hat 0 (by omega)
      rw [hz] at this
      refine ⟨z, ?_⟩
      simpa [Addr.add] using this
    have hlen : len ≤ 281474976710656 := by
      have := hw _ _ (by rw [hx])
      simpa using this
    refine ⟨len, (List.range len).map fun i => (W.cell? (a.add i)).getD undef, fun W' hb => ?_, hlen, by simp⟩
    refine Src.ofSlice _ Tryz.underlying22 a len cap _ (by simp) (fun j u hj => ?_) (fun u hu => ?_)
    · rw [List.getElem?_map] at hj
      by_cases hjl : j < len
      · obtain ⟨z, hz⟩ := hcell j hjl
        rw [List.getElem?_range hjl] at hj
        simp only [Option.map_some, hz, Option.getD_some, Option.some.injEq] at hj
        subst hj
        have hblk : (a.add j).block < W.heap.size := by
          have h1 := hz
          unfold World.cell? at h1
          refine Classical.byContradiction fun hn => ?_
          rw [Array.getElem?_eq_none (Nat.le_of_not_lt hn)] at h1
          simp at h1
        rw [hb.cell hblk]; exact hz
      · rw [List.getElem?_eq_none (by simpa using hjl)] at hj
        simp at hj
    · rw [List.mem_map] at hu
      obtain ⟨i, hi', rfl⟩ := hu
      obtain ⟨z, hz⟩ := hcell i (List.mem_range.1 hi')
      rw [hz]; rfl

theorem read24 : Tryz.prog.readableRec 24 = true := by kernel_rfl
theorem lt24 : 24 < Tryz.prog.types.size := of_decide_eq_true (by kernel_rfl)

set_option maxRecDepth 100000 in
theorem reach_data {H : Type} {x0 x1 x2 x3 : DataW H} (h : (DataW.weightsEach Tryz.prog [24] [.agg [x0, x1, x2, x3]]).all (· ≤ reachBytes) = true) : ∀ el sp, x2 = .slice el sp → el.length ≤ 281474976710656 := by
  intro el sp he
  subst he
  have hin : (DataW.weightsEach Tryz.prog [5, 3, 22, 2] [x0, x1, .slice el sp, x3]).all (· ≤ reachBytes) = true := by
    rw [List.all_eq_true] at h ⊢
    intro n hn
    refine h n ?_
    simp only [DataW.weightsEach, DataW.weights, Tryz.underlying24, List.append_nil]
    exact hn
  have hb : Tryz.prog.bytesOf 5 = 1 := by kernel_rfl
  have := sized_slice hin (j := 2) rfl rfl Tryz.underlying22
  rw [hb, Nat.mul_one] at this
  unfold reachBytes at this
  omega

set_option maxRecDepth 100000 in
theorem law_run {H : Type} {enc : TypeId × Value → H} {W : World} {base : Nat} {v0 : Value} {d0 : DataW H} {p0 : List MemPlace} (hval : Value.okWide Tryz.prog W .any base 24 v0) (h0 : DataW.Trod enc Tryz.prog W 0 (fun _ => true) true 24 v0 d0 p0) (hr : (DataW.weightsEach Tryz.prog [24] [d0]).all (· ≤ reachBytes) = true) :
    Calls Tryz.prog 3 #[v0] W fun e w' => e = .returned (.bool true) ∧ Below W.heap.size W w' := by
  obtain ⟨x0, x1, x2, x3, y0, y1, y2, y3, n, rfl, rfl, _, t0, t1, t2, t3⟩ := open_agg4 Tryz.underlying24 (by kernel_rfl) (by kernel_rfl) hval h0
  obtain ⟨k, e0, _, _⟩ := DataW.trod_int Tryz.underlying5 t0
  obtain ⟨c, e1, _, _⟩ := DataW.trod_int Tryz.underlying3 t1
  obtain ⟨m, e3, _, _⟩ := DataW.trod_int Tryz.underlying2 t3
  cases e0; cases e1; cases e3
  obtain ⟨len, news, hsrc, hlen, hl⟩ := src_of t2 (reach_data hr)
  refine law_any k c m x2 W fun w' hb => ?_
  have hbw : Below W.heap.size W w' := hb.2.2.2.2.1
  exact (event_any k c m x2 w' (ev_twin k c m x2 len news w' (fun W2 hW2 => hsrc W2 (hbw.trans (hW2.mono hbw.size))) hlen hl)).mono fun _ _ hh => ⟨hh.1, box_go hb hh.2⟩

set_option maxRecDepth 100000 in
theorem f_lifted (os : Os) (started : os.Started) (H : Type) (enc : TypeId × Value → H) :
    ReturnsInHanded {} Tryz.checked os 3 .any (Rows.daemonNilSpec.pre6 enc Tryz.prog Tryz.f3 Rows.daemonNilRow.domain false) (Rows.daemonNilSpec.post enc Tryz.prog Tryz.f3 false true false false) := by
  refine returnsInHanded_of_change_sized (C := Tryz.checked) Tryz.own started (by kernel_rfl) Tryz.func3
    (ChangeSpec.witness6 (enc := enc) (C := Tryz.checked) false ⟨#[], #[.agg #[.int .u8 0, .int .i64 0, .slice none 0 0, .int .i64 0]], []⟩ 8 (by kernel_rfl) (by kernel_rfl) (by kernel_rfl) (by kernel_rfl)) ?_
  intro W base args ds gs before hval0 hW hcnd hsz0 _
  have hsz : (DataW.weightsEach Tryz.prog (Tryz.f3.params.toList ++ Rows.daemonNilSpec.plain.varTypes Tryz.prog) (ds ++ gs)).all (· ≤ reachBytes) = true := hsz0
  have hval : ∀ (j : Nat) t v, Tryz.f3.params[j]? = some t → args[j]? = some v → Value.okWide Tryz.prog W .any base t v := hval0
  have hW' := hW
  obtain ⟨p, q, hA0, hV, rfl, hfz, hnd⟩ := hW
  have hA : DataW.TrodAll enc Tryz.prog W 0 (fun _ => true) true Tryz.f3.params.toList args.toList ds p := hA0
  rw [Tryz.params3] at hA hval hsz
  obtain ⟨v0, d0, rfl, rfl, h0⟩ := trodAll_one hA
  obtain ⟨rfl, rfl⟩ := trodVars_none hV
  have hvv := hval 0 24 v0 rfl rfl
  clear hA0 hval0
  have hsz1 : (DataW.weightsEach Tryz.prog [24] [d0]).all (· ≤ reachBytes) = true := hsz
  refine (law_run hvv h0 hsz1).mono fun e W' ⟨he, hb⟩ => ?_
  subst he
  refine ⟨_, rfl, post_below (pa := p) (pv := []) hW' (fun _ _ _ => trodAll_mk1 (shut_bool Tryz.underlying4 true)) (fun sp hsp => ?_) (fun _ _ => rfl) rfl hb (ok_one (by kernel_rfl) rfl (okWide_bool_mk Tryz.underlying4 true))⟩
  have hlt : ∀ x ∈ p, x.block < W.heap.size := fun x hx => hW'.lt x (by simpa using hx)
  exact trodAll_mk1 (WideElems.Trod_stays Tryz.laidOut read24 lt24 h0 (fun x hx => hb.same (hlt x hx)) (fun x hx => hsp x (by simpa using hx)))

theorem daemonNil_holds : Rows.DaemonNilSaid :=
  OpenClaim.holds_of_wide 3 Tryz.f3 rfl rfl rfl rfl rfl rfl rfl ⟨rfl, rfl, rfl, rfl, rfl⟩ rfl rfl rfl rfl rfl (by kernel_rfl) Tryz.func3 (by kernel_rfl)
    (of_decide_eq_true (by kernel_rfl)) (by unfold Func.isWrapper; first | (rw [if_pos (by decide +kernel)]; kernel_rfl) | (rw [if_neg (by decide +kernel)]; exact ⟨rfl, rfl⟩))
    (fun os started H enc _ => f_lifted os started H enc)

end Go.Proofs.YtojeonaogkgdgaaGreat
