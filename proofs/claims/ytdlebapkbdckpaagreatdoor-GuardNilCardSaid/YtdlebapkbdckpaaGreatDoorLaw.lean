/-
  Proved: for every string that is handed in, GuardNil returns true and the string reads afterwards as it read before; under the row's own conditions: the six listed variables of Go's library hold what the program's text lays in them (the card ties that), and the reach of the form.
  The row and its card (own work; the frame is the guide's worked example).
-/
import Derived.Test.YtdlebapkbdckpaaGreatDoorCards
import Derived.Test.YtdlebapkbdckpaaGreatDoorTie
import Derived.Test.YtdlebapkbdckpaaGreatDoorRun
import Derived.WalkKit
import Derived.ProofKit
import Derived.OpenShut
import Derived.Deep.DeepHandedRow
import Derived.Shelf.Vars
import Derived.LaidHandle
import Derived.LaidOnce
import Derived.Carry
import Derived.Lib.SmallJoins
import Derived.SizedLaws
import Derived.ChangeMaps5
namespace Go.Proofs.YtdlebapkbdckpaaGreatDoor
open Go Go.ChangeShapes Go.WideShapes Go.ChangeAt Go.RowKit Go.Ax Go.ChangeMaps Go.Joins

theorem Tryz.own : ownKnob Tryz.prog.godebug = none := by kernel_rfl
theorem Tryz.et : Tryz.prog.globalNamed "errors.errorType" = some 0 := by kernel_rfl
theorem Tryz.rt : (Tryz.prog.cutTypes.find? (·.1 == "internal/reflectlite.rtype")).map (·.2) = some 117 := by kernel_rfl
theorem Tryz.size : Tryz.prog.types.size = 211 := by kernel_rfl
theorem Tryz.oneRow : ((List.range 211).filter fun t => Tryz.prog.rowNamed t [101, 114, 114, 111, 114]) = [83] := by kernel_rfl

theorem split_laid : (Rows.guardNilRow.laid.filter fun x => x.2.handleName?.isSome) = [("errors.errorType", Rows.laid_errors_errorType)] := by kernel_rfl

/-- What the condition gives: the variable's one cell. -/
theorem handle_of_laid {W : World} (h : laidMetH Tryz.prog Rows.guardNilRow.laid W) : W.var? Tryz.prog "errors.errorType" = some #[hdErr] := by
  unfold laidMetH at h
  rw [split_laid] at h
  obtain ⟨name, u, ty, e1, e2, e3, e4, e5⟩ := h.2 _ (List.mem_singleton.2 rfl)
  have en : name = [101, 114, 114, 111, 114] := (Option.some.inj e1).symm
  subst en
  obtain rfl := Option.some.inj (Tryz.rt.symm.trans e2)
  have hm : ty ∈ (List.range 211).filter fun t => Tryz.prog.rowNamed t [101, 114, 114, 111, 114] := List.mem_filter.2 ⟨List.mem_range.2 (by rw [← Tryz.size]; exact e3), e4⟩
  rw [Tryz.oneRow] at hm
  obtain rfl := List.mem_singleton.1 hm
  have hh : typeHandle Tryz.prog 83 = .pointer (some ⟨14, 83, none⟩) := by kernel_rfl
  rw [hh] at e5
  exact e5

theorem glob : Tryz.prog.globals.size = 14 := by kernel_rfl
theorem zero0 : (((begin Tryz.prog (fun _ _ => 0) default).world.heap[0]?).bind Obj.row?).map (·.2) = some 98 := by kernel_rfl
theorem zero3 : (((begin Tryz.prog (fun _ _ => 0) default).world.heap[3]?).bind Obj.row?).map (fun x => (x.1.size, x.2)) = some (1, 3) := by kernel_rfl

theorem cells_at {P : Program} {w : World} {g : Nat} {x : Array Value × TypeId} (h : w.ShapedOpen P) (hg : g < P.globals.size)
    (h0 : ((begin P (fun _ _ => 0) default).world.heap[g]?).bind Obj.row? = some x) : ∃ cs, w.heap[g]? = some (.cells cs x.2) ∧ cs.size = x.1.size :=
  let ⟨cs, h1, h2, _⟩ := h.1 g x.1 x.2 hg h0
  ⟨cs, h1, h2⟩

theorem block0 {W : World} (hS : W.ShapedOpen Tryz.prog) (h : laidMetH Tryz.prog Rows.guardNilRow.laid W) : W.heap[0]? = some (.cells #[hdErr] 98 (0, 0)) := by
  have hv := handle_of_laid h
  have hz := zero0
  cases hx : ((begin Tryz.prog (fun _ _ => 0) default).world.heap[0]?).bind Obj.row? with
  | none => rw [hx] at hz; cases hz
  | some x =>
    rw [hx] at hz
    obtain ⟨cs, h1, _⟩ := cells_at hS (by rw [glob]; omega) hx
    have e2 : x.2 = 98 := by simpa using hz
    rw [e2] at h1
    simp only [World.var?, Tryz.et, Option.bind_some, h1] at hv
    rw [h1]
    have hcs : cs = #[hdErr] := by simpa using hv
    rw [hcs]

theorem block3 {W : World} (hS : W.ShapedOpen Tryz.prog) : ∃ n, W.heap[3]? = some (.cells #[.int .i64 n] 3 (0, 0)) := by
  have hz := zero3
  cases hx : ((begin Tryz.prog (fun _ _ => 0) default).world.heap[3]?).bind Obj.row? with
  | none => rw [hx] at hz; cases hz
  | some x =>
    rw [hx] at hz
    have hz1 : x.1.size = 1 ∧ x.2 = 3 := by simpa using hz
    obtain ⟨zero, t⟩ := x
    obtain ⟨hs1, rfl⟩ := hz1
    obtain ⟨cs, h1, h2⟩ := cells_at hS (by rw [glob]; omega) hx
    obtain ⟨m, hm⟩ := cell_of_shapedOpen_int (k := .i64) hS (by rw [glob]; omega) hx hs1 (by kernel_rfl) (by kernel_rfl) (by kernel_rfl)
    refine ⟨m, ?_⟩
    simp only [World.cell?, h1] at hm
    have hcs : cs = #[.int .i64 m] := by
      apply Array.ext (by rw [h2]; exact hs1)
      intro i h3 h4
      have hi : i = 0 := by simp at h4; exact h4
      subst hi
      have := (Array.getElem?_eq_some_iff.1 (by simpa using hm : cs[0]? = some (.int .i64 m))).2
      simpa using this
    rw [h1, hcs]

section
variable {H : Type} {enc : TypeId × Value → H} {P : Program}
theorem post_below {f : Func} {s : ChangeSpec} {apart fresh handsOn again : Bool} {W W' : World} {args : Array Value} {v : Value} {ds gs : List (DataW H)} {before pa pv : List MemPlace}
    (hW : DataW.Whole enc P f.params.toList s.vars apart W args.toList ds gs before)
    (hres : ∀ (b : Nat) (sp : Nat → Bool) (hd : Bool), DataW.TrodAll enc P W' b sp hd f.resultTypes.toList (v.resultList f.resultTypes.size) (s.fn H (ds ++ gs)).results [])
    (hargs : ∀ sp : Nat → Bool, (∀ p ∈ before, sp p.block = true) → DataW.TrodAll enc P W' 0 sp true f.params.toList args.toList (s.fn H (ds ++ gs)).args pa)
    (hvars : ∀ sp : Nat → Bool, (∀ p ∈ before, sp p.block = true) → DataW.TrodVars enc P W' sp s.vars (s.fn H (ds ++ gs)).vars pv)
    (hps : before = pa ++ pv) (hb : Below W.heap.size W W')
    (hok : ∀ (j : Nat) (t : TypeId) (r : Value), f.resultTypes[j]? = some t → (v.resultList f.resultTypes.size)[j]? = some r → Value.okWide P W' .any 0 t r) :
    s.post enc P f apart fresh handsOn again W args v W' := by
  have hlt : ∀ p ∈ before, p.block < W.heap.size := fun p hp => hW.lt p hp
  have hold : ∀ p ∈ before, (fun b => decide (b < W.heap.size)) p.block = true := fun p hp => by simpa using hlt p hp
  refine ⟨ds, gs, before, [], pa, pv, hW, hres _ _ _, hargs _ hold, hvars _ hold, World.keptBut_mono (fun p hp => ⟨hp, ?_⟩) (hb.frame (· ∈ before)), fun _ => ?_⟩
  · rw [hps, List.mem_append] at hp
    exact Or.inr hp
  · obtain ⟨_, _, _, _, _, hz, hn⟩ := hW
    refine ⟨hok, _, _, ([] ++ pa) ++ pv, ⟨[] ++ pa, pv, trodAll_append (hargs _ (fun _ _ => rfl)) (hres _ _ _), hvars _ (fun _ _ => rfl), rfl, ?_, ?_⟩, ?_⟩
    · intro b off hp
      have hin : MemPlace.cell b off ∈ before := by rw [hps]; simpa using hp
      rw [hb.frozen (hlt _ hin)]
      exact hz b off hin
    · intro ha
      have := hn ha
      rw [hps] at this
      simpa using this
    · intro p hp _
      rw [hps]
      simpa using hp
end

set_option maxRecDepth 100000 in
theorem contract (H : Type) (enc : TypeId × Value → H) (W : World) (base : Nat) (args : Array Value) (ds gs : List (DataW H)) (before : List MemPlace)
    (hval : ∀ (j : Nat) t v, Tryz.f3.params[j]? = some t → args[j]? = some v → Value.okWide Tryz.prog W .any base t v)
    (hW : DataW.Whole enc Tryz.prog Tryz.f3.params.toList Rows.guardNilSpec.vars false W args.toList ds gs before) (hL : laidMetH Tryz.prog Rows.guardNilRow.laid W) (hS : W.ShapedOpen Tryz.prog) :
    Calls Tryz.prog 3 args W fun e W' => ∃ v, e = .returned v ∧ Rows.guardNilSpec.post enc Tryz.prog Tryz.f3 false true false false W args v W' := by
  have hW' := hW
  obtain ⟨p, q, hA0, hV, rfl, hfz, hnd⟩ := hW
  have hA : DataW.TrodAll enc Tryz.prog W 0 (fun _ => true) true Tryz.f3.params.toList args.toList ds p := hA0
  rw [Tryz.params3] at hA hval
  obtain ⟨v0, vs0, d0, ds0, p0, q0, hargs, rfl, rfl, h0, r0⟩ := trodAll_cons hA
  obtain ⟨rfl, rfl, rfl⟩ := trodAll_nil r0
  obtain rfl : args = #[v0] := by cases args; simp_all
  obtain ⟨rfl, rfl⟩ := trodVars_none hV
  obtain ⟨s, rfl, rfl, rfl, ws⟩ := open_string Tryz.underlying9 (hval 0 9 v0 rfl rfl) h0
  clear hA0
  simp only [List.append_nil] at hW'
  obtain ⟨n, h3⟩ := block3 hS
  refine (nil_any (.string s) W (block0 hS hL) h3).mono fun e W' ⟨he, hg⟩ => ?_
  subst he
  exact ⟨_, rfl, post_below (pa := []) (pv := []) hW' (fun _ _ _ => trodAll_cons_mk (shut_bool Tryz.underlying4 _) trodAll_mk0) (fun _ _ => trodAll_cons_mk (shut_string Tryz.underlying9 ws) trodAll_mk0) (fun _ _ => rfl) rfl
    hg (ok_one (by kernel_rfl) rfl (okWide_bool_mk Tryz.underlying4 _))⟩

/-- A world for the witness: the one that the door's run leaves. -/
noncomputable def laidWorld (os : Os) : World := varsWorld Tryz.prog 79 (varsId Tryz.prog) os (fun _ _ => 0)

theorem door_met {P : Program} {laid : List (String × DataW Unit)} {n fuel M : Nat} {os : Os} {tape : Tape} (d : doorLeaves P n fuel M laid os tape = some (laid.filter fun x => x.2.handleName?.isNone, (funcsListed laid).map (·.2.funcsOut))) :
    laidMetH P laid (varsWorld P n (varsId P) os tape).memory := by
  unfold doorLeaves at d
  unfold varsWorld
  split at d
  · rename_i v w hr
    rw [hr]
    simp only [Option.bind_eq_some_iff] at d
    obtain ⟨x, hx, d⟩ := d
    split at d
    · rename_i hb
      simp only [Bool.and_eq_true] at hb
      simp only [Option.map_eq_some_iff, Prod.mk.injEq] at d
      obtain ⟨y, hy, e1, e2⟩ := d
      exact laidMetH_of_parts3 (fuel := fuel) (laidMet_of_run (ps := x.2) fuel (by rw [hx, ← e1]) (decide_eq_true (nodupBits_sound hb.1.1).1) hb.1.2) hb.2 (by rw [hy, e2])
    · cases d
  · cases d

theorem laid_run (os : Os) : laidMetH Tryz.prog Rows.guardNilRow.laid (varsWorld Tryz.prog 79 (varsId Tryz.prog) os (fun _ _ => 0)).memory := door_met (n := 79) (fuel := 8) (M := 65) (by kernel_rfl)
theorem laid_mem (os : Os) : (varsWorld Tryz.prog 79 (varsId Tryz.prog) os (fun _ _ => 0)).memory = ((laidWorld os).forCall (fun _ _ => 0) ⟨#[], #[.string ⟨#[]⟩], []⟩).memory := by kernel_rfl
theorem laid_met (os : Os) : laidMetH Tryz.prog Rows.guardNilRow.laid ((laidWorld os).forCall (fun _ _ => 0) ⟨#[], #[.string ⟨#[]⟩], []⟩).memory :=
  (laid_mem os) ▸ laid_run os
theorem laid_os (os : Os) : (laidWorld os).os = os := by kernel_rfl
theorem reads (os : Os) {H : Type} (enc : TypeId × Value → H) : ∃ places, DataW.whole enc Tryz.prog ((laidWorld os).forCall (fun _ _ => 0) ⟨#[], #[.string ⟨#[]⟩], []⟩).memory Tryz.f3.params.toList Rows.guardNilSpec.vars false #[Value.string ⟨#[]⟩].toList 8 = some ([.lit (.string [])], [], places) :=
  ⟨[], by kernel_rfl⟩

set_option maxRecDepth 100000 in
theorem lifted (os : Os) (started : os.Started) (H : Type) (enc : TypeId × Value → H) (F : Stop.Interp) :
    ReturnsInHanded {} Tryz.checked os 3 .any ((OpenSpec.ofChange Rows.guardNilSpec).preRow enc Tryz.prog Tryz.f3 Rows.guardNilRow.domain false Rows.guardNilRow.laid) (((OpenSpec.ofChange Rows.guardNilSpec).at F).post enc Tryz.prog Tryz.f3 false true false false) := by
  obtain ⟨places, hx⟩ := reads os enc
  refine returnsInHanded_of_row (C := Tryz.checked) (s := OpenSpec.ofChange Rows.guardNilSpec) Tryz.own started (by kernel_rfl) Tryz.func3
    (witness_row_at (enc := enc) (C := Tryz.checked) false (laidWorld os) #[.string ⟨#[]⟩] (laid_os os) (by kernel_rfl) (by kernel_rfl) (by kernel_rfl)
      (OpenSpec.preRow_of_cond 8 hx (by kernel_rfl) (fun k hk => by cases hk) (by kernel_rfl) (laid_met os))) ?_
  intro W base args ds gs before hval hW _ _ _ hL hS _
  exact contract H enc W base args ds gs before hval hW hL hS

theorem said : Rows.GuardNilSaid :=
  OpenClaim.holds_of_cond 3 Tryz.f3 rfl rfl rfl rfl rfl rfl rfl ⟨rfl, rfl, rfl, rfl, rfl⟩ rfl rfl rfl rfl rfl (by kernel_rfl) Tryz.func3 (by kernel_rfl)
    (of_decide_eq_true (by kernel_rfl)) (by unfold Func.isWrapper; first | (rw [if_pos (by decide +kernel)]; kernel_rfl) | (rw [if_neg (by decide +kernel)]; exact ⟨rfl, rfl⟩))
    (fun os started H enc _ F => by rw [OpenClaim.pre_eq_preRow]; exact lifted os started H enc F)

theorem plain (f : FuncId) (fn : Func) (hf : Tryz.pinned.checked.prog.funcNamed "spigot/spigotlaw10.GuardNil" = some f) (hfn : Tryz.pinned.checked.prog.funcs[f]? = some fn) :
    true = Tryz.pinned.checked.prog.looks [] ∧ ∀ (j : Nat) t, fn.params[j]? = some t → Tryz.pinned.checked.prog.wantsStandIn t = false := by
  obtain rfl : f = 3 := Option.some.inj ((show Tryz.prog.funcNamed "spigot/spigotlaw10.GuardNil" = some 3 by kernel_rfl).symm.trans hf) |>.symm
  obtain rfl : fn = Tryz.f3 := (Option.some.inj (Tryz.func3.symm.trans hfn)).symm
  refine ⟨by kernel_rfl, fun j t ht => ?_⟩
  rw [Tryz.params3] at ht
  obtain rfl : t = 9 := by simpa using Array.mem_of_getElem? ht
  exact (show Tryz.prog.wantsStandIn 9 = false by kernel_rfl)

theorem guardNil_holds : Rows.GuardNilCardSaid :=
  Claim7.holds_tied_plain_at .later [] _ _ _ _ said (fun _ h => by cases h) (by kernel_rfl) (fun _ h => by cases h) guardNil_row_tie rfl ⟨rfl, rfl⟩ (by kernel_rfl) rfl plain (by kernel_rfl)
#print axioms guardNil_holds
end Go.Proofs.YtdlebapkbdckpaaGreatDoor
