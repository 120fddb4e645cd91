/-
  Ax14: calls; a region in the order of its text (own work).
-/
import Derived.Test.YtdlebapkbdckpaaGreatDoorAx13
namespace Go.Ax
open Go

section
variable {P : Program} {N0 : Nat} {ρ : Ren} {w : World} {b : Frame} {a : Act} {k : List Item} {cs0 cs : List Frame} {ops : Array Oper} {i : Nat} {rest : List Nat} {o : Oper} {fns : Tr Func} {ext : ExtFn} {rcall : CallFn}

theorem call_run_of {ev' : Operand → Value} {dst : Option Tmp} {c : Call} {ty : TypeId} {pos : String} {after : Array Edge} {guard : Option (Nat × Bool)} {fn : Fn} {cap' args' : Array Value} (hr : ∀ w, (resolve ev' c ty).run P w = .ok ⟨.fn fn cap', args'⟩ w) (w : World) :
    (execOp ev' { dst := dst, op := .call c, type := ty, pos := pos, after := after, guard := guard }).run P w = (invoke (.fn fn cap') args').run P w := by
  simp only [execOp, Sem.run_bind, hr, Result.andThen_ok]

theorem extern_out (hext : ExtOk P N0 ext) {st st' : St} {e : AExit} (hin : In P N0 ρ st a w cs0 cs b) (ho : ops[i]? = some o) (hw : Region.wanted o (yielded ops a.tmps) = true) {fn : Fn} {cap cap' args args' : Array Value}
    (hc : AR ρ st.H.next cap cap') (ha : AR ρ st.H.next args args') (hrun : ∀ w, (execOp a.eval o).run P w = (invoke (.fn fn cap') args').run P w) (h : externA P N0 ext fn cap args o st = some (e, st')) :
    Out P N0 ρ st w cs0 (lone (b.at a (.inRegion ops (i :: rest) :: k)) cs w) b (.inRegion ops rest :: k) e st' := by
  unfold externA at h
  split at h
  · rename_i r hr
    exact quiet_out hin ho hw (aFlat_sound hin.sim.low hin.sim.fix (evA_rel hin.sim hin.act) hr) h
  · split at h
    case h_2 => cases h
    rename_i g
    split at h
    case h_2 => cases h
    rename_i v H' hx
    refine eff_out hin ho hw ?_ h
    obtain ⟨ρ', w', h1, h2, h3⟩ := hext g _ _ _ _ hx ρ w (args' ++ cap') hin.sim (ha.append hc)
    refine ⟨ρ', w', h1, h2, ?_⟩
    rw [hrun]
    simpa only [invoke] using h3

theorem op_out (hfns : FnsOk P fns) (hext : ExtOk P N0 ext) (hcall : CallSound P N0 rcall) {st st' : St} {e : AExit} (hin : In P N0 ρ st a w cs0 cs b) (ho : ops[i]? = some o) (hw : Region.wanted o (yielded ops a.tmps) = true)
    (h : opA P N0 fns ext rcall o st = some (e, st')) :
    Out P N0 ρ st w cs0 (lone (b.at a (.inRegion ops (i :: rest) :: k)) cs w) b (.inRegion ops rest :: k) e st' := by
  have hev := evA_rel hin.sim hin.act
  unfold opA at h
  split at h
  · -- defer
    rename_i c hop
    split at h
    case h_2 => cases h
    rename_i fn cap args hres
    obtain ⟨hp, rfl⟩ := norm_some h
    obtain ⟨cap', args', hrun, hc, ha⟩ := aResolve_sound (P := P) (ty := o.type) hev hres
    have hr : (execOp a.eval o).run P w = .ok (.defer ⟨.fn fn cap', args'⟩) w := by
      obtain ⟨dst, op, ty, pos, after, guard⟩ := o
      simp only at hop; subst hop
      simp only [execOp, Sem.run_bind, hrun, Result.andThen_ok, Sem.run_pure]
    have hact : ActR ρ st.H.next { st with df := ⟨.fn fn cap, args⟩ :: st.df } { a with defers := ⟨.fn fn cap', args'⟩ :: a.defers } :=
      ⟨hin.act.size, hin.act.get, .cons (.mk fn cap cap' args args' hc ha) hin.act.defers⟩
    obtain ⟨g1, g2, g3, g4⟩ := put_rel hact (VR.top undef) hp
    exact ⟨ρ, w, _, cs, by rw [g2]; exact hin.sim, by rw [g2]; exact Fr.refl _ _ _, by rw [g2]; exact g1, by rw [g2, g3, g4]; exact hin.cs, g4, .one (step_defer' ho hw hr)⟩
  · -- recover
    rename_i args ts hop
    refine recover_out hin ho hw ?_ h
    obtain ⟨dst, op, ty, pos, after, guard⟩ := o
    simp only at hop; subst hop
    rfl
  · exact plain_out hin ho hw h
  · -- a call
    rename_i c hb1 hb2 hop
    have hrunop : ∀ {fn : Fn} {cap' args' : Array Value}, (∀ w, (resolve a.eval c o.type).run P w = .ok ⟨.fn fn cap', args'⟩ w) → ∀ w, (execOp a.eval o).run P w = (invoke (.fn fn cap') args').run P w := by
      intro fn cap' args' hr w
      obtain ⟨dst, op, ty, pos, after, guard⟩ := o
      simp only at hop; subst hop
      exact call_run_of hr w
    split at h
    · rename_i fn cap args hres
      obtain ⟨cap', args', hrun, hc, ha⟩ := aResolve_sound (P := P) (ty := o.type) hev hres
      split at h
      · rename_i g as hinv
        obtain ⟨as', hi1, hi2⟩ := aInvoke_sound hfns hc ha hinv
        have hr : (execOp a.eval o).run P w = .ok (.enter g as') w := by rw [hrunop hrun]; exact hi1 w
        have henter := step_enter' (P := P) (b := b) (k := k) (cs := cs) (rest := rest) ho hw hr
        split at h
        · rename_i v u' H' hcl
          obtain ⟨hp, rfl⟩ := norm_some h
          obtain ⟨ρ', w', cs', fr, en, q1, q2, q3, q4, q5, q6, v', rfl, hv⟩ := hcall _ _ _ _ _ _ _ _ hcl ρ w as' (b.at a (.inRegion ops (i :: rest) :: k) :: cs) (b.at a (.inRegion ops (i :: rest) :: k) :: cs) hin.sim hi2 rfl
          simp only [Cs] at q3
          subst q3
          have hact : ActR ρ' H'.next { st with H := H' } a := (hin.act.mono q2.next q2.agree).of rfl rfl rfl
          obtain ⟨g1, g2, g3, g4⟩ := put_rel hact hv hp
          obtain ⟨hm, hd, fnr, hf, hres'⟩ := q6
          have hl : fr.leaving P w' (.returned v') := ⟨hm, hd, q5.1, fnr, hf, hres'⟩
          have hlast := step_leave_returned (c := b.at a (.inRegion ops (i :: rest) :: k)) (cs := cs) hl
          rw [finish_eq ho] at hlast
          exact ⟨ρ', w', a.put o.dst v', cs, by rw [g2]; exact q1, by rw [g2]; exact q2, by rw [g2]; exact g1, by rw [g2, g3, g4]; exact hin.cs.mono q2.next q2.agree, g4,
            .head henter (q4.trans (.one hlast))⟩
        · rename_i ch u' H' hcl
          cases h
          obtain ⟨ρ', w', cs', fr, en, q1, q2, q3, q4, q5, q6, ch', rfl, hch⟩ := hcall _ _ _ _ _ _ _ _ hcl ρ w as' (b.at a (.inRegion ops (i :: rest) :: k) :: cs) (b.at a (.inRegion ops (i :: rest) :: k) :: cs) hin.sim hi2 rfl
          simp only [Cs] at q3
          subst q3
          have hact : ActR ρ' H'.next { st with H := H' } a := (hin.act.mono q2.next q2.agree).of rfl rfl rfl
          obtain ⟨hm, hd, fnr, hf⟩ := q6
          have hl : fr.leaving P w' (.panicked ch') := ⟨hm, hd, fnr, hf⟩
          have hlast := step_leave_panicked (c := b.at a (.inRegion ops (i :: rest) :: k)) (cs := cs) hl
          rw [Frame.raise_at] at hlast
          exact ⟨ρ', w', a, cs, q1, q2, hact, hin.cs.mono q2.next q2.agree, rfl, ch', _, hch, .head henter (q4.trans (.one hlast))⟩
        · cases h
      · exact extern_out hext hin ho hw hc ha (hrunop hrun) h
    · split at h
      case h_2 => cases h
      rename_i r hr
      exact quiet_out hin ho hw (aFlat_sound hin.sim.low hin.sim.fix hev hr) h
  · exact plain_out hin ho hw h

/-! ## a region in the order of its text -/
/-- Is the operation wanted? -/
def wantedA (ops : Array Oper) (tm : Tr Value) (o : Oper) : Option Bool :=
  match o.guard with
  | none => some true
  | some (j, want) =>
    match (ops[j]?).bind (·.dst) with
    | none => none
    | some t =>
      match tm.get t with
      | some (.bool x) => some (x == want)
      | some (.float _ n) => bif Nat.ble 18446744073709551616 n then some false else none
      | _ => none

theorem wantedA_sound {N : Nat} {st : St} (h : ActR ρ N st a) {x : Bool} (hx : wantedA ops st.tm o = some x) : Region.wanted o (yielded ops a.tmps) = x := by
  unfold wantedA at hx
  unfold Region.wanted
  split at hx
  · rename_i hg; cases hx; rw [hg]
  · rename_i j want hg
    rw [hg]
    simp only
    split at hx
    · cases hx
    · rename_i t ht
      split at hx
      · rename_i y hy
        cases hx
        obtain ⟨hlt, hr⟩ := h.get t _ hy
        have hv := hr.inv_bool
        have hs : t < a.tmps.size := by rw [h.size]; exact hlt
        have hget : a.tmps[t]? = some (.bool y) := by
          rw [Array.getElem?_eq_getElem hs]
          simpa [hs] using hv
        simp only [yielded, ht, Option.bind_some, hget]
        cases y <;> cases want <;> rfl
      · rename_i kf nf hy
        obtain ⟨_, rfl⟩ := bif_some hx
        obtain ⟨hlt, hr⟩ := h.get t _ hy
        have hs : t < a.tmps.size := by rw [h.size]; exact hlt
        have hnb : ∀ y, a.tmps[t]? ≠ some (.bool y) := by
          intro y e
          have hv : a.tmps.getD t undef = .bool y := by rw [Array.getD_eq_getD_getElem?, e]; rfl
          rw [hv] at hr
          cases hr
        simp only [yielded, ht, Option.bind_some]
        rfl
      · cases hx

def opsA (P : Program) (N0 : Nat) (fns : Tr Func) (ext : ExtFn) (rcall : CallFn) (ops : Array Oper) : List Nat → St → Option (AExit × St)
  | [], st => some (.normal, st)
  | i :: rest, st =>
    match ops[i]? with
    | none => none
    | some o =>
      match wantedA ops st.tm o with
      | none => none
      | some false =>
        match st.put o.dst SKIP with
        | none => none
        | some st1 => opsA P N0 fns ext rcall ops rest st1
      | some true =>
        match opA P N0 fns ext rcall o st with
        | some (.normal, st1) => opsA P N0 fns ext rcall ops rest st1
        | r => r

theorem Fr.out {st st1 : St} {w1 : World} {ρ1 : Ren} (f : Fr ρ st.H w ρ1 st1.H w1) {m m1 : Machine} {e : AExit} {st' : St} (hk : st1.kd = st.kd) (hs : Steps P m m1) (h : Out P N0 ρ1 st1 w1 cs0 m1 b k e st') : Out P N0 ρ st w cs0 m b k e st' := by
  obtain ⟨ρ', w', a', cs', h1, h2, h3, h4, h5, h6⟩ := h
  refine ⟨ρ', w', a', cs', h1, f.trans h2, h3, h4, h5.trans hk, ?_⟩
  cases e with
  | normal => exact hs.trans h6
  | exit id => exact fun k' hk' => hs.trans (h6 k' hk')
  | ret => obtain ⟨todo, h⟩ := h6; exact ⟨todo, hs.trans h⟩
  | panic ch => obtain ⟨ch', todo, h, g⟩ := h6; exact ⟨ch', todo, h, hs.trans g⟩

theorem ops_out (hfns : FnsOk P fns) (hext : ExtOk P N0 ext) (hcall : CallSound P N0 rcall) : ∀ (l : List Nat) (st st' : St) (e : AExit) (ρ : Ren) (a : Act) (w : World) (cs : List Frame),
    In P N0 ρ st a w cs0 cs b → opsA P N0 fns ext rcall ops l st = some (e, st') → Out P N0 ρ st w cs0 (lone (b.at a (.inRegion ops l :: k)) cs w) b k e st' := by
  intro l
  induction l with
  | nil =>
    intro st st' e ρ a w cs hin h
    cases h
    exact ⟨ρ, w, a, cs, hin.sim, Fr.refl _ _ _, hin.act, hin.cs, rfl, .one step_region_end⟩
  | cons i rest ih =>
    intro st st' e ρ a w cs hin h
    simp only [opsA] at h
    split at h
    · cases h
    rename_i o ho
    split at h
    · cases h
    · rename_i hwt
      have hw := wantedA_sound hin.act hwt
      split at h
      · cases h
      rename_i st1 hp
      obtain ⟨g1, g2, g3, g4⟩ := put_rel hin.act VR.skip hp
      have hs := step_op_skip (P := P) (b := b) (a := a) (k := k) (cs := cs) (w := w) (ops := ops) (i := i) (rest := rest) (by simp [ho]; simpa using hw)
      simp only [ho, Option.bind_some] at hs
      have := ih st1 st' e ρ (a.put o.dst undef) w cs ⟨by rw [g2]; exact hin.sim, by rw [g2]; exact g1, by rw [g2, g3, g4]; exact hin.cs, by rw [g4]; exact hin.kind, hin.round⟩ h
      exact Fr.out (ρ := ρ) (st1 := st1) (by rw [g2]; exact Fr.refl _ _ _) g4 (.one hs) this
    · rename_i hwt
      have hw := wantedA_sound hin.act hwt
      split at h
      · rename_i st1 hop
        obtain ⟨ρ1, w1, a1, cs1, h1, h2, h3, h4, h5, h6⟩ := op_out (k := k) (rest := rest) hfns hext hcall hin ho hw hop
        have := ih st1 st' e ρ1 a1 w1 cs1 ⟨h1, h3, h4, by rw [h5]; exact hin.kind, hin.round⟩ h
        exact Fr.out h2 h5 h6 this
      · rename_i hno
        have := op_out (k := k) (rest := rest) hfns hext hcall hin ho hw h
        obtain ⟨ρ1, w1, a1, cs1, h1, h2, h3, h4, h5, h6⟩ := this
        refine ⟨ρ1, w1, a1, cs1, h1, h2, h3, h4, h5, ?_⟩
        cases e with
        | normal => exact absurd h (hno st')
        | exit id =>
          intro k' hk'
          exact h6 k' (by simpa [exitTo] using hk')
        | ret => exact h6
        | panic ch => exact h6
end
end Go.Ax
