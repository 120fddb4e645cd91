/-
  Ax15: code, calls, the run (own work).
-/
import Derived.Test.YtdlebapkbdckpaaGreatDoorAx14
namespace Go.Ax
open Go

abbrev CodeFn := Code → St → Option (AExit × St)
abbrev DrawFn := CallFn → Array Oper → St → Option St

def CodeSound (P : Program) (N0 : Nat) (rc : CodeFn) : Prop :=
  ∀ c st e st', rc c st = some (e, st') → ∀ ρ a w b k cs0 cs, In P N0 ρ st a w cs0 cs b → Out P N0 ρ st w cs0 (lone (b.at a (.code c :: k)) cs w) b k e st'

def DrawSound (P : Program) (N0 : Nat) (drw : DrawFn) : Prop :=
  ∀ rcall, CallSound P N0 rcall → ∀ ops st st', drw rcall ops st = some st' → ∀ ρ a w b k cs0 cs, In P N0 ρ st a w cs0 cs b → ∀ t, Out P N0 ρ st w cs0 (lone (b.at a (.inRegion ops (Region.schedule (P.follows .mixedOrders) ops t) :: k)) cs w) b k .normal st'

def loopA (rc : CodeFn) (body : Code) : Nat → St → Option (AExit × St)
  | 0, _ => none
  | n + 1, st =>
    match rc body st with
    | some (.normal, st1) => loopA rc body n st1
    | r => r

def codeStep (P : Program) (N0 : Nat) (fns : Tr Func) (ext : ExtFn) (drw : DrawFn) (rc : CodeFn) (rcall : CallFn) : CodeFn
  | .skip, st => some (.normal, st)
  | .label _, st => some (.normal, st)
  | .region _ ops false, st => opsA P N0 fns ext rcall ops (List.range ops.size) st
  | .region _ ops true, st => norm (drw rcall ops st)
  | .seq x y, st =>
    match rc x st with
    | some (.normal, st1) => rc y st1
    | r => r
  | .cond c x y, st =>
    match evA N0 st.tm c with
    | .bool true => rc x st
    | .bool false => rc y st
    | _ => none
  | .block id body, st =>
    match rc body st with
    | some (.exit id', st1) => bif Nat.beq id' id then some (.normal, st1) else some (.exit id', st1)
    | r => r
  | .loop body, st => loopA rc body 1000000 st
  | .scope body, st => rc body st
  | .exit id, st => some (.exit id, st)
  | .ret, st => some (.ret, st)
  | _, _ => none

section
variable {P : Program} {N0 : Nat} {fns : Tr Func} {ext : ExtFn} {drw : DrawFn} {rc : CodeFn} {rcall : CallFn}

theorem out_of_steps {ρ : Ren} {st : St} {w : World} {cs0 : List Frame} {m m1 : Machine} {b : Frame} {k : List Item} {e : AExit} {st' : St} (hs : Steps P m m1) (h : Out P N0 ρ st w cs0 m1 b k e st') : Out P N0 ρ st w cs0 m b k e st' :=
  Fr.out (st1 := st) (ρ1 := ρ) (w1 := w) (Fr.refl _ _ _) rfl hs h

/-- What passes an item that stops neither an exit. -/
theorem out_pass {ρ : Ren} {st : St} {w : World} {cs0 : List Frame} {m : Machine} {b : Frame} {x : Item} {k : List Item} {e : AExit} {st' : St} (hx : ∀ id k', exitTo id k = some k' → exitTo id (x :: k) = some k')
    (hn : ∀ a cs w, step P (lone (b.at a (x :: k)) cs w) = .next (lone (b.at a k) cs w)) (h : Out P N0 ρ st w cs0 m b (x :: k) e st') : Out P N0 ρ st w cs0 m b k e st' := by
  obtain ⟨ρ', w', a', cs', h1, h2, h3, h4, h5, h6⟩ := h
  refine ⟨ρ', w', a', cs', h1, h2, h3, h4, h5, ?_⟩
  cases e with
  | normal => exact Steps.trans h6 (.one (hn _ _ _))
  | exit id => exact fun k' hk' => h6 k' (hx id k' hk')
  | ret => exact h6
  | panic ch => exact h6

/-- The same, where the way goes on by itself if it is not normal. -/
theorem out_pass' {ρ : Ren} {st : St} {w : World} {cs0 : List Frame} {m : Machine} {b : Frame} {x : Item} {k : List Item} {e : AExit} {st' : St} (he : e ≠ .normal) (hx : ∀ id k', exitTo id k = some k' → exitTo id (x :: k) = some k')
    (h : Out P N0 ρ st w cs0 m b (x :: k) e st') : Out P N0 ρ st w cs0 m b k e st' := by
  obtain ⟨ρ', w', a', cs', h1, h2, h3, h4, h5, h6⟩ := h
  refine ⟨ρ', w', a', cs', h1, h2, h3, h4, h5, ?_⟩
  cases e with
  | normal => exact absurd rfl he
  | exit id => exact fun k' hk' => h6 k' (hx id k' hk')
  | ret => exact h6
  | panic ch => exact h6

theorem step_scope {b : Frame} {a : Act} {k : List Item} {cs : List Frame} {w : World} {c : Code} : step P (lone (b.at a (.code (.scope c) :: k)) cs w) = .next (lone (b.at a (.code c :: .inScope c :: k)) cs w) :=
  step_lone_go (by simp [stepG, stepG.exec, Frame.at])
theorem step_inScope {b : Frame} {a : Act} {k : List Item} {cs : List Frame} {w : World} {c : Code} : step P (lone (b.at a (.inScope c :: k)) cs w) = .next (lone (b.at a k) cs w) :=
  step_lone_go (by simp [stepG, stepG.exec, Frame.at])

theorem loop_out (hc : CodeSound P N0 rc) (body : Code) : ∀ (n : Nat) (st st' : St) (e : AExit), loopA rc body n st = some (e, st') → ∀ ρ a w b k cs0 cs, In P N0 ρ st a w cs0 cs b →
    Out P N0 ρ st w cs0 (lone (b.at a (.code body :: .inLoop body :: k)) cs w) b k e st' := by
  intro n
  induction n with
  | zero => intro st st' e h; cases h
  | succ n ih =>
    intro st st' e h ρ a w b k cs0 cs hin
    simp only [loopA] at h
    split at h
    · rename_i st1 h1
      obtain ⟨ρ1, w1, a1, cs1, g1, g2, g3, g4, g5, g6⟩ := hc _ _ _ _ h1 ρ a w b (.inLoop body :: k) cs0 cs hin
      have := ih st1 st' e h ρ1 a1 w1 b k cs0 cs1 ⟨g1, g3, g4, by rw [g5]; exact hin.kind, hin.round⟩
      exact Fr.out g2 g5 (Steps.trans g6 (.one step_inLoop)) this
    · rename_i hno
      refine out_pass' (fun he => ?_) (fun id k' hk => by simpa [exitTo] using hk) (hc _ _ _ _ h ρ a w b (.inLoop body :: k) cs0 cs hin)
      subst he
      exact hno st' h

theorem code_out (hfns : FnsOk P fns) (hext : ExtOk P N0 ext) (hdrw : DrawSound P N0 drw) (hc : CodeSound P N0 rc) (hcall : CallSound P N0 rcall) : CodeSound P N0 (codeStep P N0 fns ext drw rc rcall) := by
  intro c st e st' h ρ a w b k cs0 cs hin
  unfold codeStep at h
  split at h
  · cases h; exact ⟨ρ, w, a, cs, hin.sim, Fr.refl _ _ _, hin.act, hin.cs, rfl, .one step_skip⟩
  · cases h; exact ⟨ρ, w, a, cs, hin.sim, Fr.refl _ _ _, hin.act, hin.cs, rfl, .one step_label⟩
  · exact out_of_steps (.one step_region) (ops_out hfns hext hcall _ _ _ _ _ _ _ _ hin h)
  · obtain ⟨h1, rfl⟩ := norm_some h
    have hin' : In P N0 ρ st a { w with drawn := w.drawn + 1 } cs0 cs b := ⟨hin.sim.drawn _, hin.act, hin.cs, hin.kind, hin.round⟩
    have := hdrw rcall hcall _ _ _ h1 ρ a { w with drawn := w.drawn + 1 } b k cs0 cs hin' (w.tape w.drawn (.order b.fn ‹Nat›))
    exact Fr.out (st1 := st) (ρ1 := ρ) (Fr.drawn ρ st.H w _) rfl (.one step_region_draw) this
  · rename_i x y
    split at h
    · rename_i st1 h1
      obtain ⟨ρ1, w1, a1, cs1, g1, g2, g3, g4, g5, g6⟩ := hc _ _ _ _ h1 ρ a w b (.code y :: k) cs0 cs hin
      have := hc _ _ _ _ h ρ1 a1 w1 b k cs0 cs1 ⟨g1, g3, g4, by rw [g5]; exact hin.kind, hin.round⟩
      exact Fr.out g2 g5 (.head step_seq g6) this
    · rename_i hno
      refine out_of_steps (.one step_seq) (out_pass' (fun he => ?_) (fun id k' hk => by simpa [exitTo] using hk) (hc _ _ _ _ h ρ a w b (.code y :: k) cs0 cs hin))
      subst he
      exact hno st' h
  · rename_i cnd x y
    have hr := evA_rel hin.sim hin.act cnd
    split at h
    · rename_i hv; rw [hv] at hr
      have := step_cond (P := P) (b := b) (k := k) (cs := cs) (w := w) (x := x) (y := y) (t := true) hr.inv_bool
      exact out_of_steps (.one this) (hc _ _ _ _ h ρ a w b k cs0 cs hin)
    · rename_i hv; rw [hv] at hr
      have := step_cond (P := P) (b := b) (k := k) (cs := cs) (w := w) (x := x) (y := y) (t := false) hr.inv_bool
      exact out_of_steps (.one this) (hc _ _ _ _ h ρ a w b k cs0 cs hin)
    · cases h
  · rename_i id body
    split at h
    · rename_i id' st1 h1
      have hb := hc _ _ _ _ h1 ρ a w b (.inBlock id :: k) cs0 cs hin
      cases he : Nat.beq id' id <;> simp only [he, cond_true, cond_false] at h
      · cases h
        obtain ⟨ρ', w', a', cs', h1, h2, h3, h4, h5, h6⟩ := hb
        have hne : (id == id') = false := by
          cases hq : (id == id') with
          | false => rfl
          | true => rw [beq_iff_eq] at hq; subst hq; simp at he
        exact ⟨ρ', w', a', cs', h1, h2, h3, h4, h5, fun k' hk => .head step_block (h6 k' (by simp [exitTo, hne, hk]))⟩
      · cases h
        obtain ⟨ρ', w', a', cs', h1, h2, h3, h4, h5, h6⟩ := hb
        have hid := Nat.eq_of_beq_eq_true he
        subst hid
        exact ⟨ρ', w', a', cs', h1, h2, h3, h4, h5, .head step_block (h6 k (by simp [exitTo]))⟩
    · rename_i hno
      have hb := hc _ _ _ _ h ρ a w b (.inBlock id :: k) cs0 cs hin
      obtain ⟨ρ', w', a', cs', h1, h2, h3, h4, h5, h6⟩ := hb
      refine ⟨ρ', w', a', cs', h1, h2, h3, h4, h5, ?_⟩
      cases e with
      | normal => exact .head step_block (Steps.trans h6 (.one step_inBlock))
      | exit id' => exact absurd h (hno id' st')
      | ret => obtain ⟨todo, h⟩ := h6; exact ⟨todo, .head step_block h⟩
      | panic ch => obtain ⟨ch', todo, h, g⟩ := h6; exact ⟨ch', todo, h, .head step_block g⟩
  · rename_i body
    exact out_of_steps (.one step_loop) (loop_out hc body _ _ _ _ h ρ a w b k cs0 cs hin)
  · rename_i body
    exact out_of_steps (.one step_scope) (out_pass (fun id k' hk => by simpa [exitTo] using hk) (fun _ _ _ => step_inScope) (hc _ _ _ _ h ρ a w b (.inScope body :: k) cs0 cs hin))
  · cases h
    exact ⟨ρ, w, a, cs, hin.sim, Fr.refl _ _ _, hin.act, hin.cs, rfl, fun k' hk => .one (step_exit hk)⟩
  · cases h
    exact ⟨ρ, w, a, cs, hin.sim, Fr.refl _ _ _, hin.act, hin.cs, rfl, _, .one step_ret⟩
  · cases h

/-! ## Calls -/
def leavesA (P : Program) (fns : Tr Func) (rcall : CallFn) : List Deferred → FrameMode → AH → Option (FrameMode × AH)
  | [], u, H => some (u, H)
  | d :: ds, u, H =>
    match u with
    | .run => none
    | _ =>
      match d.target with
      | .fn fv cap =>
        match aInvoke P fns fv cap d.args with
        | some (g, as) =>
          match rcall g as true u H with
          | some (.ret _, u', H') => leavesA P fns rcall ds (settle u') H'
          | some (.pan ch, u', H') => leavesA P fns rcall ds (raised u' ch) H'
          | none => none
        | none => none
      | _ => none

theorem leaves_out (hfns : FnsOk P fns) (hcall : CallSound P N0 rcall) : ∀ (ds : List Deferred) (u : FrameMode) (H : AH) (u2 : FrameMode) (H2 : AH), leavesA P fns rcall ds u H = some (u2, H2) →
    ∀ ρ w (fr : Frame) cs, Sim N0 ρ H w → All2 (DR ρ H.next) ds fr.defers → MR ρ H.next u fr.mode →
    ∃ ρ' w' m', Sim N0 ρ' H2 w' ∧ Fr ρ H w ρ' H2 w' ∧ MR ρ' H2.next u2 m' ∧ Steps P (lone fr cs w) (lone { fr with mode := m', defers := [] } cs w') := by
  intro ds
  induction ds with
  | nil =>
    intro u H u2 H2 h ρ w fr cs hs hd hm
    cases h
    obtain ⟨ffn, ftmps, ftodo, fdf, fmode, fkind, fro⟩ := fr
    simp only at hd hm
    cases hd
    exact ⟨ρ, w, fmode, hs, Fr.refl _ _ _, hm, Steps.refl _ _⟩
  | cons d ds ih =>
    intro u H u2 H2 h ρ w fr cs hs hd hm
    obtain ⟨ffn, ftmps, ftodo, fdf, fmode, fkind, fro⟩ := fr
    simp only at hd hm
    cases hd with
    | cons hdr hdt =>
      rename_i d' ds'
      simp only [leavesA] at h
      split at h
      · cases h
      rename_i hu
      have hrun : fmode ≠ .run := by
        intro e; subst e
        cases hm
        exact hu rfl
      split at h
      case h_2 => cases h
      rename_i fv cap hT
      obtain ⟨dt, da⟩ := d
      cases hdr with
      | mk fn c c' _ a' hc ha =>
        simp only [Target.fn.injEq] at hT
        obtain ⟨rfl, rfl⟩ := hT
        split at h
        case h_2 => cases h
        rename_i g as hinv
        obtain ⟨as', hi1, hi2⟩ := aInvoke_sound hfns hc ha hinv
        have h1 := step_defer (P := P) (fr := ⟨ffn, ftmps, ftodo, ⟨.fn fn c', a'⟩ :: ds', fmode, fkind, fro⟩) (cs := cs) (w := w) hrun rfl rfl (hi1 w)
        have run1 : ∀ e u' H', rcall g as true u H = some (e, u', H') → ∃ ρ' w' m fr' en, Sim N0 ρ' H' w' ∧ Fr ρ H w ρ' H' w' ∧ MR ρ' H'.next u' m ∧
            Steps P (lone (Frame.enter P g as' .deferred) (⟨ffn, ftmps, ftodo, ds', fmode, fkind, fro⟩ :: cs) w) (lone fr' (⟨ffn, ftmps, ftodo, ds', m, fkind, fro⟩ :: cs) w') ∧ fr'.kind = .deferred ∧ fr'.going P w' en ∧
            (match e with
             | .ret v => ∃ v', en = .returned v' ∧ VR ρ' H'.next v v'
             | .pan ch => ∃ ch', en = .panicked ch' ∧ All2 (PR ρ' H'.next) ch ch') := by
          intro e u' H' hcl
          obtain ⟨ρ', w', cs', fr', en, q1, q2, q3, q4, q5, q6, q7⟩ := hcall _ _ _ _ _ _ _ _ hcl ρ w as' (⟨ffn, ftmps, ftodo, ds', fmode, fkind, fro⟩ :: cs) (⟨ffn, ftmps, ftodo, ds', fmode, fkind, fro⟩ :: cs) hs hi2 ⟨_, _, fmode, rfl, rfl, hm⟩
          obtain ⟨c0, rest, m, e1, e2, e3⟩ := q3
          cases e1
          subst e2
          exact ⟨ρ', w', m, fr', en, q1, q2, e3, q4, q5.1, q6, q7⟩
        split at h
        · rename_i v u' H' hcl
          obtain ⟨ρ', w', m, fr', en, q1, q2, q3, q4, q5, q6, v', rfl, _⟩ := run1 _ _ _ hcl
          have h2 := step_going_returned (P := P) (c := ⟨ffn, ftmps, ftodo, ds', m, fkind, fro⟩) (cs := cs) q5 q6
          obtain ⟨ρ2, w2, m2, r1, r2, r3, r4⟩ := ih _ _ _ _ h ρ' w' ⟨ffn, ftmps, ftodo, ds', settle m, fkind, fro⟩ cs q1 (all2_imp (fun _ _ r => r.mono q2.next q2.agree) hdt) q3.settle
          exact ⟨ρ2, w2, m2, r1, q2.trans r2, r3, .head h1 (q4.trans (.head h2 r4))⟩
        · rename_i ch u' H' hcl
          obtain ⟨ρ', w', m, fr', en, q1, q2, q3, q4, q5, q6, ch', rfl, hch⟩ := run1 _ _ _ hcl
          have h2 := step_going_panicked (P := P) (c := ⟨ffn, ftmps, ftodo, ds', m, fkind, fro⟩) (cs := cs) q6
          obtain ⟨ρ2, w2, m2, r1, r2, r3, r4⟩ := ih _ _ _ _ h ρ' w' ⟨ffn, ftmps, ftodo, ds', raised m ch', fkind, fro⟩ cs q1 (all2_imp (fun _ _ r => r.mono q2.next q2.agree) hdt) (q3.raised hch)
          exact ⟨ρ2, w2, m2, r1, q2.trans r2, r3, .head h1 (q4.trans (.head h2 r4))⟩
        · cases h

def resA (P : Program) (tm : Tr Value) (H : AH) : List ResultVar → Option (List Value)
  | [] => some []
  | .tmp t :: r =>
    match resA P tm H r with
    | some l => some ((match tm.get t with | some v => v | none => undef) :: l)
    | none => none
  | .cell a t :: r =>
    match tm.get a with
    | some (.pointer (some ⟨b, o, _⟩)) =>
      match loadVarA P H t b o, resA P tm H r with
      | some v, some l => some (v :: l)
      | _, _ => none
    | _ => none

def oneOf (l : List Value) : Value :=
  match l with
  | [v] => v
  | l => .tuple l.toArray

theorem resA_rel {ρ : Ren} {st : St} {a : Act} {w : World} {H : AH} (s : Sim N0 ρ H w) (h : ActR ρ H.next st a) (f : ResultVar → Sem Value) (hf1 : ∀ t, (f (.tmp t)).run P w = .ok (a.tmps.getD t undef) w)
    (hf2 : ∀ x t, (f (.cell x t)).run P w = ((asAddr (a.tmps.getD x undef)).run P w).andThen fun p w' => (loadVar t p).run P w') : ∀ {rs : List ResultVar} {l : List Value}, resA P st.tm H rs = some l →
    ∃ l', (rs.mapM (m := Sem) f).run P w = .ok l' w ∧ All2 (VR ρ H.next) l l' := by
  intro rs
  induction rs with
  | nil => intro l hl; cases hl; exact ⟨[], by simp, .nil⟩
  | cons r rs ih =>
    intro l hl
    cases r with
    | tmp t =>
      simp only [resA] at hl
      split at hl
      case h_2 => cases hl
      rename_i l1 h1
      cases hl
      obtain ⟨l', g1, g2⟩ := ih h1
      refine ⟨a.tmps.getD t undef :: l', by simp only [List.mapM_cons, Sem.run_bind, Sem.run_pure, Result.andThen_ok, hf1, g1], .cons ?_ g2⟩
      split
      · rename_i v hv; exact (h.get t v hv).2
      · exact .top _
    | cell x t =>
      simp only [resA] at hl
      split at hl
      case h_2 => cases hl
      rename_i b o sp hx
      split at hl
      case h_2 => cases hl
      rename_i v l1 hv h1
      cases hl
      obtain ⟨l', g1, g2⟩ := ih h1
      obtain ⟨_, hr⟩ := h.get x _ hx
      obtain ⟨_, _, e⟩ := hr.inv_ptr
      obtain ⟨v', k1, k2⟩ := loadVarA_rel (P := P) s hv
      have hadd : (asAddr (a.tmps.getD x undef)).run P w = .ok ⟨ρ b, o, none⟩ w := by rw [e]; rfl
      exact ⟨v' :: l', by simp only [List.mapM_cons, Sem.run_bind, Sem.run_pure, Result.andThen_ok, hf2, hadd, k1, g1], .cons k2 g2⟩

theorem results_rel {ρ : Ren} {st : St} {a : Act} {w : World} {H : AH} (s : Sim N0 ρ H w) (h : ActR ρ H.next st a) {fn : Func} {l : List Value} (hl : resA P st.tm H fn.results.toList = some l) :
    ∃ v', (results fn a.tmps).run P w = .ok v' w ∧ VR ρ H.next (oneOf l) v' := by
  obtain ⟨l', h1, h2⟩ := resA_rel (P := P) s h (fun
    | .tmp t => pure (a.tmps.getD t undef)
    | .cell x t => do loadVar t (← asAddr (a.tmps.getD x undef))) (fun _ => rfl) (fun x t => by simp only [Sem.run_bind]) hl
  have hm : (results fn a.tmps).run P w = .ok (if h : l'.toArray.size = 1 then l'.toArray[0] else .tuple l'.toArray) w := by
    unfold results
    rw [Sem.run_bind, Array.mapM_eq_mapM_toList, Sem.run_map]
    erw [h1]
    rfl
  refine ⟨_, hm, ?_⟩
  cases h2 with
  | nil => exact .top _
  | cons hv ht =>
    rename_i v v' m m'
    cases ht with
    | nil => exact hv
    | cons hv2 ht2 =>
      have har := all2_ar (All2.cons hv (All2.cons hv2 ht2))
      rw [dif_neg (by simp)]
      exact .tuple _ _ har.1 har.2

def callStep (P : Program) (fns : Tr Func) (rc : CodeFn) (rcall : CallFn) : CallFn := fun f args kd u H =>
  match fns.get f with
  | none => none
  | some fn =>
    match fn.body with
    | none => none
    | some c =>
      match rc c { tm := Tr.ofList args.toList, nt := args.size + (fn.ntmps - args.size), df := [], H := H, u := u, kd := kd } with
      | some (.exit _, _) | none => none
      | some (e, st1) =>
        match leavesA P fns rcall st1.df (match e with | .panic ch => .panicking ch | _ => .returning) st1.H with
        | some (.returning, H2) =>
          match resA P st1.tm H2 fn.results.toList with
          | some l => some (.ret (oneOf l), st1.u, H2)
          | none => none
        | some (.panicking ch, H2) => some (.pan ch, st1.u, H2)
        | _ => none

theorem ofList_get {ρ : Ren} {N n : Nat} {args args' : Array Value} (h : AR ρ N args args') : ∀ t v, (Tr.ofList args.toList).get t = some v → t < args.size + (n - args.size) ∧ VR ρ N v ((args' ++ Array.replicate (n - args'.size) undef).getD t undef) := by
  intro t v hv
  have h1 := Tr.get_ofList hv
  obtain ⟨v', h2, h3⟩ := h.get (i := t) (v := v) (by simpa using h1)
  have hlt : t < args'.size := (Array.getElem?_eq_some_iff.1 h2).1
  have hs := h.1
  refine ⟨by omega, ?_⟩
  rw [Array.getD_eq_getD_getElem?, Array.getElem?_append_left hlt, h2]
  exact h3

theorem call_out (hfns : FnsOk P fns) (hc : CodeSound P N0 rc) (hcall : CallSound P N0 rcall) : CallSound P N0 (callStep P fns rc rcall) := by
  intro f args kd u H e u' H' h ρ w args' cs0 cs hs ha hcs
  unfold callStep at h
  split at h
  · cases h
  rename_i fn hfn
  obtain ⟨hP, _, _⟩ := hfns f fn hfn
  split at h
  · cases h
  rename_i c hbody
  have henter : Frame.enter P f args' (kindOf kd) = ({ (default : Frame) with fn := f, kind := kindOf kd } : Frame).at { tmps := args' ++ Array.replicate (fn.ntmps - args'.size) undef, defers := [] } [.code c] := by
    simp [Frame.enter, Frame.at, hP, hbody]
  have hin : In P N0 ρ { tm := Tr.ofList args.toList, nt := args.size + (fn.ntmps - args.size), df := [], H := H, u := u, kd := kd } { tmps := args' ++ Array.replicate (fn.ntmps - args'.size) undef, defers := [] } w cs0 cs
      ({ (default : Frame) with fn := f, kind := kindOf kd } : Frame) := by
    refine ⟨hs, ⟨?_, ?_, .nil⟩, hcs, rfl, rfl⟩
    · simp [ha.1]
    · intro t v hv
      have := ofList_get (n := fn.ntmps) ha t v hv
      exact this
  -- behind the body
  have fin : ∀ (st1 : St) (m0 : FrameMode), leavesA P fns rcall st1.df m0 st1.H = (match e with | .ret _ => some (.returning, H') | .pan ch => some (.panicking ch, H')) → (∀ v, e = .ret v → ∃ l, resA P st1.tm H' fn.results.toList = some l ∧ v = oneOf l) → u' = st1.u →
      ∀ (ρ1 : Ren) (w1 : World) (a1 : Act) (cs1 : List Frame) (m1 : FrameMode) (todo : List Item), Sim N0 ρ1 st1.H w1 → Fr ρ H w ρ1 st1.H w1 → ActR ρ1 st1.H.next st1 a1 → Cs ρ1 st1.H.next kd st1.u cs0 cs1 → MR ρ1 st1.H.next m0 m1 →
      Steps P (lone (Frame.enter P f args' (kindOf kd)) cs w) (lone { ({ (default : Frame) with fn := f, kind := kindOf kd } : Frame).at a1 todo with mode := m1 } cs1 w1) →
      ∃ ρ' w' cs' fr en, Sim N0 ρ' H' w' ∧ Fr ρ H w ρ' H' w' ∧ Cs ρ' H'.next kd u' cs0 cs' ∧ Steps P (lone (Frame.enter P f args' (kindOf kd)) cs w) (lone fr cs' w') ∧ (fr.kind = kindOf kd ∧ fr.fn = f) ∧ fr.going P w' en ∧
      (match e with
       | .ret v => ∃ v', en = .returned v' ∧ VR ρ' H'.next v v'
       | .pan ch => ∃ ch', en = .panicked ch' ∧ All2 (PR ρ' H'.next) ch ch') := by
    intro st1 m0 hlv hres hu ρ1 w1 a1 cs1 m1 todo g1 g2 g3 g4 g5 g6
    cases e with
    | ret v =>
      obtain ⟨ρ2, w2, m2, r1, r2, r3, r4⟩ := leaves_out hfns hcall _ _ _ _ _ hlv ρ1 w1 { ({ (default : Frame) with fn := f, kind := kindOf kd } : Frame).at a1 todo with mode := m1 } cs1 g1 g3.defers g5
      obtain ⟨l, hl, rfl⟩ := hres v rfl
      have hact2 : ActR ρ2 H'.next st1 a1 := g3.mono r2.next r2.agree
      obtain ⟨v', k1, k2⟩ := results_rel (P := P) r1 hact2 hl
      cases r3
      refine ⟨ρ2, w2, cs1, _, .returned v', r1, g2.trans r2, by rw [hu]; exact g4.mono r2.next r2.agree, g6.trans r4, ⟨rfl, rfl⟩, ⟨rfl, rfl, fn, hP, k1⟩, v', rfl, k2⟩
    | pan ch =>
      obtain ⟨ρ2, w2, m2, r1, r2, r3, r4⟩ := leaves_out hfns hcall _ _ _ _ _ hlv ρ1 w1 { ({ (default : Frame) with fn := f, kind := kindOf kd } : Frame).at a1 todo with mode := m1 } cs1 g1 g3.defers g5
      cases r3 with
      | panicking _ ch' hch =>
        exact ⟨ρ2, w2, cs1, _, .panicked ch', r1, g2.trans r2, by rw [hu]; exact g4.mono r2.next r2.agree, g6.trans r4, ⟨rfl, rfl⟩, ⟨rfl, rfl, fn, hP⟩, ch', rfl, hch⟩
  split at h
  · cases h
  · cases h
  rename_i e1 st1 hne hrc
  obtain ⟨ρ1, w1, a1, cs1, h1, h2, h3, h4, h5, h6⟩ := hc _ _ _ _ hrc ρ _ w ({ (default : Frame) with fn := f, kind := kindOf kd } : Frame) [] cs0 cs hin
  rw [← henter] at h6
  simp only at h5 h2
  rw [h5] at h4
  -- the mode behind the body
  have hmode : ∃ m1 todo, MR ρ1 st1.H.next (match e1 with | .panic ch => .panicking ch | _ => .returning) m1 ∧ Steps P (lone (Frame.enter P f args' (kindOf kd)) cs w) (lone { ({ (default : Frame) with fn := f, kind := kindOf kd } : Frame).at a1 todo with mode := m1 } cs1 w1) := by
    cases e1 with
    | normal => exact ⟨.returning, [], .returning, Steps.trans h6 (.one step_end)⟩
    | exit id => exact absurd rfl (hne id)
    | ret => obtain ⟨todo, h⟩ := h6; exact ⟨.returning, todo, .returning, h⟩
    | panic ch => obtain ⟨ch', todo, hch, h⟩ := h6; exact ⟨.panicking ch', todo, .panicking _ _ hch, h⟩
  obtain ⟨m1, todo, hm1, hst⟩ := hmode
  split at h
  · rename_i H2 hlv
    split at h
    case h_2 => cases h
    rename_i l hl
    cases h
    exact fin st1 _ hlv (fun v hv => by cases hv; exact ⟨l, hl, rfl⟩) rfl ρ1 w1 a1 cs1 m1 todo h1 h2 h3 h4 hm1 hst
  · rename_i ch H2 hlv
    cases h
    exact fin st1 _ hlv (fun v hv => by cases hv) rfl ρ1 w1 a1 cs1 m1 todo h1 h2 h3 h4 hm1 hst
  · cases h

/-- The run: 'n' is how deep. -/
def runA (P : Program) (N0 : Nat) (fns : Tr Func) (ext : ExtFn) (drw : DrawFn) (n : Nat) : CodeFn × CallFn :=
  Nat.rec (motive := fun _ => CodeFn × CallFn) (fun _ _ => none, fun _ _ _ _ _ => none) (fun _ p => (codeStep P N0 fns ext drw p.1 p.2, callStep P fns p.1 p.2)) n

theorem run_sound (hfns : FnsOk P fns) (hext : ExtOk P N0 ext) (hdrw : DrawSound P N0 drw) : ∀ n, CodeSound P N0 (runA P N0 fns ext drw n).1 ∧ CallSound P N0 (runA P N0 fns ext drw n).2 := by
  intro n
  induction n with
  | zero => exact ⟨fun c st e st' h => by simp [runA] at h, fun f args kd u H e u' H' h => by simp [runA] at h⟩
  | succ n ih => exact ⟨code_out hfns hext hdrw ih.1 ih.2, call_out hfns ih.1 ih.2⟩
end
end Go.Ax
