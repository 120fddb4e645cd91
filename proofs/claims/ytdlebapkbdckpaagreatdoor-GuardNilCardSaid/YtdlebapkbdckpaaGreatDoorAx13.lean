/-
  Ax13: one operation of a region (own work).
-/
import Derived.Test.YtdlebapkbdckpaaGreatDoorAx12
namespace Go.Ax
open Go

inductive AExit where
  | normal
  | exit (id : Nat)
  | ret
  | panic (ch : List PanicEntry)

inductive AEnd where
  | ret (v : Value)
  | pan (ch : List PanicEntry)

abbrev CallFn := Nat → Array Value → Bool → FrameMode → AH → Option (AEnd × FrameMode × AH)
abbrev ExtFn := Nat → Array Value → AH → Option (Value × AH)

def aEff (P : Program) (N0 : Nat) (ev : Operand → Value) (H : AH) (o : Oper) : Option (Value × AH) :=
  match o.op with
  | .store t a x =>
    match aStore P H t (ev a) (ev x) with
    | some H' => some (undef, H')
    | none => none
  | .mapUpdate t m k x | .insert t m k x =>
    match aMapUpdate P N0 H t (ev m) (ev k) (ev x) with
    | some H' => some (undef, H')
    | none => none
  | .next it true => aNextStr H (ev it)
  | .convert src dst x => aStrBytes P H src dst (ev x)
  | .call { callee := .builtin .append, args := args, argTypes := ts } =>
    match args[0]?, args[1]? with
    | some s, some x => aAppend P N0 H ts[0]? ts[1]? (ev s) (ev x)
    | _, _ => none
  | .call { callee := .builtin .copy, args := args, argTypes := ts } =>
    match args[0]?, args[1]? with
    | some s, some x => aCopy P H ts[0]? (ev s) (ev x)
    | _, _ => none
  | .call { callee := .builtin .close, args := args, argTypes := _ } =>
    match args.toList with
    | [c] => aClose H (ev c)
    | _ => none
  | _ => none

theorem aEff_sound {P : Program} {N0 : Nat} {ρ : Ren} {H : AH} {w : World} {ev ev' : Operand → Value} (s : Sim N0 ρ H w) (hev : ∀ x, VR ρ H.next (ev x) (ev' x)) {o : Oper} {v : Value} {H' : AH} (h : aEff P N0 ev H o = some (v, H')) :
    EOk P N0 ρ H w (execOp ev' o) v H' := by
  obtain ⟨dst, op, ty, pos, after, guard⟩ := o
  unfold aEff at h
  split at h
  · rename_i t a x heq; simp only at heq; subst heq
    split at h
    case h_2 => cases h
    rename_i H2 h2
    cases h
    exact aStore_sound s (hev a) (hev x) h2
  · rename_i t m k x heq; simp only at heq; subst heq
    split at h
    case h_2 => cases h
    rename_i H2 h2
    cases h
    exact aMapUpdate_sound s (hev m) (hev k) (hev x) h2
  · rename_i t m k x heq; simp only at heq; subst heq
    split at h
    case h_2 => cases h
    rename_i H2 h2
    cases h
    exact aMapUpdate_sound s (hev m) (hev k) (hev x) h2
  · rename_i it heq; simp only at heq; subst heq
    exact aNextStr_sound s (hev it) h
  · rename_i src dst' x heq; simp only at heq; subst heq
    exact aStrBytes_sound s (hev x) h
  · rename_i args ts heq; simp only at heq; subst heq
    split at h
    case h_2 => cases h
    rename_i a b h0 h1
    exact aAppend_sound (ts := ts) (ty := ty) (args := args.map ev') s (by simp [h0]) (by simp [h1]) (hev a) (hev b) h
  · rename_i args ts heq; simp only at heq; subst heq
    split at h
    case h_2 => cases h
    rename_i a b h0 h1
    exact aCopy_sound (ts := ts) (ty := ty) (args := args.map ev') s (by simp [h0]) (by simp [h1]) (hev a) (hev b) h
  · rename_i args ts heq; simp only at heq; subst heq
    split at h
    case h_2 => cases h
    rename_i c hc
    have ha : args = #[c] := by apply Array.toList_inj.1; simpa using hc
    subst ha
    have hcl := aClose_sound (P := P) (ts := ts) (ty := ty) s (hev c) h
    have e : (#[c] : Array Operand).map ev' = #[ev' c] := by simp
    rw [← e] at hcl
    exact hcl
  · cases h

def ExtOk (P : Program) (N0 : Nat) (ext : ExtFn) : Prop :=
  ∀ g args H v H', ext g args H = some (v, H') → ∀ ρ w args', Sim N0 ρ H w → AR ρ H.next args args' → EOk P N0 ρ H w (callFunc g args') v H'

def norm (x : Option St) : Option (AExit × St) :=
  match x with
  | some st => some (.normal, st)
  | none => none

def quietA (o : Oper) (st : St) (r : SRes) : Option (AExit × St) :=
  match r with
  | .val v => norm (st.put o.dst v)
  | .pan v => some (.panic [⟨v, false, false⟩], st)

def plainA (P : Program) (N0 : Nat) (o : Oper) (st : St) : Option (AExit × St) :=
  match aStill P N0 (evA N0 st.tm) st.H o with
  | some r => quietA o st r
  | none =>
    match aAlloc P N0 (evA N0 st.tm) o with
    | some (ob, f) => norm (St.put { st with H := st.H.alloc ob } o.dst (f st.H.next))
    | none =>
      match aEff P N0 (evA N0 st.tm) st.H o with
      | some (v, H') => norm (St.put { st with H := H' } o.dst v)
      | none => none

def recoverA (o : Oper) (st : St) : Option (AExit × St) :=
  match st.kd, st.u with
  | true, .panicking (⟨v, false, false⟩ :: older) => norm (St.put { st with u := .panicking (⟨v, true, false⟩ :: older) } o.dst v)
  | _, _ => norm (st.put o.dst .nilIface)

def externA (P : Program) (N0 : Nat) (ext : ExtFn) (fn : Fn) (cap args : Array Value) (o : Oper) (st : St) : Option (AExit × St) :=
  match aFlat P N0 (evA N0 st.tm) o with
  | some r => quietA o st r
  | none =>
    match fn with
    | .func g =>
      match ext g (args ++ cap) st.H with
      | some (v, H') => norm (St.put { st with H := H' } o.dst v)
      | none => none
    | _ => none

def opA (P : Program) (N0 : Nat) (fns : Tr Func) (ext : ExtFn) (rcall : CallFn) (o : Oper) (st : St) : Option (AExit × St) :=
  match o.op with
  | .defer c =>
    match aResolve (evA N0 st.tm) c with
    | some (fn, cap, args) => norm (St.put { st with df := ⟨.fn fn cap, args⟩ :: st.df } o.dst undef)
    | none => none
  | .call { callee := .builtin .recover, .. } => recoverA o st
  | .call { callee := .builtin _, .. } => plainA P N0 o st
  | .call c =>
    match aResolve (evA N0 st.tm) c with
    | some (fn, cap, args) =>
      match aInvoke P fns fn cap args with
      | some (g, as) =>
        match rcall g as false .run st.H with
        | some (.ret v, _, H') => norm (St.put { st with H := H' } o.dst v)
        | some (.pan ch, _, H') => some (.panic ch, { st with H := H' })
        | none => none
      | none => externA P N0 ext fn cap args o st
    | none =>
      match aFlat P N0 (evA N0 st.tm) o with
      | some r => quietA o st r
      | none => none
  | _ => plainA P N0 o st

/-! ## Soundness -/
def ExS (P : Program) (m : Machine) (b : Frame) (k : List Item) (cs : List Frame) (ρ : Ren) (N : Nat) (a : Act) (w : World) : AExit → Prop
  | .normal => Steps P m (lone (b.at a k) cs w)
  | .exit id => ∀ k', exitTo id k = some k' → Steps P m (lone (b.at a k') cs w)
  | .ret => ∃ todo, Steps P m (lone { b.at a todo with mode := .returning } cs w)
  | .panic ch => ∃ ch' todo, All2 (PR ρ N) ch ch' ∧ Steps P m (lone { b.at a todo with mode := .panicking ch' } cs w)

/-- All that is known behind a step. -/
def Out (P : Program) (N0 : Nat) (ρ : Ren) (st : St) (w : World) (cs0 : List Frame) (m : Machine) (b : Frame) (k : List Item) (e : AExit) (st' : St) : Prop :=
  ∃ ρ' w' a' cs', Sim N0 ρ' st'.H w' ∧ Fr ρ st.H w ρ' st'.H w' ∧ ActR ρ' st'.H.next st' a' ∧ Cs ρ' st'.H.next st'.kd st'.u cs0 cs' ∧ st'.kd = st.kd ∧ ExS P m b k cs' ρ' st'.H.next a' w' e

structure In (P : Program) (N0 : Nat) (ρ : Ren) (st : St) (a : Act) (w : World) (cs0 cs : List Frame) (b : Frame) : Prop where
  sim : Sim N0 ρ st.H w
  act : ActR ρ st.H.next st a
  cs : Cs ρ st.H.next st.kd st.u cs0 cs
  kind : b.kind = kindOf st.kd
  round : b.roundOf = none

def CallSound (P : Program) (N0 : Nat) (rcall : CallFn) : Prop :=
  ∀ f args kd u H e u' H', rcall f args kd u H = some (e, u', H') → ∀ ρ w args' cs0 cs, Sim N0 ρ H w → AR ρ H.next args args' → Cs ρ H.next kd u cs0 cs →
    ∃ ρ' w' cs' fr en, Sim N0 ρ' H' w' ∧ Fr ρ H w ρ' H' w' ∧ Cs ρ' H'.next kd u' cs0 cs' ∧ Steps P (lone (Frame.enter P f args' (kindOf kd)) cs w) (lone fr cs' w') ∧ (fr.kind = kindOf kd ∧ fr.fn = f) ∧ fr.going P w' en ∧
      (match e with
       | .ret v => ∃ v', en = .returned v' ∧ VR ρ' H'.next v v'
       | .pan ch => ∃ ch', en = .panicked ch' ∧ All2 (PR ρ' H'.next) ch ch')

section
variable {P : Program} {N0 : Nat} {ρ : Ren} {w : World} {b : Frame} {a : Act} {k : List Item} {cs0 cs : List Frame} {ops : Array Oper} {i : Nat} {rest : List Nat} {o : Oper}

theorem step_value (ho : ops[i]? = some o) (hw : Region.wanted o (yielded ops a.tmps) = true) {v : Value} {w' : World} (hr : (execOp a.eval o).run P w = .ok (.value v) w') :
    step P (lone (b.at a (.inRegion ops (i :: rest) :: k)) cs w) = .next (lone (b.at (a.put o.dst v) (.inRegion ops rest :: k)) cs w') := by
  have hg := stepG_op (P := P) (b := b) (k := k) (cs := cs) (w := w) (rest := rest) ho hw
  have hfin : (b.at a (.inRegion ops (i :: rest) :: k)).finish v = b.at (a.put o.dst v) (.inRegion ops rest :: k) := by rw [Frame.finish_at, ho]; rfl
  exact step_lone_go (by rw [hg, ← hfin]; simp [stepG.apply, hr])

theorem step_skip' (ho : ops[i]? = some o) (hw : Region.wanted o (yielded ops a.tmps) = true) {w' : World} (hr : (execOp a.eval o).run P w = .ok .skip w') :
    step P (lone (b.at a (.inRegion ops (i :: rest) :: k)) cs w) = .next (lone (b.at (a.put o.dst undef) (.inRegion ops rest :: k)) cs w') := by
  have hg := stepG_op (P := P) (b := b) (k := k) (cs := cs) (w := w) (rest := rest) ho hw
  have hfin : (b.at a (.inRegion ops (i :: rest) :: k)).finish undef = b.at (a.put o.dst undef) (.inRegion ops rest :: k) := by rw [Frame.finish_at, ho]; rfl
  exact step_lone_go (by rw [hg, ← hfin]; simp [stepG.apply, hr])

theorem step_panic' (ho : ops[i]? = some o) (hw : Region.wanted o (yielded ops a.tmps) = true) {v : Value} {w' : World} (hr : (execOp a.eval o).run P w = .halt (.panic v) w') :
    step P (lone (b.at a (.inRegion ops (i :: rest) :: k)) cs w) = .next (lone { b.at a (.inRegion ops (i :: rest) :: k) with mode := .panicking [⟨v, false, false⟩] } cs w') := by
  have hg := stepG_op (P := P) (b := b) (k := k) (cs := cs) (w := w) (rest := rest) ho hw
  exact step_lone_go (by rw [hg, ← Frame.raise_at]; simp [stepG.apply, hr])

theorem step_defer' (ho : ops[i]? = some o) (hw : Region.wanted o (yielded ops a.tmps) = true) {d : Deferred} {w' : World} (hr : (execOp a.eval o).run P w = .ok (.defer d) w') :
    step P (lone (b.at a (.inRegion ops (i :: rest) :: k)) cs w) = .next (lone (b.at ({ a with defers := d :: a.defers }.put o.dst undef) (.inRegion ops rest :: k)) cs w') := by
  have hg := stepG_op (P := P) (b := b) (k := k) (cs := cs) (w := w) (rest := rest) ho hw
  refine step_lone_go ?_
  have : ({ b.at a (.inRegion ops (i :: rest) :: k) with defers := d :: a.defers } : Frame).finish undef =
      b.at ({ a with defers := d :: a.defers }.put o.dst undef) (.inRegion ops rest :: k) := by
    have := Frame.finish_at b { a with defers := d :: a.defers } ops i rest k undef
    rw [ho] at this; exact this
  rw [hg]; simp only [stepG.apply, Sem.runT_eq, hr, GStep.bare_after]
  exact congrArg (fun fr => GStep.go { frame := fr, callers := cs, status := .running, dying := none } w') this

theorem step_enter' (ho : ops[i]? = some o) (hw : Region.wanted o (yielded ops a.tmps) = true) {f : FuncId} {args : Array Value} {w' : World} (hr : (execOp a.eval o).run P w = .ok (.enter f args) w') :
    step P (lone (b.at a (.inRegion ops (i :: rest) :: k)) cs w) = .next (lone (Frame.enter P f args .normal) (b.at a (.inRegion ops (i :: rest) :: k) :: cs) w') := by
  have hg := stepG_op (P := P) (b := b) (k := k) (cs := cs) (w := w) (rest := rest) ho hw
  exact step_lone_go (by rw [hg]; simp [stepG.apply, hr, Frame.at])

theorem finish_eq (ho : ops[i]? = some o) (v : Value) : (b.at a (.inRegion ops (i :: rest) :: k)).finish v = b.at (a.put o.dst v) (.inRegion ops rest :: k) := by
  rw [Frame.finish_at, ho]; rfl

theorem norm_some {x : Option St} {e : AExit} {st' : St} (h : norm x = some (e, st')) : x = some st' ∧ e = .normal := by
  unfold norm at h
  split at h
  · cases h; exact ⟨rfl, rfl⟩
  · cases h

theorem quiet_out {st st' : St} {e : AExit} (hin : In P N0 ρ st a w cs0 cs b) (ho : ops[i]? = some o) (hw : Region.wanted o (yielded ops a.tmps) = true) {r : SRes}
    (hr : SOk P ρ st.H.next w (execOp a.eval o) r) (h : quietA o st r = some (e, st')) :
    Out P N0 ρ st w cs0 (lone (b.at a (.inRegion ops (i :: rest) :: k)) cs w) b (.inRegion ops rest :: k) e st' := by
  unfold quietA at h
  split at h
  · rename_i v
    obtain ⟨hp, rfl⟩ := norm_some h
    obtain ⟨v', h1, h2⟩ := hr
    obtain ⟨g1, g2, g3, g4⟩ := put_rel hin.act h2 hp
    refine ⟨ρ, w, a.put o.dst v', cs, by rw [g2]; exact hin.sim, by rw [g2]; exact Fr.refl _ _ _, by rw [g2]; exact g1, by rw [g2, g3, g4]; exact hin.cs, g4, .one (step_value ho hw h1)⟩
  · rename_i v
    cases h
    obtain ⟨v', h1, h2⟩ := hr
    exact ⟨ρ, w, a, cs, hin.sim, Fr.refl _ _ _, hin.act, hin.cs, rfl, [⟨v', false, false⟩], _, .cons ⟨h2, rfl, rfl⟩ .nil, .one (step_panic' ho hw h1)⟩

theorem eff_out {st st' : St} {e : AExit} (hin : In P N0 ρ st a w cs0 cs b) (ho : ops[i]? = some o) (hw : Region.wanted o (yielded ops a.tmps) = true) {v : Value} {H' : AH}
    (hr : EOk P N0 ρ st.H w (execOp a.eval o) v H') (h : norm (St.put { st with H := H' } o.dst v) = some (e, st')) :
    Out P N0 ρ st w cs0 (lone (b.at a (.inRegion ops (i :: rest) :: k)) cs w) b (.inRegion ops rest :: k) e st' := by
  obtain ⟨hp, rfl⟩ := norm_some h
  obtain ⟨ρ', w', h1, h2, h3⟩ := hr
  have hact : ActR ρ' H'.next { st with H := H' } a := (hin.act.mono h2.next h2.agree).of rfl rfl rfl
  have hcs := hin.cs.mono h2.next h2.agree
  rcases h3 with ⟨v', hrun, hv⟩ | ⟨hrun, rfl⟩
  · obtain ⟨g1, g2, g3, g4⟩ := put_rel hact hv hp
    exact ⟨ρ', w', a.put o.dst v', cs, by rw [g2]; exact h1, by rw [g2]; exact h2, by rw [g2]; exact g1, by rw [g2, g3, g4]; exact hcs, g4, .one (step_value ho hw hrun)⟩
  · obtain ⟨g1, g2, g3, g4⟩ := put_rel hact (VR.top undef) hp
    exact ⟨ρ', w', a.put o.dst undef, cs, by rw [g2]; exact h1, by rw [g2]; exact h2, by rw [g2]; exact g1, by rw [g2, g3, g4]; exact hcs, g4, .one (step_skip' ho hw hrun)⟩

theorem alloc_eok {H : AH} (s : Sim N0 ρ H w) {x : Sem Next} {ob : AObj} {f : Nat → Value} (h : AllocOk P ρ H.next w x ob f) : EOk P N0 ρ H w x (f H.next) (H.alloc ob) := by
  obtain ⟨o', v', h1, h2, h3⟩ := h
  obtain ⟨g1, g2⟩ := sim_alloc s h1
  exact ⟨_, _, g1, g2, .inl ⟨v', h2, h3 _ _ _ (Nat.lt_succ_self _) (ext_same _ _ _ _)⟩⟩

theorem plain_out {st st' : St} {e : AExit} (hin : In P N0 ρ st a w cs0 cs b) (ho : ops[i]? = some o) (hw : Region.wanted o (yielded ops a.tmps) = true) (h : plainA P N0 o st = some (e, st')) :
    Out P N0 ρ st w cs0 (lone (b.at a (.inRegion ops (i :: rest) :: k)) cs w) b (.inRegion ops rest :: k) e st' := by
  have hev := evA_rel hin.sim hin.act
  unfold plainA at h
  split at h
  · rename_i r hr
    exact quiet_out hin ho hw (aStill_sound hin.sim hev hr) h
  · split at h
    · rename_i ob f hf
      exact eff_out hin ho hw (alloc_eok hin.sim (aAlloc_sound hin.sim.low hin.sim.fix hev hf)) h
    · split at h
      · rename_i v H' hv
        exact eff_out hin ho hw (aEff_sound hin.sim hev hv) h
      · cases h

theorem recover_out {st st' : St} {e : AExit} (hin : In P N0 ρ st a w cs0 cs b) (ho : ops[i]? = some o) (hw : Region.wanted o (yielded ops a.tmps) = true)
    (hr : (execOp a.eval o).run P w = .ok .recover w) (h : recoverA o st = some (e, st')) :
    Out P N0 ρ st w cs0 (lone (b.at a (.inRegion ops (i :: rest) :: k)) cs w) b (.inRegion ops rest :: k) e st' := by
  have hg := stepG_op (P := P) (b := b) (k := k) (cs := cs) (w := w) (rest := rest) ho hw
  have hro : (b.at a (.inRegion ops (i :: rest) :: k)).roundOf = none := rfl
  have hkd : (b.at a (.inRegion ops (i :: rest) :: k)).kind = kindOf st.kd := hin.kind
  have stepNone : tryRecover (b.at a (.inRegion ops (i :: rest) :: k)) cs = none →
      step P (lone (b.at a (.inRegion ops (i :: rest) :: k)) cs w) = .next (lone (b.at (a.put o.dst .nilIface) (.inRegion ops rest :: k)) cs w) := by
    intro htr
    refine step_lone_go ?_
    rw [hg, ← finish_eq (b := b) (k := k) (rest := rest) ho]
    simp only [Frame.at] at htr ⊢
    simp [stepG.apply, hr, htr]
  have stepSome : ∀ v cs', tryRecover (b.at a (.inRegion ops (i :: rest) :: k)) cs = some (v, cs') →
      step P (lone (b.at a (.inRegion ops (i :: rest) :: k)) cs w) = .next (lone (b.at (a.put o.dst v) (.inRegion ops rest :: k)) cs' w) := by
    intro v cs' htr
    refine step_lone_go ?_
    rw [hg, ← finish_eq (b := b) (k := k) (rest := rest) ho]
    simp only [Frame.at] at htr ⊢
    simp [stepG.apply, hr, htr]
  unfold recoverA at h
  split at h
  · rename_i v older hk hu
    obtain ⟨hp, rfl⟩ := norm_some h
    have hcs := hin.cs
    rw [hk, hu] at hcs
    obtain ⟨c0, crest, m, e1, e2, hm⟩ := hcs
    cases hm with
    | panicking _ ch' hch =>
      cases hch with
      | cons hr1 ht1 =>
        rename_i e' l'
        obtain ⟨v', rec', ge'⟩ := e'
        obtain ⟨hv, h5, h6⟩ := hr1
        simp only at hv h5 h6
        subst h5 h6
        have htr : tryRecover (b.at a (.inRegion ops (i :: rest) :: k)) cs = some (v', { c0 with mode := .panicking (⟨v', true, false⟩ :: l') } :: crest) := by
          rw [tryRecover_deferred (by rw [hkd, hk]; rfl), e2]
          rfl
        obtain ⟨g1, g2, g3, g4⟩ := put_rel (st := { st with u := .panicking (⟨v, true, false⟩ :: older) }) (hin.act.of rfl rfl rfl) hv hp
        refine ⟨ρ, w, a.put o.dst v', _, by rw [g2]; exact hin.sim, by rw [g2]; exact Fr.refl _ _ _, by rw [g2]; exact g1, ?_, g4, .one (stepSome _ _ htr)⟩
        rw [g2, g3, g4]
        simp only [hk]
        exact ⟨c0, crest, _, e1, rfl, .panicking _ _ (.cons ⟨hv, rfl, rfl⟩ ht1)⟩
  · rename_i hno
    obtain ⟨hp, rfl⟩ := norm_some h
    obtain ⟨g1, g2, g3, g4⟩ := put_rel hin.act VR.nilIface hp
    refine ⟨ρ, w, a.put o.dst .nilIface, cs, by rw [g2]; exact hin.sim, by rw [g2]; exact Fr.refl _ _ _, by rw [g2]; exact g1, by rw [g2, g3, g4]; exact hin.cs, g4, .one (stepNone ?_)⟩
    cases hk : st.kd with
    | false =>
      rw [hk] at hkd
      unfold tryRecover
      rw [hkd]
      rfl
    | true =>
      have hcs := hin.cs
      rw [hk] at hcs
      obtain ⟨c0, crest, m, e1, e2, hm⟩ := hcs
      rw [tryRecover_deferred (by rw [hkd, hk]; rfl), e2]
      generalize hu : st.u = uu at hm
      cases hm with
      | run => rfl
      | returning => rfl
      | panicking ch ch' hch =>
        cases hch with
        | nil => rfl
        | cons hr1 ht1 =>
          rename_i e0 e' l l'
          obtain ⟨v, rec, ge⟩ := e0
          obtain ⟨v', rec', ge'⟩ := e'
          obtain ⟨hv, h5, h6⟩ := hr1
          simp only at hv h5 h6
          subst h5 h6
          cases rec' <;> cases ge' <;> first | rfl | exact (hno v l hk hu).elim
end
end Go.Ax
