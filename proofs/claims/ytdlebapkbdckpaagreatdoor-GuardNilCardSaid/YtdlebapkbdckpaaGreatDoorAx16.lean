/-
  Ax16: a region that draws its order: what it comes to in whatever order (own work). The pass goes over the operations once, in the order of the text, and checks that no other order could matter.
-/
import Derived.Test.YtdlebapkbdckpaaGreatDoorAx15
namespace Go.Ax
open Go

/-! ## Equality of abstract values -/
def veqD : Nat → Value → Value → Bool
  | _, .bool a, .bool b => a == b
  | _, .int j a, .int k b => decide (j = k) && decide (a = b)
  | _, .float j a, .float k b => decide (j = k) && Nat.beq a b
  | _, .string a, .string b => decide (a = b)
  | _, .pointer a, .pointer b => decide (a = b)
  | _, .slice a l c, .slice b m d => decide (a = b) && Nat.beq l m && Nat.beq c d
  | _, .map a, .map b => decide (a = b)
  | _, .chan a, .chan b => decide (a = b)
  | _, .nilFunc, .nilFunc => true
  | _, .nilIface, .nilIface => true
  | d + 1, .iface t v, .iface u w => Nat.beq t u && veqD d v w
  | d + 1, .agg a, .agg b => leq d a.toList b.toList
  | d + 1, .tuple a, .tuple b => leq d a.toList b.toList
  | d + 1, .func f a c, .func g b e => decide (f = g) && leq d a.toList b.toList && leq d c.toList e.toList
  | _, _, _ => false
where
  leq (d : Nat) : List Value → List Value → Bool
    | [], [] => true
    | x :: xs, y :: ys => veqD d x y && leq d xs ys
    | _, _ => false

theorem leq_of {d : Nat} (h : ∀ x y, veqD d x y = true → x = y) : ∀ (l m : List Value), veqD.leq d l m = true → l = m := by
  intro l
  induction l with
  | nil => intro m hm; cases m with
    | nil => rfl
    | cons y ys => simp [veqD.leq] at hm
  | cons x xs ih => intro m hm; cases m with
    | nil => simp [veqD.leq] at hm
    | cons y ys =>
      simp only [veqD.leq, Bool.and_eq_true] at hm
      rw [h x y hm.1, ih ys hm.2]

theorem arr_eq {a b : Array Value} (h : a.toList = b.toList) : a = b := Array.toList_inj.1 h

theorem veqD_eq : ∀ (d : Nat) (x y : Value), veqD d x y = true → x = y := by
  intro d
  induction d with
  | zero =>
    intro x y h
    cases x <;> cases y <;> simp only [veqD, Bool.and_eq_true, decide_eq_true_eq, beq_iff_eq, Nat.beq_eq, Bool.false_eq_true] at h <;>
      first
      | rfl
      | (cases h; done)
      | (subst h; rfl)
      | (obtain ⟨h1, h2⟩ := h; subst h1 h2; rfl)
      | (obtain ⟨⟨h1, h2⟩, h3⟩ := h; subst h1 h2 h3; rfl)
  | succ d ih =>
    intro x y h
    cases x <;> cases y <;> simp only [veqD, Bool.and_eq_true, decide_eq_true_eq, beq_iff_eq, Nat.beq_eq, Bool.false_eq_true] at h <;>
      first
      | rfl
      | (cases h; done)
      | (subst h; rfl)
      | (obtain ⟨h1, h2⟩ := h; subst h1; rw [ih _ _ h2]; done)
      | (obtain ⟨h1, h2⟩ := h; subst h1 h2; rfl)
      | (obtain ⟨⟨h1, h2⟩, h3⟩ := h; subst h1 h2 h3; rfl)
      | (rw [arr_eq (leq_of ih _ _ h)]; done)
      | (obtain ⟨⟨h1, h2⟩, h3⟩ := h; subst h1; rw [arr_eq (leq_of ih _ _ h2), arr_eq (leq_of ih _ _ h3)])

def veq (x y : Value) : Bool := veqD 12 x y
theorem veq_eq {x y : Value} (h : veq x y = true) : x = y := veqD_eq 12 x y h

/-! ## One operation -/
inductive RRes where
  | still (v : Value)
  | float (ob : AObj) (f : Nat → Value)
  | eff (v : Value) (H : AH)

def plainR (P : Program) (N0 : Nat) (ev : Operand → Value) (H : AH) (o : Oper) : Option RRes :=
  match aStill P N0 ev H o with
  | some (.val v) => some (.still v)
  | some (.pan _) => none
  | none =>
    match aAlloc P N0 ev o with
    | some (ob, f) => some (.float ob f)
    | none =>
      match aEff P N0 ev H o with
      | some (v, H') => some (.eff v H')
      | none => none

def opR (P : Program) (N0 : Nat) (fns : Tr Func) (ext : ExtFn) (rcall : CallFn) (ev : Operand → Value) (H : AH) (o : Oper) : Option RRes :=
  match o.op with
  | .defer _ => none
  | .call { callee := .builtin .recover, .. } => none
  | .call { callee := .builtin _, .. } => plainR P N0 ev H o
  | .call c =>
    match aResolve ev c with
    | some (fn, cap, args) =>
      match aInvoke P fns fn cap args with
      | some (g, as) =>
        match rcall g as false .run H with
        | some (.ret v, _, H') => some (.eff v H')
        | _ => none
      | none =>
        match aFlat P N0 ev o with
        | some (.val v) => some (.still v)
        | some (.pan _) => none
        | none =>
          match fn with
          | .func g =>
            match ext g (args ++ cap) H with
            | some (v, H') => some (.eff v H')
            | none => none
          | _ => none
    | none => none
  | _ => plainR P N0 ev H o

/-- What the operation does to a real machine that shows the heap. -/
def ROk (P : Program) (N0 : Nat) (ρ : Ren) (H : AH) (w : World) (b : Frame) (a : Act) (ops : Array Oper) (i : Nat) (o : Oper) : RRes → Prop
  | .still v => ∃ v', VR ρ H.next v v' ∧ ∀ rest k cs, step P (lone (b.at a (.inRegion ops (i :: rest) :: k)) cs w) = .next (lone (b.at (a.put o.dst v') (.inRegion ops rest :: k)) cs w)
  | .float ob f => ∃ o' v', ObjR ρ H.next ob o' ∧ (∀ (ρ' : Ren) (N' id : Nat), id < N' → ρ' id = w.heap.size → VR ρ' N' (f id) v') ∧
      ∀ rest k cs, step P (lone (b.at a (.inRegion ops (i :: rest) :: k)) cs w) = .next (lone (b.at (a.put o.dst v') (.inRegion ops rest :: k)) cs { w with heap := w.heap.push o' })
  | .eff v H' => ∀ rest k cs, ∃ ρ' w' v', Sim N0 ρ' H' w' ∧ Fr ρ H w ρ' H' w' ∧ VR ρ' H'.next v v' ∧
      Steps P (lone (b.at a (.inRegion ops (i :: rest) :: k)) cs w) (lone (b.at (a.put o.dst v') (.inRegion ops rest :: k)) cs w')

section
variable {P : Program} {N0 : Nat} {ρ : Ren} {H : AH} {w : World} {b : Frame} {a : Act} {ops : Array Oper} {i : Nat} {o : Oper} {fns : Tr Func} {ext : ExtFn} {rcall : CallFn} {ev : Operand → Value}

theorem rok_still (ho : ops[i]? = some o) (hw : Region.wanted o (yielded ops a.tmps) = true) {v : Value} (h : SOk P ρ H.next w (execOp a.eval o) (.val v)) : ROk P N0 ρ H w b a ops i o (.still v) := by
  obtain ⟨v', h1, h2⟩ := h
  exact ⟨v', h2, fun rest k cs => step_value ho hw h1⟩

theorem rok_eff (ho : ops[i]? = some o) (hw : Region.wanted o (yielded ops a.tmps) = true) {v : Value} {H' : AH} (h : EOk P N0 ρ H w (execOp a.eval o) v H') : ROk P N0 ρ H w b a ops i o (.eff v H') := by
  intro rest k cs
  obtain ⟨ρ', w', h1, h2, h3⟩ := h
  rcases h3 with ⟨v', hr, hv⟩ | ⟨hr, rfl⟩
  · exact ⟨ρ', w', v', h1, h2, hv, .one (step_value ho hw hr)⟩
  · exact ⟨ρ', w', undef, h1, h2, .top _, .one (step_skip' ho hw hr)⟩

theorem plainR_sound (s : Sim N0 ρ H w) (hev : ∀ x, VR ρ H.next (ev x) (a.eval x)) (ho : ops[i]? = some o) (hw : Region.wanted o (yielded ops a.tmps) = true) {r : RRes} (h : plainR P N0 ev H o = some r) : ROk P N0 ρ H w b a ops i o r := by
  unfold plainR at h
  split at h
  · rename_i v hv
    cases h
    exact rok_still ho hw (aStill_sound s hev hv)
  · cases h
  · split at h
    · rename_i ob f hf
      cases h
      obtain ⟨o', v', h1, h2, h3⟩ := aAlloc_sound (w := w) s.low s.fix hev hf
      exact ⟨o', v', h1, h3, fun rest k cs => step_value ho hw h2⟩
    · split at h
      · rename_i v H' hv
        cases h
        exact rok_eff ho hw (aEff_sound s hev hv)
      · cases h

theorem opR_sound (hfns : FnsOk P fns) (hext : ExtOk P N0 ext) (hcall : CallSound P N0 rcall) (s : Sim N0 ρ H w) (hev : ∀ x, VR ρ H.next (ev x) (a.eval x)) (ho : ops[i]? = some o) (hw : Region.wanted o (yielded ops a.tmps) = true) {r : RRes}
    (h : opR P N0 fns ext rcall ev H o = some r) : ROk P N0 ρ H w b a ops i o r := by
  unfold opR at h
  split at h
  · cases h
  · cases h
  · exact plainR_sound s hev ho hw h
  · rename_i c hb1 hb2 hop
    have hrunop : ∀ {fn : Fn} {cap' args' : Array Value}, (∀ w, (resolve a.eval c o.type).run P w = .ok ⟨.fn fn cap', args'⟩ w) → ∀ w, (execOp a.eval o).run P w = (invoke (.fn fn cap') args').run P w := by
      intro fn cap' args' hr w
      obtain ⟨dst, op, ty, pos, after, guard⟩ := o
      simp only at hop; subst hop
      exact call_run_of hr w
    split at h
    case h_2 => cases h
    rename_i fn cap args hres
    obtain ⟨cap', args', hrun, hc, ha⟩ := aResolve_sound (P := P) (ty := o.type) hev hres
    split at h
    · rename_i g as hinv
      obtain ⟨as', hi1, hi2⟩ := aInvoke_sound hfns hc ha hinv
      have hr : (execOp a.eval o).run P w = .ok (.enter g as') w := by rw [hrunop hrun]; exact hi1 w
      split at h
      case h_2 => cases h
      rename_i v u' H' hcl
      cases h
      intro rest k cs
      have henter := step_enter' (P := P) (b := b) (k := k) (cs := cs) (rest := rest) ho hw hr
      obtain ⟨ρ', w', cs', fr, en, q1, q2, q3, q4, q5, q6, v', rfl, hv⟩ := hcall _ _ _ _ _ _ _ _ hcl ρ w as' (b.at a (.inRegion ops (i :: rest) :: k) :: cs) (b.at a (.inRegion ops (i :: rest) :: k) :: cs) s hi2 rfl
      simp only [Cs] at q3
      subst q3
      obtain ⟨hm, hd, fnr, hf, hres'⟩ := q6
      have hl : fr.leaving P w' (.returned v') := ⟨hm, hd, q5.1, fnr, hf, hres'⟩
      have hlast := step_leave_returned (c := b.at a (.inRegion ops (i :: rest) :: k)) (cs := cs) hl
      rw [finish_eq ho] at hlast
      exact ⟨ρ', w', v', q1, q2, hv, .head henter (q4.trans (.one hlast))⟩
    · split at h
      · rename_i v hv
        cases h
        exact rok_still ho hw (aFlat_sound s.low s.fix hev hv)
      · cases h
      · split at h
        case h_2 => cases h
        rename_i g _
        split at h
        case h_2 => cases h
        rename_i v H' hx
        cases h
        refine rok_eff ho hw ?_
        obtain ⟨ρ', w', h1, h2, h3⟩ := hext g _ _ _ _ hx ρ w (args' ++ cap') s (ha.append hc)
        refine ⟨ρ', w', h1, h2, ?_⟩
        rw [hrunop hrun]
        simpa only [invoke] using h3
  · exact plainR_sound s hev ho hw h
end
end Go.Ax
