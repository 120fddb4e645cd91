/-
  Ax12: frames, deferred calls, panics: the relations; who is called (own work).
-/
import Derived.Test.YtdlebapkbdckpaaGreatDoorAx11
namespace Go.Ax
open Go

inductive DR (ρ : Ren) (N : Nat) : Deferred → Deferred → Prop where
  | mk (fn : Fn) (c c' a a' : Array Value) (hc : AR ρ N c c') (ha : AR ρ N a a') : DR ρ N ⟨.fn fn c, a⟩ ⟨.fn fn c', a'⟩

def PR (ρ : Ren) (N : Nat) (e e' : PanicEntry) : Prop := VR ρ N e.v e'.v ∧ e'.recovered = e.recovered ∧ e'.goexit = e.goexit

inductive MR (ρ : Ren) (N : Nat) : FrameMode → FrameMode → Prop where
  | run : MR ρ N .run .run
  | returning : MR ρ N .returning .returning
  | panicking (ch ch' : List PanicEntry) (h : All2 (PR ρ N) ch ch') : MR ρ N (.panicking ch) (.panicking ch')

section
variable {ρ ρ' : Ren} {N N' : Nat}
theorem DR.mono (hN : N ≤ N') (he : Agree N ρ ρ') {d d' : Deferred} (h : DR ρ N d d') : DR ρ' N' d d' := by
  cases h with
  | mk fn c c' a a' hc ha => exact .mk fn c c' a a' (hc.mono hN he) (ha.mono hN he)
theorem PR.mono (hN : N ≤ N') (he : Agree N ρ ρ') {d d' : PanicEntry} (h : PR ρ N d d') : PR ρ' N' d d' := ⟨h.1.mono hN he, h.2⟩
theorem MR.mono (hN : N ≤ N') (he : Agree N ρ ρ') {d d' : FrameMode} (h : MR ρ N d d') : MR ρ' N' d d' := by
  cases h with
  | run => exact .run
  | returning => exact .returning
  | panicking ch ch' h => exact .panicking ch ch' (all2_imp (fun _ _ r => r.mono hN he) h)

theorem all2_append' {α β : Type} {R : α → β → Prop} {l l2 : List α} {m m2 : List β} (h : All2 R l m) (k : All2 R l2 m2) : All2 R (l ++ l2) (m ++ m2) := all2_append h k

theorem MR.raised {u u' : FrameMode} {ch ch' : List PanicEntry} (h : MR ρ N u u') (k : All2 (PR ρ N) ch ch') : MR ρ N (raised u ch) (raised u' ch') := by
  cases h with
  | run => exact .panicking _ _ k
  | returning => exact .panicking _ _ k
  | panicking c c' h => exact .panicking _ _ (all2_append k h)

theorem dropWhile_rel {ch ch' : List PanicEntry} (h : All2 (PR ρ N) ch ch') : All2 (PR ρ N) (ch.dropWhile (!·.goexit)) (ch'.dropWhile (!·.goexit)) := by
  induction h with
  | nil => exact .nil
  | cons hr ht ih =>
    rename_i a b l m
    simp only [List.dropWhile_cons, hr.2.2]
    cases a.goexit
    · simpa using ih
    · simpa using All2.cons hr ht

theorem MR.settle {u u' : FrameMode} (h : MR ρ N u u') : MR ρ N (settle u) (settle u') := by
  cases h with
  | run => exact .run
  | returning => exact .returning
  | panicking c c' h =>
    cases h with
    | nil => exact .panicking _ _ .nil
    | cons hr ht =>
      rename_i a b l m
      obtain ⟨av, ar, ag⟩ := a
      obtain ⟨bv, br, bg⟩ := b
      obtain ⟨h1, h2, h3⟩ := hr
      simp only at h1 h2 h3
      subst h2 h3
      cases br with
      | false => exact .panicking _ _ (.cons ⟨h1, rfl, rfl⟩ ht)
      | true =>
        simp only [Go.settle]
        have := dropWhile_rel ht
        revert this
        generalize l.dropWhile (!·.goexit) = x
        generalize m.dropWhile (!·.goexit) = y
        intro this
        cases this with
        | nil => exact .returning
        | cons hr2 ht2 => exact .panicking _ _ (.cons hr2 ht2)
end

/-! ## A frame's state -/
structure St where
  tm : Tr Value
  nt : Nat
  df : List Deferred
  H : AH
  u : FrameMode
  kd : Bool

def kindOf (kd : Bool) : CallKind := if kd then .deferred else .normal

structure ActR (ρ : Ren) (N : Nat) (st : St) (a : Act) : Prop where
  size : a.tmps.size = st.nt
  get : ∀ t v, st.tm.get t = some v → t < st.nt ∧ VR ρ N v (a.tmps.getD t undef)
  defers : All2 (DR ρ N) st.df a.defers

theorem ActR.mono {ρ ρ' : Ren} {N N' : Nat} {st : St} {a : Act} (hN : N ≤ N') (he : Agree N ρ ρ') (h : ActR ρ N st a) : ActR ρ' N' st a :=
  ⟨h.size, fun t v hv => ⟨(h.get t v hv).1, (h.get t v hv).2.mono hN he⟩, all2_imp (fun _ _ r => r.mono hN he) h.defers⟩

theorem ActR.of {ρ : Ren} {N : Nat} {st st' : St} {a : Act} (h : ActR ρ N st a) (h1 : st'.tm = st.tm) (h2 : st'.nt = st.nt) (h3 : st'.df = st.df) : ActR ρ N st' a :=
  ⟨by rw [h2]; exact h.size, fun t v hv => by rw [h1] at hv; rw [h2]; exact h.get t v hv, by rw [h3]; exact h.defers⟩

/-- The callers: as they were, but for the mode of the first one where the frame is a deferred call's. -/
def Cs (ρ : Ren) (N : Nat) (kd : Bool) (u : FrameMode) (cs0 cs : List Frame) : Prop :=
  match kd with
  | false => cs = cs0
  | true => ∃ c0 rest m, cs0 = c0 :: rest ∧ cs = { c0 with mode := m } :: rest ∧ MR ρ N u m

theorem Cs.mono {ρ ρ' : Ren} {N N' : Nat} {kd : Bool} {u : FrameMode} {cs0 cs : List Frame} (hN : N ≤ N') (he : Agree N ρ ρ') (h : Cs ρ N kd u cs0 cs) : Cs ρ' N' kd u cs0 cs := by
  cases kd with
  | false => exact h
  | true => obtain ⟨c0, rest, m, h1, h2, h3⟩ := h; exact ⟨c0, rest, m, h1, h2, h3.mono hN he⟩

def evA (N0 : Nat) (tm : Tr Value) : Operand → Value
  | .tmp t => match tm.get t with | some v => v | none => undef
  | .const v => bif flat N0 v then v else undef
  | .global g => bif Nat.blt g N0 then .pointer (some ⟨g, 0, none⟩) else undef
  | .func f => .func (.func f) #[] #[]

theorem evA_rel {N0 : Nat} {ρ : Ren} {H : AH} {w : World} (s : Sim N0 ρ H w) {st : St} {a : Act} (h : ActR ρ H.next st a) (x : Operand) : VR ρ H.next (evA N0 st.tm x) (a.eval x) := by
  cases x with
  | tmp t =>
    simp only [evA]
    split
    · rename_i v hv; exact (h.get t v hv).2
    · exact .top _
  | const v =>
    simp only [evA]
    cases hf : flat N0 v
    · exact .top _
    · exact flat_self s.low s.fix hf
  | global g =>
    simp only [evA]
    cases hf : Nat.blt g N0
    · exact .top _
    · have hlt := lt_of_blt hf
      have := VR.ptr (ρ := ρ) (N := H.next) g 0 (Nat.lt_of_lt_of_le hlt s.low)
      rw [s.fix g hlt] at this
      exact this
  | func f => exact .func _ _ _ _ _ rfl rfl (fun i h => absurd h (by simp)) (fun i h => absurd h (by simp))

/-- A slot is written. -/
def St.put (st : St) (dst : Option Tmp) (v : Value) : Option St :=
  match dst with
  | none => some st
  | some d => bif Nat.blt d st.nt then some { st with tm := st.tm.set d v } else none

theorem put_rel {ρ : Ren} {N : Nat} {st st' : St} {a : Act} (h : ActR ρ N st a) {dst : Option Tmp} {v v' : Value} (hv : VR ρ N v v') (hp : st.put dst v = some st') :
    ActR ρ N st' (a.put dst v') ∧ st'.H = st.H ∧ st'.u = st.u ∧ st'.kd = st.kd := by
  unfold St.put at hp
  split at hp
  · cases hp; exact ⟨h, rfl, rfl, rfl⟩
  · rename_i d
    obtain ⟨hlt, rfl⟩ := bif_some hp
    have hlt' := lt_of_blt hlt
    refine ⟨⟨by simp [Act.put, h.size], fun t x hx => ?_, h.defers⟩, rfl, rfl, rfl⟩
    by_cases e : t = d
    · subst e
      have := Tr.get_set_same (t := st.tm) (k := t) (v := v)
      have hx' : x = v := Option.some.inj (hx.symm.trans this)
      subst hx'
      refine ⟨hlt', ?_⟩
      have hs : t < a.tmps.size := by rw [h.size]; exact hlt'
      simpa [Act.put, hs] using hv
    · rcases Tr.get_set hx with h1 | h1
      · exact absurd h1.1 e
      · refine ⟨(h.get t x h1).1, ?_⟩
        have hg := (h.get t x h1).2
        have hne : d ≠ t := fun e' => e e'.symm
        simp only [Act.put, Array.getD_eq_getD_getElem?] at hg ⊢
        rw [Array.getElem?_setIfInBounds_ne hne]
        exact hg

/-! ## Who is called -/
def FnsOk (P : Program) (fns : Tr Func) : Prop := ∀ g fn, fns.get g = some fn → P.funcs[g]? = some fn ∧ fn.body.isSome = true ∧ (fn.name == "runtime.NumGoroutine") = false

def aResolve (ev : Operand → Value) (c : Call) : Option (Fn × Array Value × Array Value) :=
  match c.callee with
  | .value f =>
    match ev f with
    | .func fn first cap => some (fn, cap, first ++ c.args.map ev)
    | _ => none
  | .invoke r name => some (.method name, #[], #[ev r] ++ c.args.map ev)
  | .builtin _ => none

def aInvoke (P : Program) (fns : Tr Func) (fn : Fn) (cap args : Array Value) : Option (Nat × Array Value) :=
  match fn with
  | .func g =>
    match fns.get g with
    | some _ => some (g, args ++ cap)
    | none => none
  | .method name =>
    match (args[0]? : Option Value) with
    | some (.iface t v) =>
      match P.info? t with
      | some i =>
        match i.methods.find? (·.name == name) with
        | some m =>
          match m.func with
          | some (f, ptr) =>
            match P.underlying t with
            | some (.pointer _) => bif m.path.toList.isEmpty && ptr then (match fns.get f with | some _ => some (f, #[v] ++ args.extract 1 args.size) | none => none) else none
            | some _ => bif m.path.toList.isEmpty && !ptr then (match fns.get f with | some _ => some (f, #[v] ++ args.extract 1 args.size) | none => none) else none
            | none => none
          | none => none
        | none => none
      | none => none
    | _ => none
  | _ => none

section
variable {P : Program} {N0 : Nat} {ρ : Ren} {H : AH} {w : World} {ev ev' : Operand → Value} {fns : Tr Func}

theorem aResolve_sound {N : Nat} (hev : ∀ x, VR ρ N (ev x) (ev' x)) {c : Call} {ty : TypeId} {fn : Fn} {cap args : Array Value} (h : aResolve ev c = some (fn, cap, args)) :
    ∃ cap' args', (∀ w, (resolve ev' c ty).run P w = .ok ⟨.fn fn cap', args'⟩ w) ∧ AR ρ N cap cap' ∧ AR ρ N args args' := by
  unfold aResolve at h
  have hargs : AR ρ N (c.args.map ev) (c.args.map ev') := AR.map c.args ev ev' fun x _ => hev x
  split at h
  · rename_i f hc
    split at h
    case h_2 => cases h
    rename_i fn' first cap' hf
    cases h
    have := hev f
    rw [hf] at this
    obtain ⟨a', c', e, h1, h2⟩ := this.inv_func
    exact ⟨c', a' ++ c.args.map ev', fun w => by simp [resolve, hc, e, Deferred.ofValue], h2, h1.append hargs⟩
  · rename_i r name hc
    cases h
    exact ⟨#[], #[ev' r] ++ c.args.map ev', fun w => by simp [resolve, hc], AR.nil, (AR.singleton (hev r)).append hargs⟩
  · cases h

theorem run_callFunc_of (hfns : FnsOk P fns) {g : Nat} {fn : Func} (h : fns.get g = some fn) (args : Array Value) (w : World) : (callFunc g args).run P w = .ok (.enter g args) w := by
  obtain ⟨h1, h2, h3⟩ := hfns g fn h
  have hb : fn.body.isNone = false := by cases hb : fn.body <;> simp [hb] at h2 ⊢
  simp only [callFunc, Sem.run_bind, run_program, Result.andThen_ok, h1, h3, hb, Bool.false_eq_true, if_false, Sem.run_pure]

theorem fnsome {f : Nat} {a r : Nat × Array Value} (h : (match fns.get f with | some _ => some a | none => none) = some r) : ∃ fn, fns.get f = some fn ∧ a = r := by
  split at h
  · rename_i fn hfn; exact ⟨fn, hfn, Option.some.inj h⟩
  · cases h

theorem aInvoke_sound (hfns : FnsOk P fns) {N : Nat} {fn : Fn} {cap cap' args args' : Array Value} (hc : AR ρ N cap cap') (ha : AR ρ N args args') {g : Nat} {r : Array Value} (h : aInvoke P fns fn cap args = some (g, r)) :
    ∃ r', (∀ w, (invoke (.fn fn cap') args').run P w = .ok (.enter g r') w) ∧ AR ρ N r r' := by
  unfold aInvoke at h
  split at h
  · split at h
    case h_2 => cases h
    rename_i f hf
    cases h
    exact ⟨args' ++ cap', fun w => by simp only [invoke]; exact run_callFunc_of hfns hf _ w, ha.append hc⟩
  · rename_i name
    split at h
    case h_2 => cases h
    rename_i t v h0
    obtain ⟨x', hx', hxr⟩ := ha.get h0
    obtain ⟨v', rfl, hv⟩ := hxr.inv_iface
    split at h
    case h_2 => cases h
    rename_i i hi
    split at h
    case h_2 => cases h
    rename_i m hm
    split at h
    case h_2 => cases h
    rename_i f ptr hmf
    have hrest : AR ρ N (args.extract 1 args.size) (args'.extract 1 args'.size) := by rw [← ha.1]; exact ha.extract _ _
    have key : ∀ (hpath : m.path.toList = []) (hrecv : ∀ w, (receiverAt t (.val v') ptr (if m.path.isEmpty then some ((name.splitOn ".").getLastD name) else none)).run P w = .ok v' w) (fn : Func) (hfn : fns.get f = some fn),
        ∀ w, (invoke (.fn (.method name) cap') args').run P w = .ok (.enter f (#[v'] ++ args'.extract 1 args'.size)) w := by
      intro hpath hrecv fn hfn w
      have hmeth : ∀ n, (method (n + 1) t v' name).run P w = .ok (f, v') w := by
        intro n
        simp only [method, Sem.run_bind, run_typeInfo_of hi, Result.andThen_ok, hm, hpath, follow, Sem.run_pure, hmf, hrecv]
      have hcm : (callMethod (.iface t v') name (args'.extract 1 args'.size)).run P w = .ok (.enter f (#[v'] ++ args'.extract 1 args'.size)) w := by
        simp only [callMethod, Sem.run_bind, run_program, Result.andThen_ok]
        rw [show P.types.size + Made.depth = (P.types.size + 99) + 1 from rfl, hmeth]
        simp only [Result.andThen_ok]
        exact run_callFunc_of hfns hfn _ w
      simp only [invoke, hx']
      exact hcm
    split at h
    · rename_i e ht
      obtain ⟨hcnd, h2⟩ := bif_left h
      simp only [Bool.and_eq_true, List.isEmpty_iff] at hcnd
      obtain ⟨hp, rfl⟩ := hcnd
      obtain ⟨fn, hfn, he⟩ := fnsome h2
      cases he
      exact ⟨_, key hp (fun w => by simp [receiverAt, run_underlying_of ht, Place.get]) fn hfn, (AR.singleton hv).append hrest⟩
    · rename_i d hd ht
      obtain ⟨hcnd, h2⟩ := bif_left h
      simp only [Bool.and_eq_true, List.isEmpty_iff, Bool.not_eq_true'] at hcnd
      obtain ⟨hp, rfl⟩ := hcnd
      obtain ⟨fn, hfn, he⟩ := fnsome h2
      cases he
      refine ⟨_, key hp (fun w => ?_) fn hfn, (AR.singleton hv).append hrest⟩
      simp only [receiverAt, Sem.run_bind, run_underlying_of ht, Result.andThen_ok]
      cases d <;> first | rfl | exact absurd rfl (hd _)
    · cases h
  · cases h
end
end Go.Ax
