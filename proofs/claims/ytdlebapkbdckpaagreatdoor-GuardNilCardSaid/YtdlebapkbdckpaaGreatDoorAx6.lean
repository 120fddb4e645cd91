/-
  Ax6: building structs and arrays; whatever looks at flat values alone; the one function that gives what a quiet operation gives (own work).
-/
import Derived.Test.YtdlebapkbdckpaaGreatDoorAx5
namespace Go.Ax
open Go

section
variable {P : Program} {N0 : Nat} {ρ : Ren} {H : AH} {w : World} {ev ev' : Operand → Value}

/-! ### build -/
theorem fold_set_rel {N : Nat} (off : Nat) : ∀ (l l' : List Value) (k : Nat), All2 (VR ρ N) l l' → ∀ (cs cs' : Array Value), AR ρ N cs cs' →
    AR ρ N ((l.zipIdx k).foldl (fun cs (c, j) => cs.setIfInBounds (off + j) c) cs) ((l'.zipIdx k).foldl (fun cs (c, j) => cs.setIfInBounds (off + j) c) cs') := by
  intro l l' k h
  induction h generalizing k with
  | nil => intro cs cs' hc; exact hc
  | cons hv _ ih => intro cs cs' hc; simp only [List.zipIdx_cons, List.foldl_cons]; exact ih (k + 1) _ _ (hc.set hv _)

def PartsR (ρ : Ren) (N : Nat) : List (Nat × Value) → List (Nat × Value) → Prop := All2 fun p q => p.1 = q.1 ∧ VR ρ N p.2 q.2 ∧ isTuple p.2 = false

theorem fill_rel {N : Nat} (place : Nat → Option (Nat × Nat)) : ∀ {ps ps' : List (Nat × Value)}, PartsR ρ N ps ps' → ∀ {cs cs' r : Array Value}, AR ρ N cs cs' → Instr.fill place cs ps = some r →
    ∃ r', Instr.fill place cs' ps' = some r' ∧ AR ρ N r r' := by
  intro ps ps' h
  induction h with
  | nil => intro cs cs' r hc he; simp only [Instr.fill, Option.some.injEq] at he; subst he; exact ⟨cs', rfl, hc⟩
  | cons hp _ ih =>
    rename_i p q _ _ _
    obtain ⟨i, v⟩ := p
    obtain ⟨j, v'⟩ := q
    obtain ⟨h1, h2, h3⟩ := hp
    simp only at h1 h2 h3
    subst h1
    intro cs cs' r hc he
    simp only [Instr.fill] at he
    split at he
    · cases he
    · rename_i off size hpl
      split at he
      · cases he
      · rename_i hn
        have hcell := (VR.cells h2 h3).1
        have hz : ¬ ((v'.cells.size ≠ size || decide (off + v'.cells.size > cs'.size)) = true) := by rw [← hcell.1, ← hc.1]; exact hn
        have hfold := fold_set_rel off _ _ 0 hcell.all2 cs cs' hc
        obtain ⟨r', h4, h5⟩ := ih (cs' := v'.cells.zipIdx.foldl (fun cs (c, j) => cs.setIfInBounds (off + j) c) cs') (by
          rw [← Array.foldl_toList, ← Array.foldl_toList, Array.toList_zipIdx, Array.toList_zipIdx]; exact hfold) he
        exact ⟨r', by simp only [Instr.fill, hpl]; rw [if_neg hz]; exact h4, h5⟩

/-- What a struct's fields take. -/
def placesA (P : Program) : List Field → Option (List (Nat × Nat))
  | [] => some []
  | f :: fs =>
    match szA P f.type, placesA P fs with
    | some n, some r => some ((f.offset, n) :: r)
    | _, _ => none

theorem placesA_run : ∀ {fs : List Field} {r : List (Nat × Nat)}, placesA P fs = some r → (fs.mapM (m := Sem) fun f => do pure (f.offset, ← sizeOf f.type)).run P w = .ok r w := by
  intro fs
  induction fs with
  | nil => intro r h; simp only [placesA, Option.some.injEq] at h; subst h; simp
  | cons f fs ih =>
    intro r h
    simp only [placesA] at h
    split at h
    · rename_i n r' h1 h2
      cases h
      simp only [List.mapM_cons, Sem.run_bind, run_sizeOf_of h1, Result.andThen_ok, Sem.run_pure, ih h2]
    · cases h

def partsA (ev : Operand → Value) (parts : List (Nat × Operand)) : Option (List (Nat × Value)) :=
  match parts with
  | [] => some []
  | (i, x) :: ps =>
    bif isTuple (ev x) then none else
    match partsA ev ps with
    | none => none
    | some r => some ((i, ev x) :: r)

theorem partsA_rel (hev : ∀ x, VR ρ H.next (ev x) (ev' x)) : ∀ {parts : List (Nat × Operand)} {r : List (Nat × Value)}, partsA ev parts = some r → PartsR ρ H.next r (parts.map fun (i, x) => (i, ev' x)) := by
  intro parts
  induction parts with
  | nil => intro r h; simp only [partsA, Option.some.injEq] at h; subst h; exact .nil
  | cons p ps ih =>
    obtain ⟨i, x⟩ := p
    intro r h
    simp only [partsA] at h
    cases ht : isTuple (ev x) <;> simp only [ht, cond_true, cond_false] at h
    · split at h
      · cases h
      · rename_i r' hr
        cases h
        exact .cons ⟨rfl, hev x, ht⟩ (ih hr)
    · cases h

def zeroA (P : Program) (N0 : Nat) (t : TypeId) : Option Value :=
  match (P.info? t).bind (·.zero) with
  | some z => bif flat N0 z && !isTuple z then some z else none
  | none => none

theorem zeroA_spec {t : TypeId} {z : Value} (h : zeroA P N0 t = some z) : (∀ w, (zeroValue t).run P w = .ok z w) ∧ flat N0 z = true ∧ isTuple z = false := by
  unfold zeroA at h
  split at h
  · rename_i z' hz
    cases hb : (flat N0 z' && !isTuple z') <;> simp only [hb, cond_true, cond_false] at h
    · cases h
    cases h
    simp only [Bool.and_eq_true, Bool.not_eq_true'] at hb
    exact ⟨run_zero_of hz, hb⟩
  · cases h

def aBuild (P : Program) (N0 : Nat) (t : TypeId) (ps : List (Nat × Value)) : Option Value :=
  match zeroA P N0 t with
  | none => none
  | some z =>
    match P.underlying t with
    | some (.struct fields) =>
      match placesA P fields.toList with
      | none => none
      | some pl => (Instr.fill (fun i => pl.toArray[i]?) z.cells ps).map .agg
    | some (.array _ elem) =>
      match szA P elem with
      | none => none
      | some size => (Instr.fill (fun i => some (i * size, size)) z.cells ps).map .agg
    | _ => none

theorem aBuild_sound (hN : N0 ≤ H.next) (fix : ∀ i, i < N0 → ρ i = i) {t : TypeId} {ps : List (Nat × Value)} {ps' : Array (Nat × Value)} (hp : PartsR ρ H.next ps ps'.toList) {v : Value} (h : aBuild P N0 t ps = some v) :
    ∃ v', (Instr.build t ps').run P w = .ok v' w ∧ VR ρ H.next v v' := by
  unfold aBuild at h
  split at h
  · cases h
  rename_i z hz
  obtain ⟨hz1, hz2, hz3⟩ := zeroA_spec hz
  have hzc : AR ρ H.next z.cells z.cells := (VR.cells (flat_self hN fix hz2) hz3).1
  split at h
  · rename_i fields ht
    split at h
    · cases h
    rename_i pl hpl
    simp only [Option.map_eq_some_iff] at h
    obtain ⟨cs, hcs, rfl⟩ := h
    obtain ⟨cs', h1, h2⟩ := fill_rel _ hp hzc hcs
    refine ⟨.agg cs', ?_, .agg _ _ h2.1 h2.2⟩
    have hm : (fields.mapM (m := Sem) fun f => do pure (f.offset, ← sizeOf f.type)).run P w = .ok pl.toArray w := by
      rw [Array.mapM_eq_mapM_toList, Sem.run_map, placesA_run hpl]
      rfl
    simp only [Instr.build, Sem.run_bind, hz1, Result.andThen_ok, run_underlying_of ht, hm]
    simp only [h1]
    rfl
  · rename_i len elem ht
    split at h
    · cases h
    rename_i size hsz
    simp only [Option.map_eq_some_iff] at h
    obtain ⟨cs, hcs, rfl⟩ := h
    obtain ⟨cs', h1, h2⟩ := fill_rel _ hp hzc hcs
    refine ⟨.agg cs', ?_, .agg _ _ h2.1 h2.2⟩
    simp only [Instr.build, Sem.run_bind, hz1, Result.andThen_ok, run_underlying_of ht, run_sizeOf_of hsz]
    simp only [h1]
    rfl
  · cases h

/-! ### whatever looks at flat values alone -/
def flatOps (N0 : Nat) (ev : Operand → Value) (op : Op) : Bool :=
  match op with
  | .select _ _ => false
  | op => op.operands.toList.all fun x => flat N0 (ev x)

def aFlat (P : Program) (N0 : Nat) (ev : Operand → Value) (o : Oper) : Option SRes :=
  bif flatOps N0 ev o.op then
    match pe P (execOp ev o) with
    | .ok (.value v) => bif flat N0 v then some (.val v) else none
    | .panic v => bif flat N0 v then some (.pan v) else none
    | _ => none
  else none

theorem flatOps_eq (fix : ∀ i, i < N0 → ρ i = i) (hev : ∀ x, VR ρ H.next (ev x) (ev' x)) {o : Oper} (h : flatOps N0 ev o.op = true) : execOp ev' o = execOp ev o := by
  refine execOp_congr o ?_ ?_
  · intro cs b e
    rw [e] at h; cases h
  · intro x hx
    unfold flatOps at h
    split at h
    · cases h
    · exact flat_eq fix (hev x) (List.all_eq_true.1 h x (Array.mem_toList_iff.2 hx))

theorem aFlat_sound (hN : N0 ≤ H.next) (fix : ∀ i, i < N0 → ρ i = i) (hev : ∀ x, VR ρ H.next (ev x) (ev' x)) {o : Oper} {r : SRes} (h : aFlat P N0 ev o = some r) :
    SOk P ρ H.next w (execOp ev' o) r := by
  unfold aFlat at h
  cases hf : flatOps N0 ev o.op <;> simp only [hf, cond_true, cond_false] at h
  · cases h
  rw [flatOps_eq fix hev hf]
  split at h
  · rename_i v hv
    cases hfv : flat N0 v <;> simp only [hfv, cond_true, cond_false] at h
    · cases h
    cases h
    exact ⟨v, pe_ok hv w, flat_self hN fix hfv⟩
  · rename_i v hv
    cases hfv : flat N0 v <;> simp only [hfv, cond_true, cond_false] at h
    · cases h
    cases h
    exact ⟨v, pe_panic hv w, flat_self hN fix hfv⟩
  · cases h

/-! ### the one function -/
def orElse' (a : Option SRes) (b : Unit → Option SRes) : Option SRes :=
  match a with
  | some r => some r
  | none => b ()

/-- '==' and '!=' where what is compared is not flat. -/
def aCmp (P : Program) (op : BinOp) (t : TypeId) (x y : Value) : Option SRes :=
  match op with
  | .eql => (aEql P t x y).map fun b => .val (.bool b)
  | .neq => (aEql P t x y).map fun b => .val (.bool !b)
  | _ => none

def aStill (P : Program) (N0 : Nat) (ev : Operand → Value) (H : AH) (o : Oper) : Option SRes :=
  match o.op with
  | .move x | .assign x => some (.val (ev x))
  | .extract t i => aExtract (ev t) i
  | .field t x f => aField P t (ev x) f
  | .index t x i => orElse' (aIndex P t (ev x) (ev i)) fun _ => aFlat P N0 ev o
  | .fieldAddr s x f => aFieldAddr P s (ev x) f
  | .indexAddr t x i => aIndexAddr P t (ev x) (ev i)
  | .load t a => aLoad P H t (ev a)
  | .makeInterface t x => aMakeIface P t (ev x)
  | .makeFunc fn first cap => some (.val (.func fn (first.map ev) (cap.map ev)))
  | .nilCheck x => orElse' (aNilCheck (ev x)) fun _ => aFlat P N0 ev o
  | .pick c a b =>
    match ev c with
    | .bool true => some (.val (ev a))
    | .bool false => some (.val (ev b))
    | _ => none
  | .slice t x lo hi none => orElse' (aSlice2 P t (ev x) (lo.map ev) (hi.map ev)) fun _ => aFlat P N0 ev o
  | .slice t x lo (some hi) (some mx) => orElse' (aSlice3 P t (ev x) (lo.map ev) (ev hi) (ev mx)) fun _ => aFlat P N0 ev o
  | .typeAssert x _ asserted ok => orElse' (aTypeAssert P N0 (ev x) asserted ok) fun _ => aFlat P N0 ev o
  | .lookup t m k ok => orElse' (aLookup P N0 H t (ev m) (ev k) ok) fun _ => aFlat P N0 ev o
  | .convert src dst x => orElse' (aFlat P N0 ev o) fun _ => aBytesToString P H src dst (ev x)
  | .build t parts =>
    match partsA ev parts.toList with
    | none => none
    | some ps => (aBuild P N0 t ps).map .val
  | .binOp op t x y _ => orElse' (aFlat P N0 ev o) fun _ => aCmp P op t (ev x) (ev y)
  | .call { callee := .builtin .len, args := args, argTypes := ts } =>
    match args[0]? with
    | some x => orElse' (aLen P H ts[0]? (ev x)) fun _ => aFlat P N0 ev o
    | none => none
  | .call { callee := .builtin .recover, .. } => none
  | .call { callee := .builtin _, .. } => aFlat P N0 ev o
  | .unOp .. => aFlat P N0 ev o
  | .panic _ => aFlat P N0 ev o
  | _ => none
end
end Go.Ax
