/-
  Ax11: append (own work).
-/
import Derived.Test.YtdlebapkbdckpaaGreatDoorAx10
namespace Go.Ax
open Go

section
variable {P : Program} {N0 : Nat} {ρ : Ren} {H : AH} {w : World} {ev ev' : Operand → Value}

/-- Is what append lays behind so many noughts? -/
def zerosA (P : Program) (t1 : Option TypeId) : Option Bool :=
  match t1 with
  | none => some false
  | some t =>
    match P.underlying t with
    | none => none
    | some (.int _) => some true
    | some _ => some false

/-- The cells that append lays behind, and how many elements they are. -/
def newCells (P : Program) (H : AH) (size : Nat) (zeros : Bool) (elem : TypeId) (z x : Value) : Option (Nat × List Value) :=
  match zeros with
  | true =>
    match x, P.info? elem with
    | .int _ n, some i => bif decide (0 ≤ n) && decide (n ≤ 16777216) && decide (n * (i.bytes : Int) ≤ 2 ^ 48) then some (n.toNat, (repA (n.toNat * z.cells.size) z.cells).toList) else none
    | _, _ => none
  | false =>
    match srcLen x with
    | none => none
    | some n =>
      match srcCells H size n x with
      | none => none
      | some l => some (n, l)

def growOk (P : Program) (elem : TypeId) (need : Nat) : Bool :=
  match P.info? elem with
  | some i => Nat.ble need 16777216 && Nat.ble i.bytes 1048576
  | none => false

def aAppend (P : Program) (N0 : Nat) (H : AH) (t0 t1 : Option TypeId) (s x : Value) : Option (Value × AH) :=
  match t0 with
  | none => none
  | some t =>
    match P.underlying t, s with
    | some (.slice elem), .slice base len cap =>
      match szA P elem, zeroA P N0 elem, zerosA P t1 with
      | some size, some z, some zeros =>
        match newCells P H size zeros elem z x with
        | none => none
        | some (n, new) =>
          bif Nat.blt 0 size && Nat.beq z.cells.size size && Nat.beq new.length (n * size) && growOk P elem (len + n) then
            match base with
            | none =>
              bif Nat.ble (len + n) cap then (bif Nat.beq n 0 then some (.slice none (len + n) cap, H) else none)
              else bif Nat.beq len 0 then
                some (.slice (some ⟨H.next, 0, none⟩) (len + n) (BIG * size + (len + n)), H.alloc (.cells new.length (Tr.ofList new) elem (some (0, 0))))
              else none
            | some ⟨b, o, _⟩ =>
              bif Nat.blt o BIG then
                bif Nat.ble (len + n) (bif Nat.blt cap BIG then cap else cap % BIG) then
                  match writeA H b (o + len * size) new with
                  | some H' => some (.slice (some ⟨b, o, none⟩) (len + n) cap, H')
                  | none => none
                else
                  match loadA H b o (len * size) with
                  | none => none
                  | some old =>
                    bif Nat.blt cap BIG then
                      some (.slice (some ⟨H.next, 0, none⟩) (len + n) (BIG * size + (len + n)), H.alloc (.cells (old ++ new).length (Tr.ofList (old ++ new)) elem (some (0, 0))))
                    else
                      match H.tr.get b with
                      | some (.cells _ _ elem' fz) =>
                        bif Nat.beq o 0 && Nat.beq elem elem' && Nat.beq (cap / BIG) size && (match fz with | none => true | some (lo, hi) => Nat.beq lo 0 && Nat.beq hi 0) && new.all oneA then
                          some (.slice (some ⟨H.next, 0, none⟩) (len + n) (BIG * size + (len + n)), (H.drop b).alloc (.cells (old ++ new).length (Tr.ofList (old ++ new)) elem fz))
                        else none
                      | _ => none
              else none
          else none
      | _, _, _ => none
    | _, _ => none

/-! #### the real side -/
theorem growBy_le (newLen : Nat) : ∀ (rounds c : Nat), c ≤ 2 * newLen + 192 → Builtin.growBy newLen rounds c ≤ 2 * newLen + 192 := by
  intro rounds
  induction rounds with
  | zero => intro c h; exact h
  | succ r ih =>
    intro c h
    simp only [Builtin.growBy]
    split
    · exact h
    · exact ih _ (by omega)

theorem nextcap_le {need cap : Nat} (h : cap < need) : Builtin.nextslicecap need cap ≤ 2 * need + 192 := by
  unfold Builtin.nextslicecap
  split
  · omega
  · split
    · omega
    · exact growBy_le need 4 cap (by omega)

def isInt : TypeDesc → Bool
  | .int _ => true
  | _ => false

theorem zeros_cases {t1 : Option TypeId} {zeros : Bool} (h : zerosA P t1 = some zeros) :
    (t1 = none ∧ zeros = false) ∨ ∃ t d, t1 = some t ∧ P.underlying t = some d ∧ isInt d = zeros := by
  unfold zerosA at h
  split at h
  · cases h; exact .inl ⟨rfl, rfl⟩
  · rename_i t
    right
    split at h
    · cases h
    · rename_i k ht; cases h; exact ⟨t, _, rfl, ht, rfl⟩
    · rename_i d hd ht
      cases h
      refine ⟨t, d, rfl, ht, ?_⟩
      cases d <;> first | rfl | exact absurd rfl (hd _)

/-- What lies behind: its number and its cells, in every world that shows the heap. -/
structure NewOk (P : Program) (ρ : Ren) (N : Nat) (size : Nat) (zeros : Bool) (elem : TypeId) (x' : Value) (n : Nat) (new : List Value) (w : World) : Prop where
  len : zeros = false → (Builtin.lenOf x').run P w = .ok n w
  num : zeros = true → ∃ k i, x' = .int k (n : Int) ∧ P.info? elem = some i ∧ n ≤ 16777216 ∧ (n : Int) * (i.bytes : Int) ≤ 2 ^ 48
  cells : ∃ a', AR ρ N new.toArray a' ∧ (if (!zeros) = true then Builtin.firstCells size n x' else if n * size = 0 then pure #[] else do pure (Builtin.zeroCells (← zeroValue elem).cells n)).run P w = .ok a' w

theorem newCells_rel (s : Sim N0 ρ H w) {size : Nat} {zeros : Bool} {elem : TypeId} {z x x' : Value} (hz : zeroA P N0 elem = some z) (hzs : z.cells.size = size) (hpos : 0 < size) (hx : VR ρ H.next x x') {n : Nat} {new : List Value}
    (h : newCells P H size zeros elem z x = some (n, new)) : NewOk P ρ H.next size zeros elem x' n new w := by
  unfold newCells at h
  split at h
  · split at h
    case h_2 => cases h
    rename_i k m i hi
    obtain ⟨hc, he⟩ := bif_some h
    cases he
    simp only [Bool.and_eq_true, decide_eq_true_eq] at hc
    obtain ⟨⟨h1, h2⟩, h3⟩ := hc
    obtain rfl := hx.inv_int
    obtain ⟨g1, g2, g3⟩ := zeroA_spec hz
    have hm : ((m.toNat : Nat) : Int) = m := by omega
    refine ⟨(fun e => by cases e), fun _ => ⟨k, i, by rw [hm], hi, by omega, by rw [hm]; exact h3⟩, ?_⟩
    have hcz := (VR.cells (flat_self (N0 := N0) s.low s.fix g2) g3).1
    refine ⟨repA (m.toNat * z.cells.size) z.cells, ?_, ?_⟩
    · have := repA_rel (n := m.toNat * z.cells.size) hcz (.inr (by omega))
      simpa using this
    · simp only [Bool.not_true, Bool.false_eq_true, if_false]
      by_cases e : m.toNat * size = 0
      · rw [if_pos e]
        have : m.toNat = 0 := by
          rcases Nat.mul_eq_zero.1 e with e | e
          · exact e
          · omega
        have hr : repA (m.toNat * z.cells.size) z.cells = #[] := by rw [this]; apply Array.eq_empty_of_size_eq_zero; simp [repA]
        rw [hr]; rfl
      · rw [if_neg e]
        simp only [Sem.run_bind, g1, Result.andThen_ok, Sem.run_pure]
        rfl
  · split at h
    · cases h
    rename_i n' hn
    split at h
    · cases h
    rename_i l hl
    cases h
    obtain ⟨a', g1, g2⟩ := srcCells_rel (P := P) s hx hl
    exact ⟨fun _ => srcLen_rel hx hn, (fun e => by cases e), a', g2, by simpa using g1⟩

theorem append_in {ts : Array TypeId} {ty : TypeId} {args : Array Value} {t elem : TypeId} {base : Option Addr} {sLen sCap size n : Nat} {x' : Value} {zeros : Bool} {new : List Value}
    (hts : ts[0]? = some t) (h0 : args[0]? = some (.slice base sLen sCap)) (h1 : args[1]? = some x') (ht : P.underlying t = some (.slice elem)) (hs : szA P elem = some size) (hz : zerosA P ts[1]? = some zeros)
    {N : Nat} (hn : NewOk P ρ N size zeros elem x' n new w) (hroom : sLen + n ≤ sCap) :
    ∃ a', AR ρ N new.toArray a' ∧ (Builtin.append_ ts ty args).run P w = ((match base with | some a => storeCells (a.add (sLen * size)) a'.toList | none => pure ()).run P w).andThen (fun _ w => .ok (.slice base (sLen + n) sCap) w) := by
  obtain ⟨a', ha, hrun⟩ := hn.cells
  refine ⟨a', ha, ?_⟩
  cases zeros with
  | false =>
    have hl := hn.len rfl
    simp only [Bool.not_false, if_true] at hrun
    rcases zeros_cases hz with ⟨e1, _⟩ | ⟨xt, d, e1, e2, e3⟩
    · simp only [Builtin.append_, hts, h0, h1, e1, Sem.run_bind, run_underlying_of ht, Result.andThen_ok, run_sizeOf_of hs, Sem.run_pure, Bool.false_eq_true, if_false, hl, Bool.not_false, if_true, if_pos hroom, hrun]
      cases base <;> simp
    · cases d <;> simp only [isInt, reduceCtorEq] at e3 <;>
        (simp only [Builtin.append_, hts, h0, h1, e1, Sem.run_bind, run_underlying_of ht, run_underlying_of e2, Result.andThen_ok, run_sizeOf_of hs, Sem.run_pure, Bool.false_eq_true, if_false, hl, Bool.not_false, if_true, if_pos hroom, hrun]
         cases base <;> simp)
  | true =>
    obtain ⟨k, i, rfl, hi, hle, hby⟩ := hn.num rfl
    have wn : IntKind.i64.wrap (n : Int) = (n : Int) := IntWalk.i64_in _ (by omega)
    have c1 : ¬ ((n : Int) < 0) := by omega
    have c2 : ¬ ((n : Int) * (i.bytes : Int) > 2 ^ 48) := by omega
    simp only [Bool.not_true, Bool.false_eq_true, if_false] at hrun
    rcases zeros_cases hz with ⟨_, e1⟩ | ⟨xt, d, e1, e2, e3⟩
    · cases e1
    · cases d <;> simp only [isInt, reduceCtorEq] at e3
      simp only [Builtin.append_, hts, h0, h1, e1, Sem.run_bind, run_underlying_of ht, run_underlying_of e2, Result.andThen_ok, run_sizeOf_of hs, if_true, asInt, asIntOf, Sem.run_pure, wn, if_neg c1, run_typeInfo_of hi, if_neg c2, Int.toNat_natCast, if_pos hroom, Bool.not_true, Bool.false_eq_true, if_false, hrun]
      cases base <;> simp

/-- The world behind a draw and a new block. -/
def grown (w : World) (o : Obj) : World := { { w with drawn := w.drawn + 1 } with heap := w.heap.push o }

theorem append_new {ts : Array TypeId} {ty : TypeId} {args : Array Value} {t elem : TypeId} {base : Option Addr} {sLen sCap size n : Nat} {x' z : Value} {zeros : Bool} {new : List Value} {i : TypeInfo} {old' : Array Value}
    (hts : ts[0]? = some t) (h0 : args[0]? = some (.slice base sLen sCap)) (h1 : args[1]? = some x') (ht : P.underlying t = some (.slice elem)) (hs : szA P elem = some size) (hz : zerosA P ts[1]? = some zeros)
    {N : Nat} (hn : NewOk P ρ N size zeros elem x' n new w) (hn' : NewOk P ρ N size zeros elem x' n new { w with drawn := w.drawn + 1 }) (hroom : ¬ (sLen + n ≤ sCap)) (hi : P.info? elem = some i) (hneed : sLen + n ≤ 16777216) (hbytes : i.bytes ≤ 1048576)
    (hzero : ∀ w, (zeroValue elem).run P w = .ok z w)
    (hold : (Builtin.firstCells size sLen (.slice base sLen sCap)).run P { w with drawn := w.drawn + 1 } = .ok old' { w with drawn := w.drawn + 1 }) :
    ∃ a' newCap, AR ρ N new.toArray a' ∧ sLen + n ≤ newCap ∧
      (Builtin.append_ ts ty args).run P w = .ok (.slice (some ⟨w.heap.size, 0, none⟩) (sLen + n) newCap) (grown w (.cells (old' ++ a' ++ Builtin.zeroCells z.cells (newCap - (sLen + n))) elem)) := by
  obtain ⟨a', ha, hrun⟩ := hn'.cells
  have c3' : ¬ (((sLen + n : Nat) : Int) > IntKind.i64.max ∧ (True : Prop)) := by
    have : (IntKind.i64.max : Int) = 9223372036854775807 := by decide
    omega
  have c4 : ¬ (Builtin.nextslicecap (sLen + n) sCap * i.bytes > 2 ^ 48) := by
    have h1 := nextcap_le (need := sLen + n) (cap := sCap) (by omega)
    have h2 : Builtin.nextslicecap (sLen + n) sCap * i.bytes ≤ 33554624 * 1048576 := Nat.mul_le_mul (by omega) hbytes
    omega
  have hfor : (Question.appendCap (sLen + n) sCap elem).forced = false := rfl
  refine ⟨a', (Question.appendCap (sLen + n) sCap elem).cut (w.tape w.drawn (.appendCap (sLen + n) sCap elem)), ha, Nat.le_add_right _ _, ?_⟩
  generalize hnc : (Question.appendCap (sLen + n) sCap elem).cut (w.tape w.drawn (.appendCap (sLen + n) sCap elem)) = nc
  have hch : (choose (.appendCap (sLen + n) sCap elem)).run P w = .ok nc { w with drawn := w.drawn + 1 } := by rw [run_choose, hfor]; simp [hnc]
  have fin : (newRow elem (old' ++ a' ++ Builtin.zeroCells z.cells (nc - (sLen + n)))).run P { w with drawn := w.drawn + 1 } =
      .ok ⟨w.heap.size, 0, none⟩ (grown w (.cells (old' ++ a' ++ Builtin.zeroCells z.cells (nc - (sLen + n))) elem)) := rfl
  cases zeros with
  | false =>
    have hl := hn.len rfl
    simp only [Bool.not_false, if_true] at hrun
    have c3f : ¬ (((sLen + n : Nat) : Int) > IntKind.i64.max ∧ (i.bytes = 0)) := by
      have : (IntKind.i64.max : Int) = 9223372036854775807 := by decide
      omega
    rcases zeros_cases hz with ⟨e1, _⟩ | ⟨xt, d, e1, e2, e3⟩
    · simp only [Builtin.append_, hts, h0, h1, e1, Sem.run_bind, run_underlying_of ht, Result.andThen_ok, run_sizeOf_of hs, Sem.run_pure, Bool.false_eq_true, if_false, hl, Bool.not_false, if_true, if_neg hroom, run_typeInfo_of hi, false_or, if_neg c3f, if_neg c4, hch, run_askRoom, hold, hrun, hzero, fin]
    · cases d <;> simp only [isInt, reduceCtorEq] at e3 <;>
        simp only [Builtin.append_, hts, h0, h1, e1, Sem.run_bind, run_underlying_of ht, run_underlying_of e2, Result.andThen_ok, run_sizeOf_of hs, Sem.run_pure, Bool.false_eq_true, if_false, hl, Bool.not_false, if_true, if_neg hroom, run_typeInfo_of hi, false_or, if_neg c3f, if_neg c4, hch, run_askRoom, hold, hrun, hzero, fin]
  | true =>
    obtain ⟨k, i2, rfl, hi2, hle, hby⟩ := hn.num rfl
    have ei : i2 = i := Option.some.inj (hi2.symm.trans hi)
    subst ei
    have wn : IntKind.i64.wrap (n : Int) = (n : Int) := IntWalk.i64_in _ (by omega)
    have c1 : ¬ ((n : Int) < 0) := by omega
    have c2 : ¬ ((n : Int) * (i2.bytes : Int) > 2 ^ 48) := by omega
    simp only [Bool.not_true, Bool.false_eq_true, if_false] at hrun
    rcases zeros_cases hz with ⟨_, e1⟩ | ⟨xt, d, e1, e2, e3⟩
    · cases e1
    · cases d <;> simp only [isInt, reduceCtorEq] at e3
      simp only [Builtin.append_, hts, h0, h1, e1, Sem.run_bind, run_underlying_of ht, run_underlying_of e2, Result.andThen_ok, run_sizeOf_of hs, if_true, asInt, asIntOf, Sem.run_pure, wn, if_neg c1, run_typeInfo_of hi, if_neg c2, Int.toNat_natCast, if_neg hroom, true_or, if_neg c3', if_neg c4, hch, run_askRoom, hold, Bool.not_true, Bool.false_eq_true, if_false, hrun, hzero, fin]

/-! #### both sides -/
theorem mk_cap {B g lb : Nat} (h : lb < B) : (B * g + lb) % B = lb ∧ (B * g + lb) / B = g := by
  have hB : 0 < B := by omega
  refine ⟨?_, ?_⟩
  · rw [Nat.add_comm, Nat.add_mul_mod_self_left, Nat.mod_eq_of_lt h]
  · rw [Nat.add_comm, Nat.add_mul_div_left _ _ hB, Nat.div_eq_of_lt h, Nat.zero_add]

theorem capR_mk {k o g lb c' : Nat} (hg : 0 < g) (hl : lb ≤ 16777216) (h1 : lb ≤ c') (h2 : o + c' * g ≤ k) : CapR k o (BIG * g + lb) c' := by
  obtain ⟨e1, e2⟩ := mk_cap (B := BIG) (g := g) (lb := lb) (small_big hl (by decide))
  refine .inr ⟨?_, by rw [e1]; exact h1, by rw [e2]; exact h2⟩
  have : BIG * 1 ≤ BIG * g := Nat.mul_le_mul_left _ hg
  omega

theorem loadA_length {b : Nat} : ∀ {n o : Nat} {l : List Value}, loadA H b o n = some l → l.length = n := by
  intro n
  induction n with
  | zero => intro o l h; simp only [loadA, Option.some.injEq] at h; subst h; rfl
  | succ n ih =>
    intro o l h
    simp only [loadA] at h
    split at h
    · cases h
    · split at h
      · cases h
      · rename_i r hr; cases h; simp [ih hr]

theorem loadA_get {b : Nat} : ∀ {n o : Nat} {l : List Value}, loadA H b o n = some l → ∀ {i : Nat} {v : Value}, l[i]? = some v → cellA H b (o + i) = some v := by
  intro n
  induction n with
  | zero => intro o l h i v hi; simp only [loadA, Option.some.injEq] at h; subst h; simp at hi
  | succ n ih =>
    intro o l h i v hi
    simp only [loadA] at h
    split at h
    · cases h
    · rename_i u hu
      split at h
      · cases h
      · rename_i r hr
        cases h
        cases i with
        | zero => simp at hi; subst hi; exact hu
        | succ i =>
          simp at hi
          have := ih hr hi
          rw [show o + (i + 1) = o + 1 + i from by omega]; exact this

theorem size_zeroCells (z : Array Value) (n : Nat) : (Builtin.zeroCells z n).size = n * z.size := by simp [Builtin.zeroCells]

theorem AR.prefix_get {N : Nat} {l : List Value} {a' r : Array Value} (h : AR ρ N l.toArray a') : ∀ i v, i < l.length → (Tr.ofList l).get i = some v → ∃ v', (a' ++ r)[i]? = some v' ∧ VR ρ N v v' := by
  intro i v hi hv
  have := Tr.get_ofList hv
  obtain ⟨v', h1, h2⟩ := h.get (i := i) (v := v) (by simpa using this)
  have hlt : i < a'.size := (Array.getElem?_eq_some_iff.1 h1).1
  exact ⟨v', by rw [Array.getElem?_append_left hlt]; exact h1, h2⟩

/-- The new block of an append. -/
theorem new_rel {N : Nat} {l : List Value} {a' r : Array Value} (h : AR ρ N l.toArray a') (elem : TypeId) : ObjR ρ N (.cells l.length (Tr.ofList l) elem (some (0, 0))) (.cells (a' ++ r) elem) := by
  have hs : l.length = a'.size := by simpa using h.1
  exact .cells _ _ _ _ _ _ (by simp [hs]) rfl h.prefix_get

theorem Fr.of_drawn {ρ' : Ren} {H' : AH} {w w' : World} (h : Fr ρ H { w with drawn := w.drawn + 1 } ρ' H' w') : Fr ρ H w ρ' H' w' := (Fr.drawn ρ H w (w.drawn + 1)).trans h

theorem bif_left {α : Type} {c : Bool} {a : Option α} {r : α} (h : (bif c then a else none) = some r) : c = true ∧ a = some r := by
  cases c with
  | false => cases h
  | true => exact ⟨rfl, h⟩

theorem aAppend_sound (s : Sim N0 ρ H w) {ts : Array TypeId} {ty : TypeId} {args : Array Value} {d d' x x' : Value} (h0 : args[0]? = some d') (h1 : args[1]? = some x') (hd : VR ρ H.next d d') (hx : VR ρ H.next x x') {v : Value} {H' : AH} (h : aAppend P N0 H ts[0]? ts[1]? d x = some (v, H')) :
    EOk P N0 ρ H w (do pure (.value (← Builtin.append_ ts ty args))) v H' := by
  unfold aAppend at h
  split at h
  · cases h
  rename_i t ht0
  split at h
  case h_2 => cases h
  rename_i elem base len cap ht
  split at h
  case h_2 => cases h
  rename_i size z zeros hs hz hzr
  split at h
  · cases h
  rename_i n new hnew
  obtain ⟨hc, h⟩ := bif_left h
  simp only [Bool.and_eq_true, Nat.beq_eq] at hc
  obtain ⟨⟨⟨hpos, hzs⟩, hnl⟩, hgrow⟩ := hc
  have hpos' : 0 < size := lt_of_blt hpos
  have s' : Sim N0 ρ H { w with drawn := w.drawn + 1 } := s.drawn _
  have nk := newCells_rel (P := P) s hz hzs hpos' hx hnew
  have nk' := newCells_rel (P := P) s' hz hzs hpos' hx hnew
  obtain ⟨hzero, _, _⟩ := zeroA_spec hz
  unfold growOk at hgrow
  split at hgrow
  case h_2 => cases hgrow
  rename_i i hi
  simp only [Bool.and_eq_true] at hgrow
  have hneed : len + n ≤ 16777216 := Nat.le_of_ble_eq_true hgrow.1
  have hbytes : i.bytes ≤ 1048576 := Nat.le_of_ble_eq_true hgrow.2
  have newBlock : ∀ (base' : Option Addr) (cap' : Nat) (old : List Value) (old' : Array Value), d' = .slice base' len cap' → ¬ (len + n ≤ cap') → old.length = len * size →
      AR ρ H.next old.toArray old' → (Builtin.firstCells size len (.slice base' len cap')).run P { w with drawn := w.drawn + 1 } = .ok old' { w with drawn := w.drawn + 1 } →
      ∃ (o' : Obj) (newCap : Nat) (c'' : Array Value), o' = .cells c'' elem ∧ len + n ≤ newCap ∧ c''.size = newCap * size ∧ ObjR ρ H.next (.cells (old ++ new).length (Tr.ofList (old ++ new)) elem (some (0, 0))) o' ∧
        (Builtin.append_ ts ty args).run P w = .ok (.slice (some ⟨w.heap.size, 0, none⟩) (len + n) newCap) (grown w o') := by
    intro base' cap' old old' ed hroom hol hor hold
    subst ed
    obtain ⟨a', newCap, ha, hle, hrun⟩ := append_new ht0 h0 h1 ht hs hzr nk nk' hroom hi hneed hbytes hzero hold
    have hcat : AR ρ H.next (old ++ new).toArray (old' ++ a') := by have := hor.append ha; simpa using this
    refine ⟨_, newCap, _, rfl, hle, ?_, new_rel hcat elem, hrun⟩
    have e1 : old'.size = len * size := by rw [← hor.1]; simpa using hol
    have e2 : a'.size = n * size := by rw [← ha.1]; simpa using hnl
    simp only [Array.size_append, size_zeroCells, e1, e2, hzs]
    rw [← Nat.add_mul, ← Nat.add_mul]
    congr 1; omega
  split at h
  · -- nil
    obtain rfl := hd.inv_slnil
    cases hroomB : Nat.ble (len + n) cap <;> simp only [hroomB, cond_true, cond_false] at h
    · obtain ⟨hl0, he⟩ := bif_some h
      cases he
      have hl0' := Nat.eq_of_beq_eq_true hl0
      subst hl0'
      have hroom : ¬ (0 + n ≤ cap) := fun e => by rw [Nat.ble_eq_true_of_le e] at hroomB; cases hroomB
      obtain ⟨o', newCap, c'', eo, hle, hsz, hobj, hrun⟩ := newBlock none cap [] #[] rfl hroom (by simp) AR.nil rfl
      subst eo
      obtain ⟨g1, g2⟩ := sim_alloc s' (by simpa using hobj)
      refine ⟨_, _, g1, Fr.of_drawn g2, .inl ⟨.slice (some ⟨w.heap.size, 0, none⟩) (0 + n) newCap, by rw [Sem.run_bind, hrun]; rfl, ?_⟩⟩
      have e := ext_same ρ H.next w.heap.size (objSize (.cells c'' elem))
      have ek := ext_k ρ H.next w.heap.size (objSize (.cells c'' elem))
      have this := VR.sl (ρ := ext ρ H.next w.heap.size (objSize (.cells c'' elem))) (N := H.next + 1) H.next 0 (0 + n) (BIG * size + (0 + n)) newCap (Nat.lt_succ_self _) (capR_mk hpos' hneed hle (by rw [ek]; simp [objSize, hsz]))
      rw [e] at this
      exact this
    · obtain ⟨hn0, he⟩ := bif_some h
      cases he
      have hroom := Nat.le_of_ble_eq_true hroomB
      obtain ⟨a', ha, hrun⟩ := append_in (ty := ty) ht0 h0 h1 ht hs hzr nk hroom
      refine ⟨ρ, w, s, Fr.refl _ _ _, .inl ⟨_, ?_, .slnil _ _⟩⟩
      rw [Sem.run_bind, hrun]
      simp
  · rename_i b o sp _
    obtain ⟨_, hb, h3⟩ := hd.inv_sl
    obtain ⟨hob, h⟩ := bif_left h
    have hob' := lt_of_blt hob
    rcases h3 with ⟨c', rfl, hcr⟩ | ⟨hbig, _⟩
    case inr => simp only at hbig; omega
    simp only at hcr hb
    cases hroomB : Nat.ble (len + n) (bif Nat.blt cap BIG then cap else cap % BIG) <;> simp only [hroomB, cond_true, cond_false] at h
    · split at h
      · cases h
      rename_i old hold
      have holdl := loadA_length hold
      obtain ⟨old', k1, k2⟩ := loadA_rel (P := P) s' hold
      have hfirst : (Builtin.firstCells size len (.slice (some ⟨ρ b, o, none⟩) len c')).run P { w with drawn := w.drawn + 1 } = .ok old' { w with drawn := w.drawn + 1 } := by simpa [Builtin.firstCells] using k1
      cases hcb : Nat.blt cap BIG <;> simp only [hcb, cond_true, cond_false] at h hroomB
      · -- not known whether there is room
        split at h
        case h_2 => cases h
        rename_i bsz btr elem' fz hblk
        obtain ⟨hcond, he⟩ := bif_some h
        cases he
        simp only [Bool.and_eq_true, Nat.beq_eq] at hcond
        obtain ⟨⟨⟨⟨ho0, hee⟩, hcg⟩, hfz⟩, hone⟩ := hcond
        subst ho0 hee
        have hcb' := le_of_blt hcb
        rcases hcr with ⟨hx1, _⟩ | ⟨_, hlb, hfit⟩
        · omega
        rw [hcg] at hfit
        obtain ⟨sd, fd⟩ := sim_drop s b
        by_cases hroom : len + n ≤ c'
        · -- in place
          obtain ⟨a', ha, hrun⟩ := append_in (ty := ty) ht0 h0 h1 ht hs hzr nk hroom
          obtain ⟨_, ob, hob2, hobr, hks⟩ := s.blk b _ hblk
          cases hobr with
          | cells _ _ _ _ c0 fz0 hsz0 hz0 hcell0 =>
            simp only [SzR] at hks
            have hmul : (len + n) * size ≤ c' * size := Nat.mul_le_mul_right _ hroom
            have hal : a'.toList.length = n * size := by rw [Array.length_toList, ← ha.1]; simpa using hnl
            have hsum : len * size + n * size = (len + n) * size := by rw [Nat.add_mul]
            have hfzn : ∀ j, j < c0.size → ¬ (fz0.1 ≤ j ∧ j < fz0.2) := by
              cases fz with
              | none => exact hz0
              | some zz =>
                obtain ⟨lo, hi⟩ := zz
                simp only [Bool.and_eq_true, Nat.beq_eq] at hfz
                obtain ⟨e1, e2⟩ := hfz
                subst e1 e2
                simp only [FzR] at hz0
                subst hz0
                intro j _; simp
            obtain ⟨w', q1, q2, q3, q4, q5, q6, q7⟩ := run_storeCells (P := P) (ρ b) elem fz0 (0 + len * size) a'.toList 0 w c0 hob2 (by omega) (fun j _ hj => hfzn j (by omega)) (by
              intro v hv'
              obtain ⟨k, hk⟩ := List.getElem?_of_mem hv'
              have hk' : k < new.length := by have := (List.getElem?_eq_some_iff.1 hk).1; omega
              obtain ⟨y, hy, hr⟩ := all2_get (by simpa using ha.all2 : All2 (VR ρ H.next) new a'.toList) (List.getElem?_eq_getElem hk')
              rw [hk] at hy
              cases hy
              exact oneA_rel hr (List.all_eq_true.1 hone _ (List.getElem_mem hk')))
            have hobj : ObjR ρ (H.drop b).next (.cells (old ++ new).length (Tr.ofList (old ++ new)) elem fz) (.cells (setArr c0 (0 + len * size + 0) a'.toList) elem fz0) := by
              refine .cells _ _ _ _ _ _ (by rw [size_setArr, List.length_append]; omega) (by rw [size_setArr]; exact hz0) ?_
              intro k v hk hget
              have hv' := Tr.get_ofList hget
              rw [get_setArr _ _ _ _ (by omega)]
              by_cases hlt : k < old.length
              · rw [if_neg (by omega)]
                rw [List.getElem?_append_left hlt] at hv'
                obtain ⟨v', g1, g2⟩ := cellA_rel s (loadA_get hold hv')
                rw [Nat.zero_add] at g1
                refine ⟨v', ?_, g2⟩
                simpa [World.cell?, hob2] using g1
              · rw [List.getElem?_append_right (by omega)] at hv'
                have hnlt := (List.getElem?_eq_some_iff.1 hv').1
                obtain ⟨v', g1, g2⟩ := all2_get (by simpa using ha.all2 : All2 (VR ρ H.next) new a'.toList) hv'
                rw [if_pos (by omega)]
                refine ⟨v', ?_, g2⟩
                rw [← g1]; congr 1; omega
            have hsim := sim_new sd hobj q2 (fun k p hk e => by
              obtain ⟨hne, hk2⟩ := Tr.get_del hk
              exact hne (s.inj k b p _ hk2 hblk e)) (fun k hk _ => q3 k hk)
            refine ⟨_, w', hsim, ⟨ext_agree ρ, Nat.le_succ _, ?_, ?_, by omega, q5, q6, q7⟩, .inl ⟨.slice (some ⟨ρ b, 0, none⟩) (len + n) c', ?_, ?_⟩⟩
            · intro r _ hdom
              exact q3 r (fun e => hdom b _ hblk e.symm)
            · intro k p hk
              by_cases e : k = H.next
              · subst e; left; exact ⟨b, _, hblk, (ext_same ρ _ _ _).symm⟩
              · rcases Tr.get_set hk with hk | hk
                · exact absurd hk.1 e
                · obtain ⟨_, hk2⟩ := Tr.get_del hk
                  left; exact ⟨k, p, hk2, ((ext_agree ρ) k (s.blk k p hk2).1).1.symm⟩
            · rw [Sem.run_bind, hrun]
              simp only [add_none, q1, Result.andThen_ok, Sem.run_pure]
            · have e := ext_same ρ H.next (ρ b) (objSize (.cells (setArr c0 (0 + len * size + 0) a'.toList) elem fz0))
              have ek := ext_k ρ H.next (ρ b) (objSize (.cells (setArr c0 (0 + len * size + 0) a'.toList) elem fz0))
              have := VR.sl (ρ := ext ρ H.next (ρ b) (objSize (.cells (setArr c0 (0 + len * size + 0) a'.toList) elem fz0))) (N := H.next + 1) H.next 0 (len + n) (BIG * size + (len + n)) c' (Nat.lt_succ_self _)
                (capR_mk hpos' hneed hroom (by rw [ek]; simp only [objSize, size_setArr]; omega))
              rw [e] at this
              exact this
        · obtain ⟨o', newCap, c'', eo, hle, hsz, hobj, hrun⟩ := newBlock _ c' old old' rfl hroom holdl k2 hfirst
          subst eo
          have hobj2 : ObjR ρ (H.drop b).next (.cells (old ++ new).length (Tr.ofList (old ++ new)) elem fz) (.cells c'' elem) := by
            cases hobj with
            | cells _ _ _ _ _ _ hs1 hz1 hc1 =>
              refine .cells _ _ _ _ _ _ hs1 ?_ hc1
              cases fz with
              | none => intro j _; simp
              | some zz =>
                obtain ⟨lo, hi⟩ := zz
                simp only [Bool.and_eq_true, Nat.beq_eq] at hfz
                obtain ⟨e1, e2⟩ := hfz
                subst e1 e2
                rfl
          obtain ⟨sd', fd'⟩ := sim_drop s' b
          obtain ⟨g1, g2⟩ := sim_alloc sd' hobj2
          refine ⟨_, _, g1, Fr.of_drawn (fd'.trans g2), .inl ⟨.slice (some ⟨w.heap.size, 0, none⟩) (len + n) newCap, by rw [Sem.run_bind, hrun]; rfl, ?_⟩⟩
          have e := ext_same ρ H.next w.heap.size (objSize (.cells c'' elem))
          have ek := ext_k ρ H.next w.heap.size (objSize (.cells c'' elem))
          have this := VR.sl (ρ := ext ρ H.next w.heap.size (objSize (.cells c'' elem))) (N := H.next + 1) H.next 0 (len + n) (BIG * size + (len + n)) newCap (Nat.lt_succ_self _) (capR_mk hpos' hneed hle (by rw [ek]; simp [objSize, hsz]))
          rw [e] at this
          exact this
      · -- the room is known: none
        have hcb' := lt_of_blt hcb
        rcases hcr with ⟨_, ec⟩ | ⟨hx1, _⟩
        case inr => omega
        cases h
        have hroom : ¬ (len + n ≤ c') := fun e => by rw [ec] at e; rw [Nat.ble_eq_true_of_le e] at hroomB; cases hroomB
        obtain ⟨o', newCap, c'', eo, hle, hsz, hobj, hrun⟩ := newBlock _ c' old old' rfl hroom holdl k2 hfirst
        subst eo
        obtain ⟨g1, g2⟩ := sim_alloc s' hobj
        refine ⟨_, _, g1, Fr.of_drawn g2, .inl ⟨.slice (some ⟨w.heap.size, 0, none⟩) (len + n) newCap, by rw [Sem.run_bind, hrun]; rfl, ?_⟩⟩
        have e := ext_same ρ H.next w.heap.size (objSize (.cells c'' elem))
        have ek := ext_k ρ H.next w.heap.size (objSize (.cells c'' elem))
        have this := VR.sl (ρ := ext ρ H.next w.heap.size (objSize (.cells c'' elem))) (N := H.next + 1) H.next 0 (len + n) (BIG * size + (len + n)) newCap (Nat.lt_succ_self _) (capR_mk hpos' hneed hle (by rw [ek]; simp [objSize, hsz]))
        rw [e] at this
        exact this
    · split at h
      case h_2 => cases h
      rename_i H2 hw
      cases h
      have hroom : len + n ≤ c' := Nat.le_trans (Nat.le_of_ble_eq_true hroomB) (capR_le hcr)
      obtain ⟨a', ha, hrun⟩ := append_in (ty := ty) ht0 h0 h1 ht hs hzr nk hroom
      obtain ⟨w', k1, k2, k3⟩ := writeA_sound (P := P) s (by simpa using ha.all2) hw
      refine ⟨ρ, w', k2, k3, .inl ⟨_, ?_, (VR.sl b o (len + n) cap c' hb hcr).mono k3.next k3.agree⟩⟩
      rw [Sem.run_bind, hrun]
      simp only [add_none, k1, Result.andThen_ok, Sem.run_pure]

/-! ### a string to bytes -/
def aStrBytes (P : Program) (H : AH) (src dst : TypeId) (v : Value) : Option (Value × AH) :=
  match P.underlying src, P.underlying dst, v with
  | some .string, some (.slice e), .string s =>
    match P.underlying e, szA P e with
    | some (.int .u8), some 1 =>
      bif Nat.ble s.size 16777216 then
        some (.slice (some ⟨H.next, 0, none⟩) s.size (BIG * 1 + s.size), H.alloc (.cells s.size (Tr.ofList (byteVals s)) e none))
      else none
    | _, _ => none
  | _, _, _ => none

theorem aStrBytes_sound (s : Sim N0 ρ H w) {src dst : TypeId} {v v' : Value} (hv : VR ρ H.next v v') {r : Value} {H' : AH} (h : aStrBytes P H src dst v = some (r, H')) :
    EOk P N0 ρ H w (do pure (.value (← convert src dst v'))) r H' := by
  unfold aStrBytes at h
  split at h
  case h_2 => cases h
  rename_i e str hs hd
  split at h
  case h_2 => cases h
  rename_i he hz
  obtain ⟨hlen, hr⟩ := bif_some h
  cases hr
  have hlen' : str.size ≤ 16777216 := Nat.le_of_ble_eq_true hlen
  obtain rfl := hv.inv_string
  generalize hcap : (Question.appendCap str.size 0 e).cut (w.tape w.drawn (.appendCap str.size 0 e)) = cap
  have hle : str.size ≤ cap := by rw [← hcap]; exact Nat.le_add_right _ _
  have hch : (choose (.appendCap str.size 0 e)).run P w = .ok cap { w with drawn := w.drawn + 1 } := by
    rw [run_choose, show (Question.appendCap str.size 0 e).forced = false from rfl]; simp [hcap]
  have hbs : (byteVals str).length = str.size := by unfold byteVals; rw [List.length_map, Array.length_toList]; rfl
  have hbr := byteVals_rel (ρ := ρ) (N := H.next) str
  generalize hcells : ((str.data.map fun b => Value.int .u8 b.toNat) ++ Array.replicate (cap - str.size) (.int .u8 0)) = cells
  have hcs : cells.size = cap := by
    rw [← hcells]; simp only [Array.size_append, Array.size_map, Array.size_replicate]
    have : str.data.size = str.size := rfl
    omega
  have s' : Sim N0 ρ H { w with drawn := w.drawn + 1 } := s.drawn _
  have hobj : ObjR ρ H.next (.cells str.size (Tr.ofList (byteVals str)) e none) (.cells cells e (cells.size, cells.size + 1)) := by
    refine .cells _ _ _ _ _ _ (by omega) (fun i hi => by simp only; omega) ?_
    intro i v hi hget
    rw [← hcells]
    exact hbr.prefix_get i v (by omega) hget
  obtain ⟨g1, g2⟩ := sim_alloc s' hobj
  refine ⟨_, _, g1, Fr.of_drawn g2, .inl ⟨.slice (some ⟨w.heap.size, 0, none⟩) str.size cap, ?_, ?_⟩⟩
  · have hconv : (convert src dst (.string str)).run P w = (Conv.stringToBytes e str).run P w := by
      simp [convert, run_underlying_of hs, run_underlying_of hd, run_underlying_of he]
    rw [Sem.run_bind, hconv]
    have hfr : ∀ (W : World), (W.heap.push (Obj.cells cells e))[W.heap.size]? = some (.cells cells e) := by intro W; simp
    have hmod : ∀ (hp : Array Obj), (hp.push (Obj.cells cells e)).modify hp.size (fun
        | .cells c elem (lo, hi) => .cells c elem (if lo == hi then (cells.size, cells.size + 1) else (min lo cells.size, max hi (cells.size + 1)))
        | o => o) = hp.push (Obj.cells cells e (cells.size, cells.size + 1)) := by
      intro hp
      apply Array.ext
      · simp
      · intro i h1 h2
        by_cases e1 : i = hp.size
        · subst e1; simp [Array.getElem_modify]
        · have hlt : i < hp.size := by simp at h2; omega
          rw [Array.getElem_modify, if_neg (fun e2 => e1 e2.symm), Array.getElem_push_lt hlt, Array.getElem_push_lt hlt]
    simp only [Conv.stringToBytes, Sem.run_bind, hch, Result.andThen_ok, hcells, newRow, run_newObj, Sem.run_pure, markStringish, run_shape, World.shape?, hfr, run_freeze]
    simp only [World.freeze]
    rw [if_neg (by omega)]
    have := hmod w.heap
    exact congrArg (fun hh => Result.ok (Next.value (.slice (some ⟨w.heap.size, 0, none⟩) str.size cap)) ({ w with heap := hh, drawn := w.drawn + 1 } : World)) this
  · have e1 := ext_same ρ H.next w.heap.size (objSize (.cells cells e (cells.size, cells.size + 1)))
    have ek := ext_k ρ H.next w.heap.size (objSize (.cells cells e (cells.size, cells.size + 1)))
    have this := VR.sl (ρ := ext ρ H.next w.heap.size (objSize (.cells cells e (cells.size, cells.size + 1)))) (N := H.next + 1) H.next 0 str.size (BIG * 1 + str.size) cap (Nat.lt_succ_self _) (capR_mk (by omega) hlen' hle (by rw [ek]; simp [objSize, hcs]))
    rw [e1] at this
    exact this
end
end Go.Ax
