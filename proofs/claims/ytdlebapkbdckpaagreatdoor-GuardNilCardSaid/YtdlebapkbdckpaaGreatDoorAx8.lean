/-
  Ax8: operations that make a block, and those that write (own work).
-/
import Derived.Test.YtdlebapkbdckpaaGreatDoorAx7
import Derived.IntWalk
namespace Go.Ax
open Go

section
variable {P : Program} {N0 : Nat} {ρ : Ren} {H : AH} {w : World} {ev ev' : Operand → Value}

/-! ## A new block -/
def AllocOk (P : Program) (ρ : Ren) (N : Nat) (w : World) (s : Sem Next) (o : AObj) (f : Nat → Value) : Prop :=
  ∃ o' v', ObjR ρ N o o' ∧ s.run P w = .ok (.value v') { w with heap := w.heap.push o' } ∧ ∀ (ρ' : Ren) (N' id : Nat), id < N' → ρ' id = w.heap.size → VR ρ' N' (f id) v'

def mkCells (cs : Array Value) (elem : TypeId) : AObj := .cells cs.size (Tr.ofList cs.toList) elem (some (0, 0))

theorem mkCells_rel {N : Nat} {cs cs' : Array Value} (h : AR ρ N cs cs') (elem : TypeId) : ObjR ρ N (mkCells cs elem) (.cells cs' elem) := by
  refine .cells _ _ _ _ _ _ (Nat.le_of_eq h.1) rfl fun i v _ hv => ?_
  have := Tr.get_ofList hv
  exact h.get (by simpa using this)

def aptr (id : Nat) : Value := .pointer (some ⟨id, 0, none⟩)
theorem aptr_rel (w : World) : ∀ (ρ' : Ren) (N' id : Nat), id < N' → ρ' id = w.heap.size → VR ρ' N' (aptr id) (.pointer (some ⟨w.heap.size, 0, none⟩)) := by
  intro ρ' N' id h e
  rw [← e]; exact .ptr id 0 h

theorem asl_rel (w : World) (l c : Nat) (hc : c < BIG) : ∀ (ρ' : Ren) (N' id : Nat), id < N' → ρ' id = w.heap.size → VR ρ' N' (.slice (some ⟨id, 0, none⟩) l c) (.slice (some ⟨w.heap.size, 0, none⟩) l c) := by
  intro ρ' N' id h e
  rw [← e]; exact .sl id 0 l c c h (.inl ⟨hc, rfl⟩)
theorem amap_rel (w : World) : ∀ (ρ' : Ren) (N' id : Nat), id < N' → ρ' id = w.heap.size → VR ρ' N' (.map (some id)) (.map (some w.heap.size)) := by
  intro ρ' N' id h e
  rw [← e]; exact .map id h
theorem achan_rel (w : World) : ∀ (ρ' : Ren) (N' id : Nat), id < N' → ρ' id = w.heap.size → VR ρ' N' (.chan (some id)) (.chan (some w.heap.size)) := by
  intro ρ' N' id h e
  rw [← e]; exact .chan id h
theorem small_big {n m : Nat} (h : n ≤ m) (hm : Nat.blt m BIG = true) : n < BIG := Nat.lt_of_le_of_lt h (lt_of_blt hm)

def repA (n : Nat) (z : Array Value) : Array Value := (Array.range n).map (z[· % z.size]!)

theorem repA_rel {N : Nat} {n : Nat} {z z' : Array Value} (h : AR ρ N z z') (hz : n = 0 ∨ z.size ≠ 0) : AR ρ N (repA n z) (repA n z') := by
  refine ⟨by simp [repA], fun i h1 h2 => ?_⟩
  have hi : i < n := by simpa [repA] using h1
  have hpos : 0 < z.size := by
    rcases hz with hz | hz
    · omega
    · omega
  simp only [repA, Array.getElem_map, Array.getElem_range]
  have hlt : i % z.size < z.size := Nat.mod_lt _ hpos
  have hlt' : i % z'.size < z'.size := by rw [← h.1]; exact hlt
  rw [getElem!_pos z _ hlt, getElem!_pos z' _ hlt']
  have : z'[i % z'.size] = z'[i % z.size]'(h.1 ▸ hlt) := by congr 1; rw [h.1]
  rw [this]
  exact h.2 _ _ _

def aAlloc (P : Program) (N0 : Nat) (ev : Operand → Value) (o : Oper) : Option (AObj × (Nat → Value)) :=
  match o.op with
  | .alloc elem => (zeroA P N0 elem).map fun z => (mkCells z.cells elem, aptr)
  | .box elem x => bif isTuple (ev x) then none else some (mkCells (ev x).cells elem, aptr)
  | .buildSlice t len parts =>
    match P.underlying t with
    | some (.slice elem) =>
      match szA P elem, zeroA P N0 elem, partsA ev parts.toList with
      | some size, some z, some ps =>
        bif Nat.beq len 0 && parts.toList.isEmpty then some (mkCells #[] elem, fun id => .slice (some ⟨id, 0, none⟩) 0 0) else
        bif Nat.ble (len * size) (2 ^ 24) && Nat.blt 0 z.cells.size && Nat.blt 0 (len * size) then
          match Instr.fill (fun i => some (i * size, size)) (repA (len * size) z.cells) ps with
          | some cs => some (mkCells cs elem, fun id => .slice (some ⟨id, 0, none⟩) len len)
          | none => none
        else none
      | _, _, _ => none
    | _ => none
  | .makeSlice t l c =>
    match P.underlying t, ev l, ev c with
    | some (.slice elem), .int _ l, .int _ c =>
      match P.info? elem, zeroA P N0 elem with
      | some i, some z =>
        bif decide (0 ≤ l) && decide (l ≤ c) && decide (c ≤ 4294967296) && decide ((i.bytes : Int) * c ≤ 2 ^ 48) && Nat.blt 0 z.cells.size then
          some (mkCells (repA (c.toNat * i.size) z.cells) elem, fun id => .slice (some ⟨id, 0, none⟩) l.toNat c.toNat)
        else none
      | _, _ => none
    | _, _, _ => none
  | .makeMap _ none => some (.map [] 0, fun id => .map (some id))
  | .makeMap t (some r) =>
    match P.underlying t, ev r with
    | some (.map _ _), .int _ _ => some (.map [] 0, fun id => .map (some id))
    | _, _ => none
  | .makeChan t s =>
    match ev s, P.underlying t with
    | .int _ n, some (.chan _ elem) =>
      match P.info? elem with
      | some i =>
        bif decide (0 ≤ n) && decide (n ≤ 65536) && decide ((i.bytes : Int) * n ≤ 2 ^ 48 - 112) then some (.chan n.toNat false 0 0 false, fun id => .chan (some id)) else none
      | none => none
    | _, _ => none
  | .range t x =>
    match P.underlying t, ev x with
    | some .string, .string s => some (.strIter s 0, aptr)
    | _, _ => none
  | _ => none

theorem aAlloc_sound (hN : N0 ≤ H.next) (fix : ∀ i, i < N0 → ρ i = i) (hev : ∀ x, VR ρ H.next (ev x) (ev' x)) {o : Oper} {ob : AObj} {f : Nat → Value} (h : aAlloc P N0 ev o = some (ob, f)) :
    AllocOk P ρ H.next w (execOp ev' o) ob f := by
  obtain ⟨dst, op, ty, pos, after, guard⟩ := o
  unfold aAlloc at h
  split at h
  · rename_i elem heq; simp only at heq; subst heq
    simp only [Option.map_eq_some_iff, Prod.mk.injEq] at h
    obtain ⟨z, hz, rfl, rfl⟩ := h
    obtain ⟨h1, h2, h3⟩ := zeroA_spec hz
    have hc := (VR.cells (flat_self hN fix h2) h3).1
    exact ⟨_, _, mkCells_rel hc elem, by simp [execOp, Instr.alloc, h1, newVar, newRow], aptr_rel w⟩
  · rename_i elem x heq; simp only at heq; subst heq
    cases ht : isTuple (ev x) <;> simp only [ht, cond_true, cond_false] at h
    · cases h
      have hc := (VR.cells (hev x) ht).1
      exact ⟨_, _, mkCells_rel hc elem, by simp [execOp, Instr.box, newVar, newRow], aptr_rel w⟩
    · cases h
  · rename_i t len parts heq; simp only at heq; subst heq
    split at h
    case h_2 => cases h
    rename_i elem ht
    split at h
    case h_2 => cases h
    rename_i size z ps hs hz hps
    cases hb0 : (Nat.beq len 0 && parts.toList.isEmpty) <;> simp only [hb0, cond_true, cond_false] at h
    case true =>
      cases h
      simp only [Bool.and_eq_true, Nat.beq_eq, List.isEmpty_iff] at hb0
      obtain ⟨rfl, hpe⟩ := hb0
      have hpe' : parts = #[] := by apply Array.toList_inj.1; simpa using hpe
      subst hpe'
      exact ⟨.cells #[] elem, .slice (some ⟨w.heap.size, 0, none⟩) 0 0, mkCells_rel AR.nil elem, by simp [execOp, Instr.buildSlice, run_underlying_of ht, run_sizeOf_of hs, Instr.fill, newRow]; rw [show ∀ f : Nat → Value, Array.map f (Array.range 0) = #[] from fun f => Array.eq_empty_of_size_eq_zero (by simp)],
        asl_rel w 0 0 (small_big (m := 0) (Nat.le_refl _) (by decide))⟩
    cases hb : (Nat.ble (len * size) (2 ^ 24) && Nat.blt 0 z.cells.size && Nat.blt 0 (len * size)) <;> simp only [hb, cond_true, cond_false] at h
    · cases h
    simp only [Bool.and_eq_true] at hb
    obtain ⟨⟨hb1, hb2⟩, hb3⟩ := hb
    have hb1' : len * size ≤ 2 ^ 24 := Nat.le_of_ble_eq_true hb1
    have hb2' := lt_of_blt hb2
    have hb3' := lt_of_blt hb3
    split at h
    case h_2 => cases h
    rename_i cs hcs
    cases h
    obtain ⟨h1, h2, h3⟩ := zeroA_spec hz
    have hc := (VR.cells (flat_self hN fix h2) h3).1
    have hp := partsA_rel hev hps
    obtain ⟨cs', h4, h5⟩ := fill_rel _ hp (repA_rel (n := len * size) hc (.inr (by omega))) hcs
    have hlen : len ≤ len * size := Nat.le_mul_of_pos_right _ (by
      rcases Nat.eq_zero_or_pos size with e | e
      · subst e; omega
      · exact e)
    refine ⟨.cells cs' elem, .slice (some ⟨w.heap.size, 0, none⟩) len len, mkCells_rel h5 elem, ?_, asl_rel w len len (small_big (m := 2 ^ 24) (by omega) (by decide))⟩
    have hn1 : ¬ (len * size > 2 ^ 24) := by omega
    have hn2 : ¬ (len * size = 0) := by omega
    have h4' : Instr.fill (fun i => some (i * size, size)) (repA (len * size) z.cells) (List.map (fun (x : Nat × Operand) => (x.1, ev' x.2)) parts.toList) = some cs' := h4
    simp only [execOp, Instr.buildSlice, Sem.run_bind, run_underlying_of ht, run_sizeOf_of hs, Result.andThen_ok, if_neg hn1, if_neg hn2, h1, Sem.run_pure]
    simp only [Array.toList_map]
    simp only [repA] at h4'
    simp only [h4']
    simp [newRow]
  · rename_i t l c heq; simp only at heq; subst heq
    split at h
    case h_2 => cases h
    rename_i elem kl l' kc c' ht hl hc
    split at h
    case h_2 => cases h
    rename_i i z hi hz
    cases hb : (decide (0 ≤ l') && decide (l' ≤ c') && decide (c' ≤ 4294967296) && decide ((i.bytes : Int) * c' ≤ 2 ^ 48) && Nat.blt 0 z.cells.size) <;> simp only [hb, cond_true, cond_false] at h
    · cases h
    cases h
    simp only [Bool.and_eq_true, decide_eq_true_eq] at hb
    obtain ⟨⟨⟨⟨b1, b2⟩, b3⟩, b4⟩, b5⟩ := hb
    have b5' := lt_of_blt b5
    obtain ⟨h1, h2, h3⟩ := zeroA_spec hz
    have hcz := (VR.cells (flat_self hN fix h2) h3).1
    have el : ev' l = .int kl l' := by have := hev l; rw [hl] at this; exact this.inv_int
    have ec : ev' c = .int kc c' := by have := hev c; rw [hc] at this; exact this.inv_int
    have wl : IntKind.i64.wrap l' = l' := IntWalk.i64_in _ (by omega)
    have wc : IntKind.i64.wrap c' = c' := IntWalk.i64_in _ (by omega)
    refine ⟨.cells (repA (c'.toNat * i.size) z.cells) elem, .slice (some ⟨w.heap.size, 0, none⟩) l'.toNat c'.toNat, mkCells_rel (repA_rel hcz (.inr (by omega))) elem, ?_,
      asl_rel w _ _ (small_big (m := 4294967296) (by omega) (by decide))⟩
    have nb : ¬ ((i.bytes : Int) * c' > 2 ^ 48) := by omega
    have hs : szA P elem = some i.size := by simp [szA, hi]
    have cond1 : (decide (c' < 0) || decide ((i.bytes : Int) * c' > 2 ^ 48) || decide (l' < 0) || decide (l' > c')) = false := by
      simp only [Bool.or_eq_false_iff, decide_eq_false_iff_not]; omega
    simp only [execOp, Instr.makeSlice, Sem.run_bind, run_underlying_of ht, Result.andThen_ok, el, ec, asInt, asIntOf, run_typeInfo_of hi, Sem.run_pure, wl, wc, cond1]
    simp only [Bool.false_eq_true, if_false, Sem.run_bind, run_askRoom, Result.andThen_ok, run_sizeOf_of hs]
    have r0 : ∀ f : Nat → Value, Array.map f (Array.range 0) = #[] := fun f => Array.eq_empty_of_size_eq_zero (by simp)
    by_cases hn0 : c'.toNat * i.size = 0
    · simp [hn0, repA, newRow, r0]
    · simp [hn0, repA, newRow, h1]
  · rename_i t heq; simp only at heq; subst heq; cases h
    exact ⟨.map #[] 0, .map (some w.heap.size), .map [] 0 #[] .nil, by simp [execOp, Instr.makeMap], amap_rel w⟩
  · rename_i t r heq; simp only at heq; subst heq
    split at h
    case h_2 => cases h
    rename_i k e kk n ht hr
    cases h
    have er : ev' r = .int kk n := by have := hev r; rw [hr] at this; exact this.inv_int
    exact ⟨.map #[] 0, .map (some w.heap.size), .map [] 0 #[] .nil, by simp [execOp, Instr.makeMap, run_underlying_of ht, er, asInt, asIntOf], amap_rel w⟩
  · rename_i t s heq; simp only at heq; subst heq
    split at h
    case h_2 => cases h
    rename_i kk n dir elem hs ht
    split at h
    case h_2 => cases h
    rename_i i hi
    cases hb : (decide (0 ≤ n) && decide (n ≤ 65536) && decide ((i.bytes : Int) * n ≤ 2 ^ 48 - 112)) <;> simp only [hb, cond_true, cond_false] at h
    · cases h
    cases h
    simp only [Bool.and_eq_true, decide_eq_true_eq] at hb
    have es : ev' s = .int kk n := by have := hev s; rw [hs] at this; exact this.inv_int
    refine ⟨.chan n.toNat #[] false 0 0 false, .chan (some w.heap.size), .chan _ _ _ _ _, ?_, achan_rel w⟩
    have c1 : ¬ (n < 0 ∨ n > IntKind.i64.max ∨ (i.bytes : Int) * n > 2 ^ 48 - 112) := by
      have : (IntKind.i64.max : Int) = 9223372036854775807 := by decide
      omega
    simp only [execOp, Instr.makeChan, Sem.run_bind, es, asInt, asIntOf, Sem.run_pure, Result.andThen_ok, run_underlying_of ht, run_typeInfo_of hi, Sem.run_ite, if_neg c1]
    simp
  · rename_i t x heq; simp only at heq; subst heq
    split at h
    case h_2 => cases h
    rename_i s ht hx
    cases h
    have ex : ev' x = .string s := by have := hev x; rw [hx] at this; exact this.inv_string
    exact ⟨.stringIter s 0, .pointer (some ⟨w.heap.size, 0, none⟩), .strIter s 0, by simp [execOp, Instr.range, run_underlying_of ht, ex], aptr_rel w⟩
  · cases h
end
end Go.Ax
