/-
  Ax9: operations that write (own work).
-/
import Derived.Test.YtdlebapkbdckpaaGreatDoorAx8
namespace Go.Ax
open Go

section
variable {P : Program} {N0 : Nat} {ρ : Ren} {H : AH} {w : World} {ev ev' : Operand → Value}

/-- What a writing operation gives: a value (or none) and a heap. -/
def EOk (P : Program) (N0 : Nat) (ρ : Ren) (H : AH) (w : World) (s : Sem Next) (v : Value) (H' : AH) : Prop :=
  ∃ ρ' w', Sim N0 ρ' H' w' ∧ Fr ρ H w ρ' H' w' ∧ ((∃ v', s.run P w = .ok (.value v') w' ∧ VR ρ' H'.next v v') ∨ (s.run P w = .ok .skip w' ∧ v = undef))

/-! ### rows of cells written -/
def setTr : Tr Value → Nat → List Value → Tr Value
  | t, _, [] => t
  | t, o, v :: vs => setTr (t.set o v) (o + 1) vs

theorem get_setTr : ∀ (vs : List Value) (t : Tr Value) (o j : Nat) (x : Value), (setTr t o vs).get j = some x →
    (o ≤ j ∧ vs[j - o]? = some x) ∨ ((j < o ∨ o + vs.length ≤ j) ∧ t.get j = some x) := by
  intro vs
  induction vs with
  | nil => intro t o j x h; exact .inr ⟨by simp; omega, h⟩
  | cons v vs ih =>
    intro t o j x h
    rcases ih _ _ _ _ h with ⟨h1, h2⟩ | ⟨h1, h2⟩
    · refine .inl ⟨by omega, ?_⟩
      have : j - o = (j - (o + 1)) + 1 := by omega
      rw [this, List.getElem?_cons_succ]; exact h2
    · by_cases e : j = o
      · subst e
        have := Tr.get_set_same (t := t) (k := j) (v := v)
        have hx : x = v := Option.some.inj (h2.symm.trans this)
        subst hx
        exact .inl ⟨Nat.le_refl _, by simp⟩
      · rcases Tr.get_set h2 with h3 | h3
        · exact absurd h3.1 e
        · refine .inr ⟨?_, h3⟩
          simp only [List.length_cons]
          omega

def setArr : Array Value → Nat → List Value → Array Value
  | c, _, [] => c
  | c, o, v :: vs => setArr (c.setIfInBounds o v) (o + 1) vs

theorem size_setArr : ∀ (vs : List Value) (c : Array Value) (o : Nat), (setArr c o vs).size = c.size := by
  intro vs
  induction vs with
  | nil => intro c o; rfl
  | cons v vs ih => intro c o; simp [setArr, ih]

theorem get_setArr : ∀ (vs : List Value) (c : Array Value) (o j : Nat), o + vs.length ≤ c.size →
    (setArr c o vs)[j]? = if o ≤ j ∧ j < o + vs.length then vs[j - o]? else c[j]? := by
  intro vs
  induction vs with
  | nil => intro c o j h; simp [setArr]; intro h1 h2; omega
  | cons v vs ih =>
    intro c o j h
    simp only [List.length_cons] at h
    simp only [setArr]
    rw [ih _ _ _ (by simp; omega)]
    simp only [List.length_cons]
    by_cases e : j = o
    · subst e
      have hj : j < c.size := by omega
      rw [if_neg (by omega), if_pos (by omega)]
      simp [hj]
    · by_cases h1 : o + 1 ≤ j ∧ j < o + 1 + vs.length
      · rw [if_pos h1, if_pos (by omega)]
        have : j - o = (j - (o + 1)) + 1 := by omega
        rw [this, List.getElem?_cons_succ]
      · rw [if_neg h1, if_neg (by omega), Array.getElem?_setIfInBounds_ne (by omega)]

theorem run_storeCells (r : Nat) (elem : TypeId) (fz : Nat × Nat) (o : Nat) : ∀ (vs : List Value) (i : Nat) (w : World) (c : Array Value),
    w.heap[r]? = some (.cells c elem fz) → o + i + vs.length ≤ c.size → (∀ j, o + i ≤ j → j < o + i + vs.length → ¬ (fz.1 ≤ j ∧ j < fz.2)) → (∀ v ∈ vs, v.oneCell' = true) →
    ∃ w', (storeCells ⟨r, o, none⟩ vs i).run P w = .ok () w' ∧ w'.heap[r]? = some (.cells (setArr c (o + i) vs) elem fz) ∧ (∀ k, k ≠ r → w'.heap[k]? = w.heap[k]?) ∧
      w'.heap.size = w.heap.size ∧ w'.os = w.os ∧ w'.tape = w.tape ∧ w'.output = w.output := by
  intro vs
  induction vs with
  | nil => intro i w c h1 _ _ _; exact ⟨w, by simp [storeCells], h1, fun _ _ => rfl, rfl, rfl, rfl, rfl⟩
  | cons v vs ih =>
    intro i w c h1 h2 h3 h4
    simp only [List.length_cons] at h2 h3
    have hlt : o + i < c.size := by omega
    have hcell : w.cell? ⟨r, o + i, none⟩ = some c[o + i] := by simp [World.cell?, h1, hlt]
    have hfz : w.frozen? ⟨r, o + i, none⟩ = false := by
      have := h3 (o + i) (Nat.le_refl _) (by omega)
      obtain ⟨lo, hi⟩ := fz
      simp only [World.frozen?, h1]
      simpa [Bool.and_eq_false_iff] using this
    have hblk : (w.setCell ⟨r, o + i, none⟩ v).heap[r]? = some (.cells (c.setIfInBounds (o + i) v) elem fz) := by
      simp [World.setCell, Array.getElem?_modify, h1]
    obtain ⟨w', g1, g2, g3, g4, g5, g6, g7⟩ := ih (i + 1) (w.setCell ⟨r, o + i, none⟩ v) _ hblk (by simp; omega) (fun j a b => h3 j (by omega) (by omega)) (fun x hx => h4 x (List.mem_cons_of_mem _ hx))
    refine ⟨w', ?_, ?_, ?_, ?_, g5, g6, g7⟩
    · simp only [storeCells, Sem.run_bind, add_none]
      rw [run_store P w _ v .plain (h4 v (List.mem_cons_self ..)), hcell]
      simp only [hfz]
      simpa using g1
    · rw [show o + (i + 1) = o + i + 1 from by omega] at g2; exact g2
    · intro k hk
      rw [g3 k hk]
      simp only [World.setCell, Array.getElem?_modify]
      rw [if_neg (by omega)]
    · rw [g4]; simp [World.setCell]

def oneA : Value → Bool
  | .agg _ | .tuple _ => false
  | .float _ n => Nat.blt n 18446744073709551616
  | _ => true

theorem oneA_rel {N : Nat} {v v' : Value} (h : VR ρ N v v') (h1 : oneA v = true) : v'.oneCell' = true := by
  cases h <;> first | rfl | (simp [oneA, undef] at h1; done) | exact absurd h1 (by decide)

theorem bif_some {α : Type} {c : Bool} {a r : α} (h : (bif c then some a else none) = some r) : c = true ∧ a = r := by
  cases c with
  | false => cases h
  | true => exact ⟨rfl, Option.some.inj h⟩

/-- Cells are written into a block. -/
def writeA (H : AH) (b o : Nat) (vs : List Value) : Option AH :=
  match H.tr.get b with
  | some (.cells size tr elem fz) =>
    bif Nat.ble (o + vs.length) size && vs.all oneA && (match fz with | none => true | some (lo, hi) => Nat.ble hi o || Nat.ble (o + vs.length) lo || Nat.ble hi lo) then
      some (H.put b (.cells size (setTr tr o vs) elem fz))
    else none
  | _ => none

theorem all2_get {α β : Type} {R : α → β → Prop} {l : List α} {m : List β} (h : All2 R l m) : ∀ {i : Nat} {x : α}, l[i]? = some x → ∃ y, m[i]? = some y ∧ R x y := by
  induction h with
  | nil => intro i x e; simp at e
  | cons hr _ ih =>
    intro i x e
    cases i with
    | zero => simp at e; subst e; exact ⟨_, by simp, hr⟩
    | succ i => simp at e ⊢; exact ih e

theorem writeA_sound (s : Sim N0 ρ H w) {b o : Nat} {vs vs' : List Value} (hv : All2 (VR ρ H.next) vs vs') {H' : AH} (h : writeA H b o vs = some H') :
    ∃ w', (storeCells ⟨ρ b, o, none⟩ vs').run P w = .ok () w' ∧ Sim N0 ρ H' w' ∧ Fr ρ H w ρ H' w' := by
  unfold writeA at h
  split at h
  case h_2 => cases h
  rename_i size tr elem fz hb
  obtain ⟨hc, rfl⟩ := bif_some h
  simp only [Bool.and_eq_true] at hc
  obtain ⟨⟨c1, c2⟩, c3⟩ := hc
  have c1' : o + vs.length ≤ size := Nat.le_of_ble_eq_true c1
  obtain ⟨_, o', ho, hr, hks⟩ := s.blk b _ hb
  have hlen := all2_length hv
  cases hr with
  | cells _ _ _ _ c' fz' hs hz hcell =>
    have hfz : ∀ j, o ≤ j → j < o + vs.length → ¬ (fz'.1 ≤ j ∧ j < fz'.2) := by
      intro j h1 h2
      cases fz with
      | none => exact hz j (by omega)
      | some z =>
        obtain ⟨lo, hi⟩ := z
        simp only [FzR] at hz
        subst hz
        simp only [Bool.or_eq_true] at c3
        rcases c3 with (c3 | c3) | c3
        · have := Nat.le_of_ble_eq_true c3; omega
        · have := Nat.le_of_ble_eq_true c3; omega
        · have := Nat.le_of_ble_eq_true c3; omega
    have hone : ∀ v ∈ vs', v.oneCell' = true := by
      intro v hv'
      obtain ⟨i, hi⟩ := List.getElem?_of_mem hv'
      have hi' : i < vs.length := by rw [hlen]; exact (List.getElem?_eq_some_iff.1 hi).1
      obtain ⟨y, hy, hr⟩ := all2_get hv (List.getElem?_eq_getElem hi')
      rw [hi] at hy
      cases hy
      exact oneA_rel hr (List.all_eq_true.1 c2 _ (List.getElem_mem hi'))
    obtain ⟨w', g1, g2, g3, g4, g5, g6, g7⟩ := run_storeCells (P := P) (ρ b) elem fz' o vs' 0 w c' ho (by omega) (fun j h1 h2 => hfz j (by omega) (by omega)) hone
    refine ⟨w', g1, ?_⟩
    refine sim_put s hb (o' := .cells (setArr c' (o + 0) vs') elem fz') ?_ (by simpa [SzR, size_setArr] using hks) g2 g3 g4 g5 g6 g7
    refine .cells _ _ _ _ _ _ (by rw [size_setArr]; exact hs) ?_ ?_
    · rw [size_setArr]; exact hz
    · intro i v hi hget
      rw [get_setArr _ _ _ _ (by omega)]
      rcases get_setTr _ _ _ _ _ hget with ⟨h1, h2⟩ | ⟨h1, h2⟩
      · have hlt : i - o < vs.length := (List.getElem?_eq_some_iff.1 h2).1
        obtain ⟨y, hy, hyr⟩ := all2_get hv h2
        rw [if_pos (by omega)]
        exact ⟨y, by simpa using hy, hyr⟩
      · rw [if_neg (by omega)]
        exact hcell i v hi h2

/-! ### store -/
def aStore (P : Program) (H : AH) (t : TypeId) (a v : Value) : Option AH :=
  match a with
  | .pointer (some ⟨b, o, _⟩) =>
    bif isTuple v then none else
    match szA P t with
    | some n => bif Nat.beq v.cells.size n then writeA H b o v.cells.toList else none
    | none => none
  | _ => none

theorem aStore_sound (s : Sim N0 ρ H w) {t : TypeId} {a a' v v' : Value} (ha : VR ρ H.next a a') (hv : VR ρ H.next v v') {H' : AH} (h : aStore P H t a v = some H') :
    EOk P N0 ρ H w (do Instr.storeAt t a' v'; pure .skip) undef H' := by
  unfold aStore at h
  split at h
  case h_2 => cases h
  rename_i b o sp
  obtain ⟨_, _, rfl⟩ := ha.inv_ptr
  cases ht : isTuple v <;> simp only [ht, cond_true, cond_false] at h
  case true => cases h
  split at h
  case h_2 => cases h
  rename_i n hn
  cases hb : Nat.beq v.cells.size n <;> simp only [hb, cond_true, cond_false] at h
  · cases h
  have hb' := Nat.eq_of_beq_eq_true hb
  have hc := (VR.cells hv ht).1
  obtain ⟨w', h1, h2, h3⟩ := writeA_sound (P := P) s hc.all2 h
  refine ⟨ρ, w', h2, h3, .inr ⟨?_, rfl⟩⟩
  have hsz : ¬ (v'.cells.size ≠ n) := by rw [← hc.1]; simpa using hb'
  simp only [Instr.storeAt, Instr.sureAddr, storeVar, Sem.run_bind, Sem.run_pure, Result.andThen_ok, run_sizeOf_of hn, Sem.run_ite, if_neg hsz, h1]

/-! ### map update -/
def aMapUpdate (P : Program) (N0 : Nat) (H : AH) (t : TypeId) (m k v : Value) : Option AH :=
  match P.underlying t with
  | some (.map kt _) =>
    match kindA (P.underlying kt), flat N0 k with
    | some kind, true =>
      match m with
      | .map (some r) =>
        match H.tr.get r with
        | some (.map es clock) =>
          match findA N0 kind k es 0 with
          | none => none
          | some (some (i, _)) =>
            match es[i]? with
            | some e => bif flat N0 e.1 && Instr.sameBits 10000 e.1 k then some (H.put r (.map (es.set i (k, v, e.2.2)) clock)) else none
            | none => none
          | some none => some (H.put r (.map (es ++ [(k, v, clock)]) (clock + 1)))
        | _ => none
      | _ => none
    | _, _ => none
  | _ => none

theorem all2_append {α β : Type} {R : α → β → Prop} {l l2 : List α} {m m2 : List β} (h : All2 R l m) (k : All2 R l2 m2) : All2 R (l ++ l2) (m ++ m2) := by
  induction h with
  | nil => exact k
  | cons hr _ ih => exact .cons hr ih

theorem all2_set {α β : Type} {R : α → β → Prop} {l : List α} {m : List β} (h : All2 R l m) : ∀ (i : Nat) {a : α} {b : β}, R a b → All2 R (l.set i a) (m.set i b) := by
  induction h with
  | nil => intro i a b _; exact .nil
  | cons hr ht ih =>
    intro i a b hab
    cases i with
    | zero => exact .cons hab ht
    | succ i => exact .cons hr (ih i hab)

theorem all2_modify {α β : Type} {R : α → β → Prop} {l : List α} {m : List β} (h : All2 R l m) : ∀ (i : Nat) {x : α} {f : β → β}, (∀ a b, l[i]? = some a → m[i]? = some b → R x (f b)) → All2 R (l.set i x) (m.modify i f) := by
  induction h with
  | nil => intro i x f _; simp; exact .nil
  | cons hr ht ih =>
    intro i x f hx
    cases i with
    | zero => simp; exact .cons (hx _ _ rfl rfl) ht
    | succ i => simp; exact .cons hr (ih i fun a b h1 h2 => hx a b (by simpa using h1) (by simpa using h2))

theorem aMapUpdate_sound (s : Sim N0 ρ H w) {t : TypeId} {m m' k k' v v' : Value} (hm : VR ρ H.next m m') (hk : VR ρ H.next k k') (hv : VR ρ H.next v v') {H' : AH} (h : aMapUpdate P N0 H t m k v = some H') :
    EOk P N0 ρ H w (do Instr.mapUpdate t m' k' v'; pure .skip) undef H' := by
  unfold aMapUpdate at h
  split at h
  case h_2 => cases h
  rename_i kt et ht
  split at h
  case h_2 => cases h
  rename_i kind hkd hf
  obtain rfl := flat_eq s.fix hk hf
  split at h
  case h_2 => cases h
  rename_i id
  split at h
  case h_2 => cases h
  rename_i es clock hid
  obtain ⟨_, rfl⟩ := hm.inv_map
  obtain ⟨hlt, o', ho, hr, hks⟩ := s.blk id _ hid
  have hsz : ρ id < w.heap.size := s.lt hid
  cases hr with
  | map _ _ es' hes =>
    have hget : (getObj (ρ id)).run P w = .ok (.map es' clock) w := by simp [getObj, Sem.run, ho]
    have hset : ∀ o2, (setObj (ρ id) o2).run P w = .ok () { w with heap := w.heap.setIfInBounds (ρ id) o2 } := by intro o2; simp [setObj, Sem.run, ho]
    have hck := run_checkKey_of (P := P) (w := w) hkd false 9999 k'
    have done : ∀ (o1 : AObj) (o2 : Obj), ObjR ρ H.next o1 o2 → SzR (ρ.k id) o2 → Sim N0 ρ (H.put id o1) { w with heap := w.heap.setIfInBounds (ρ id) o2 } ∧ Fr ρ H w ρ (H.put id o1) { w with heap := w.heap.setIfInBounds (ρ id) o2 } := by
      intro o1 o2 hr hz
      refine sim_put s hid hr hz ?_ ?_ (by simp) rfl rfl rfl
      · simp [hsz]
      · intro r hne; simp only; rw [Array.getElem?_setIfInBounds_ne (by omega)]
    split at h
    · cases h
    · rename_i i x hfd
      obtain ⟨x', h1, _, h3⟩ := findA_rel s.fix hes hfd
      obtain ⟨v0, rfl, hv0⟩ := h3 i x rfl
      have hfk := run_findKey_of hkd h1 w
      split at h
      case h_2 => cases h
      rename_i e he
      cases hsb : (flat N0 e.1 && Instr.sameBits 10000 e.1 k') <;> simp only [hsb, cond_true, cond_false] at h
      · cases h
      cases h
      simp only [Bool.and_eq_true] at hsb
      obtain ⟨e', he', hee⟩ := all2_get hes he
      have hke : e'.key = e.1 := flat_eq s.fix hee.1 hsb.1
      have he2 : es'[i]? = some e' := by simpa using he'
      obtain ⟨g1, g2⟩ := done (.map (es.set i (k', v, e.2.2)) clock) (.map (es'.modify i fun e => { e with key := k', val := v' }) clock) (.map _ _ _ (by
        rw [Array.toList_modify]
        refine all2_modify hes i fun a b h1 h2 => ⟨hk, hv, ?_⟩
        rw [he] at h1; rw [he'] at h2
        cases h1; cases h2
        exact hee.2.2)) trivial
      refine ⟨ρ, _, g1, g2, .inr ⟨?_, rfl⟩⟩
      have hkt : (Instr.keyThatStays e.1 k').run P w = .ok k' w := by simp [Instr.keyThatStays, hsb.2]
      simp only [Instr.mapUpdate, Sem.run_bind, run_underlying_of ht, Result.andThen_ok, hget, hck, hfk, he2, Option.map_some, Option.getD_some, hke, hkt, hset, Sem.run_pure]
    · rename_i hfd
      obtain ⟨x', h1, h2, _⟩ := findA_rel s.fix hes hfd
      obtain rfl := h2 rfl
      have hfk := run_findKey_of hkd h1 w
      cases h
      obtain ⟨g1, g2⟩ := done (.map (es ++ [(k', v, clock)]) (clock + 1)) (.map (es'.push { key := k', val := v', born := clock }) (clock + 1)) (.map _ _ _ (by
        rw [Array.toList_push]
        exact all2_append hes (.cons ⟨hk, hv, rfl⟩ .nil))) trivial
      refine ⟨ρ, _, g1, g2, .inr ⟨?_, rfl⟩⟩
      simp only [Instr.mapUpdate, Sem.run_bind, run_underlying_of ht, Result.andThen_ok, hget, hck, hfk, hset, Sem.run_pure]
end
end Go.Ax
