/-
  Ax1: a small abstract heap, and the relation between abstract and real values and worlds (own work, for closed runs).
-/
import Derived.Calls
import Derived.Defers
import Derived.Recover
import Derived.Orders
import Derived.KernelRfl
namespace Go.Ax
open Go

/-! ## A trie keyed by numbers -/
inductive Tr (α : Type) where
  | nil
  | leaf (n k : Nat) (v : α)
  | node (l r : Tr α)

namespace Tr
variable {α : Type}

def getAt : Tr α → Nat → Nat → Option α
  | .nil, _, _ => none
  | .leaf _ k v, _, j => bif Nat.beq k j then some v else none
  | .node l r, m, j => bif Nat.beq (m % 2) 0 then getAt l (m / 2) j else getAt r (m / 2) j

def setAt : Nat → Tr α → Nat → Nat → α → Tr α
  | 0, _, n, k, v => .leaf n k v
  | _ + 1, .nil, n, k, v => .leaf n k v
  | d + 1, .leaf n' k' v', n, k, v =>
    bif Nat.beq k' k then .leaf n k v else
    bif Nat.beq (n' % 2) 0 then
      bif Nat.beq (n % 2) 0 then .node (setAt d (.leaf (n' / 2) k' v') (n / 2) k v) .nil else .node (.leaf (n' / 2) k' v') (.leaf (n / 2) k v)
    else
      bif Nat.beq (n % 2) 0 then .node (.leaf (n / 2) k v) (.leaf (n' / 2) k' v') else .node .nil (setAt d (.leaf (n' / 2) k' v') (n / 2) k v)
  | d + 1, .node l r, n, k, v =>
    bif Nat.beq (n % 2) 0 then .node (setAt d l (n / 2) k v) r else .node l (setAt d r (n / 2) k v)

def delAt : Tr α → Nat → Nat → Tr α
  | .nil, _, _ => .nil
  | .leaf n' k v, _, j => bif Nat.beq k j then .nil else .leaf n' k v
  | .node l r, m, j => bif Nat.beq (m % 2) 0 then .node (delAt l (m / 2) j) r else .node l (delAt r (m / 2) j)

def get (t : Tr α) (k : Nat) : Option α := t.getAt k k
def set (t : Tr α) (k : Nat) (v : α) : Tr α := t.setAt 20 k k v
def del (t : Tr α) (k : Nat) : Tr α := t.delAt k k

theorem getAt_leaf {n k m j : Nat} {v x : α} (h : (Tr.leaf n k v).getAt m j = some x) : j = k ∧ x = v := by
  simp only [getAt] at h
  by_cases e : Nat.beq k j = true
  · simp only [e, cond_true, Option.some.injEq] at h
    exact ⟨(Nat.eq_of_beq_eq_true e).symm, h.symm⟩
  · simp only [Bool.not_eq_true] at e; simp [e] at h

theorem getAt_leaf_shift {n n' k m m' j : Nat} {v x : α} (h : (Tr.leaf n k v).getAt m j = some x) : (Tr.leaf n' k v).getAt m' j = some x := by
  simpa only [getAt] using h

theorem getAt_setAt : ∀ (d : Nat) (t : Tr α) (n k : Nat) (v : α) (m j : Nat) (x : α),
    (t.setAt d n k v).getAt m j = some x → (j = k ∧ x = v) ∨ t.getAt m j = some x := by
  intro d
  induction d with
  | zero => intro t n k v m j x h; exact .inl (getAt_leaf (by simpa only [setAt] using h))
  | succ d ih =>
    intro t n k v m j x h
    cases t with
    | nil => exact .inl (getAt_leaf (by simpa only [setAt] using h))
    | leaf n' k' v' =>
      simp only [setAt] at h
      cases hk : Nat.beq k' k <;> simp only [hk, cond_true, cond_false] at h
      case true => exact .inl (getAt_leaf h)
      cases h1 : Nat.beq (n' % 2) 0 <;> cases h2 : Nat.beq (n % 2) 0 <;> simp only [h1, h2, cond_true, cond_false] at h <;>
        (rw [getAt] at h; cases hm : Nat.beq (m % 2) 0 <;> simp only [hm, cond_true, cond_false] at h)
      all_goals first
        | (simp only [getAt] at h; cases h; done)
        | (rcases ih _ _ _ _ _ _ _ h with h | h
           · exact .inl h
           · exact .inr (getAt_leaf_shift h))
        | exact .inr (getAt_leaf_shift (n := n' / 2) h)
        | exact .inl (getAt_leaf h)
    | node l r =>
      simp only [setAt] at h
      cases h2 : Nat.beq (n % 2) 0 <;> simp only [h2, cond_true, cond_false] at h <;>
        (rw [getAt] at h ⊢; cases hm : Nat.beq (m % 2) 0 <;> simp only [hm, cond_true, cond_false] at h ⊢)
      all_goals first
        | exact ih _ _ _ _ _ _ _ h
        | exact .inr h

theorem getAt_setAt_same : ∀ (d : Nat) (t : Tr α) (n k : Nat) (v : α), (t.setAt d n k v).getAt n k = some v := by
  intro d
  induction d with
  | zero => intro t n k v; simp [setAt, getAt, Nat.beq_refl]
  | succ d ih =>
    intro t n k v
    cases t with
    | nil => simp [setAt, getAt, Nat.beq_refl]
    | leaf n' k' v' =>
      simp only [setAt]
      cases hk : Nat.beq k' k <;> simp only [cond_true, cond_false]
      case true => simp [getAt, Nat.beq_refl]
      cases h1 : Nat.beq (n' % 2) 0 <;> cases h2 : Nat.beq (n % 2) 0 <;> simp only [cond_true, cond_false] <;> rw [getAt] <;> simp only [h2, cond_true, cond_false] <;>
        first | exact ih _ _ _ _ | simp [getAt, Nat.beq_refl]
    | node l r =>
      simp only [setAt]
      cases h2 : Nat.beq (n % 2) 0 <;> simp only [cond_true, cond_false] <;> rw [getAt] <;> simp only [h2, cond_true, cond_false] <;> exact ih _ _ _ _

theorem get_set_same {t : Tr α} {k : Nat} {v : α} : (t.set k v).get k = some v := getAt_setAt_same _ _ _ _ _

theorem get_set {t : Tr α} {k : Nat} {v : α} {j : Nat} {x : α} (h : (t.set k v).get j = some x) : (j = k ∧ x = v) ∨ t.get j = some x :=
  getAt_setAt _ _ _ _ _ _ _ _ h

theorem getAt_delAt : ∀ (t : Tr α) (n k m j : Nat) (x : α), (t.delAt n k).getAt m j = some x → t.getAt m j = some x := by
  intro t
  induction t with
  | nil => intro n k m j x h; simpa only [delAt] using h
  | leaf n' k' v' =>
    intro n k m j x h
    simp only [delAt] at h
    cases hk : Nat.beq k' k <;> simp only [hk, cond_true, cond_false] at h
    · exact h
    · simp [getAt] at h
  | node l r ihl ihr =>
    intro n k m j x h
    simp only [delAt] at h
    cases h2 : Nat.beq (n % 2) 0 <;> simp only [h2, cond_true, cond_false] at h <;>
      (rw [getAt] at h ⊢; cases hm : Nat.beq (m % 2) 0 <;> simp only [hm, cond_true, cond_false] at h ⊢)
    all_goals first
      | exact h
      | exact ihl _ _ _ _ _ h
      | exact ihr _ _ _ _ _ h

theorem getAt_delAt_same : ∀ (t : Tr α) (n k : Nat), (t.delAt n k).getAt n k = none := by
  intro t
  induction t with
  | nil => intro n k; rfl
  | leaf n' k' v' =>
    intro n k
    simp only [delAt]
    cases hk : Nat.beq k' k <;> simp [getAt, hk]
  | node l r ihl ihr =>
    intro n k
    simp only [delAt]
    cases h2 : Nat.beq (n % 2) 0 <;> simp [getAt, h2, ihl, ihr]

theorem get_del {t : Tr α} {k j : Nat} {x : α} (h : (t.del k).get j = some x) : j ≠ k ∧ t.get j = some x := by
  refine ⟨fun e => ?_, getAt_delAt _ _ _ _ _ _ h⟩
  subst e
  rw [get, del, getAt_delAt_same] at h
  cases h

theorem get_nil {j : Nat} {x : α} (h : (Tr.nil : Tr α).get j = some x) : False := by cases h

def ofListFrom : Nat → List α → Tr α → Tr α
  | _, [], t => t
  | i, x :: xs, t => ofListFrom (i + 1) xs (t.set i x)
def ofList (l : List α) : Tr α := ofListFrom 0 l .nil

theorem get_ofListFrom : ∀ (l : List α) (i : Nat) (t : Tr α) (j : Nat) (x : α), (ofListFrom i l t).get j = some x → (i ≤ j ∧ l[j - i]? = some x) ∨ t.get j = some x := by
  intro l
  induction l with
  | nil => intro i t j x h; exact .inr h
  | cons y ys ih =>
    intro i t j x h
    rcases ih _ _ _ _ h with ⟨h1, h2⟩ | h
    · refine .inl ⟨by omega, ?_⟩
      have : j - i = (j - (i + 1)) + 1 := by omega
      rw [this, List.getElem?_cons_succ]; exact h2
    · rcases get_set h with ⟨rfl, rfl⟩ | h
      · exact .inl ⟨Nat.le_refl _, by simp⟩
      · exact .inr h

theorem get_ofList {l : List α} {j : Nat} {x : α} (h : (ofList l).get j = some x) : l[j]? = some x := by
  rcases get_ofListFrom _ _ _ _ _ h with ⟨_, h⟩ | h
  · simpa using h
  · exact (get_nil h).elim
end Tr

/-! ## Values -/
/-- Where a block lies in the real world, and how many cells it has there. -/
structure Ren where
  b : Nat → Nat
  k : Nat → Nat
instance : CoeFun Ren (fun _ => Nat → Nat) := ⟨Ren.b⟩

def Agree (N : Nat) (ρ ρ' : Ren) : Prop := ∀ i, i < N → ρ' i = ρ i ∧ ρ'.k i = ρ.k i

/-- From here on a capacity is not known: it says 'at least c % BIG, of c / BIG cells each, and the block bears them'. -/
def BIG : Nat := 1180591620717411303424

def CapR (k o c c' : Nat) : Prop := (c < BIG ∧ c' = c) ∨ (BIG ≤ c ∧ c % BIG ≤ c' ∧ o + c' * (c / BIG) ≤ k)

inductive VR (ρ : Ren) (N : Nat) : Value → Value → Prop where
  | top (v : Value) : VR ρ N undef v
  | skip : VR ρ N (.float .f32 1267650600228229401496703205376) undef
  | bool (b : Bool) : VR ρ N (.bool b) (.bool b)
  | int (k : IntKind) (n : Int) : VR ρ N (.int k n) (.int k n)
  | float (k : FloatKind) (n : Nat) : VR ρ N (.float k n) (.float k n)
  | complex (k : FloatKind) (a b : Nat) : VR ρ N (.complex k a b) (.complex k a b)
  | string (s : ByteArray) : VR ρ N (.string s) (.string s)
  | nilFunc : VR ρ N .nilFunc .nilFunc
  | nilIface : VR ρ N .nilIface .nilIface
  | pnil : VR ρ N (.pointer none) (.pointer none)
  | mapnil : VR ρ N (.map none) (.map none)
  | channil : VR ρ N (.chan none) (.chan none)
  | slnil (l c : Nat) : VR ρ N (.slice none l c) (.slice none l c)
  | ptr (b o : Nat) (h : b < N) : VR ρ N (.pointer (some ⟨b, o, none⟩)) (.pointer (some ⟨ρ b, o, none⟩))
  | sl (b o l c c' : Nat) (h : b < N) (hc : CapR (ρ.k b) o c c') : VR ρ N (.slice (some ⟨b, o, none⟩) l c) (.slice (some ⟨ρ b, o, none⟩) l c')
  | slz (b o' c' : Nat) (h : b < N) : VR ρ N (.slice (some ⟨b, BIG, none⟩) 0 BIG) (.slice (some ⟨ρ b, o', none⟩) 0 c')
  | map (r : Nat) (h : r < N) : VR ρ N (.map (some r)) (.map (some (ρ r)))
  | chan (r : Nat) (h : r < N) : VR ρ N (.chan (some r)) (.chan (some (ρ r)))
  | func (fn : Fn) (a a' c c' : Array Value) (ha : a.size = a'.size) (hc : c.size = c'.size)
      (ra : ∀ (i : Nat) (h : i < a.size) (h' : i < a'.size), VR ρ N a[i] a'[i]) (rc : ∀ (i : Nat) (h : i < c.size) (h' : i < c'.size), VR ρ N c[i] c'[i]) :
      VR ρ N (.func fn a c) (.func fn a' c')
  | iface (t : TypeId) (v v' : Value) (r : VR ρ N v v') : VR ρ N (.iface t v) (.iface t v')
  | agg (a a' : Array Value) (ha : a.size = a'.size) (ra : ∀ (i : Nat) (h : i < a.size) (h' : i < a'.size), VR ρ N a[i] a'[i]) : VR ρ N (.agg a) (.agg a')
  | tuple (a a' : Array Value) (ha : a.size = a'.size) (ra : ∀ (i : Nat) (h : i < a.size) (h' : i < a'.size), VR ρ N a[i] a'[i]) : VR ρ N (.tuple a) (.tuple a')

/-- The mark of an operation that was not wanted. -/
def SKIP : Value := .float .f32 1267650600228229401496703205376

/-- Rows of values. -/
def AR (ρ : Ren) (N : Nat) (a a' : Array Value) : Prop := a.size = a'.size ∧ ∀ (i : Nat) (h : i < a.size) (h' : i < a'.size), VR ρ N a[i] a'[i]

theorem VR.mono {ρ ρ' : Ren} {N N' : Nat} (hN : N ≤ N') (he : Agree N ρ ρ') {v v' : Value} (h : VR ρ N v v') : VR ρ' N' v v' := by
  induction h with
  | top v => exact .top v
  | skip => exact .skip
  | bool b => exact .bool b
  | int k n => exact .int k n
  | float k n => exact .float k n
  | complex k a b => exact .complex k a b
  | string s => exact .string s
  | nilFunc => exact .nilFunc
  | nilIface => exact .nilIface
  | pnil => exact .pnil
  | mapnil => exact .mapnil
  | channil => exact .channil
  | slnil l c => exact .slnil l c
  | ptr b o h => rw [← (he b h).1]; exact .ptr b o (Nat.lt_of_lt_of_le h hN)
  | sl b o l c c' h hc => rw [← (he b h).1]; exact .sl b o l c c' (Nat.lt_of_lt_of_le h hN) ((he b h).2 ▸ hc)
  | slz b o' c' h => rw [← (he b h).1]; exact .slz b o' c' (Nat.lt_of_lt_of_le h hN)
  | map r h => rw [← (he r h).1]; exact .map r (Nat.lt_of_lt_of_le h hN)
  | chan r h => rw [← (he r h).1]; exact .chan r (Nat.lt_of_lt_of_le h hN)
  | func fn a a' c c' ha hc _ _ ia ic => exact .func fn a a' c c' ha hc ia ic
  | iface t v v' _ ih => exact .iface t v v' ih
  | agg a a' ha _ ih => exact .agg a a' ha ih
  | tuple a a' ha _ ih => exact .tuple a a' ha ih

theorem AR.mono {ρ ρ' : Ren} {N N' : Nat} (hN : N ≤ N') (he : Agree N ρ ρ') {v v' : Array Value} (h : AR ρ N v v') : AR ρ' N' v v' :=
  ⟨h.1, fun i h1 h2 => (h.2 i h1 h2).mono hN he⟩

theorem AR.get {ρ : Ren} {N : Nat} {a a' : Array Value} (h : AR ρ N a a') {i : Nat} {v : Value} (hv : a[i]? = some v) : ∃ v', a'[i]? = some v' ∧ VR ρ N v v' := by
  obtain ⟨hi, rfl⟩ := Array.getElem?_eq_some_iff.1 hv
  have hi' : i < a'.size := h.1 ▸ hi
  exact ⟨a'[i], Array.getElem?_eq_getElem hi', h.2 i hi hi'⟩

theorem AR.nil {ρ : Ren} {N : Nat} : AR ρ N #[] #[] := ⟨rfl, fun i h => absurd h (by simp)⟩

theorem AR.push {ρ : Ren} {N : Nat} {a a' : Array Value} (h : AR ρ N a a') {v v' : Value} (hv : VR ρ N v v') : AR ρ N (a.push v) (a'.push v') := by
  refine ⟨by simp [h.1], fun i h1 h2 => ?_⟩
  simp only [Array.getElem_push]
  have hs := h.1
  by_cases e : i < a.size
  · rw [dif_pos e, dif_pos (hs ▸ e)]; exact h.2 i e (hs ▸ e)
  · rw [dif_neg e, dif_neg (hs ▸ e)]; exact hv

theorem AR.append {ρ : Ren} {N : Nat} {a a' b b' : Array Value} (h : AR ρ N a a') (k : AR ρ N b b') : AR ρ N (a ++ b) (a' ++ b') := by
  refine ⟨by simp [h.1, k.1], fun i h1 h2 => ?_⟩
  have hs := h.1
  simp only [Array.getElem_append]
  by_cases e : i < a.size
  · rw [dif_pos e, dif_pos (hs ▸ e)]; exact h.2 i e (hs ▸ e)
  · rw [dif_neg e, dif_neg (hs ▸ e)]
    simp only [← hs]
    exact k.2 _ _ _

theorem AR.set {ρ : Ren} {N : Nat} {a a' : Array Value} (h : AR ρ N a a') {v v' : Value} (hv : VR ρ N v v') (j : Nat) : AR ρ N (a.setIfInBounds j v) (a'.setIfInBounds j v') := by
  refine ⟨by simp [h.1], fun i h1 h2 => ?_⟩
  have g1 : i < a.size := by simpa using h1
  have g2 : i < a'.size := by simpa using h2
  rw [Array.getElem_setIfInBounds g1, Array.getElem_setIfInBounds g2]
  split
  · exact hv
  · exact h.2 i g1 g2

theorem AR.extract {ρ : Ren} {N : Nat} {a a' : Array Value} (h : AR ρ N a a') (i j : Nat) : AR ρ N (a.extract i j) (a'.extract i j) := by
  refine ⟨by simp [h.1], fun k h1 h2 => ?_⟩
  rw [Array.getElem_extract, Array.getElem_extract]
  exact h.2 _ _ _

theorem AR.singleton {ρ : Ren} {N : Nat} {v v' : Value} (hv : VR ρ N v v') : AR ρ N #[v] #[v'] := by
  refine ⟨rfl, fun i h1 _ => ?_⟩
  have : i = 0 := by simpa using h1
  subst this; exact hv

theorem AR.map {ρ : Ren} {N : Nat} {α : Type} (l : Array α) (f f' : α → Value) (h : ∀ x ∈ l, VR ρ N (f x) (f' x)) : AR ρ N (l.map f) (l.map f') := by
  refine ⟨by simp, fun i h1 h2 => ?_⟩
  simp only [Array.getElem_map]
  exact h _ (Array.getElem_mem _)

/-! ## Flat values: they hold no address but of a fixed block -/
def flatD (N0 : Nat) : Nat → Value → Bool
  | _, .bool _ | _, .int .. | _, .complex .. | _, .string _ | _, .nilFunc | _, .nilIface | _, .pointer none | _, .map none | _, .chan none | _, .slice none _ _ => true
  | _, .float _ n => Nat.blt n 18446744073709551616
  | _, .pointer (some ⟨b, _, none⟩) => Nat.blt b N0
  | d + 1, .iface _ v => flatD N0 d v
  | d + 1, .agg a => a.toList.all (flatD N0 d)
  | d + 1, .tuple a => (!a.toList.isEmpty) && a.toList.all (flatD N0 d)
  | d + 1, .func _ a c => a.toList.all (flatD N0 d) && c.toList.all (flatD N0 d)
  | _, _ => false
def flat (N0 : Nat) (v : Value) : Bool := flatD N0 8 v

theorem all_get {p : Value → Bool} {a : Array Value} (h : a.toList.all p = true) (i : Nat) (hi : i < a.size) : p a[i] = true :=
  List.all_eq_true.1 h _ (Array.mem_toList_iff.2 (Array.getElem_mem hi))

theorem flatD_self {N0 : Nat} {ρ : Ren} {N : Nat} (hN : N0 ≤ N) (fix : ∀ i, i < N0 → ρ i = i) : ∀ (d : Nat) (v : Value), flatD N0 d v = true → VR ρ N v v := by
  intro d
  induction d with
  | zero =>
    intro v h
    cases v with
    | bool b => exact .bool b
    | int k n => exact .int k n
    | float k n => exact .float k n
    | complex k a b => exact .complex k a b
    | string s => exact .string s
    | nilFunc => exact .nilFunc
    | nilIface => exact .nilIface
    | pointer a =>
      cases a with
      | none => exact .pnil
      | some a =>
        obtain ⟨b, o, s⟩ := a
        cases s with
        | none =>
          have hb : b < N0 := by simpa [flatD, Nat.blt_eq] using h
          have := VR.ptr (ρ := ρ) (N := N) b o (Nat.lt_of_lt_of_le hb hN)
          rwa [fix b hb] at this
        | some s => simp [flatD] at h
    | map r => cases r with
      | none => exact .mapnil
      | some r => simp [flatD] at h
    | chan r => cases r with
      | none => exact .channil
      | some r => simp [flatD] at h
    | slice a l c => cases a with
      | none => exact .slnil l c
      | some a => simp [flatD] at h
    | func _ _ _ => simp [flatD] at h
    | iface _ _ => simp [flatD] at h
    | agg _ => simp [flatD] at h
    | tuple _ => simp [flatD] at h
  | succ d ih =>
    intro v h
    cases v with
    | bool b => exact .bool b
    | int k n => exact .int k n
    | float k n => exact .float k n
    | complex k a b => exact .complex k a b
    | string s => exact .string s
    | nilFunc => exact .nilFunc
    | nilIface => exact .nilIface
    | pointer a =>
      cases a with
      | none => exact .pnil
      | some a =>
        obtain ⟨b, o, s⟩ := a
        cases s with
        | none =>
          have hb : b < N0 := by simpa [flatD, Nat.blt_eq] using h
          have := VR.ptr (ρ := ρ) (N := N) b o (Nat.lt_of_lt_of_le hb hN)
          rwa [fix b hb] at this
        | some s => simp [flatD] at h
    | map r => cases r with
      | none => exact .mapnil
      | some r => simp [flatD] at h
    | chan r => cases r with
      | none => exact .channil
      | some r => simp [flatD] at h
    | slice a l c => cases a with
      | none => exact .slnil l c
      | some a => simp [flatD] at h
    | func fn a c =>
      simp only [flatD, Bool.and_eq_true] at h
      exact .func fn a a c c rfl rfl (fun i h1 _ => ih _ (all_get h.1 i h1)) (fun i h1 _ => ih _ (all_get h.2 i h1))
    | iface t v => exact .iface t v v (ih v (by simpa [flatD] using h))
    | agg a => exact .agg a a rfl fun i h1 _ => ih _ (all_get (by simpa only [flatD] using h) i h1)
    | tuple a =>
      simp only [flatD, Bool.and_eq_true] at h
      exact .tuple a a rfl fun i h1 _ => ih _ (all_get h.2 i h1)

theorem flatD_eq {N0 : Nat} {ρ : Ren} {N : Nat} (fix : ∀ i, i < N0 → ρ i = i) : ∀ (d : Nat) (v v' : Value), VR ρ N v v' → flatD N0 d v = true → v' = v := by
  intro d
  induction d with
  | zero =>
    intro v v' r h
    cases r <;> first | rfl | (simp [flatD, undef] at h; done) | (simp only [flatD] at h; exact absurd h (by decide)) | skip
    case ptr b o hb =>
      have hb : b < N0 := by simpa [flatD, Nat.blt_eq] using h
      rw [fix b hb]
  | succ d ih =>
    intro v v' r h
    cases r with
    | top => simp [flatD, undef] at h
    | skip => simp only [flatD] at h; exact absurd h (by decide)
    | ptr b o hb =>
      have hb : b < N0 := by simpa [flatD, Nat.blt_eq] using h
      rw [fix b hb]
    | sl => simp [flatD] at h
    | slz => simp [flatD] at h
    | map => simp [flatD] at h
    | chan => simp [flatD] at h
    | iface t v v' r => rw [ih v v' r (by simpa [flatD] using h)]
    | func fn a a' c c' ha hc ra rc =>
      simp only [flatD, Bool.and_eq_true] at h
      have ea : a' = a := Array.ext ha.symm fun i h1 h2 => ih _ _ (ra i h2 h1) (all_get h.1 i h2)
      have ec : c' = c := Array.ext hc.symm fun i h1 h2 => ih _ _ (rc i h2 h1) (all_get h.2 i h2)
      rw [ea, ec]
    | agg a a' ha ra =>
      simp only [flatD] at h
      have ea : a' = a := Array.ext ha.symm fun i h1 h2 => ih _ _ (ra i h2 h1) (all_get h i h2)
      rw [ea]
    | tuple a a' ha ra =>
      simp only [flatD, Bool.and_eq_true] at h
      have ea : a' = a := Array.ext ha.symm fun i h1 h2 => ih _ _ (ra i h2 h1) (all_get h.2 i h2)
      rw [ea]
    | _ => rfl

theorem flat_self {N0 : Nat} {ρ : Ren} {N : Nat} (hN : N0 ≤ N) (fix : ∀ i, i < N0 → ρ i = i) {v : Value} (h : flat N0 v = true) : VR ρ N v v := flatD_self hN fix _ v h
theorem flat_eq {N0 : Nat} {ρ : Ren} {N : Nat} (fix : ∀ i, i < N0 → ρ i = i) {v v' : Value} (r : VR ρ N v v') (h : flat N0 v = true) : v' = v := flatD_eq fix _ v v' r h

/-! ## Blocks and heaps -/
inductive AObj where
  | cells (size : Nat) (tr : Tr Value) (elem : TypeId) (fz : Option (Nat × Nat))
  | map (es : List (Value × Value × Nat)) (clock : Nat)
  | chan (cap : Nat) (closed : Bool) (sent received : Nat) (timer : Bool)
  | strIter (s : ByteArray) (pos : Nat)
  | anyInt (n : Int) (t : TypeId) (fz : Nat × Nat)

def FzR (fz : Option (Nat × Nat)) (fz' : Nat × Nat) (size' : Nat) : Prop :=
  match fz with
  | some z => fz' = z
  | none => ∀ i, i < size' → ¬ (fz'.1 ≤ i ∧ i < fz'.2)

inductive All2 {α β : Type} (R : α → β → Prop) : List α → List β → Prop where
  | nil : All2 R [] []
  | cons {a : α} {b : β} {l : List α} {m : List β} (h : R a b) (t : All2 R l m) : All2 R (a :: l) (b :: m)

theorem all2_imp {α β : Type} {R S : α → β → Prop} (h : ∀ a b, R a b → S a b) {l : List α} {m : List β} (k : All2 R l m) : All2 S l m := by
  induction k with
  | nil => exact .nil
  | cons r _ ih => exact .cons (h _ _ r) ih

def EntR (ρ : Ren) (N : Nat) (e : Value × Value × Nat) (e' : MapEntry) : Prop := VR ρ N e.1 e'.key ∧ VR ρ N e.2.1 e'.val ∧ e'.born = e.2.2

inductive ObjR (ρ : Ren) (N : Nat) : AObj → Obj → Prop where
  | cells (size : Nat) (tr : Tr Value) (elem : TypeId) (fz : Option (Nat × Nat)) (c' : Array Value) (fz' : Nat × Nat) (hs : size ≤ c'.size) (hz : FzR fz fz' c'.size)
      (h : ∀ i v, i < size → tr.get i = some v → ∃ v', c'[i]? = some v' ∧ VR ρ N v v') : ObjR ρ N (.cells size tr elem fz) (.cells c' elem fz')
  | map (es : List (Value × Value × Nat)) (clock : Nat) (es' : Array MapEntry) (h : All2 (EntR ρ N) es es'.toList) : ObjR ρ N (.map es clock) (.map es' clock)
  | chan (cap : Nat) (closed : Bool) (sent received : Nat) (timer : Bool) : ObjR ρ N (.chan cap closed sent received timer) (.chan cap #[] closed sent received timer)
  | strIter (s : ByteArray) (pos : Nat) : ObjR ρ N (.strIter s pos) (.stringIter s pos)
  | anyInt (n : Int) (t : TypeId) (fz : Nat × Nat) : ObjR ρ N (.anyInt n t fz) (.cells #[.int .i64 n] t fz)


theorem ObjR.mono {ρ ρ' : Ren} {N N' : Nat} (hN : N ≤ N') (he : Agree N ρ ρ') {o : AObj} {o' : Obj} (h : ObjR ρ N o o') : ObjR ρ' N' o o' := by
  cases h with
  | cells size tr elem fz c' fz' hs hz h => exact .cells size tr elem fz c' fz' hs hz fun i v h1 h2 => let ⟨v', h3, h4⟩ := h i v h1 h2; ⟨v', h3, h4.mono hN he⟩
  | map es clock es' h => exact .map es clock es' (all2_imp (fun _ _ r => ⟨r.1.mono hN he, r.2.1.mono hN he, r.2.2⟩) h)
  | chan cap closed sent received timer => exact .chan cap closed sent received timer
  | strIter s pos => exact .strIter s pos
  | anyInt n t fz => exact .anyInt n t fz

def SzR (k : Nat) : Obj → Prop
  | .cells c _ _ => c.size = k
  | _ => True

structure AH where
  next : Nat
  tr : Tr AObj

/-- The real world w shows all that the abstract heap H tells. -/
structure Sim (N0 : Nat) (ρ : Ren) (H : AH) (w : World) : Prop where
  blk : ∀ id o, H.tr.get id = some o → id < H.next ∧ ∃ o', w.heap[ρ id]? = some o' ∧ ObjR ρ H.next o o' ∧ SzR (ρ.k id) o'
  inj : ∀ i j o p, H.tr.get i = some o → H.tr.get j = some p → ρ i = ρ j → i = j
  fix : ∀ i, i < N0 → ρ i = i
  low : N0 ≤ H.next

/-- What a step may do besides. -/
structure Fr (ρ : Ren) (H : AH) (w : World) (ρ' : Ren) (H' : AH) (w' : World) : Prop where
  agree : Agree H.next ρ ρ'
  next : H.next ≤ H'.next
  kept : ∀ r, r < w.heap.size → (∀ id o, H.tr.get id = some o → ρ id ≠ r) → w'.heap[r]? = w.heap[r]?
  dom : ∀ id o, H'.tr.get id = some o → (∃ j p, H.tr.get j = some p ∧ ρ j = ρ' id) ∨ w.heap.size ≤ ρ' id
  size : w.heap.size ≤ w'.heap.size
  os : w'.os = w.os
  tape : w'.tape = w.tape
  output : w'.output = w.output

theorem Fr.refl (ρ : Ren) (H : AH) (w : World) : Fr ρ H w ρ H w :=
  ⟨fun _ _ => ⟨rfl, rfl⟩, Nat.le_refl _, fun _ _ _ => rfl, fun id o h => .inl ⟨id, o, h, rfl⟩, Nat.le_refl _, rfl, rfl, rfl⟩

theorem Fr.trans {ρ ρ' ρ'' : Ren} {H H' H'' : AH} {w w' w'' : World} (a : Fr ρ H w ρ' H' w') (b : Fr ρ' H' w' ρ'' H'' w'') : Fr ρ H w ρ'' H'' w'' where
  agree i hi := ⟨(b.agree i (Nat.lt_of_lt_of_le hi a.next)).1.trans (a.agree i hi).1, (b.agree i (Nat.lt_of_lt_of_le hi a.next)).2.trans (a.agree i hi).2⟩
  next := Nat.le_trans a.next b.next
  kept r hr hd := by
    rw [b.kept r (Nat.lt_of_lt_of_le hr a.size) ?_, a.kept r hr hd]
    intro id o ho e
    rcases a.dom id o ho with ⟨j, p, hj, e'⟩ | h
    · exact hd j p hj (e'.trans e)
    · omega
  dom id o ho := by
    rcases b.dom id o ho with ⟨j, p, hj, e⟩ | h
    · rcases a.dom j p hj with ⟨i, q, hi, e'⟩ | h'
      · exact .inl ⟨i, q, hi, e'.trans e⟩
      · exact .inr (e ▸ h')
    · exact .inr (Nat.le_trans a.size h)
  size := Nat.le_trans a.size b.size
  os := b.os.trans a.os
  tape := b.tape.trans a.tape
  output := b.output.trans a.output

theorem Fr.vr {ρ ρ' : Ren} {H H' : AH} {w w' : World} (a : Fr ρ H w ρ' H' w') {v v' : Value} (h : VR ρ H.next v v') : VR ρ' H'.next v v' := h.mono a.next a.agree
theorem Fr.ar {ρ ρ' : Ren} {H H' : AH} {w w' : World} (a : Fr ρ H w ρ' H' w') {v v' : Array Value} (h : AR ρ H.next v v') : AR ρ' H'.next v v' := h.mono a.next a.agree

theorem Sim.lt {N0 : Nat} {ρ : Ren} {H : AH} {w : World} (s : Sim N0 ρ H w) {id : Nat} {o : AObj} (h : H.tr.get id = some o) : ρ id < w.heap.size := by
  obtain ⟨_, o', ho, _, _⟩ := s.blk id o h
  exact (Array.getElem?_eq_some_iff.1 ho).1

/-- A draw turns nothing. -/
theorem Sim.drawn {N0 : Nat} {ρ : Ren} {H : AH} {w : World} (s : Sim N0 ρ H w) (n : Nat) : Sim N0 ρ H { w with drawn := n } := ⟨s.blk, s.inj, s.fix, s.low⟩
theorem Fr.drawn (ρ : Ren) (H : AH) (w : World) (n : Nat) : Fr ρ H w ρ H { w with drawn := n } :=
  ⟨fun _ _ => ⟨rfl, rfl⟩, Nat.le_refl _, fun _ _ _ => rfl, fun id o h => .inl ⟨id, o, h, rfl⟩, Nat.le_refl _, rfl, rfl, rfl⟩

/-- A new block. -/
def AH.alloc (H : AH) (o : AObj) : AH := { next := H.next + 1, tr := H.tr.set H.next o }
def ext (ρ : Ren) (n r k : Nat) : Ren := ⟨fun i => bif Nat.beq i n then r else ρ i, fun i => bif Nat.beq i n then k else ρ.k i⟩
theorem ext_same (ρ : Ren) (n r k : Nat) : ext ρ n r k n = r := by simp [ext]
theorem ext_k (ρ : Ren) (n r k : Nat) : (ext ρ n r k).k n = k := by simp [ext]
theorem ext_agree (ρ : Ren) {n r k : Nat} : Agree n ρ (ext ρ n r k) := by
  intro i h
  have : Nat.beq i n = false := by
    cases e : Nat.beq i n
    · rfl
    · have := Nat.eq_of_beq_eq_true e; omega
  simp [ext, this]

def objSize : Obj → Nat
  | .cells c _ _ => c.size
  | _ => 0
theorem szR_objSize (o : Obj) : SzR (objSize o) o := by cases o <;> simp [SzR, objSize]

/-- A new block of the abstract heap, whose real one lies where no other does. -/
theorem sim_new {N0 : Nat} {ρ : Ren} {H : AH} {w w' : World} (s : Sim N0 ρ H w) {o : AObj} {o' : Obj} {r : Nat} (ho : ObjR ρ H.next o o') (hw : w'.heap[r]? = some o')
    (hold : ∀ i p, H.tr.get i = some p → ρ i ≠ r) (hk : ∀ k, k ≠ r → k < w.heap.size → w'.heap[k]? = w.heap[k]?) :
    Sim N0 (ext ρ H.next r (objSize o')) (H.alloc o) w' := by
  have ag : Agree H.next ρ (ext ρ H.next r (objSize o')) := ext_agree ρ
  have hblk : ∀ id p, (H.alloc o).tr.get id = some p → (id = H.next ∧ p = o) ∨ (H.tr.get id = some p ∧ id < H.next) := by
    intro id p h
    by_cases e : id = H.next
    · subst e
      have := Tr.get_set_same (t := H.tr) (k := H.next) (v := o)
      exact .inl ⟨rfl, Option.some.inj (h.symm.trans this)⟩
    · rcases Tr.get_set h with h | h
      · exact absurd h.1 e
      · exact .inr ⟨h, (s.blk id p h).1⟩
  refine ⟨?_, ?_, ?_, Nat.le_succ_of_le s.low⟩
  · intro id p h
    rcases hblk id p h with ⟨rfl, rfl⟩ | ⟨h, hlt⟩
    · refine ⟨Nat.lt_succ_self _, o', ?_, ho.mono (Nat.le_succ _) ag, ?_⟩
      · rw [ext_same]; exact hw
      · rw [ext_k]; exact szR_objSize o'
    · obtain ⟨_, q, hq, hr, hz⟩ := s.blk id p h
      refine ⟨Nat.lt_succ_of_lt hlt, q, ?_, hr.mono (Nat.le_succ _) ag, ?_⟩
      · rw [(ag id hlt).1, hk _ (hold id p h) (s.lt h)]; exact hq
      · rw [(ag id hlt).2]; exact hz
  · intro i j p q gi gj e
    rcases hblk i p gi with ⟨ei, _⟩ | ⟨hi, hli⟩ <;> rcases hblk j q gj with ⟨ej, _⟩ | ⟨hj, hlj⟩
    · rw [ei, ej]
    · rw [ei, ext_same, (ag j hlj).1] at e; exact absurd e.symm (hold j q hj)
    · rw [ej, ext_same, (ag i hli).1] at e; exact absurd e (hold i p hi)
    · rw [(ag i hli).1, (ag j hlj).1] at e; exact s.inj i j p q hi hj e
  · intro i hi; rw [(ag i (Nat.lt_of_lt_of_le hi s.low)).1]; exact s.fix i hi

theorem sim_alloc {N0 : Nat} {ρ : Ren} {H : AH} {w : World} (s : Sim N0 ρ H w) {o : AObj} {o' : Obj} (ho : ObjR ρ H.next o o') :
    Sim N0 (ext ρ H.next w.heap.size (objSize o')) (H.alloc o) { w with heap := w.heap.push o' } ∧ Fr ρ H w (ext ρ H.next w.heap.size (objSize o')) (H.alloc o) { w with heap := w.heap.push o' } := by
  refine ⟨sim_new s ho (by simp) (fun i p h e => by have := s.lt h; omega) (fun k _ hk => by simp only [Array.getElem?_push]; rw [if_neg (by omega)]), ⟨ext_agree ρ, Nat.le_succ _, ?_, ?_, by simp, rfl, rfl, rfl⟩⟩
  · intro r hr _
    simp only [Array.getElem?_push]
    rw [if_neg (by omega)]
  · intro id p h
    by_cases e : id = H.next
    · subst e; right; rw [ext_same]; exact Nat.le_refl _
    · rcases Tr.get_set h with h | h
      · exact absurd h.1 e
      · left; exact ⟨id, p, h, ((ext_agree ρ) id (s.blk id p h).1).1.symm⟩

/-- A block turns. -/
def AH.put (H : AH) (id : Nat) (o : AObj) : AH := { H with tr := H.tr.set id o }

theorem sim_put {N0 : Nat} {ρ : Ren} {H : AH} {w w' : World} (s : Sim N0 ρ H w) {id : Nat} {o p : AObj} {o' : Obj} (hid : H.tr.get id = some p) (ho : ObjR ρ H.next o o') (hz : SzR (ρ.k id) o')
    (hw : w'.heap[ρ id]? = some o') (hk : ∀ r, r ≠ ρ id → w'.heap[r]? = w.heap[r]?) (hsz : w'.heap.size = w.heap.size) (hos : w'.os = w.os) (htp : w'.tape = w.tape) (hout : w'.output = w.output) :
    Sim N0 ρ (H.put id o) w' ∧ Fr ρ H w ρ (H.put id o) w' := by
  have hblk : ∀ i q, (H.put id o).tr.get i = some q → (i = id ∧ q = o) ∨ (i ≠ id ∧ H.tr.get i = some q) := by
    intro i q h
    by_cases e : i = id
    · subst e
      have := Tr.get_set_same (t := H.tr) (k := i) (v := o)
      exact .inl ⟨rfl, Option.some.inj (h.symm.trans this)⟩
    · rcases Tr.get_set h with h | h
      · exact absurd h.1 e
      · exact .inr ⟨e, h⟩
  have hlt := (s.blk id p hid).1
  refine ⟨⟨?_, ?_, s.fix, s.low⟩, ⟨fun _ _ => ⟨rfl, rfl⟩, Nat.le_refl _, ?_, ?_, by omega, hos, htp, hout⟩⟩
  · intro i q h
    rcases hblk i q h with ⟨rfl, rfl⟩ | ⟨hne, h⟩
    · exact ⟨hlt, o', hw, ho, hz⟩
    · obtain ⟨h1, q', h2, h3⟩ := s.blk i q h
      refine ⟨h1, q', ?_, h3⟩
      rw [hk _ (fun e => hne (s.inj i id q p h hid e))]; exact h2
  · intro i j q r gi gj e
    rcases hblk i q gi with ⟨ei, _⟩ | ⟨_, hi⟩ <;> rcases hblk j r gj with ⟨ej, _⟩ | ⟨_, hj⟩
    · rw [ei, ej]
    · rw [ei] at e ⊢; exact s.inj _ _ _ _ hid hj e
    · rw [ej] at e ⊢; exact s.inj _ _ _ _ hi hid e
    · exact s.inj _ _ _ _ hi hj e
  · intro r _ hd
    exact hk r (fun e => hd id p hid e.symm)
  · intro i q h
    rcases hblk i q h with ⟨rfl, rfl⟩ | ⟨_, h⟩
    · exact .inl ⟨i, p, hid, rfl⟩
    · exact .inl ⟨i, q, h, rfl⟩

/-- A block is no longer told of. -/
def AH.drop (H : AH) (id : Nat) : AH := { H with tr := H.tr.del id }
theorem sim_drop {N0 : Nat} {ρ : Ren} {H : AH} {w : World} (s : Sim N0 ρ H w) (id : Nat) : Sim N0 ρ (H.drop id) w ∧ Fr ρ H w ρ (H.drop id) w := by
  have hblk : ∀ i q, (H.drop id).tr.get i = some q → i ≠ id ∧ H.tr.get i = some q := fun i q h => Tr.get_del h
  exact ⟨⟨fun i q h => s.blk i q (hblk i q h).2, fun i j q r hi hj e => s.inj i j q r (hblk i q hi).2 (hblk j r hj).2 e, s.fix, s.low⟩,
    ⟨fun _ _ => ⟨rfl, rfl⟩, Nat.le_refl _, fun _ _ _ => rfl, fun i q h => .inl ⟨i, q, (hblk i q h).2, rfl⟩, Nat.le_refl _, rfl, rfl, rfl⟩⟩
end Go.Ax
