/-
  Ax5: type assertions, comparisons, len, lookups, bytes to a string, structs and arrays built; and whatever looks at flat values alone (own work).
-/
import Derived.Test.YtdlebapkbdckpaaGreatDoorAx4
namespace Go.Ax
open Go

section
variable {P : Program} {N0 : Nat} {ρ : Ren} {H : AH} {w : World} {ev ev' : Operand → Value}

/-! ### type assertions -/
/-- Is a method wanted that isn't there? (Without its name.) -/
def missB (want : Array (String × TypeId)) (got : Array Method) : Bool := want.toList.any fun x => !got.toList.any fun m => m.name == x.1 && m.sig == x.2

theorem least_some {l : List String} (h : l ≠ []) : ∃ m, Instr.least l = some m := by
  cases l with
  | nil => exact absurd rfl h
  | cons s r => exact ⟨_, rfl⟩

theorem missB_false {want : Array (String × TypeId)} {got : Array Method} (h : missB want got = false) : Instr.missingMethod want got = none := by
  have e : (want.toList.filter fun (name, sig) => !got.any fun m => m.name == name && m.sig == sig) = [] := by
    rw [List.filter_eq_nil_iff]
    intro x hx
    have := (List.any_eq_false.1 h) x hx
    simpa using this
  unfold Instr.missingMethod
  simp only [e]
  rfl

theorem missB_true {want : Array (String × TypeId)} {got : Array Method} (h : missB want got = true) : ∃ m, Instr.missingMethod want got = some m := by
  have e : (want.toList.filter fun (name, sig) => !got.any fun m => m.name == name && m.sig == sig) ≠ [] := by
    obtain ⟨x, hx, hm⟩ := List.any_eq_true.1 h
    intro he
    have := (List.filter_eq_nil_iff.1 he) x hx
    simp only [← Array.any_toList] at this
    exact this hm
  unfold Instr.missingMethod
  generalize (want.toList.filter fun (name, sig) => !got.any fun m => m.name == name && m.sig == sig) = l at e
  simp only [List.partition_eq_filter_filter]
  by_cases h1 : ((l.map (·.1)).filter fun x => !x.contains (Char.ofNat 46)) = []
  · by_cases h2 : ((l.map (·.1)).filter fun x => x.contains (Char.ofNat 46)) = []
    · exfalso
      cases l with
      | nil => exact e rfl
      | cons y ys =>
        have g1 := (List.filter_eq_nil_iff.1 h1) y.1 (by simp)
        have g2 := (List.filter_eq_nil_iff.1 h2) y.1 (by simp)
        simp at g1 g2
        exact g2 g1
    · obtain ⟨m, hm⟩ := least_some (l := ((l.map (·.1)).filter fun x => x.contains (Char.ofNat 46)).map fun id => (id.splitOn ".").getLastD id) (by simpa using h2)
      refine ⟨m, ?_⟩
      have h1' : (List.filter (not ∘ fun x : String => x.contains (Char.ofNat 46)) (l.map (·.1))) = [] := h1
      rw [h1', hm]
      rfl
  · obtain ⟨m, hm⟩ := least_some h1
    refine ⟨m, ?_⟩
    have hm' : Instr.least (List.filter (not ∘ fun x : String => x.contains (Char.ofNat 46)) (l.map (·.1))) = some m := hm
    rw [hm']
    rfl

def aTypeAssert (P : Program) (N0 : Nat) (v : Value) (asserted : TypeId) (ok : Bool) : Option SRes :=
  match v with
  | .iface t u =>
    match P.underlying asserted with
    | none => none
    | some (.interface want) =>
      match P.info? t with
      | none => none
      | some i =>
        match missB want i.methods with
        | false => some (.val (if ok then .tuple #[v, .bool true] else v))
        | true =>
          match ok, (P.info? asserted).bind (·.zero) with
          | true, some z => bif flat N0 z then some (.val (.tuple #[z, .bool false])) else none
          | _, _ => none
    | some _ =>
      bif Nat.beq t asserted then some (.val (if ok then .tuple #[u, .bool true] else u))
      else
        match ok, (P.info? asserted).bind (·.zero) with
        | true, some z => bif flat N0 z then some (.val (.tuple #[z, .bool false])) else none
        | _, _ => none
  | _ => none

theorem VR.pair {N : Nat} {a a' b b' : Value} (h : VR ρ N a a') (k : VR ρ N b b') : VR ρ N (.tuple #[a, b]) (.tuple #[a', b']) := by
  have := (AR.singleton h).push k
  exact .tuple _ _ this.1 this.2

theorem run_zero_of {t : TypeId} {z : Value} (h : (P.info? t).bind (·.zero) = some z) (w : World) : (zeroValue t).run P w = .ok z w := by
  simp only [Option.bind_eq_some_iff] at h
  obtain ⟨i, h1, h2⟩ := h
  simp [zeroValue, run_typeInfo_of h1, h2]

theorem aTypeAssert_sound (hN : N0 ≤ H.next) (fix : ∀ i, i < N0 → ρ i = i) {v v' : Value} (hv : VR ρ H.next v v') {xt asserted : TypeId} {ok : Bool} {r : SRes} (h : aTypeAssert P N0 v asserted ok = some r) :
    SOk P ρ H.next w (do pure (.value (← Instr.typeAssert v' xt asserted ok))) r := by
  unfold aTypeAssert at h
  split at h
  case h_2 => cases h
  rename_i t u
  obtain ⟨u', rfl, hu⟩ := hv.inv_iface
  split at h
  · cases h
  · rename_i want hw
    split at h
    · cases h
    rename_i i hi
    split at h
    · rename_i hm
      replace hm := missB_false hm
      cases h
      cases ok
      · exact ⟨.iface t u', by simp [Instr.typeAssert, run_underlying_of hw, run_typeInfo_of hi, hm], hv⟩
      · exact ⟨_, by simp [Instr.typeAssert, run_underlying_of hw, run_typeInfo_of hi, hm], VR.pair hv (.bool true)⟩
    · rename_i hm
      obtain ⟨m, hm⟩ := missB_true hm
      split at h
      · rename_i z hz
        cases hf : flat N0 z <;> simp only [hf, cond_true, cond_false] at h
        · cases h
        cases h
        exact ⟨_, by simp [Instr.typeAssert, run_underlying_of hw, run_typeInfo_of hi, hm, run_zero_of hz], VR.pair (flat_self hN fix hf) (.bool false)⟩
      · cases h
  · rename_i d hd1 hd
    have hrun : (Instr.typeAssert (.iface t u') xt asserted ok).run P w =
        (if t = asserted then (pure (if ok then .tuple #[u', .bool true] else u') : Sem Value) else (if ok then (do pure (.tuple #[← zeroValue asserted, .bool false])) else runtimePanic (.typeAssertion (some xt) (some t) asserted ""))).run P w := by
      simp only [Instr.typeAssert, Sem.run_bind, run_underlying_of hd, Result.andThen_ok]
    cases hb : Nat.beq t asserted <;> simp only [hb, cond_true, cond_false] at h
    · have hne : t ≠ asserted := fun e => by subst e; simp at hb
      split at h
      · rename_i z hz
        cases hf : flat N0 z <;> simp only [hf, cond_true, cond_false] at h
        · cases h
        cases h
        refine ⟨_, ?_, VR.pair (flat_self hN fix hf) (.bool false)⟩
        rw [Sem.run_bind, hrun, if_neg hne]
        simp [run_zero_of hz]
      · cases h
    · have he : t = asserted := Nat.eq_of_beq_eq_true hb
      cases h
      cases ok
      · exact ⟨u', by rw [Sem.run_bind, hrun, if_pos he]; simp, hu⟩
      · exact ⟨_, by rw [Sem.run_bind, hrun, if_pos he]; simp, VR.pair hu (.bool true)⟩

/-! ### len of slices and maps -/
def aLen (P : Program) (H : AH) (t : Option TypeId) (v : Value) : Option SRes :=
  match t with
  | none => none
  | some t =>
    match P.underlying t, v with
    | some (.slice _), .slice _ n _ => some (.val (goInt n))
    | some (.map _ _), .map (some r) =>
      match H.tr.get r with
      | some (.map es _) => some (.val (goInt es.length))
      | _ => none
    | _, _ => none

theorem all2_length {α β : Type} {R : α → β → Prop} {l : List α} {m : List β} (h : All2 R l m) : l.length = m.length := by
  induction h with
  | nil => rfl
  | cons _ _ ih => simp [ih]

theorem aLen_sound (s : Sim N0 ρ H w) {ts : Array TypeId} {ty : TypeId} {v v' : Value} {args : Array Value} (ha : args[0]? = some v') (hv : VR ρ H.next v v') {r : SRes} (h : aLen P H ts[0]? v = some r) :
    SOk P ρ H.next w (do pure (.value (← Builtin.len_ ts ty args))) r := by
  unfold aLen at h
  split at h
  · cases h
  rename_i t ht0
  split at h
  · rename_i e a n c ht
    cases h
    have : ∃ a' c', v' = .slice a' n c' := by
      cases a with
      | none => exact ⟨none, c, hv.inv_slnil⟩
      | some a =>
        obtain ⟨_, _, h3⟩ := hv.inv_sl
        rcases h3 with ⟨c', e', _⟩ | ⟨_, rfl, o', c', e'⟩
        · exact ⟨_, _, e'⟩
        · exact ⟨_, _, e'⟩
    obtain ⟨a', c', rfl⟩ := this
    exact ⟨_, by simp [Builtin.len_, ht0, ha, run_underlying_of ht, goInt], .int _ _⟩
  · rename_i k e m ht
    split at h
    · rename_i es clock hm
      cases h
      obtain ⟨_, rfl⟩ := hv.inv_map
      obtain ⟨_, o', ho, hr, hks⟩ := s.blk m _ hm
      cases hr with
      | map _ _ es' hes =>
        refine ⟨_, ?_, .int _ _⟩
        have hl : es'.size = es.length := by rw [all2_length hes]; simp
        simp [Builtin.len_, ht0, ha, run_underlying_of ht, getObj, Sem.run, ho, hl, goInt]
    · cases h
  · cases h

/-! ### lookups by a key that is an integer or a string -/
def kindA (d : Option TypeDesc) : Option TypeDesc :=
  match d with
  | some (.int k) => some (.int k)
  | some .string => some .string
  | some .bool => some .bool
  | _ => none

theorem run_checkKey_of {t : TypeId} {d : TypeDesc} (h : kindA (P.underlying t) = some d) (e : Bool) (n : Nat) (v : Value) (w : World) : (Instr.checkKey e (n + 1) t v).run P w = .ok () w := by
  unfold kindA at h
  split at h
  · rename_i k ht; simp [Instr.checkKey, run_underlying_of ht]
  · rename_i ht; simp [Instr.checkKey, run_underlying_of ht]
  · rename_i ht; simp [Instr.checkKey, run_underlying_of ht]
  · cases h

/-- The place of a key among entries. -/
def findA (N0 : Nat) (kind : TypeDesc) (k : Value) : List (Value × Value × Nat) → Nat → Option (Option (Nat × Value))
  | [], _ => some none
  | e :: es, i =>
    bif flat N0 e.1 then
      match Instr.sameNow kind k e.1 with
      | some true => some (some (i, e.2.1))
      | some false => findA N0 kind k es (i + 1)
      | none => none
    else none

theorem findA_rel (fix : ∀ i, i < N0 → ρ i = i) {N : Nat} {kind : TypeDesc} {k : Value} : ∀ {es : List (Value × Value × Nat)} {es' : List MapEntry}, All2 (EntR ρ N) es es' → ∀ {i : Nat} {x : Option (Nat × Value)}, findA N0 kind k es i = some x →
    ∃ x', Instr.findNow kind k es' i = some x' ∧ (x = none → x' = none) ∧ ∀ j v, x = some (j, v) → ∃ v', x' = some (j, v') ∧ VR ρ N v v' := by
  intro es es' h
  induction h with
  | nil => intro i x h; simp only [findA, Option.some.injEq] at h; subst h; exact ⟨none, rfl, fun _ => rfl, fun j v e => by cases e⟩
  | cons hr _ ih =>
    rename_i e e' es es' _
    intro i x h
    simp only [findA] at h
    cases hf : flat N0 e.1 <;> simp only [hf, cond_true, cond_false] at h
    · cases h
    have hk : e'.key = e.1 := flat_eq fix hr.1 hf
    split at h
    · rename_i hs
      cases h
      refine ⟨some (i, e'.val), by simp [Instr.findNow, hk, hs], (fun e => by cases e), fun j v e1 => ?_⟩
      cases e1
      exact ⟨_, rfl, hr.2.1⟩
    · rename_i hs
      obtain ⟨x', h1, h2, h3⟩ := ih h
      exact ⟨x', by simp [Instr.findNow, hk, hs, h1], h2, h3⟩
    · cases h

def aLookup (P : Program) (N0 : Nat) (H : AH) (t : TypeId) (m k : Value) (ok : Bool) : Option SRes :=
  match P.underlying t with
  | some (.map kt et) =>
    match kindA (P.underlying kt), flat N0 k with
    | some kind, true =>
      match m with
      | .map (some r) =>
        match H.tr.get r with
        | some (.map es _) =>
          match findA N0 kind k es 0 with
          | none => none
          | some (some (_, v)) => some (.val (if ok then .tuple #[v, .bool true] else v))
          | some none =>
            match (P.info? et).bind (·.zero) with
            | some z => bif flat N0 z then some (.val (if ok then .tuple #[z, .bool false] else z)) else none
            | none => none
        | _ => none
      | _ => none
    | _, _ => none
  | _ => none

theorem run_findKey_of {t : TypeId} {d : TypeDesc} (h : kindA (P.underlying t) = some d) {k : Value} {es : List MapEntry} {x : Option (Nat × Value)} (hx : Instr.findNow d k es 0 = some x) (w : World) :
    (Instr.findKey t k es).run P w = .ok x w := by
  have : P.underlying t = some d := by
    unfold kindA at h
    split at h <;> first | (cases h; assumption) | cases h
  simp [Instr.findKey, run_underlying_of this, hx]

theorem aLookup_sound (s : Sim N0 ρ H w) {t : TypeId} {m m' k k' : Value} (hm : VR ρ H.next m m') (hk : VR ρ H.next k k') {ok : Bool} {r : SRes} (h : aLookup P N0 H t m k ok = some r) :
    SOk P ρ H.next w (do pure (.value (← Instr.lookup t m' k' ok))) r := by
  unfold aLookup at h
  split at h
  case h_2 => cases h
  rename_i kt et ht
  split at h
  case h_2 => cases h
  rename_i kind hkd hf
  obtain rfl := flat_eq s.fix hk hf
  split at h
  case h_2 => cases h
  rename_i id
  split at h
  case h_2 => cases h
  rename_i es clock hid
  obtain ⟨_, rfl⟩ := hm.inv_map
  obtain ⟨_, o', ho, hr, hks⟩ := s.blk id _ hid
  cases hr with
  | map _ _ es' hes =>
    have hget : (getObj (ρ id)).run P w = .ok (.map es' clock) w := by simp [getObj, Sem.run, ho]
    have hck := run_checkKey_of (P := P) (w := w) hkd es'.isEmpty 9999 k'
    split at h
    · cases h
    · rename_i j v hfd
      obtain ⟨x', h1, _, h3⟩ := findA_rel s.fix hes hfd
      obtain ⟨v', rfl, hv⟩ := h3 j v rfl
      have hfk := run_findKey_of hkd h1 w
      cases h
      cases ok
      · exact ⟨v', by simp [Instr.lookup, run_underlying_of ht, hget, hck, hfk], hv⟩
      · exact ⟨_, by simp [Instr.lookup, run_underlying_of ht, hget, hck, hfk], VR.pair hv (.bool true)⟩
    · rename_i hfd
      obtain ⟨x', h1, h2, _⟩ := findA_rel s.fix hes hfd
      obtain rfl := h2 rfl
      have hfk := run_findKey_of hkd h1 w
      split at h
      · rename_i z hz
        cases hzf : flat N0 z <;> simp only [hzf, cond_true, cond_false] at h
        · cases h
        cases h
        cases ok
        · exact ⟨z, by simp [Instr.lookup, run_underlying_of ht, hget, hck, hfk, run_zero_of hz], flat_self s.low s.fix hzf⟩
        · exact ⟨_, by simp [Instr.lookup, run_underlying_of ht, hget, hck, hfk, run_zero_of hz], VR.pair (flat_self s.low s.fix hzf) (.bool false)⟩
      · cases h

/-! ### bytes to a string -/
def bytesOf : List Value → ByteArray → Option ByteArray
  | [], acc => some acc
  | .int .u8 n :: r, acc => bytesOf r (acc.push (UInt8.ofNat n.toNat))
  | _, _ => none

def aBytesToString (P : Program) (H : AH) (src dst : TypeId) (v : Value) : Option SRes :=
  match P.underlying src, P.underlying dst, v with
  | some (.slice e), some .string, .slice (some ⟨b, o, _⟩) len _ =>
    match P.underlying e with
    | some (.int .u8) =>
      bif Nat.blt o BIG then
        match loadA H b o len with
        | some l => (bytesOf l .empty).map fun s => .val (.string s)
        | none => none
      else none
    | _ => none
  | _, _, _ => none

theorem bytes_loop {N : Nat} (w : World) (f : Value → ByteArray → Sem (ForInStep ByteArray)) (hf : ∀ n s, (f (.int .u8 n) s).run P w = .ok (.yield (s.push (UInt8.ofNat n.toNat))) w) : ∀ (l : List Value) (a' : List Value) (acc s : ByteArray), All2 (VR ρ N) l a' → bytesOf l acc = some s →
    (forIn (m := Sem) a' acc f).run P w = .ok s w := by
  intro l
  induction l with
  | nil =>
    intro a' acc s h hb
    cases h
    simp only [bytesOf, Option.some.injEq] at hb
    subst hb
    simp
  | cons v r ih =>
    intro a' acc s h hb
    cases h with
    | cons hv ht =>
      rename_i v' m
      unfold bytesOf at hb
      split at hb
      · rename_i heq; cases heq
      · rename_i n r2 _ heq
        cases heq
        obtain rfl := hv.inv_int
        have := ih _ _ _ ht hb
        simp only [List.forIn_cons, Sem.run_bind, hf, Result.andThen_ok]
        exact this
      · cases hb

theorem AR.all2 {N : Nat} : ∀ {a a' : Array Value}, AR ρ N a a' → All2 (VR ρ N) a.toList a'.toList := by
  intro a a' h
  obtain ⟨l⟩ := a
  obtain ⟨m⟩ := a'
  simp only
  induction l generalizing m with
  | nil =>
    have := h.1
    cases m with
    | nil => exact .nil
    | cons x xs => simp at this
  | cons v r ih =>
    cases m with
    | nil => have := h.1; simp at this
    | cons x xs =>
      refine .cons (by simpa using h.2 0 (by simp) (by simp)) (ih xs ⟨by have := h.1; simpa using this, fun i h1 h2 => ?_⟩)
      have := h.2 (i + 1) (by simp at h1 ⊢; omega) (by simp at h2 ⊢; omega)
      simpa using this

theorem all2_ar {N : Nat} {l m : List Value} (h : All2 (VR ρ N) l m) : AR ρ N l.toArray m.toArray := by
  induction h with
  | nil => exact AR.nil
  | cons hv _ ih =>
    rename_i a b l m _
    have := (AR.singleton hv).append ih
    simpa using this

theorem aBytesToString_sound (s : Sim N0 ρ H w) {src dst : TypeId} {v v' : Value} (hv : VR ρ H.next v v') {r : SRes} (h : aBytesToString P H src dst v = some r) :
    SOk P ρ H.next w (do pure (.value (← convert src dst v'))) r := by
  unfold aBytesToString at h
  split at h
  case h_2 => cases h
  rename_i e b o sp len c hs hd
  split at h
  case h_2 => cases h
  rename_i he
  cases hob : Nat.blt o BIG <;> simp only [hob, cond_true, cond_false] at h
  · cases h
  have hob' := lt_of_blt hob
  split at h
  case h_2 => cases h
  rename_i l hl
  simp only [Option.map_eq_some_iff] at h
  obtain ⟨str, hstr, rfl⟩ := h
  obtain ⟨_, hb, hx⟩ := hv.inv_sl
  rcases hx with ⟨c', rfl, _⟩ | ⟨hbig, _⟩
  case inr => simp only at hbig; omega
  obtain ⟨cs, h1, h2⟩ := loadA_rel (P := P) s hl
  refine ⟨.string str, ?_, .string str⟩
  have hc : (convert src dst (.slice (some ⟨ρ b, o, none⟩) len c')).run P w = (Conv.bytesToString (.slice (some ⟨ρ b, o, none⟩) len c')).run P w := by
    simp [convert, run_underlying_of hs, run_underlying_of hd, run_underlying_of he]
  rw [Sem.run_bind, hc]
  simp only [Conv.bytesToString, Sem.run_bind, h1, Result.andThen_ok]
  rw [← Array.forIn_toList]
  rw [bytes_loop (P := P) (ρ := ρ) (N := H.next) w _ (fun n s => by rfl) l cs.toList .empty str (by simpa using h2.all2) hstr]
  simp

/-! ### equality: what is asked of pointers, and of nil -/
def aEql (P : Program) (t : TypeId) (x y : Value) : Option Bool :=
  match P.underlying t, x, y with
  | some (.pointer _), .pointer none, .pointer b => some b.isNone
  | some (.pointer _), .pointer (some _), .pointer none => some false
  | some (.pointer e), .pointer (some ⟨b, o, _⟩), .pointer (some ⟨b', o', _⟩) =>
    match szA P e with
    | some (_ + 1) => bif Nat.beq b b' then some (Nat.beq o o') else none
    | _ => none
  | some (.interface _), .nilIface, .iface _ _ | some (.interface _), .iface _ _, .nilIface => some false
  | some (.interface _), .iface tx _, .iface ty _ => bif Nat.beq tx ty then none else some false
  | some (.slice _), .slice none _ _, .slice b _ _ => some b.isNone
  | some (.slice _), .slice (some _) _ _, .slice none _ _ => some false
  | some (.map _ _), .map none, .map b => some b.isNone
  | some (.map _ _), .map (some _), .map none => some false
  | some (.func _ _ _), .nilFunc, .func _ _ _ | some (.func _ _ _), .func _ _ _, .nilFunc => some false
  | _, _, _ => none

theorem aEql_sound {t : TypeId} {x y x' y' : Value} (hx : VR ρ H.next x x') (hy : VR ρ H.next y y') {b : Bool} (h : aEql P t x y = some b) (d : Nat) : (Op.equalIn (d + 1) t x' y').run P w = .ok b w := by
  unfold aEql at h
  split at h
  · rename_i e bb ht
    obtain rfl := hx.inv_pnil
    cases h
    cases bb with
    | none => obtain rfl := hy.inv_pnil; simp [Op.equalIn, run_underlying_of ht]
    | some a => obtain ⟨_, _, rfl⟩ := hy.inv_ptr; simp [Op.equalIn, run_underlying_of ht]
  · rename_i e a ht
    obtain ⟨_, _, rfl⟩ := hx.inv_ptr
    obtain rfl := hy.inv_pnil
    cases h
    simp [Op.equalIn, run_underlying_of ht]
  · rename_i e b1 o1 s1 b2 o2 s2 ht
    split at h
    · rename_i n hn
      cases hb : Nat.beq b1 b2 <;> simp only [hb, cond_true, cond_false] at h
      · cases h
      have he : b1 = b2 := Nat.eq_of_beq_eq_true hb
      subst he
      cases h
      obtain ⟨_, _, rfl⟩ := hx.inv_ptr
      obtain ⟨_, _, rfl⟩ := hy.inv_ptr
      by_cases eo : o1 = o2
      · subst eo; simp [Op.equalIn, run_underlying_of ht, run_sizeOf_of hn, sameAddr]
      · simp [Op.equalIn, run_underlying_of ht, run_sizeOf_of hn, sameAddr, beq_false_of eo]
    · cases h
  · rename_i t2 v2 ms ht
    obtain rfl := hx.inv_niliface
    obtain ⟨_, rfl, _⟩ := hy.inv_iface
    cases h
    simp [Op.equalIn, run_underlying_of ht]
  · rename_i t2 v2 ms ht
    obtain rfl := hy.inv_niliface
    obtain ⟨_, rfl, _⟩ := hx.inv_iface
    cases h
    simp [Op.equalIn, run_underlying_of ht]
  · rename_i ms tx vx ty vy ht
    obtain ⟨_, rfl, _⟩ := hx.inv_iface
    obtain ⟨_, rfl, _⟩ := hy.inv_iface
    cases hb : Nat.beq tx ty <;> simp only [hb, cond_true, cond_false] at h
    · cases h
      have hne : tx ≠ ty := fun e => by subst e; simp at hb
      simp [Op.equalIn, run_underlying_of ht, hne]
    · cases h
  · rename_i e l c bb l2 c2 ht
    obtain rfl := hx.inv_slnil
    cases h
    cases bb with
    | none => obtain rfl := hy.inv_slnil; simp [Op.equalIn, run_underlying_of ht]
    | some a =>
      obtain ⟨_, _, h3⟩ := hy.inv_sl
      rcases h3 with ⟨c', rfl, _⟩ | ⟨_, _, o', c', rfl⟩ <;> simp [Op.equalIn, run_underlying_of ht]
  · rename_i e a l c l2 c2 ht
    obtain rfl := hy.inv_slnil
    cases h
    obtain ⟨_, _, h3⟩ := hx.inv_sl
    rcases h3 with ⟨c', rfl, _⟩ | ⟨_, _, o', c', rfl⟩ <;> simp [Op.equalIn, run_underlying_of ht]
  · rename_i k e bb ht
    have hx' := flat_eq (N0 := 0) (fun i hi => absurd hi (by omega)) hx (by rfl)
    subst hx'
    cases h
    cases bb with
    | none =>
      have hy' := flat_eq (N0 := 0) (fun i hi => absurd hi (by omega)) hy (by rfl)
      subst hy'; simp [Op.equalIn, run_underlying_of ht]
    | some a => obtain ⟨_, rfl⟩ := hy.inv_map; simp [Op.equalIn, run_underlying_of ht]
  · rename_i k e a ht
    have hy' := flat_eq (N0 := 0) (fun i hi => absurd hi (by omega)) hy (by rfl)
    subst hy'
    obtain ⟨_, rfl⟩ := hx.inv_map
    cases h
    simp [Op.equalIn, run_underlying_of ht]
  · rename_i fn a c ps rs vr ht
    obtain rfl := hx.inv_nilfunc
    obtain ⟨_, _, rfl, _, _⟩ := hy.inv_func
    cases h
    simp [Op.equalIn, run_underlying_of ht]
  · rename_i fn a c ps rs vr ht
    obtain rfl := hy.inv_nilfunc
    obtain ⟨_, _, rfl, _, _⟩ := hx.inv_func
    cases h
    simp [Op.equalIn, run_underlying_of ht]
  · cases h
end
end Go.Ax
