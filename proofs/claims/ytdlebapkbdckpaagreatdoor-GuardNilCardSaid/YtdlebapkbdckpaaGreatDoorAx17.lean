/-
  Ax17: a region that draws its order: the pass, and what it lays down (own work).
-/
import Derived.Test.YtdlebapkbdckpaaGreatDoorAx16
namespace Go.Ax
open Go

/-- Which operations this one waits for in every mode, itself or by way of an earlier one. -/
def maskOf (ms : List Nat) (o : Oper) : Nat :=
  o.after.toList.foldl (fun m e => bif Region.binds .any e then Nat.lor (Nat.lor m (Nat.shiftLeft 1 e.on)) (ms.getD e.on 0) else m) 0
def masks : List Oper → List Nat → List Nat
  | [], ms => ms
  | o :: r, ms => masks r (ms ++ [maskOf ms o])
/-- Does operation i wait for operation k? -/
def dpOf (ms : List Nat) (i k : Nat) : Bool := Nat.testBit (ms.getD i 0) k
abbrev Dp := Nat → Nat → Bool

inductive Ent where
  | skip
  | still (v : Value)
  | float (ob : AObj) (f : Nat → Value)
  | eff (v : Value) (B A : AH) (mats : List (Nat × Value))

structure Eff where
  i : Nat
  v : Value
  B : AH
  A : AH
  mats : List (Nat × Value)

def effsOf : Nat → List Ent → List Eff
  | _, [] => []
  | n, .eff v B A m :: r => ⟨n, v, B, A, m⟩ :: effsOf (n + 1) r
  | n, _ :: r => effsOf (n + 1) r

def heapAfter (H0 : AH) (l : List Eff) : AH :=
  match l.getLast? with
  | some e => e.A
  | none => H0

def look (p : Nat) : List (Nat × Value) → Option Value
  | [] => none
  | (q, v) :: r => bif Nat.beq q p then some v else look p r

def matIn : List Eff → Nat → Option Value
  | [], _ => none
  | e :: r, p =>
    match look p e.mats with
    | some v => some v
    | none => matIn r p

/-- The value of a float, where the operation waits for the effect ahead of which it was laid into the heap. -/
def matDep (dp : Dp) (i : Nat) : List Eff → Nat → Option Value
  | [], _ => none
  | e :: r, p =>
    match look p e.mats with
    | some v => bif dp i e.i then some v else none
    | none => matDep dp i r p

def knownV (dp : Dp) (l : List Ent) (es : List Eff) (i : Nat) (p : Nat) : Option Value :=
  match l[p]? with
  | some .skip => some SKIP
  | some (.still v) => some v
  | some (.eff v _ _ _) => some v
  | some (.float _ _) => matDep dp i es p
  | none => none

def wr (ops : List Oper) (t : Nat) : Option Nat := ops.findIdx? fun o => match o.dst with | some d => Nat.beq d t | none => false

/-- What a slot holds when the operation's turn has come. -/
def tv (dp : Dp) (T0 : Tr Value) (ops : List Oper) (l : List Ent) (es : List Eff) (mats : List (Nat × Value)) (k : Nat) (t : Nat) : Option Value :=
  match wr ops t with
  | none => T0.get t
  | some p =>
    bif Nat.blt p k then
      bif dp k p then
        match look p mats with
        | some v => some v
        | none => knownV dp l es k p
      else none
    else bif Nat.beq p k then T0.get t
    else bif dp p k then T0.get t
    else none

def evE (N0 : Nat) (f : Nat → Option Value) : Operand → Value
  | .tmp t => match f t with | some v => v | none => undef
  | .const v => bif flat N0 v then v else undef
  | .global g => bif Nat.blt g N0 then .pointer (some ⟨g, 0, none⟩) else undef
  | .func f => .func (.func f) #[] #[]

def wantedE (ops : List Oper) (f : Nat → Option Value) (o : Oper) : Option Bool :=
  match o.guard with
  | none => some true
  | some (j, want) =>
    match (ops[j]?).bind (·.dst) with
    | none => none
    | some t =>
      match f t with
      | some (.bool x) => some (x == want)
      | some (.float _ n) => bif Nat.ble 18446744073709551616 n then some false else none
      | _ => none

def heavy (o : Oper) : Bool :=
  match o.op with
  | .store .. | .mapUpdate .. | .insert .. | .next .. => true
  | .call { callee := .builtin b, .. } => (match b with | .append | .copy | .close => true | _ => false)
  | .call _ => true
  | _ => false

def allocish (o : Oper) : Bool :=
  match o.op with
  | .alloc _ | .box .. | .buildSlice .. | .makeSlice .. | .makeMap .. | .makeChan .. | .range .. => true
  | _ => false

/-- Is what it makes looked at by heavy operations alone? -/
def floatable (ops : List Oper) (o : Oper) : Bool :=
  match o.dst with
  | none => true
  | some t => ops.all fun x => heavy x || !(x.op.operands.toList.any fun | .tmp u => Nat.beq u t | _ => false)

/-- The heaps at which it may be this operation's turn, of those laid down so far; the last first. -/
def allowed (dp : Dp) (i : Nat) : List Eff → List AH → List AH
  | [], c => c
  | e :: r, c => allowed dp i r (bif dp i e.i then [e.A] else e.A :: c)

def due (dp : Dp) (i : Option Nat) (n : Nat) : Bool :=
  match i with
  | some i => dp i n
  | none => true
/-- Floats that this operation waits for and that lie in no heap yet. -/
def pending (dp : Dp) (i : Option Nat) (es : List Eff) : Nat → List Ent → List (Nat × AObj × (Nat → Value))
  | _, [] => []
  | n, .float ob f :: r =>
    bif due dp i n && (matIn es n).isNone then (n, ob, f) :: pending dp i es (n + 1) r else pending dp i es (n + 1) r
  | n, _ :: r => pending dp i es (n + 1) r

def matz : List (Nat × AObj × (Nat → Value)) → AH → AH × List (Nat × Value)
  | [], H => (H, [])
  | (p, ob, f) :: r, H => ((matz r (H.alloc ob)).1, (p, f H.next) :: (matz r (H.alloc ob)).2)

section
variable (P : Program) (N0 : Nat) (fns : Tr Func) (ext : ExtFn) (rcall : CallFn) (T0 : Tr Value) (H0 : AH) (dp : Dp) (ops : List Oper)

/-- Is this what the quiet operation gives at that heap? -/
def stillIs (ev : Operand → Value) (H : AH) (o : Oper) (v : Value) : Bool :=
  match opR P N0 fns ext rcall ev H o with
  | some (.still u) => veq u v
  | _ => false

/-- All quiet operations ahead that need not have had their turn give at this heap what they gave. -/
def recheck (l : List Ent) (i : Nat) (A : AH) : Nat → List Ent → Bool
  | _, [] => true
  | n, .still v :: r =>
    (dp i n || (match ops[n]? with | some o' => stillIs P N0 fns ext rcall (evE N0 (tv dp T0 ops (l.take n) (effsOf 0 (l.take n)) [] n)) A o' v | none => false)) && recheck l i A (n + 1) r
  | n, _ :: r => recheck l i A (n + 1) r

def stillEnt (l : List Ent) (k : Nat) (o : Oper) : Option Ent :=
  match allowed dp k (effsOf 0 l) [H0] with
  | [] => none
  | A :: r =>
    match opR P N0 fns ext rcall (evE N0 (tv dp T0 ops l (effsOf 0 l) [] k)) A o with
    | some (.still v) => bif r.all (fun H => stillIs P N0 fns ext rcall (evE N0 (tv dp T0 ops l (effsOf 0 l) [] k)) H o v) then some (.still v) else none
    | _ => none

def effDone (l : List Ent) (k : Nat) (v : Value) (B A : AH) (mats : List (Nat × Value)) : Option Ent :=
  bif (effsOf 0 l).all (fun e => dp k e.i) && recheck P N0 fns ext rcall T0 dp ops l k A 0 l then some (.eff v B A mats) else none

def effEnt (l : List Ent) (k : Nat) (o : Oper) : Option Ent :=
  match matz (pending dp (some k) (effsOf 0 l) 0 l) (heapAfter H0 (effsOf 0 l)) with
  | (B, mats) =>
    match opR P N0 fns ext rcall (evE N0 (tv dp T0 ops l (effsOf 0 l) mats k)) B o with
    | some (.eff v A) => effDone P N0 fns ext rcall T0 dp ops l k v B A mats
    | some (.still v) => effDone P N0 fns ext rcall T0 dp ops l k v B B mats
    | some (.float ob f) => effDone P N0 fns ext rcall T0 dp ops l k (f B.next) B (B.alloc ob) mats
    | none => none

def dstOk (k : Nat) (o : Oper) : Bool :=
  match o.dst with
  | none => true
  | some t => match wr ops t with | some p => Nat.beq p k | none => false

def mkEnt (l : List Ent) (k : Nat) (o : Oper) : Option Ent :=
  bif dstOk ops k o then
    match wantedE ops (tv dp T0 ops l (effsOf 0 l) [] k) o with
    | none => none
    | some false => some .skip
    | some true =>
      bif heavy o then effEnt P N0 fns ext rcall T0 H0 dp ops l k o
      else bif allocish o && floatable ops o then
        match aAlloc P N0 (evE N0 (tv dp T0 ops l (effsOf 0 l) [] k)) o with
        | some (ob, f) => some (.float ob f)
        | none => none
      else
        match stillEnt P N0 fns ext rcall T0 H0 dp ops l k o with
        | some e => some e
        | none => effEnt P N0 fns ext rcall T0 H0 dp ops l k o
  else none

/-- The pass: the list of what was laid down grows behind. -/
def pass : List Oper → Nat → List Ent → Option (List Ent)
  | [], _, l => some l
  | o :: r, k, l =>
    match mkEnt P N0 fns ext rcall T0 H0 dp ops l k o with
    | none => none
    | some e => pass r (k + 1) (l ++ [e])
end

/-- What an operation's slot holds behind the region. -/
def fv (l : List Ent) (es : List Eff) (mats : List (Nat × Value)) (k : Nat) : Value :=
  match l[k]? with
  | some .skip => SKIP
  | some (.still v) => v
  | some (.eff v _ _ _) => v
  | some (.float _ _) =>
    match matIn es k with
    | some v => v
    | none =>
      match look k mats with
      | some v => v
      | none => undef
  | none => undef

/-- The slots behind the region. -/
def finalT (l : List Ent) (es : List Eff) (mats : List (Nat × Value)) : List Oper → Nat → Tr Value → Tr Value
  | [], _, T => T
  | o :: r, k, T =>
    finalT l es mats r (k + 1) (match o.dst with
      | none => T
      | some t => T.set t (fv l es mats k))

/-- Is this a way through all operations? -/
def ordOk (md : Region.Mode) (ops : Array Oper) : List Nat → List Nat → Bool
  | seen, [] => (List.range ops.size).all fun i => seen.any fun j => Nat.beq j i
  | seen, i :: r => (match ops[i]? with | some o => o.after.toList.all fun e => !Region.binds md e || seen.any fun j => Nat.beq j e.on | none => false) && ordOk md ops (i :: seen) r

/-- A way through all operations exists in the mode. -/
def modeOk (md : Region.Mode) (ops : Array Oper) : Bool :=
  (ops.toList.zipIdx.all fun (o, i) => o.after.toList.all fun e => !Region.binds md e || Nat.blt e.on i) || ordOk md ops [] (Region.linearise md ops 0)

def drawA (P : Program) (N0 : Nat) (fns : Tr Func) (ext : ExtFn) : DrawFn := fun rcall ops st =>
  bif modeOk .any ops && modeOk .text ops && modeOk .gc ops && ops.toList.all (fun o => match o.dst with | some d => Nat.blt d st.nt | none => true) then
    match pass P N0 fns ext rcall st.tm st.H (dpOf (masks ops.toList [])) ops.toList ops.toList 0 [] with
    | none => none
    | some l =>
      match matz (pending (dpOf (masks ops.toList [])) none (effsOf 0 l) 0 l) (heapAfter st.H (effsOf 0 l)) with
      | (Z, mats) => some { st with H := Z, tm := finalT l (effsOf 0 l) mats ops.toList 0 st.tm }
  else none
end Go.Ax
