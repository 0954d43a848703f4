/- A verified interpreter: the definitions. A verified interpreter: how its heap stands to the machine's. A verified interpreter: its operations are the machine's (first part). A verified interpreter: its operations are the machine's (second part: memory). A verified interpreter: its operations are the machine's (third part: new blocks, stores, places). -/
import Derived.Calls
import Derived.Laws.CopyRow
import Derived.Laws.Cells
import Derived.Laws.World
import Derived.Laws.AppendOwn
import Derived.Laws.MakeOwn
import Derived.Laws.Tables
namespace Go.Vm

/-! ### A trie over numbers -/
inductive PT (α : Type) where
  | leaf
  | node (l : PT α) (v : Option α) (r : PT α)

def PT.get {α : Type} : PT α → Nat → Option α
  | .leaf, _ => none
  | .node l v r, n =>
    match n with
    | 0 => v
    | m + 1 => bif (m % 2).beq 0 then l.get (m / 2) else r.get (m / 2)

def PT.setF {α : Type} : Nat → PT α → Nat → Option α → PT α
  | 0, t, _, _ => t
  | f + 1, .leaf, n, x =>
    match n with
    | 0 => .node .leaf x .leaf
    | m + 1 => bif (m % 2).beq 0 then .node (PT.setF f .leaf (m / 2) x) none .leaf else .node .leaf none (PT.setF f .leaf (m / 2) x)
  | f + 1, .node l v r, n, x =>
    match n with
    | 0 => .node l x r
    | m + 1 => bif (m % 2).beq 0 then .node (PT.setF f l (m / 2) x) v r else .node l v (PT.setF f r (m / 2) x)

def PT.set {α : Type} (t : PT α) (n : Nat) (x : Option α) : PT α := PT.setF (n + 1) t n x

theorem PT.get_leaf {α : Type} (n : Nat) : (PT.leaf : PT α).get n = none := rfl

theorem beq_dec (a b : Nat) : a.beq b = decide (a = b) := by
  by_cases h : a = b
  · subst h; simp [Nat.beq_refl]
  · have : a.beq b = false := by
      cases hb : a.beq b
      · rfl
      · exact absurd (Nat.eq_of_beq_eq_true hb) h
    simp [this, h]

theorem PT.get_setF {α : Type} : ∀ (f : Nat) (t : PT α) (n m : Nat) (x : Option α), n < f →
    (PT.setF f t n x).get m = if m = n then x else t.get m
  | 0, _, _, _, _, h => by omega
  | f + 1, .leaf, 0, m, x, _ => by
    cases m with
    | zero => simp [PT.setF, PT.get]
    | succ m => simp [PT.setF, PT.get]
  | f + 1, .leaf, k + 1, m, x, h => by
    have ih := PT.get_setF f .leaf (k / 2) ((m - 1) / 2) x (by omega)
    cases m with
    | zero => by_cases hk : k % 2 = 0 <;> simp [PT.setF, PT.get, beq_dec, hk]
    | succ m =>
      simp only [Nat.add_sub_cancel] at ih
      by_cases e : m = k
      · subst e
        by_cases hk : m % 2 = 0 <;> simp [PT.setF, PT.get, beq_dec, hk, ih]
      · by_cases hk : k % 2 = 0 <;> by_cases hm : m % 2 = 0 <;> simp [PT.setF, PT.get, beq_dec, hk, hm, ih, e] <;> (intro e'; omega)
  | f + 1, .node l v r, 0, m, x, _ => by
    cases m with
    | zero => simp [PT.setF, PT.get]
    | succ m => simp [PT.setF, PT.get]
  | f + 1, .node l v r, k + 1, m, x, h => by
    have ihl := PT.get_setF f l (k / 2) ((m - 1) / 2) x (by omega)
    have ihr := PT.get_setF f r (k / 2) ((m - 1) / 2) x (by omega)
    cases m with
    | zero => by_cases hk : k % 2 = 0 <;> simp [PT.setF, PT.get, beq_dec, hk]
    | succ m =>
      simp only [Nat.add_sub_cancel] at ihl ihr
      by_cases e : m = k
      · subst e
        by_cases hk : m % 2 = 0 <;> simp [PT.setF, PT.get, beq_dec, hk, ihl, ihr]
      · by_cases hk : k % 2 = 0 <;> by_cases hm : m % 2 = 0 <;> simp [PT.setF, PT.get, beq_dec, hk, hm, ihl, ihr, e] <;> (intro e'; omega)

theorem PT.get_set {α : Type} (t : PT α) (n m : Nat) (x : Option α) : (t.set n x).get m = if m = n then x else t.get m :=
  PT.get_setF (n + 1) t n m x (by omega)

/-! ### Blocks and the heap -/
/-- 'lo': none: the capacities of slices into it are known; some z: they are not (elements of z cells); 'ro': it is not to be written. -/
inductive Blk where
  | cells (cs : List Value) (lo : Option Nat) (ro : Bool)
  | map (es : List MapEntry)

/-- For the kernel's sake: a block, its cells brought to their own form. -/
structure Heap where
  blk : PT Blk
  next : Nat
  floor : Nat

def Heap.get (H : Heap) (b : Nat) : Option Blk := H.blk.get b
def Heap.put (H : Heap) (b : Nat) (x : Option Blk) : Heap := { H with blk := H.blk.set b x }
def Heap.new (H : Heap) (x : Blk) : Heap := { H with blk := H.blk.set H.next (some x), next := H.next + 1 }

/-! ### Values that hold no address -/
def plain : Value → Bool
  | .bool _ | .int .. | .float .. | .complex .. | .string _ | .pointer none | .slice none _ _ | .map none | .chan none | .nilFunc | .nilIface => true
  | _ => false
def flat : Value → Bool
  | .agg cs => cs.toList.all plain
  | v => plain v
def oneCell : Value → Bool
  | .agg _ | .tuple _ => false
  | _ => true

/-! ### Values brought to their own form (for the kernel's sake alone: each is 'k v') -/
def forceN {β : Type} (n : Nat) (k : Nat → β) : β := match n with | 0 => k 0 | m + 1 => k (Nat.succ m)
def forceI {β : Type} (n : Int) (k : Int → β) : β := match n with | .ofNat m => forceN m fun m => k (.ofNat m) | .negSucc m => forceN m fun m => k (.negSucc m)
def forceB {β : Type} (b : Bool) (k : Bool → β) : β := match b with | true => k true | false => k false
def forceA {β : Type} (a : Addr) (k : Addr → β) : β := match a with | ⟨b, o, s⟩ => forceN b fun b => forceN o fun o => match s with | none => k ⟨b, o, none⟩ | some s => k ⟨b, o, some s⟩
def force1 {β : Type} (v : Value) (k : Value → β) : β :=
  match v with
  | .int d n => forceI n fun n => k (.int d n)
  | .bool b => forceB b fun b => k (.bool b)
  | .pointer (some a) => forceA a fun a => k (.pointer (some a))
  | .slice (some a) n c => forceA a fun a => forceN n fun n => forceN c fun c => k (.slice (some a) n c)
  | v => k v
def forceL {β : Type} : List Value → (List Value → β) → β
  | [], k => k []
  | v :: r, k => force1 v fun v => forceL r fun r => k (v :: r)
def forceV {β : Type} (v : Value) (k : Value → β) : β :=
  match v with
  | .agg cs => forceL cs.toList fun l => k (.agg ⟨l⟩)
  | .tuple vs => forceL vs.toList fun l => k (.tuple ⟨l⟩)
  | v => force1 v k

theorem forceN_eq {β : Type} (n : Nat) (k : Nat → β) : forceN n k = k n := by cases n <;> rfl
theorem forceI_eq {β : Type} (n : Int) (k : Int → β) : forceI n k = k n := by cases n <;> simp [forceI, forceN_eq]
theorem forceB_eq {β : Type} (b : Bool) (k : Bool → β) : forceB b k = k b := by cases b <;> rfl
theorem forceA_eq {β : Type} (a : Addr) (k : Addr → β) : forceA a k = k a := by obtain ⟨b, o, s⟩ := a; cases s <;> simp [forceA, forceN_eq]
theorem force1_eq {β : Type} (v : Value) (k : Value → β) : force1 v k = k v := by
  cases v with
  | pointer a => cases a <;> simp [force1, forceA_eq]
  | slice a n c => cases a <;> simp [force1, forceA_eq, forceN_eq]
  | _ => simp [force1, forceB_eq, forceI_eq]
theorem forceL_eq {β : Type} : ∀ (l : List Value) (k : List Value → β), forceL l k = k l
  | [], k => rfl
  | v :: r, k => by simp [forceL, force1_eq, forceL_eq r]
theorem forceV_eq {β : Type} (v : Value) (k : Value → β) : forceV v k = k v := by
  cases v <;> simp [forceV, force1_eq, forceL_eq]

/-! ### What needs no memory -/
def pureRun {α : Type} (P : Program) : Sem α → Option α
  | .pure a => some a
  | .program k => pureRun P (k P)
  | .mark _ k => pureRun P k
  | _ => none

/-- A new block: its number and the heap with it. -/
def allocK {β : Type} (H : Heap) (cs : List Value) (lo : Option Nat) (k : Nat → Heap → β) : β :=
  forceL cs fun cs => forceN H.next fun b => k b { blk := H.blk.set b (some (.cells cs lo false)), next := Nat.succ b, floor := H.floor }
theorem allocK_eq {β : Type} (H : Heap) (cs : List Value) (lo : Option Nat) (k : Nat → Heap → β) : allocK H cs lo k = k H.next (H.new (.cells cs lo false)) := by
  simp [allocK, forceL_eq, forceN_eq, Heap.new]

/-! ### Memory -/
def cellsAt (H : Heap) (a : Addr) (n : Nat) : Option (List Value) :=
  match a.spot, H.get a.block with
  | none, some (.cells cs _ _) => if a.off + n ≤ cs.length then some ((cs.drop a.off).take n) else none
  | _, _ => none

def splice (cs : List Value) (off : Nat) (vs : List Value) : List Value := cs.take off ++ vs ++ cs.drop (off + vs.length)

def putCells (H : Heap) (a : Addr) (vs : List Value) : Option Heap :=
  match a.spot, H.get a.block with
  | none, some (.cells cs lo false) =>
    if a.off + vs.length ≤ cs.length then
      if H.floor ≤ a.block then
        if vs.all oneCell then forceL (splice cs a.off vs) fun cs' => some (H.put a.block (some (.cells cs' lo false))) else none
      else none
    else none
  | _, _ => none

def isAggT (P : Program) (t : TypeId) : Option Bool :=
  match P.underlying t with
  | some (.struct _) | some (.array _ _) => some true
  | some _ => some false
  | none => none
def sizeT (P : Program) (t : TypeId) : Option Nat := (P.info? t).map (·.size)
def zeroT (P : Program) (t : TypeId) : Option Value :=
  match P.info? t with
  | some i => match i.zero with
    | some v => if flat v then some v else none
    | none => none
  | none => none

def loadV (P : Program) (H : Heap) (t : TypeId) (a : Addr) : Option Value :=
  match isAggT P t, sizeT P t with
  | some true, some n => match cellsAt H a n with
    | some cs => some (.agg cs.toArray)
    | none => none
  | some false, some _ => match cellsAt H a 1 with
    | some [v] => some v
    | _ => none
  | _, _ => none

def storeV (P : Program) (H : Heap) (t : TypeId) (a : Addr) (v : Value) : Option Heap :=
  match sizeT P t with
  | some n => if v.cells.size = n then putCells H a v.cells.toList else none
  | none => none

def addrOf : Value → Option Addr
  | .pointer (some a) => match a.spot with | none => some a | some _ => none
  | _ => none

def intOf? : Value → Option Int
  | .int _ n => some n
  | _ => none

/-! ### Frames -/
structure Frm where
  t : PT Value
  n : Nat

def Frm.get (T : Frm) (i : Nat) : Value := (T.t.get i).getD undef
def Frm.put (T : Frm) (dst : Option Tmp) (v : Value) : Option Frm :=
  match dst with
  | none => some T
  | some d => if d < T.n then some { T with t := T.t.set d (some v) } else none

def evO (T : Frm) : Operand → Option Value
  | .tmp t => some (T.get t)
  | .const v => if flat v then some v else none
  | .global _ => none
  | .func f => some (.func (.func f) #[] #[])

def evL (T : Frm) : List Operand → Option (List Value)
  | [] => some []
  | x :: r => match evO T x, evL T r with
    | some v, some vs => some (v :: vs)
    | _, _ => none

def evParts (T : Frm) : List (Nat × Operand) → Option (List (Nat × Value))
  | [] => some []
  | (i, x) :: r => match evO T x, evParts T r with
    | some v, some vs => some ((i, v) :: vs)
    | _, _ => none

/-! ### The operations -/
abbrev R := Option (Value × Heap)

def keep (H : Heap) (v : Option Value) : R := match v with | some v => some (v, H) | none => none

def flatOnly (v : Option Value) : Option Value :=
  match v with
  | some v => if flat v then some v else none
  | none => none

def nilCmp (P : Program) (t : TypeId) (x y : Value) : Option Bool :=
  match P.underlying t, x, y with
  | some (.slice _), .slice none _ _, .slice b _ _ => some b.isNone
  | some (.slice _), .slice (some _) _ _, .slice none _ _ => some false
  | some (.pointer _), .pointer none, .pointer b => some b.isNone
  | some (.pointer _), .pointer (some _), .pointer none => some false
  | some (.map _ _), .map none, .map b => some b.isNone
  | some (.map _ _), .map (some _), .map none => some false
  | some (.func _ _ _), .nilFunc, .func _ _ _ => some false
  | some (.func _ _ _), .func _ _ _, .nilFunc => some false
  | _, _, _ => none

def binV (P : Program) (op : BinOp) (t : TypeId) (xo yo : Operand) (x y : Value) : Option Value :=
  if flat x && flat y then flatOnly (pureRun P (do eqGuard op t xo yo x y; binOp op t x y))
  else match op with
    | .eql => (nilCmp P t x y).map .bool
    | .neq => (nilCmp P t x y).map fun b => .bool (!b)
    | _ => none

def bytesCells (s : ByteArray) : List Value := s.data.toList.map fun b => .int .u8 b.toNat

def convV (P : Program) (H : Heap) (src dst : TypeId) (x : Value) : R :=
  match x, P.underlying dst with
  | .string s, some (.slice e) =>
    match P.underlying e, P.underlying src with
    | some (.int .u8), some _ => allocK H (bytesCells s) (some 1) fun b H' => some (.slice (some ⟨b, 0, none⟩) s.size s.size, H')
    | _, _ => none
  | .slice (some a) n c, some (.slice e) =>
    match P.underlying src, P.underlying e, H.get a.block with
    | some (.slice _), some (.int .u8), some (.cells _ _ false) => if src = dst ∧ H.floor ≤ a.block then some (.slice (some a) n c, H) else none
    | _, _, _ => none
  | _, _ => if flat x then keep H (flatOnly (pureRun P (convert src dst x))) else none

def fieldAt (P : Program) (t : TypeId) (i : Nat) : Option Field :=
  match P.underlying t with
  | some (.struct fs) => fs[i]?
  | _ => none

def fieldAddrV (P : Program) (t : TypeId) (x : Value) (i : Nat) : Option Value :=
  match addrOf x, fieldAt P t i with
  | some a, some f => match sizeT P f.type with
    | some (_ + 1) => some (.pointer (some ⟨a.block, a.off + f.offset, none⟩))
    | _ => none
  | _, _ => none

def indexAddrV (P : Program) (t : TypeId) (x i : Value) : Option Value :=
  match P.underlying t, x, i with
  | some (.array len e), .pointer (some ⟨b, off, none⟩), .int _ i =>
    match sizeT P e with
    | some s => if 0 ≤ i ∧ i < len then some (.pointer (some ⟨b, off + i.toNat * s, none⟩)) else none
    | none => none
  | some (.slice e), .slice (some ⟨b, off, none⟩) len _, .int _ i =>
    match sizeT P e with
    | some s => if 0 ≤ i ∧ i < len then some (.pointer (some ⟨b, off + i.toNat * s, none⟩)) else none
    | none => none
  | _, _, _ => none

def partV (P : Program) (t : TypeId) (cs : Array Value) (off : Nat) : Option Value :=
  match isAggT P t, sizeT P t with
  | some true, some n => some (.agg (cs.extract off (off + n)))
  | some false, _ => cs[off]?
  | _, _ => none

def fieldV (P : Program) (t : TypeId) (x : Value) (i : Nat) : Option Value :=
  match x, fieldAt P t i with
  | .agg cs, some f => partV P f.type cs f.offset
  | _, _ => none

def indexV (P : Program) (t : TypeId) (x i : Value) : Option Value :=
  match P.underlying t, x, i with
  | some (.array len e), .agg cs, .int _ i =>
    match sizeT P e with
    | some s => if 0 ≤ i ∧ i < len then partV P e cs (i.toNat * s) else none
    | none => none
  | some .string, .string s, .int _ i => if 0 ≤ i then (s[i.toNat]?).map fun b => .int .u8 b.toNat else none
  | _, _, _ => none

def boundV (v : Option Value) (d : Nat) (y : Nat) : Option Nat :=
  match v with
  | none => some d
  | some (.int _ i) => if 0 ≤ i ∧ i ≤ y then some i.toNat else none
  | some _ => none

def exAt (H : Heap) (b : Nat) : Bool :=
  match H.get b with
  | some (.cells _ none _) => true
  | _ => false

def sliceV (P : Program) (H : Heap) (t : TypeId) (x : Value) (lo hi mx : Option Value) : Option Value :=
  match mx, P.underlying t, x with
  | none, some .string, .string s =>
    match boundV hi s.size s.size with
    | some h => (boundV lo 0 h).map fun l => .string (s.extract l h)
    | none => none
  | none, some (.slice e), .slice (some ⟨b, off, none⟩) len cap =>
    match sizeT P e, boundV hi len cap with
    | some s, some h => match boundV lo 0 h with
      | some l => if l = 0 then some (.slice (some ⟨b, off, none⟩) h cap)
        else if (exAt H b && decide (l ≤ cap)) || decide (l < cap) then some (.slice (some (if cap = l then ⟨b, off, none⟩ else ⟨b, off + l * s, none⟩)) (h - l) (cap - l)) else none
      | none => none
    | _, _ => none
  | none, some (.slice e), .slice none 0 0 =>
    match sizeT P e, boundV hi 0 0, boundV lo 0 0 with
    | some _, some _, some _ => some (.slice none 0 0)
    | _, _, _ => none
  | none, some (.array n e), .pointer (some ⟨b, off, none⟩) =>
    match sizeT P e, boundV hi n n with
    | some s, some h => match boundV lo 0 h with
      | some l => if exAt H b then some (.slice (some (if n = l then ⟨b, off, none⟩ else ⟨b, off + l * s, none⟩)) (h - l) (n - l)) else none
      | none => none
    | _, _ => none
  | _, _, _ => none

def roomV : Nat := 2 ^ 36

def makeSliceV (P : Program) (H : Heap) (t : TypeId) (len cap : Value) : R :=
  match P.underlying t, len, cap with
  | some (.slice e), .int _ l, .int _ c =>
    match P.info? e, zeroT P e with
    | some i, some z =>
      if 0 ≤ l ∧ l ≤ c ∧ c ≤ roomV ∧ c * i.bytes ≤ roomV ∧ z.cells.size = i.size then
        allocK H (List.replicate c.toNat z.cells.toList).flatten none fun b H' => some (.slice (some ⟨b, 0, none⟩) l.toNat c.toNat, H')
      else none
    | _, _ => none
  | _, _, _ => none

def fillS (place : Nat → Option (Nat × Nat)) (cs : List Value) : List (Nat × Value) → Option (List Value)
  | [] => some cs
  | (i, v) :: r => match place i with
    | some (off, size) => if v.cells.size = size ∧ off + size ≤ cs.length then fillS place (splice cs off v.cells.toList) r else none
    | none => none

def buildV (P : Program) (t : TypeId) (parts : List (Nat × Value)) : Option Value :=
  match zeroT P t, P.underlying t with
  | some z, some (.struct fs) =>
    if fs.toList.all fun f => (sizeT P f.type).isSome then (fillS (fun i => match fs[i]? with | some f => (sizeT P f.type).map fun s => (f.offset, s) | none => none) z.cells.toList parts).map fun cs => .agg cs.toArray else none
  | some z, some (.array _ e) => match sizeT P e with
    | some s => (fillS (fun i => some (i * s, s)) z.cells.toList parts).map fun cs => .agg cs.toArray
    | none => none
  | _, _ => none

def buildSliceV (P : Program) (H : Heap) (t : TypeId) (len : Nat) (parts : List (Nat × Value)) : R :=
  match P.underlying t with
  | some (.slice e) => match sizeT P e, zeroT P e with
    | some s, some z =>
      if len * s ≤ 2 ^ 24 ∧ z.cells.size = s ∧ 0 < s then
        match fillS (fun i => some (i * s, s)) (List.replicate len z.cells.toList).flatten parts with
        | some cs => if cs.all oneCell then allocK H cs none fun b H' => some (.slice (some ⟨b, 0, none⟩) len len, H') else none
        | none => none
      else none
    | _, _ => none
  | _ => none

def srcCells (H : Heap) (size : Nat) : Value → Option (Nat × List Value)
  | .slice (some a) n _ => (cellsAt H a (n * size)).map fun cs => (n, cs)
  | .slice none 0 _ => some (0, [])
  | .string s => some (s.size, bytesCells s)
  | _ => none

def appendV (P : Program) (H : Heap) (argTypes : Array TypeId) (s x : Value) : R :=
  match (argTypes[0]?).bind P.underlying, (argTypes[1]?).bind P.underlying with
  | some (.slice e), some xt =>
    match xt with
    | .int _ => none
    | _ =>
    match P.info? e, s with
    | some i, .slice base n cap =>
      match srcCells H i.size x with
      | some (k, new) =>
        if n + k ≤ cap then
          match base with
          | some a => if k = 0 then some (s, H) else (putCells H ⟨a.block, a.off + n * i.size, a.spot⟩ new).map fun H' => (.slice base (n + k) cap, H')
          | none => if k = 0 then some (.slice none n cap, H) else none
        else if (n + k) * i.bytes ≤ roomV ∧ n + k ≤ roomV ∧ 0 < i.size ∧ ((zeroT P e).map (·.cells.size)) = some i.size then
          match base with
          | none => if n = 0 then allocK H new (some i.size) fun b H' => some (.slice (some ⟨b, 0, none⟩) k k, H') else none
          | some a =>
            match a.spot, H.get a.block with
            | none, some (.cells cs none _) =>
              if a.off + n * i.size ≤ cs.length then
                allocK H ((cs.drop a.off).take (n * i.size) ++ new) (some i.size) fun b H' => some (.slice (some ⟨b, 0, none⟩) (n + k) (n + k), H')
              else none
            | none, some (.cells cs (some z) false) =>
              if z = i.size ∧ a.off + n * i.size ≤ cs.length ∧ a.off + cap * i.size ≤ cs.length ∧ H.floor ≤ a.block ∧ new.all oneCell = true then
                allocK (H.put a.block none) ((cs.drop a.off).take (n * i.size) ++ new) (some i.size) fun b H' => some (.slice (some ⟨b, 0, none⟩) (n + k) (n + k), H')
              else none
            | _, _ => none
        else none
      | none => none
    | _, _ => none
  | _, _ => none

def copyV (P : Program) (H : Heap) (argTypes : Array TypeId) (d x : Value) : R :=
  match (argTypes[0]?).bind P.underlying with
  | some (.slice e) =>
    match sizeT P e, d with
    | some size, .slice base n cd =>
      if base.isNone && !(n.beq 0 && cd.beq 0) then none else
      match x with
      | .slice (some s) k c =>
        match srcCells H size (.slice (some s) k c), base with
        | some (_, new), some a => (putCells H a (new.take (Nat.min k n * size))).map fun H' => (.int .i64 (Nat.min k n : Nat), H')
        | some _, none => some (.int .i64 0, H)
        | _, _ => none
      | .slice none 0 _ => some (.int .i64 0, H)
      | _ => none
    | _, _ => none
  | _ => none

def lenV (P : Program) (H : Heap) (argTypes : Array TypeId) (x : Value) : Option Value :=
  match (argTypes[0]?).bind P.underlying, x with
  | some .string, .string s => some (.int .i64 s.size)
  | some (.array n _), _ => some (.int .i64 n)
  | some (.slice _), .slice _ n _ => some (.int .i64 n)
  | some (.map _ _), .map none => some (.int .i64 0)
  | some (.map _ _), .map (some r) => match H.get r with
    | some (.map es) => some (.int .i64 es.length)
    | _ => none
  | _, _ => none

def mapOf (H : Heap) : Value → Option (List MapEntry)
  | .map none => some []
  | .map (some r) => match H.get r with
    | some (.map es) => some es
    | _ => none
  | _ => none

def lookupV (P : Program) (H : Heap) (t : TypeId) (x k : Value) (ok : Bool) : Option Value :=
  match P.underlying t, mapOf H x with
  | some (.map kt et), some es =>
    if flat k && es.all fun e => flat e.key then
      match pureRun P (Instr.checkKey es.isEmpty 10000 kt k), pureRun P (Instr.findKey kt k es) with
      | some (), some (some (_, v)) => some (if ok then .tuple #[v, .bool true] else v)
      | some (), some none => (zeroT P et).map fun z => if ok then .tuple #[z, .bool false] else z
      | _, _ => none
    else none
  | _, _ => none

def mapUpdateV (P : Program) (H : Heap) (t : TypeId) (m k v : Value) : Option Heap :=
  match P.underlying t, m with
  | some (.map kt _), .map (some r) =>
    match H.get r with
    | some (.map es) =>
      if H.floor ≤ r && flat k && es.all fun e => flat e.key then
        match pureRun P (Instr.checkKey false 10000 kt k), pureRun P (Instr.findKey kt k es) with
        | some (), some (some (i, _)) =>
          match es[i]? with
          | some e => if Instr.sameBits 10000 e.key k then some (H.put r (some (.map (es.set i { e with key := k, val := v })))) else none
          | none => none
        | some (), some none => some (H.put r (some (.map (es ++ [{ key := k, val := v, born := 0 }]))))
        | _, _ => none
      else none
    | _ => none
  | _, _ => none

def nilCheckV (x : Value) : Option Value :=
  match x with
  | .pointer none | .nilIface | .nilFunc => none
  | .func (.func f) a b => some (.func (.func f) a b)
  | .pointer (some a) => some (.pointer (some a))
  | .slice a n c => some (.slice a n c)
  | _ => none

/-- A call of one of the program's functions: its number and its arguments. -/
def calleeOf (f : Value) (args : List Value) : Option (FuncId × List Value) :=
  match f with
  | .func (.func g) first captured => some (g, first.toList ++ args ++ captured.toList)
  | _ => none

def builtinV (P : Program) (H : Heap) (b : Builtin) (argTypes : Array TypeId) (type : TypeId) (args : List Value) : R :=
  match b, args with
  | .append, [s, x] => appendV P H argTypes s x
  | .copy, [d, x] => copyV P H argTypes d x
  | .len, [x] => keep H (lenV P H argTypes x)
  | .max, xs => if xs.all flat then keep H (flatOnly (pureRun P (Builtin.max_ argTypes type xs.toArray))) else none
  | .min, xs => if xs.all flat then keep H (flatOnly (pureRun P (Builtin.min_ argTypes type xs.toArray))) else none
  | _, _ => none

/-! The operations, each a small function of the frame and the heap: 'DenO' shuts what is closed away from what is not (the kernel keeps what a closed term comes to). -/
structure DenO where
  run : Frm → Heap → R

def oMove (x : Operand) (T : Frm) (H : Heap) : R := keep H (evO T x)
def oPick (c a b : Operand) (T : Frm) (H : Heap) : R :=
  match evO T c, evO T a, evO T b with
  | some (.bool c), some a, some b => some (if c then a else b, H)
  | _, _, _ => none
def oAlloc (P : Program) (e : TypeId) (H : Heap) : R :=
  match zeroT P e with
  | some z => allocK H z.cells.toList none fun b H' => some (.pointer (some ⟨b, 0, none⟩), H')
  | none => none
def oBox (x : Operand) (T : Frm) (H : Heap) : R :=
  match evO T x with
  | some v => if v.cells.toList.all oneCell then allocK H v.cells.toList none fun b H' => some (.pointer (some ⟨b, 0, none⟩), H') else none
  | none => none
def oBuild (P : Program) (t : TypeId) (parts : List (Nat × Operand)) (T : Frm) (H : Heap) : R :=
  match evParts T parts with
  | some ps => keep H (buildV P t ps)
  | none => none
def oBuildSlice (P : Program) (t : TypeId) (n : Nat) (parts : List (Nat × Operand)) (T : Frm) (H : Heap) : R :=
  match evParts T parts with
  | some ps => buildSliceV P H t n ps
  | none => none
def oLoad (P : Program) (t : TypeId) (a : Operand) (T : Frm) (H : Heap) : R :=
  match (evO T a).bind addrOf with
  | some a => keep H (loadV P H t a)
  | none => none
def oStore (P : Program) (t : TypeId) (a x : Operand) (T : Frm) (H : Heap) : R :=
  match (evO T a).bind addrOf, evO T x with
  | some a, some v => (storeV P H t a v).map fun H' => (undef, H')
  | _, _ => none
def oNil (x : Operand) (T : Frm) (H : Heap) : R := keep H ((evO T x).bind nilCheckV)
def oBin (P : Program) (op : BinOp) (t : TypeId) (x y : Operand) (T : Frm) (H : Heap) : R :=
  match evO T x, evO T y with
  | some a, some b => keep H (binV P op t x y a b)
  | _, _ => none
def oUn (P : Program) (op : UnOp) (x : Operand) (T : Frm) (H : Heap) : R :=
  match evO T x with
  | some a => if flat a then keep H (flatOnly (pureRun P (Op.unary op a))) else none
  | none => none
def oConv (P : Program) (src dst : TypeId) (x : Operand) (T : Frm) (H : Heap) : R :=
  match evO T x with
  | some a => convV P H src dst a
  | none => none
def oFunc (f : FuncId) (first captured : List Operand) (T : Frm) (H : Heap) : R :=
  match evL T first, evL T captured with
  | some a, some b => some (.func (.func f) a.toArray b.toArray, H)
  | _, _ => none
def oMakeSlice (P : Program) (t : TypeId) (l c : Operand) (T : Frm) (H : Heap) : R :=
  match evO T l, evO T c with
  | some l, some c => makeSliceV P H t l c
  | _, _ => none
def evM (T : Frm) : Option Operand → Option (Option Value)
  | none => some none
  | some x => match evO T x with
    | some v => some (some v)
    | none => none
def oSlice (P : Program) (t : TypeId) (x : Operand) (lo hi mx : Option Operand) (T : Frm) (H : Heap) : R :=
  match evO T x, evM T lo, evM T hi, evM T mx with
  | some x, some lo, some hi, some mx => keep H (sliceV P H t x lo hi mx)
  | _, _, _, _ => none
def oFieldAddr (P : Program) (t : TypeId) (x : Operand) (i : Nat) (T : Frm) (H : Heap) : R :=
  match evO T x with
  | some x => keep H (fieldAddrV P t x i)
  | none => none
def oField (P : Program) (t : TypeId) (x : Operand) (i : Nat) (T : Frm) (H : Heap) : R :=
  match evO T x with
  | some x => keep H (fieldV P t x i)
  | none => none
def oIndexAddr (P : Program) (t : TypeId) (x i : Operand) (T : Frm) (H : Heap) : R :=
  match evO T x, evO T i with
  | some x, some i => keep H (indexAddrV P t x i)
  | _, _ => none
def oIndex (P : Program) (t : TypeId) (x i : Operand) (T : Frm) (H : Heap) : R :=
  match evO T x, evO T i with
  | some x, some i => keep H (indexV P t x i)
  | _, _ => none
def oLookup (P : Program) (t : TypeId) (x k : Operand) (ok : Bool) (T : Frm) (H : Heap) : R :=
  match evO T x, evO T k with
  | some x, some k => keep H (lookupV P H t x k ok)
  | _, _ => none
def oUpdate (P : Program) (t : TypeId) (m k v : Operand) (T : Frm) (H : Heap) : R :=
  match evO T m, evO T k, evO T v with
  | some m, some k, some v => (mapUpdateV P H t m k v).map fun H' => (undef, H')
  | _, _, _ => none
def oExtract (x : Operand) (i : Nat) (T : Frm) (H : Heap) : R :=
  match evO T x with
  | some (.tuple vs) => keep H vs[i]?
  | _ => none
def oBuiltin (P : Program) (type : TypeId) (b : Builtin) (args : List Operand) (argTypes : Array TypeId) (T : Frm) (H : Heap) : R :=
  match evL T args with
  | some vs => builtinV P H b argTypes type vs
  | none => none

/-- The operations that enter no function. -/
def simpleV (P : Program) (type : TypeId) : Op → DenO
  | .move x | .assign x => ⟨oMove x⟩
  | .pick c a b => ⟨oPick c a b⟩
  | .alloc e => ⟨fun _ => oAlloc P e⟩
  | .box _ x => ⟨oBox x⟩
  | .build t parts => ⟨oBuild P t parts.toList⟩
  | .buildSlice t n parts => ⟨oBuildSlice P t n parts.toList⟩
  | .load t a => ⟨oLoad P t a⟩
  | .store t a x => ⟨oStore P t a x⟩
  | .nilCheck x => ⟨oNil x⟩
  | .binOp op t x y _ => ⟨oBin P op t x y⟩
  | .unOp op _ x => ⟨oUn P op x⟩
  | .convert src dst x => ⟨oConv P src dst x⟩
  | .makeFunc (.func f) first captured => ⟨oFunc f first.toList captured.toList⟩
  | .makeMap _ none => ⟨fun _ H => some (.map (some H.next), H.new (.map []))⟩
  | .makeSlice t l c => ⟨oMakeSlice P t l c⟩
  | .slice t x lo hi mx => ⟨oSlice P t x lo hi mx⟩
  | .fieldAddr t x i => ⟨oFieldAddr P t x i⟩
  | .field t x i => ⟨oField P t x i⟩
  | .indexAddr t x i => ⟨oIndexAddr P t x i⟩
  | .index t x i => ⟨oIndex P t x i⟩
  | .lookup t x k ok => ⟨oLookup P t x k ok⟩
  | .mapUpdate t m k v | .insert t m k v => ⟨oUpdate P t m k v⟩
  | .extract x i => ⟨oExtract x i⟩
  | .call ⟨.builtin b, args, argTypes⟩ => ⟨oBuiltin P type b args.toList argTypes⟩
  | _ => ⟨fun _ _ => none⟩

/-! ### Regions, code, calls -/
abbrev CallFn := FuncId → List Value → Heap → R

def yieldedV (ops : List Oper) (T : Frm) (j : Nat) : Option Bool :=
  match ((ops[j]?).bind (·.dst)) with
  | some t => match T.get t with
    | .bool b => some b
    | _ => none
  | none => none

def wantedV (ops : List Oper) (T : Frm) (o : Oper) : Bool :=
  match o.guard with
  | none => true
  | some (j, want) => match yieldedV ops T j with
    | some b => b == want
    | none => false

structure DenC where
  run : CallFn → Frm → Heap → R

def oCall (f : Operand) (args : List Operand) (call : CallFn) (T : Frm) (H : Heap) : R :=
  match evO T f, evL T args with
  | some f, some vs => match calleeOf f vs with
    | some (g, as) => call g as H
    | none => none
  | _, _ => none

def opV (P : Program) (o : Oper) : DenC :=
  match o.op with
  | .call ⟨.value f, args, _⟩ => ⟨oCall f args.toList⟩
  | op => ⟨fun _ => (simpleV P o.type op).run⟩

structure DenL where
  run : CallFn → Frm → Heap → Option (Frm × Heap)

def stepV (P : Program) (ops : List Oper) (o : Oper) (call : CallFn) (T : Frm) (H : Heap) (k : Frm → Heap → Option (Frm × Heap)) : Option (Frm × Heap) :=
  if wantedV ops T o then
    match (opV P o).run call T H with
    | some (v, H') => forceV v fun v => match T.put o.dst v with
      | some T' => k T' H'
      | none => none
    | none => none
  else match T.put o.dst undef with
    | some T' => k T' H
    | none => none

def opsV (P : Program) (ops : List Oper) : List Oper → DenL
  | [] => ⟨fun _ T H => some (T, H)⟩
  | o :: r => ⟨fun call T H => stepV P ops o call T H ((opsV P ops r).run call)⟩

/-! ### Regions that draw their order -/
inductive Fp where
  | mem (rd wr : List Nat)
  | call

def blkOf : Value → List Nat
  | .pointer (some a) => [a.block]
  | .slice (some a) _ _ => [a.block]
  | .map (some r) => [r]
  | _ => []

def blkO (T : Frm) (x : Operand) : List Nat :=
  match evO T x with
  | some v => blkOf v
  | none => []

def fpOf (T : Frm) (o : Oper) : Fp :=
  match o.op with
  | .load _ a => .mem (blkO T a) []
  | .store _ a _ => .mem [] (blkO T a)
  | .lookup _ x _ _ => .mem (blkO T x) []
  | .slice _ x _ _ _ => .mem (blkO T x) []
  | .convert _ _ x => .mem [] (blkO T x)
  | .mapUpdate _ m _ _ | .insert _ m _ _ => .mem [] (blkO T m)
  | .call ⟨.builtin .append, args, _⟩ => .mem ((args.toList.drop 1).flatMap (blkO T)) ((args.toList.take 1).flatMap (blkO T))
  | .call ⟨.builtin .copy, args, _⟩ => .mem ((args.toList.drop 1).flatMap (blkO T)) ((args.toList.take 1).flatMap (blkO T))
  | .call ⟨.builtin .len, args, _⟩ => .mem (args.toList.flatMap (blkO T)) []
  | .call ⟨.value _, _, _⟩ => .call
  | _ => .mem [] []

def meets (a b : List Nat) : Bool := a.any fun x => b.any fun y => x.beq y

def Fp.clash : Fp → Fp → Bool
  | .mem r w, .mem r' w' => meets w r' || meets w w' || meets r w'
  | .call, .mem _ w => !w.isEmpty
  | .mem _ w, .call => !w.isEmpty
  | .call, .call => false

/-- For each operation the set (a number's bits) of those that must come before it. -/
def befores (ops : List Oper) : List Nat :=
  ops.foldl (fun acc o => acc ++ [(o.after.toList.filter (Region.binds .any)).foldl (fun s e => s ||| 2 ^ e.on ||| acc.getD e.on 0) 0]) []

def cmpB (bs : List Nat) (i j : Nat) : Bool := (bs.getD i 0).testBit j || (bs.getD j 0).testBit i

def looksAt (ops : List Oper) (o : Oper) : List Tmp :=
  (o.op.operands.toList.filterMap fun | .tmp t => some t | _ => none) ++
  (match o.guard with
   | some (g, _) => ((ops[g]?).bind (·.dst)).toList
   | none => [])

def apartB (ops : List Oper) (x y : Oper) : Bool :=
  (match x.dst with
   | some d => !((looksAt ops y).any (·.beq d)) && (match y.dst with | some d' => !(d.beq d') | none => true)
   | none => true) &&
  (match y.dst with
   | some d => !((looksAt ops x).any (·.beq d))
   | none => true)

/-- The region's own text: whatever two operations are not ordered have different slots; every edge leads backward. -/
def regionOk (ops : List Oper) : Bool :=
  let bs := befores ops
  let is := List.range ops.length
  (ops.zipIdx.all fun (o, i) => o.after.toList.all fun e => !Region.binds .any e || decide (e.on < i)) &&
  is.all fun i => is.all fun j => !(decide (i < j)) || cmpB bs i j ||
    (match ops[i]?, ops[j]? with
     | some x, some y => apartB ops x y
     | _, _ => false)

/-- May the call at place i write? Only where all others are ordered beside it. -/
def freeCall (bs : List Nat) (n i : Nat) : Bool := (List.range n).all fun j => i.beq j || cmpB bs i j

structure DenD where
  run : CallFn → Frm → Heap → List Fp → Option (Frm × Heap × List Fp)

def quietB (bs : List Nat) (n i : Nat) : Fp → Bool
  | .call => !freeCall bs n i
  | .mem _ _ => false
def dropF (q : Bool) (H : Heap) : Heap :=
  match q with
  | true => { H with floor := H.next }
  | false => H
def liftF (q : Bool) (f : Nat) (H : Heap) : Heap :=
  match q with
  | true => { H with floor := f }
  | false => H

def stepD (P : Program) (ops : List Oper) (bs : List Nat) (i : Nat) (o : Oper) (call : CallFn) (T : Frm) (H : Heap) (fs : List Fp)
    (k : Frm → Heap → List Fp → Option (Frm × Heap × List Fp)) : Option (Frm × Heap × List Fp) :=
  if wantedV ops T o then
    match (opV P o).run call T (dropF (quietB bs ops.length i (fpOf T o)) H) with
    | some (v, H') => forceV v fun v => match T.put o.dst v with
      | some T' => k T' (liftF (quietB bs ops.length i (fpOf T o)) H.floor H') (fs ++ [fpOf T o])
      | none => none
    | none => none
  else match T.put o.dst undef with
    | some T' => k T' H (fs ++ [.mem [] []])
    | none => none

def opsD (P : Program) (ops : List Oper) (bs : List Nat) : List Oper → Nat → DenD
  | [], _ => ⟨fun _ T H fs => some (T, H, fs)⟩
  | o :: r, i => ⟨fun call T H fs => stepD P ops bs i o call T H fs ((opsD P ops bs r (i + 1)).run call)⟩

def clashFree (bs : List Nat) (fs : List Fp) : Bool :=
  let is := List.range fs.length
  is.all fun i => is.all fun j => !(decide (i < j)) || cmpB bs i j ||
    (match fs[i]?, fs[j]? with
     | some f, some g => !f.clash g
     | _, _ => false)

def regionD (P : Program) (ops : List Oper) (call : CallFn) (T : Frm) (H : Heap) : Option (Frm × Heap) :=
  if regionOk ops then
    match (opsD P ops (befores ops) ops 0).run call T H [] with
    | some (T', H', fs) => if clashFree (befores ops) fs then some (T', H') else none
    | none => none
  else none

inductive Ex where
  | normal
  | exit (id : Nat)
  | ret

abbrev CodeR := Option (Ex × Frm × Heap)

/-- A piece of code: calls go by 'call'; a loop has 'k' rounds. -/
structure DenK where
  run : CallFn → Nat → Frm → Heap → CodeR

def seqV (a b : Frm → Heap → CodeR) (T : Frm) (H : Heap) : CodeR :=
  match a T H with
  | some (.normal, T', H') => b T' H'
  | r => r

def loopV (b : Frm → Heap → CodeR) : Nat → Frm → Heap → CodeR
  | 0, _, _ => none
  | k + 1, T, H => match b T H with
    | some (.normal, T', H') => loopV b k T' H'
    | r => r

def condV (x : Operand) (a b : Frm → Heap → CodeR) (T : Frm) (H : Heap) : CodeR :=
  match evO T x with
  | some (.bool c) => match c with
    | true => a T H
    | false => b T H
  | _ => none

def blockV (id : Nat) (b : Frm → Heap → CodeR) (T : Frm) (H : Heap) : CodeR :=
  match b T H with
  | some (.exit i, T', H') => match i.beq id with
    | true => some (.normal, T', H')
    | false => some (.exit i, T', H')
  | r => r

def asCode (r : Option (Frm × Heap)) : CodeR :=
  match r with
  | some (T', H') => some (.normal, T', H')
  | none => none

def denC (P : Program) : Code → DenK
  | .skip => ⟨fun _ _ T H => some (.normal, T, H)⟩
  | .label _ => ⟨fun _ _ T H => some (.normal, T, H)⟩
  | .exit id => ⟨fun _ _ T H => some (.exit id, T, H)⟩
  | .ret => ⟨fun _ _ T H => some (.ret, T, H)⟩
  | .seq a b => ⟨fun call k => seqV ((denC P a).run call k) ((denC P b).run call k)⟩
  | .cond x a b => ⟨fun call k => condV x ((denC P a).run call k) ((denC P b).run call k)⟩
  | .block id b => ⟨fun call k => blockV id ((denC P b).run call k)⟩
  | .loop b => ⟨fun call k => loopV ((denC P b).run call k) k⟩
  | .scope b => ⟨fun call k => (denC P b).run call k⟩
  | .region _ ops true => ⟨fun call _ T H => asCode (regionD P ops.toList call T H)⟩
  | .region _ ops false => ⟨fun call _ T H => asCode ((opsV P ops.toList ops.toList).run call T H)⟩
  | _ => ⟨fun _ _ _ _ => none⟩

def argsT : PT Value → Nat → List Value → PT Value
  | t, _, [] => t
  | t, i, v :: r => argsT (t.set i (some v)) (i + 1) r

def resultV (P : Program) (T : Frm) (H : Heap) : ResultVar → Option Value
  | .tmp t => some (T.get t)
  | .cell a t => match addrOf (T.get a) with
    | some a => loadV P H t a
    | none => none

def resultsV (P : Program) (T : Frm) (H : Heap) : List ResultVar → Option (List Value)
  | [] => some []
  | r :: rs => match resultV P T H r, resultsV P T H rs with
    | some v, some vs => some (v :: vs)
    | _, _ => none

def retV (P : Program) (rs : List ResultVar) (r : CodeR) : R :=
  match r with
  | some (.exit _, _, _) => none
  | some (_, T, H') => match resultsV P T H' rs with
    | some [v] => some (v, H')
    | some vs => some (.tuple vs.toArray, H')
    | none => none
  | none => none

structure DenF where
  run : CallFn → Nat → List Value → Heap → R

def nth {α : Type} : List α → Nat → Option α
  | [], _ => none
  | x :: _, 0 => some x
  | _ :: r, i + 1 => nth r i

def denF (P : Program) (f : FuncId) : DenF :=
  match nth P.funcs.toList f with
  | some fn => match fn.body with
    | some c => ⟨fun call k args H =>
        if args.length ≤ fn.ntmps then retV P fn.results.toList ((denC P c).run call k ⟨argsT .leaf 0 args, fn.ntmps⟩ H) else none⟩
    | none => ⟨fun _ _ _ _ => none⟩
  | none => ⟨fun _ _ _ _ => none⟩

/-- A call: 'n' calls deep, 'k' rounds for each loop. -/
def callV (P : Program) (k : Nat) : Nat → CallFn
  | 0, _, _, _ => none
  | n + 1, f, args, H => (denF P f).run (callV P k n) k args H

def heap0 : Heap := ⟨.leaf, 0, 0⟩

end Go.Vm

namespace Go.Vm

/-- Where a block of the interpreter lies: the machine's block, the first cell, by how much capacities are greater. -/
abbrev Sg := Nat → Option (Nat × Nat × Nat)

inductive VR (σ : Sg) : Value → Value → Prop where
  | plain {v : Value} (h : plain v = true) : VR σ v v
  | ptr {b off r d s : Nat} (h : σ b = some (r, d, s)) : VR σ (.pointer (some ⟨b, off, none⟩)) (.pointer (some ⟨r, d + off, none⟩))
  | slice {b off r d n c s : Nat} (h : σ b = some (r, d, s)) :
      VR σ (.slice (some ⟨b, off, none⟩) n c) (.slice (some ⟨r, d + off, none⟩) n (c + s))
  | map {b r s : Nat} (h : σ b = some (r, 0, s)) : VR σ (.map (some b)) (.map (some r))
  | func {fn : Fn} {a a' c c' : Array Value} (ha : a.size = a'.size) (hc : c.size = c'.size)
      (h1 : ∀ (i : Nat) v v', a[i]? = some v → a'[i]? = some v' → VR σ v v')
      (h2 : ∀ (i : Nat) v v', c[i]? = some v → c'[i]? = some v' → VR σ v v') : VR σ (.func fn a c) (.func fn a' c')
  | agg {cs cs' : Array Value} (hs : cs.size = cs'.size) (h : ∀ (i : Nat) v v', cs[i]? = some v → cs'[i]? = some v' → VR σ v v') : VR σ (.agg cs) (.agg cs')
  | tuple {cs cs' : Array Value} (hs : cs.size = cs'.size) (h : ∀ (i : Nat) v v', cs[i]? = some v → cs'[i]? = some v' → VR σ v v') : VR σ (.tuple cs) (.tuple cs')

/-- Lists of values, each beside its own. -/
structure LR (σ : Sg) (l l' : List Value) : Prop where
  len : l.length = l'.length
  at_ : ∀ (i : Nat) v v', l[i]? = some v → l'[i]? = some v' → VR σ v v'

def Sub (n : Nat) (σ σ' : Sg) : Prop := ∀ b x, b < n → σ b = some x → σ' b = some x

theorem VR.mono {σ σ' : Sg} (hs : ∀ b x, σ b = some x → σ' b = some x) {v v' : Value} (h : VR σ v v') : VR σ' v v' := by
  induction h with
  | plain h => exact .plain h
  | ptr h => exact .ptr (hs _ _ h)
  | slice h => exact .slice (hs _ _ h)
  | map h => exact .map (hs _ _ h)
  | func ha hc _ _ i1 i2 => exact .func ha hc (fun i v v' a b => i1 i v v' a b) (fun i v v' a b => i2 i v v' a b)
  | agg hs _ ih => exact .agg hs fun i v v' a b => ih i v v' a b
  | tuple hs _ ih => exact .tuple hs fun i v v' a b => ih i v v' a b

theorem LR.mono {σ σ' : Sg} (hs : ∀ b x, σ b = some x → σ' b = some x) {l l' : List Value} (h : LR σ l l') : LR σ' l l' :=
  ⟨h.len, fun i v v' a b => (h.at_ i v v' a b).mono hs⟩

theorem LR.nil {σ : Sg} : LR σ [] [] := ⟨rfl, fun i v v' a _ => by simp at a⟩
theorem LR.cons {σ : Sg} {v v' : Value} {l l' : List Value} (hv : VR σ v v') (h : LR σ l l') : LR σ (v :: l) (v' :: l') :=
  ⟨by simp [h.len], fun i u u' a b => by
    cases i with
    | zero => simp at a b; subst a; subst b; exact hv
    | succ i => simp at a b; exact h.at_ i u u' a b⟩
theorem LR.head {σ : Sg} {v v' : Value} {l l' : List Value} (h : LR σ (v :: l) (v' :: l')) : VR σ v v' := h.at_ 0 v v' rfl rfl
theorem LR.tail {σ : Sg} {v v' : Value} {l l' : List Value} (h : LR σ (v :: l) (v' :: l')) : LR σ l l' :=
  ⟨by simpa using h.len, fun i u u' a b => h.at_ (i + 1) u u' (by simpa using a) (by simpa using b)⟩
theorem LR.append {σ : Sg} {a a' b b' : List Value} (h : LR σ a a') (k : LR σ b b') : LR σ (a ++ b) (a' ++ b') := by
  refine ⟨by simp [h.len, k.len], fun i v v' x y => ?_⟩
  by_cases hi : i < a.length
  · rw [List.getElem?_append_left hi] at x
    rw [List.getElem?_append_left (by have := h.len; omega)] at y
    exact h.at_ i v v' x y
  · rw [List.getElem?_append_right (by omega)] at x
    rw [List.getElem?_append_right (by have := h.len; omega), ← h.len] at y
    exact k.at_ _ v v' x y
theorem LR.take {σ : Sg} {a a' : List Value} (h : LR σ a a') (n : Nat) : LR σ (a.take n) (a'.take n) := by
  refine ⟨by simp [h.len], fun i v v' x y => ?_⟩
  rw [List.getElem?_take] at x y
  by_cases hi : i < n
  · simp only [hi, if_true] at x y; exact h.at_ i v v' x y
  · simp [hi] at x
theorem LR.drop {σ : Sg} {a a' : List Value} (h : LR σ a a') (n : Nat) : LR σ (a.drop n) (a'.drop n) := by
  refine ⟨by simp [h.len], fun i v v' x y => ?_⟩
  rw [List.getElem?_drop] at x y
  exact h.at_ _ v v' x y
theorem LR.of_plain {σ : Sg} : ∀ {l : List Value}, l.all plain = true → LR σ l l
  | [], _ => .nil
  | v :: r, h => by
    simp only [List.all_cons, Bool.and_eq_true] at h
    exact .cons (.plain h.1) (LR.of_plain h.2)

theorem VR.aggL {σ : Sg} {l l' : List Value} (h : LR σ l l') : VR σ (.agg l.toArray) (.agg l'.toArray) :=
  .agg (by simpa using h.len) fun i v v' a b => h.at_ i v v' (by simpa using a) (by simpa using b)
theorem VR.tupleL {σ : Sg} {l l' : List Value} (h : LR σ l l') : VR σ (.tuple l.toArray) (.tuple l'.toArray) :=
  .tuple (by simpa using h.len) fun i v v' a b => h.at_ i v v' (by simpa using a) (by simpa using b)
theorem VR.of_flat {σ : Sg} {v : Value} (h : flat v = true) : VR σ v v := by
  cases v with
  | agg cs => exact VR.aggL (LR.of_plain (l := cs.toList) h)
  | _ => exact .plain h
theorem VR.undef {σ : Sg} : VR σ undef undef := .tuple rfl fun i v v' a _ => by simp at a

theorem VR.plain_eq {σ : Sg} {v v' : Value} (h : VR σ v v') (hp : Vm.plain v = true) : v' = v := by
  cases h with
  | plain _ => rfl
  | _ => simp [Vm.plain] at hp
theorem LR.plain_eq {σ : Sg} : ∀ {l l' : List Value}, LR σ l l' → l.all Vm.plain = true → l' = l
  | [], l', h, _ => by have := h.len; simp at this; exact List.eq_nil_of_length_eq_zero this.symm
  | v :: r, [], h, _ => by have := h.len; simp at this
  | v :: r, v' :: r', h, hp => by
    simp only [List.all_cons, Bool.and_eq_true] at hp
    rw [h.head.plain_eq hp.1, h.tail.plain_eq hp.2]
theorem VR.agg_inv {σ : Sg} {cs : Array Value} {v' : Value} (h : VR σ (.agg cs) v') : ∃ cs' : Array Value, v' = .agg cs' ∧ LR σ cs.toList cs'.toList := by
  cases h with
  | plain h => simp [Vm.plain] at h
  | agg hs h => exact ⟨_, rfl, by simpa using hs, fun i v v' a b => h i v v' (by simpa using a) (by simpa using b)⟩
theorem VR.tuple_inv {σ : Sg} {cs : Array Value} {v' : Value} (h : VR σ (.tuple cs) v') : ∃ cs' : Array Value, v' = .tuple cs' ∧ LR σ cs.toList cs'.toList := by
  cases h with
  | plain h => simp [Vm.plain] at h
  | tuple hs h => exact ⟨_, rfl, by simpa using hs, fun i v v' a b => h i v v' (by simpa using a) (by simpa using b)⟩
theorem VR.flat_eq {σ : Sg} {v v' : Value} (h : VR σ v v') (hp : flat v = true) : v' = v := by
  cases v with
  | agg cs =>
    obtain ⟨cs', rfl, hl⟩ := h.agg_inv
    have := hl.plain_eq hp
    congr 1
    exact Array.toList_inj.1 this
  | _ => exact h.plain_eq hp
theorem VR.cells {σ : Sg} {v v' : Value} (h : VR σ v v') : LR σ v.cells.toList v'.cells.toList := by
  cases v with
  | agg cs => obtain ⟨cs', rfl, hl⟩ := h.agg_inv; exact hl
  | _ =>
    have : ∀ cs : Array Value, v' ≠ .agg cs := by
      intro cs e; subst e; cases h
    cases v' <;> first | exact absurd rfl (this _) | exact .cons h .nil
theorem VR.oneCell {σ : Sg} {v v' : Value} (h : VR σ v v') : v'.oneCell' = Vm.oneCell v := by
  cases h with
  | @plain v _ => cases v <;> rfl
  | _ => rfl
theorem VR.ptr_inv {σ : Sg} {a : Addr} {v' : Value} (h : VR σ (.pointer (some a)) v') :
    ∃ b off r d s, a = ⟨b, off, none⟩ ∧ σ b = some (r, d, s) ∧ v' = .pointer (some ⟨r, d + off, none⟩) := by
  cases h with
  | plain h => simp [Vm.plain] at h
  | ptr h => exact ⟨_, _, _, _, _, rfl, h, rfl⟩
theorem VR.slice_inv {σ : Sg} {a : Addr} {n c : Nat} {v' : Value} (h : VR σ (.slice (some a) n c) v') :
    ∃ b off r d s, a = ⟨b, off, none⟩ ∧ σ b = some (r, d, s) ∧ v' = .slice (some ⟨r, d + off, none⟩) n (c + s) := by
  cases h with
  | plain h => simp [Vm.plain] at h
  | slice h => exact ⟨_, _, _, _, _, rfl, h, rfl⟩
theorem VR.map_inv {σ : Sg} {b : Nat} {v' : Value} (h : VR σ (.map (some b)) v') : ∃ r s, σ b = some (r, 0, s) ∧ v' = .map (some r) := by
  cases h with
  | plain h => simp [Vm.plain] at h
  | map h => exact ⟨_, _, h, rfl⟩

/-! ### Blocks -/
def BlkOK (σ : Sg) (w : World) (x : Nat × Nat × Nat) : Blk → Prop
  | .cells cs lo ro => (lo = none → x.2.2 = 0) ∧ ∃ c t fr, w.heap[x.1]? = some (.cells c t fr) ∧ x.2.1 + cs.length ≤ c.size ∧
      (∀ (i : Nat) (v : Value), cs[i]? = some v → ∃ v', c[x.2.1 + i]? = some v' ∧ VR σ v v') ∧
      (ro = false → fr.1 = fr.2 ∨ c.size ≤ fr.1) ∧
      (∀ z, lo = some z → x.2.1 + cs.length + x.2.2 * z ≤ c.size)
  | .map es => x.2.1 = 0 ∧ ∃ es' clock, w.heap[x.1]? = some (.map es' clock) ∧ es.length = es'.size ∧
      ∀ (i : Nat) (e e' : MapEntry), es[i]? = some e → es'[i]? = some e' → (flat e.key = true → e'.key = e.key) ∧ VR σ e.val e'.val

theorem BlkOK.mono {σ σ' : Sg} {w w' : World} {x : Nat × Nat × Nat} {k : Blk} (h : BlkOK σ w x k) (hs : ∀ b x, σ b = some x → σ' b = some x)
    (hw : w'.heap[x.1]? = w.heap[x.1]?) : BlkOK σ' w' x k := by
  cases k with
  | cells cs lo ro =>
    obtain ⟨he, c, t, fr, h1, h2, h3, h4⟩ := h
    exact ⟨he, c, t, fr, by rw [hw, h1], h2, fun i v hi => let ⟨v', a, b⟩ := h3 i v hi; ⟨v', a, b.mono hs⟩, h4⟩
  | map es =>
    obtain ⟨h0, es', clock, h1, h2, h3⟩ := h
    exact ⟨h0, es', clock, by rw [hw, h1], h2, fun i e e' a b => ⟨(h3 i e e' a b).1, (h3 i e e' a b).2.mono hs⟩⟩

/-- A block that may be written. -/
def WR (H : Heap) (b : Nat) : Prop :=
  match H.get b with
  | some (.cells _ _ ro) => ro = false
  | some (.map _) => True
  | none => False

theorem WR.some {H : Heap} {b : Nat} (h : WR H b) : ∃ k, H.get b = some k := by
  unfold WR at h
  cases hb : H.get b with
  | none => rw [hb] at h; exact h.elim
  | some k => exact ⟨k, rfl⟩

structure St (σ : Sg) (H : Heap) (w : World) : Prop where
  ok : ∀ b x k, σ b = some x → H.get b = some k → BlkOK σ w x k
  lt : ∀ b x, σ b = some x → b < H.next ∧ x.1 < w.heap.size
  inj : ∀ b b' x x', b ≠ b' → σ b = some x → σ b' = some x' → x.1 = x'.1 → WR H b → H.get b' = none

def Own (σ : Sg) (H : Heap) (r : Nat) : Prop := ∃ b x, H.floor ≤ b ∧ WR H b ∧ σ b = some x ∧ x.1 = r

structure Stp (σ : Sg) (H : Heap) (w : World) (σ' : Sg) (H' : Heap) (w' : World) : Prop where
  next : H.next ≤ H'.next
  floor : H'.floor = H.floor
  sub : ∀ b, b < H.next → σ' b = σ b
  low : ∀ b, b < H.floor → b < H.next → H'.get b = H.get b
  alive : ∀ b, b < H.next → H.get b = none → H'.get b = none
  wr : ∀ b, b < H.next → WR H' b → WR H b
  os : w'.os = w.os
  tape : w'.tape = w.tape
  output : w'.output = w.output
  size : w.heap.size ≤ w'.heap.size
  frame : ∀ r, r < w.heap.size → ¬ Own σ H r → w'.heap[r]? = w.heap[r]?
  own : ∀ r, Own σ' H' r → Own σ H r ∨ w.heap.size ≤ r
  newr : ∀ b x, H.next ≤ b → σ' b = some x → Own σ H x.1 ∨ w.heap.size ≤ x.1

theorem Stp.refl {σ : Sg} {H : Heap} {w : World} (hl : ∀ b x, σ b = some x → b < H.next ∧ x.1 < w.heap.size) : Stp σ H w σ H w :=
  ⟨Nat.le_refl _, rfl, fun _ _ => rfl, fun _ _ _ => rfl, fun _ _ h => h, fun _ _ h => h, rfl, rfl, rfl, Nat.le_refl _, fun _ _ _ => rfl, fun _ h => .inl h, fun b x hb hx => by have := (hl b x hx).1; omega⟩

theorem Stp.mono {σ : Sg} {H : Heap} {w : World} {σ' : Sg} {H' : Heap} {w' : World} (h : Stp σ H w σ' H' w') (hl : ∀ b x, σ b = some x → b < H.next) :
    ∀ b x, σ b = some x → σ' b = some x := fun b x hb => (h.sub b (hl b x hb)).trans hb

theorem Stp.trans {σ σ1 σ2 : Sg} {H H1 H2 : Heap} {w w1 w2 : World} (h : Stp σ H w σ1 H1 w1) (k : Stp σ1 H1 w1 σ2 H2 w2) : Stp σ H w σ2 H2 w2 where
  next := Nat.le_trans h.next k.next
  floor := k.floor.trans h.floor
  sub b hb := (k.sub b (Nat.lt_of_lt_of_le hb h.next)).trans (h.sub b hb)
  low b hf hb := (k.low b (h.floor ▸ hf) (Nat.lt_of_lt_of_le hb h.next)).trans (h.low b hf hb)
  alive b hb hn := k.alive b (Nat.lt_of_lt_of_le hb h.next) (h.alive b hb hn)
  wr b hb hw := h.wr b hb (k.wr b (Nat.lt_of_lt_of_le hb h.next) hw)
  os := k.os.trans h.os
  tape := k.tape.trans h.tape
  output := k.output.trans h.output
  size := Nat.le_trans h.size k.size
  frame r hr ho := by
    rw [k.frame r (Nat.lt_of_lt_of_le hr h.size) (fun o => (h.own r o).elim ho (by omega)), h.frame r hr ho]
  own r hr := (k.own r hr).elim (fun o => h.own r o) (fun o => .inr (Nat.le_trans h.size o))
  newr b x hb hx := by
    by_cases hb1 : b < H1.next
    · exact h.newr b x hb (by rw [← k.sub b hb1]; exact hx)
    · exact (k.newr b x (by omega) hx).elim (fun o => h.own _ o) (fun o => .inr (Nat.le_trans h.size o))

/-! ### What one operation does -/
structure LRes (σ : Sg) (H : Heap) (w : World) (σ' : Sg) (H' : Heap) (w' : World) (Wr : Nat → Prop) : Prop where
  next : H.next ≤ H'.next
  next1 : H'.next ≤ H.next + 1
  floor : H'.floor = H.floor
  sub : ∀ b, b < H.next → σ' b = σ b
  lt : ∀ b x, σ' b = some x → b < H'.next ∧ x.1 < w'.heap.size
  same : ∀ b, b < H.next → ¬ Wr b → H'.get b = H.get b
  wr : ∀ b, b < H.next → Wr b → H'.get b = H.get b ∨ (H.floor ≤ b ∧ WR H b ∧ (H'.get b = none ∨ WR H' b))
  ok : ∀ b x k, (Wr b ∨ H.next ≤ b) → σ' b = some x → H'.get b = some k → BlkOK σ' w' x k
  newr : ∀ b x, H.next ≤ b → σ' b = some x → w.heap.size ≤ x.1 ∨ ∃ b0 x0, Wr b0 ∧ H.floor ≤ b0 ∧ WR H b0 ∧ σ b0 = some x0 ∧ x0.1 = x.1 ∧ H'.get b0 = none
  os : w'.os = w.os
  tape : w'.tape = w.tape
  output : w'.output = w.output
  size : w.heap.size ≤ w'.heap.size
  frame : ∀ r, r < w.heap.size → w'.heap[r]? = w.heap[r]? ∨ ∃ b0 x0, Wr b0 ∧ H.floor ≤ b0 ∧ WR H b0 ∧ σ b0 = some x0 ∧ x0.1 = r

theorem WR.congr {H H' : Heap} {b : Nat} (h : H'.get b = H.get b) : WR H' b ↔ WR H b := by unfold WR; rw [h]

theorem LRes.stp {σ σ' : Sg} {H H' : Heap} {w w' : World} {Wr : Nat → Prop} (h : LRes σ H w σ' H' w' Wr) (_ : St σ H w) : Stp σ H w σ' H' w' where
  next := h.next
  floor := h.floor
  sub := h.sub
  low b hf hb := by
    by_cases hw : Wr b
    · rcases h.wr b hb hw with e | ⟨hf', _⟩
      · exact e
      · omega
    · exact h.same b hb hw
  alive b hb hn := by
    by_cases hw : Wr b
    · rcases h.wr b hb hw with e | ⟨_, hw', _⟩
      · rw [e, hn]
      · obtain ⟨k, hk⟩ := hw'.some; rw [hn] at hk; cases hk
    · rw [h.same b hb hw, hn]
  wr b hb hw' := by
    by_cases hw : Wr b
    · rcases h.wr b hb hw with e | ⟨_, hw1, _⟩
      · exact (WR.congr e).1 hw'
      · exact hw1
    · exact (WR.congr (h.same b hb hw)).1 hw'
  os := h.os
  tape := h.tape
  output := h.output
  size := h.size
  frame r hr ho := (h.frame r hr).elim id fun ⟨b0, x0, _, hf, hw, hx, hr'⟩ => absurd ⟨b0, x0, hf, hw, hx, hr'⟩ ho
  own r hr := by
    obtain ⟨b, x, hf, hw', hx, hr'⟩ := hr
    by_cases hb : b < H.next
    · rw [h.sub b hb] at hx
      have hw : WR H b := by
        by_cases hw : Wr b
        · rcases h.wr b hb hw with e | ⟨_, hw1, _⟩
          · exact (WR.congr e).1 hw'
          · exact hw1
        · exact (WR.congr (h.same b hb hw)).1 hw'
      exact .inl ⟨b, x, h.floor ▸ hf, hw, hx, hr'⟩
    · rcases h.newr b x (by omega) hx with hge | ⟨b0, x0, _, hf0, hw0, hx0, he, _⟩
      · exact .inr (hr' ▸ hge)
      · exact .inl ⟨b0, x0, hf0, hw0, hx0, he.trans hr'⟩
  newr b x hb hx := by
    rcases h.newr b x hb hx with hge | ⟨b0, x0, _, hf0, hw0, hx0, he, _⟩
    · exact .inr hge
    · exact .inl ⟨b0, x0, hf0, hw0, hx0, he⟩

theorem LRes.mono {σ σ' : Sg} {H H' : Heap} {w w' : World} {Wr : Nat → Prop} (h : LRes σ H w σ' H' w' Wr) (hl : ∀ b x, σ b = some x → b < H.next ∧ x.1 < w.heap.size) :
    ∀ b x, σ b = some x → σ' b = some x := fun b x hb => (h.sub b (hl b x hb).1).trans hb

theorem LRes.st {σ σ' : Sg} {H H' : Heap} {w w' : World} {Wr : Nat → Prop} (h : LRes σ H w σ' H' w' Wr) (hs : St σ H w) : St σ' H' w' where
  ok b x k hx hk := by
    by_cases hb : b < H.next
    · by_cases hw : Wr b
      · exact h.ok b x k (.inl hw) hx hk
      · have hx' := hx; rw [h.sub b hb] at hx'
        have hk' := hk; rw [h.same b hb hw] at hk'
        refine (hs.ok b x k hx' hk').mono (h.mono hs.lt) ?_
        rcases h.frame x.1 (hs.lt b x hx').2 with e | ⟨b0, x0, hw0, _, hwr0, hx0, he⟩
        · exact e
        · have hne : b0 ≠ b := fun e => hw (e ▸ hw0)
          have := hs.inj b0 b x0 x hne hx0 hx' he hwr0
          rw [hk'] at this; cases this
    · exact h.ok b x k (.inr (by omega)) hx hk
  lt := h.lt
  inj b b' x x' hne hx hx' he hwr := by
    have old : ∀ c, c < H.next → WR H' c → WR H c := (h.stp hs).wr
    have dead : ∀ c, c < H.next → H.get c = none → H'.get c = none := (h.stp hs).alive
    by_cases hb : b < H.next
    · rw [h.sub b hb] at hx
      by_cases hb' : b' < H.next
      · rw [h.sub b' hb'] at hx'
        exact dead b' hb' (hs.inj b b' x x' hne hx hx' he (old b hb hwr))
      · rcases h.newr b' x' (by omega) hx' with hge | ⟨b0, x0, _, _, hw0, hx0, he0, hd⟩
        · have := (hs.lt b x hx).2; omega
        · by_cases e : b = b0
          · subst e
            obtain ⟨k, hk⟩ := hwr.some; rw [hd] at hk; cases hk
          · have := hs.inj b b0 x x0 e hx hx0 (by rw [he, he0]) (old b hb hwr)
            obtain ⟨k, hk⟩ := hw0.some; rw [this] at hk; cases hk
    · by_cases hb' : b' < H.next
      · rw [h.sub b' hb'] at hx'
        rcases h.newr b x (by omega) hx with hge | ⟨b0, x0, _, _, hw0, hx0, he0, hd⟩
        · have := (hs.lt b' x' hx').2; omega
        · by_cases e : b' = b0
          · exact e ▸ hd
          · exact dead b' hb' (hs.inj b0 b' x0 x' (fun h => e h.symm) hx0 hx' (by rw [he0, he]) hw0)
      · have := (h.lt b x hx).1
        have := (h.lt b' x' hx').1
        have := h.next1
        omega

end Go.Vm

namespace Go.Vm
variable {P : Program}

theorem pureRun_sound {α : Type} : ∀ (s : Sem α) (a : α), pureRun P s = some a → ∀ w, s.run P w = .ok a w := by
  intro s
  induction s with
  | pure x => intro a h w; simp only [pureRun, Option.some.injEq] at h; subst h; rfl
  | program k ih => intro a h w; exact ih P a h w
  | mark m k ih => intro a h w; exact ih a h w
  | _ => intro a h w; simp [pureRun] at h

structure FR (σ : Sg) (T : Frm) (tmps : Array Value) : Prop where
  size : tmps.size = T.n
  at_ : ∀ i, VR σ (T.get i) (tmps.getD i undef)

theorem FR.mono {σ σ' : Sg} (hs : ∀ b x, σ b = some x → σ' b = some x) {T : Frm} {tmps : Array Value} (h : FR σ T tmps) : FR σ' T tmps :=
  ⟨h.size, fun i => (h.at_ i).mono hs⟩

theorem FR.put {σ : Sg} {T T' : Frm} {a : Act} (h : FR σ T a.tmps) {dst : Option Tmp} {v v' : Value} (hp : T.put dst v = some T') (hv : VR σ v v') :
    FR σ T' (a.put dst v').tmps := by
  cases dst with
  | none => simp only [Frm.put, Option.some.injEq] at hp; subst hp; exact h
  | some d =>
    simp only [Frm.put] at hp
    split at hp
    · rename_i hd
      simp only [Option.some.injEq] at hp
      subst hp
      refine ⟨by simp [Act.put, h.size], fun i => ?_⟩
      have hs := h.size
      simp only [Frm.get, PT.get_set, Act.put, Array.getD_eq_getD_getElem?, Array.getElem?_setIfInBounds]
      by_cases e : i = d
      · subst e; simp [hs, hd, hv]
      · have := h.at_ i
        simp only [Frm.get, Array.getD_eq_getD_getElem?] at this
        simp [e, Ne.symm e, this]
    · cases hp

theorem put_defers {a : Act} {dst : Option Tmp} {v : Value} : (a.put dst v).defers = a.defers := by cases dst <;> rfl

theorem evO_sound {σ : Sg} {T : Frm} {a : Act} (h : FR σ T a.tmps) {x : Operand} {v : Value} (hx : evO T x = some v) : VR σ v (a.eval x) := by
  cases x with
  | tmp t => simp only [evO, Option.some.injEq] at hx; subst hx; exact h.at_ t
  | const c =>
    simp only [evO] at hx
    split at hx
    · rename_i hf; simp only [Option.some.injEq] at hx; subst hx; exact VR.of_flat hf
    · cases hx
  | global g => simp [evO] at hx
  | func f => simp only [evO, Option.some.injEq] at hx; subst hx; exact .func rfl rfl (fun i v v' h => by simp at h) (fun i v v' h => by simp at h)

theorem evL_sound {σ : Sg} {T : Frm} {a : Act} (h : FR σ T a.tmps) : ∀ {l : List Operand} {vs : List Value}, evL T l = some vs → LR σ vs (l.map a.eval)
  | [], vs, hx => by simp only [evL, Option.some.injEq] at hx; subst hx; exact .nil
  | x :: r, vs, hx => by
    simp only [evL] at hx
    split at hx
    · rename_i v us hv hus
      simp only [Option.some.injEq] at hx
      subst hx
      exact .cons (evO_sound h hv) (evL_sound h hus)
    · cases hx

def nxv : Next → Option Value
  | .value v => some v
  | .skip => some undef
  | _ => none

def Touch (T : Frm) (o : Oper) (b : Nat) : Prop := match fpOf T o with | .mem r w => b ∈ r ∨ b ∈ w | .call => True
def Wrs (T : Frm) (o : Oper) (b : Nat) : Prop := match fpOf T o with | .mem _ w => b ∈ w | .call => False

def Lt (σ : Sg) (H : Heap) (w : World) : Prop := ∀ b x, σ b = some x → b < H.next ∧ x.1 < w.heap.size

/-- Nothing has changed. -/
theorem LRes.idl {σ : Sg} {H : Heap} {w : World} {Wr : Nat → Prop} (hlt : Lt σ H w)
    (hok : ∀ b x k, Wr b → σ b = some x → H.get b = some k → BlkOK σ w x k) : LRes σ H w σ H w Wr where
  next := Nat.le_refl _
  next1 := by omega
  floor := rfl
  sub _ _ := rfl
  lt := hlt
  same _ _ _ := rfl
  wr _ _ _ := .inl rfl
  ok b x k hb hx hk := hb.elim (fun h => hok b x k h hx hk) (fun h => by have := (hlt b x hx).1; omega)
  newr b x hb hx := by have := (hlt b x hx).1; omega
  os := rfl
  tape := rfl
  output := rfl
  size := Nat.le_refl _
  frame _ _ := .inl rfl

/-- The statement on one operation. -/
def OpS (P : Program) (o : Oper) (T : Frm) (H : Heap) (v : Value) (H' : Heap) : Prop :=
  ∀ (σ : Sg) (a : Act) (w : World), FR σ T a.tmps → Lt σ H w → (∀ b x k, Touch T o b → σ b = some x → H.get b = some k → BlkOK σ w x k) →
    ∃ nx v' w' σ', (execOp a.eval o).run P w = .ok nx w' ∧ nxv nx = some v' ∧ VR σ' v v' ∧ LRes σ H w σ' H' w' (Wrs T o)

/-- An operation that only computes or reads. -/
theorem OpS.still {o : Oper} {T : Frm} {H : Heap} {v : Value} (hw : ∀ b, ¬ Wrs T o b)
    (h : ∀ (σ : Sg) (a : Act) (w : World), FR σ T a.tmps → Lt σ H w → (∀ b x k, Touch T o b → σ b = some x → H.get b = some k → BlkOK σ w x k) →
      ∃ v', (execOp a.eval o).run P w = .ok (.value v') w ∧ VR σ v v') : OpS P o T H v H := by
  intro σ a w hfr hlt hok
  obtain ⟨v', hr, hv⟩ := h σ a w hfr hlt hok
  exact ⟨_, v', w, σ, hr, rfl, hv, .idl hlt (fun b x k hb => absurd hb (hw b))⟩

theorem keep_some {H H' : Heap} {v : Option Value} {u : Value} (h : keep H v = some (u, H')) : v = some u ∧ H' = H := by
  cases v with
  | none => simp [keep] at h
  | some v => simp [keep] at h; exact ⟨by rw [h.1], h.2.symm⟩

section
variable {dst : Option Tmp} {type : TypeId} {pos : String} {after : Array Edge} {guard : Option (Nat × Bool)} {T : Frm} {H H' : Heap} {v : Value}

theorem s_move {x : Operand} (h : oMove x T H = some (v, H')) : OpS P ⟨dst, .move x, type, pos, after, guard⟩ T H v H' := by
  obtain ⟨hv, rfl⟩ := keep_some h
  exact .still (fun b h => by simp [Wrs, fpOf] at h) fun σ a w hfr _ _ => ⟨_, rfl, evO_sound hfr hv⟩
theorem s_assign {x : Operand} (h : oMove x T H = some (v, H')) : OpS P ⟨dst, .assign x, type, pos, after, guard⟩ T H v H' := by
  obtain ⟨hv, rfl⟩ := keep_some h
  exact .still (fun b h => by simp [Wrs, fpOf] at h) fun σ a w hfr _ _ => ⟨_, rfl, evO_sound hfr hv⟩

theorem VR.bool_inv {σ : Sg} {b : Bool} {v' : Value} (h : VR σ (.bool b) v') : v' = .bool b := h.plain_eq rfl
theorem VR.int_inv {σ : Sg} {k : IntKind} {n : Int} {v' : Value} (h : VR σ (.int k n) v') : v' = .int k n := h.plain_eq rfl

theorem s_pick {c x y : Operand} (h : oPick c x y T H = some (v, H')) : OpS P ⟨dst, .pick c x y, type, pos, after, guard⟩ T H v H' := by
  unfold oPick at h
  split at h
  · rename_i cb xv yv hc hx hy
    simp only [Option.some.injEq, Prod.mk.injEq] at h
    obtain ⟨rfl, rfl⟩ := h
    refine .still (fun b h => by simp [Wrs, fpOf] at h) fun σ a w hfr _ _ => ?_
    have e := (evO_sound hfr hc).bool_inv
    refine ⟨if cb then a.eval x else a.eval y, ?_, ?_⟩
    · simp [execOp, e, asBool]
    · cases cb
      · exact evO_sound hfr hy
      · exact evO_sound hfr hx
  · cases h

theorem s_nil {x : Operand} (h : oNil x T H = some (v, H')) : OpS P ⟨dst, .nilCheck x, type, pos, after, guard⟩ T H v H' := by
  obtain ⟨hv, rfl⟩ := keep_some h
  refine .still (fun b h => by simp [Wrs, fpOf] at h) fun σ a w hfr _ _ => ?_
  cases hx : evO T x with
  | none => simp [hx] at hv
  | some u =>
    have hr := evO_sound hfr hx
    simp only [hx, Option.bind_some] at hv
    unfold nilCheckV at hv
    split at hv <;> first | (cases hv; done) | skip
    · simp only [Option.some.injEq] at hv
      subst hv
      refine ⟨a.eval x, ?_, hr⟩
      generalize he : a.eval x = y at hr ⊢
      cases hr with
      | plain h => simp [plain] at h
      | func => simp [execOp, he]
    · simp only [Option.some.injEq] at hv
      subst hv
      refine ⟨a.eval x, ?_, hr⟩
      obtain ⟨b, off, r, d, s, _, _, e⟩ := hr.ptr_inv
      simp [execOp, e]
    · simp only [Option.some.injEq] at hv
      subst hv
      refine ⟨a.eval x, ?_, hr⟩
      generalize he : a.eval x = y at hr ⊢
      cases hr with
      | plain h => simp [execOp, he]
      | slice => simp [execOp, he]

theorem s_func {f : FuncId} {first captured : Array Operand} (h : oFunc f first.toList captured.toList T H = some (v, H')) :
    OpS P ⟨dst, .makeFunc (.func f) first captured, type, pos, after, guard⟩ T H v H' := by
  unfold oFunc at h
  split at h
  · rename_i xs ys hx hy
    simp only [Option.some.injEq, Prod.mk.injEq] at h
    obtain ⟨rfl, rfl⟩ := h
    refine .still (fun b h => by simp [Wrs, fpOf] at h) fun σ a w hfr _ _ => ?_
    refine ⟨_, rfl, ?_⟩
    have h1 := evL_sound hfr hx
    have h2 := evL_sound hfr hy
    refine .func (by simpa using h1.len) (by simpa using h2.len) (fun i v v' p q => h1.at_ i v v' (by simpa using p) ?_) (fun i v v' p q => h2.at_ i v v' (by simpa using p) ?_)
    · simpa using q
    · simpa using q
  · cases h

theorem s_extract {x : Operand} {i : Nat} (h : oExtract x i T H = some (v, H')) : OpS P ⟨dst, .extract x i, type, pos, after, guard⟩ T H v H' := by
  unfold oExtract at h
  split at h
  · rename_i vs hx
    obtain ⟨hv, rfl⟩ := keep_some h
    refine .still (fun b h => by simp [Wrs, fpOf] at h) fun σ a w hfr _ _ => ?_
    obtain ⟨cs', e, hl⟩ := (evO_sound hfr hx).tuple_inv
    have hi : i < cs'.size := by
      have := hl.len
      have := (Array.getElem?_eq_some_iff.1 hv).1
      simp at *; omega
    refine ⟨cs'[i], by simp [execOp, e, Instr.extract, hi], hl.at_ i v _ (by simpa using hv) (by simp [hi])⟩
  · cases h

theorem flatOnly_some {v : Option Value} {u : Value} (h : flatOnly v = some u) : v = some u ∧ flat u = true := by
  cases v with
  | none => simp [flatOnly] at h
  | some v =>
    simp only [flatOnly] at h
    split at h
    · simp only [Option.some.injEq] at h; subst h; exact ⟨rfl, by assumption⟩
    · cases h

theorem s_un {op : UnOp} {t : TypeId} {x : Operand} (h : oUn P op x T H = some (v, H')) : OpS P ⟨dst, .unOp op t x, type, pos, after, guard⟩ T H v H' := by
  unfold oUn at h
  split at h
  · rename_i u hx
    split at h
    · rename_i hf
      obtain ⟨hv, rfl⟩ := keep_some h
      obtain ⟨hv, hfv⟩ := flatOnly_some hv
      refine .still (fun b h => by simp [Wrs, fpOf] at h) fun σ a w hfr _ _ => ?_
      have e := (evO_sound hfr hx).flat_eq hf
      have hr := pureRun_sound _ _ hv w
      exact ⟨v, by simp [execOp, e, hr], VR.of_flat hfv⟩
    · cases h
  · cases h

theorem nilCmp_in (n : Nat) {t : TypeId} {x y x' y' : Value} {σ : Sg} (hx : VR σ x x') (hy : VR σ y y') {b : Bool} (h : nilCmp P t x y = some b) (w : World) :
    (Op.equalIn (n + 1) t x' y').run P w = .ok b w := by
  unfold nilCmp at h
  split at h <;> first | (cases h; done) | skip
  all_goals
    rename_i hu
    simp only [Option.some.injEq] at h
    subst h
  · have := hx.plain_eq rfl; subst this
    rename_i b _ _
    cases b with
    | none => have := hy.plain_eq rfl; subst this; simp [Op.equalIn, run_underlying hu]
    | some a => obtain ⟨_, _, _, _, _, _, _, rfl⟩ := hy.slice_inv; simp [Op.equalIn, run_underlying hu]
  · have := hy.plain_eq rfl; subst this
    obtain ⟨_, _, _, _, _, _, _, rfl⟩ := hx.slice_inv
    simp [Op.equalIn, run_underlying hu]
  · have := hx.plain_eq rfl; subst this
    rename_i b
    cases b with
    | none => have := hy.plain_eq rfl; subst this; simp [Op.equalIn, run_underlying hu]
    | some a => obtain ⟨_, _, _, _, _, _, _, rfl⟩ := hy.ptr_inv; simp [Op.equalIn, run_underlying hu]
  · have := hy.plain_eq rfl; subst this
    obtain ⟨_, _, _, _, _, _, _, rfl⟩ := hx.ptr_inv
    simp [Op.equalIn, run_underlying hu]
  · have := hx.plain_eq rfl; subst this
    rename_i b
    cases b with
    | none => have := hy.plain_eq rfl; subst this; simp [Op.equalIn, run_underlying hu]
    | some a => obtain ⟨_, _, _, rfl⟩ := hy.map_inv; simp [Op.equalIn, run_underlying hu]
  · have := hy.plain_eq rfl; subst this
    obtain ⟨_, _, _, rfl⟩ := hx.map_inv
    simp [Op.equalIn, run_underlying hu]
  · have := hx.plain_eq rfl; subst this
    cases hy with
    | plain h => simp [plain] at h
    | func => simp [Op.equalIn, run_underlying hu]
  · have := hy.plain_eq rfl; subst this
    cases hx with
    | plain h => simp [plain] at h
    | func => simp [Op.equalIn, run_underlying hu]

theorem nilCmp_sound {t : TypeId} {x y x' y' : Value} {σ : Sg} (hx : VR σ x x') (hy : VR σ y y') {b : Bool} (h : nilCmp P t x y = some b) (w : World) :
    (Op.equal t x' y').run P w = .ok b w := nilCmp_in 9999 hx hy h w
end
end Go.Vm

namespace Go.Vm
variable {P : Program}

theorem isAggT_run {t : TypeId} {b : Bool} (h : isAggT P t = some b) (w : World) : (isAgg t).run P w = .ok b w := by
  unfold isAggT at h
  unfold isAgg
  cases hu : P.underlying t with
  | none => simp [hu] at h
  | some d =>
    rw [Sem.run_bind, run_underlying hu w]
    cases d <;> simp [hu] at h <;> subst h <;> rfl

theorem sizeT_run {t : TypeId} {n : Nat} (h : sizeT P t = some n) (w : World) : (sizeOf t).run P w = .ok n w := by
  unfold sizeT at h
  cases hi : P.info? t with
  | none => simp [hi] at h
  | some i => simp [hi] at h; subst h; simp [sizeOf, typeInfo, hi]

theorem zeroT_run {t : TypeId} {z : Value} (h : zeroT P t = some z) (w : World) : (zeroValue t).run P w = .ok z w ∧ flat z = true := by
  unfold zeroT at h
  cases hi : P.info? t with
  | none => simp [hi] at h
  | some i =>
    cases hz : i.zero with
    | none => simp [hi, hz] at h
    | some v =>
      simp only [hi, hz] at h
      split at h
      · rename_i hf
        simp only [Option.some.injEq] at h; subst h
        exact ⟨by simp [zeroValue, typeInfo, hi, hz], hf⟩
      · cases h

theorem add_none (b o n : Nat) : (⟨b, o, none⟩ : Addr).add n = ⟨b, o + n, none⟩ := by
  unfold Addr.add
  split
  · rename_i h; simp [h]
  · rfl

theorem spot_none {a : Addr} (h : a.spot = none) : a = ⟨a.block, a.off, none⟩ := by cases a; simp at h; simp [h]

theorem cellsAt_some {H : Heap} {a : Addr} {n : Nat} {cs : List Value} (h : cellsAt H a n = some cs) :
    a.spot = none ∧ ∃ all lo ro, H.get a.block = some (.cells all lo ro) ∧ a.off + n ≤ all.length ∧ cs = (all.drop a.off).take n := by
  unfold cellsAt at h
  split at h
  · rename_i all lo ro hs hg
    split at h
    · rename_i hle
      simp only [Option.some.injEq] at h
      exact ⟨hs, all, lo, ro, hg, hle, h.symm⟩
    · cases h
  · cases h

/-- What is read of a block of cells. -/
theorem cellsAt_sound {σ : Sg} {H : Heap} {w : World} {a : Addr} {n : Nat} {cs : List Value} (h : cellsAt H a n = some cs) {r d s : Nat} (_ : σ a.block = some (r, d, s))
    (hok : ∀ k, H.get a.block = some k → BlkOK σ w (r, d, s) k) :
    ∃ cs', LR σ cs cs' ∧ cs'.length = n ∧ ∀ j u, cs'[j]? = some u → w.cell? ((⟨r, d + a.off, none⟩ : Addr).add j) = some u := by
  obtain ⟨_, all, lo, ro, hg, hle, rfl⟩ := cellsAt_some h
  obtain ⟨_, c, t, fr, hh, hc, hv, _⟩ := hok _ hg
  refine ⟨(c.toList.drop (d + a.off)).take n, ⟨by simp only at hc; simp; omega, fun i v v' x y => ?_⟩, by simp only at hc; simp; omega, fun j u hu => ?_⟩
  · rw [List.getElem?_take] at x y
    by_cases hi : i < n
    · simp only [hi, if_true, List.getElem?_drop] at x y
      obtain ⟨v2, h2, hr⟩ := hv _ _ x
      have e : c[d + (a.off + i)]? = some v' := by
        rw [← Array.getElem?_toList]; rwa [show d + a.off + i = d + (a.off + i) by omega] at y
      simp only at h2
      rw [e] at h2
      simp only [Option.some.injEq] at h2
      exact h2 ▸ hr
    · simp [hi] at x
  · rw [add_none]
    rw [List.getElem?_take] at hu
    by_cases hi : j < n
    · simp only [hi, if_true, List.getElem?_drop] at hu
      simp only [World.cell?, hh]
      simpa [Nat.add_assoc] using hu
    · simp [hi] at hu

theorem loadV_sound {σ : Sg} {H : Heap} {w : World} {t : TypeId} {a : Addr} {v : Value} (h : loadV P H t a = some v) {r d s : Nat} (hs : σ a.block = some (r, d, s))
    (hok : ∀ k, H.get a.block = some k → BlkOK σ w (r, d, s) k) :
    ∃ v', (loadVar t ⟨r, d + a.off, none⟩).run P w = .ok v' w ∧ VR σ v v' := by
  unfold loadV at h
  split at h
  · rename_i n hagg hsz
    split at h
    · rename_i cs hc
      simp only [Option.some.injEq] at h
      subst h
      obtain ⟨cs', hl, hn, hcell⟩ := cellsAt_sound hc hs hok
      have hrun := run_loadCells_list (P := P) w ⟨r, d + a.off, none⟩ cs' hcell
      rw [hn] at hrun
      refine ⟨.agg cs'.toArray, ?_, .aggL hl⟩
      simp [loadVar, isAggT_run hagg w, sizeT_run hsz w, hrun]
    · cases h
  · rename_i n hagg hsz
    split at h
    · rename_i u hc
      simp only [Option.some.injEq] at h
      subst h
      obtain ⟨cs', hl, hn, hcell⟩ := cellsAt_sound hc hs hok
      obtain ⟨x, rfl⟩ : ∃ x, cs' = [x] := by
        cases cs' with
        | nil => simp at hn
        | cons x r => cases r with
          | nil => exact ⟨x, rfl⟩
          | cons _ _ => simp at hn
      have hx := hcell 0 x rfl
      rw [add_none, Nat.add_zero] at hx
      refine ⟨x, ?_, hl.head⟩
      simp [loadVar, isAggT_run hagg w, hx]
    · cases h
  · cases h

theorem addrOf_some {v : Value} {a : Addr} (h : addrOf v = some a) : v = .pointer (some a) ∧ a.spot = none := by
  unfold addrOf at h
  split at h
  · split at h
    · simp only [Option.some.injEq] at h; subst h; exact ⟨rfl, by assumption⟩
    · cases h
  · cases h

theorem bind_addr {T : Frm} {x : Operand} {a : Addr} (h : (evO T x).bind addrOf = some a) : evO T x = some (.pointer (some a)) ∧ a.spot = none := by
  cases hx : evO T x with
  | none => simp [hx] at h
  | some v => simp only [hx, Option.bind_some] at h; obtain ⟨rfl, hs⟩ := addrOf_some h; exact ⟨rfl, hs⟩

section
variable {dst : Option Tmp} {type : TypeId} {pos : String} {after : Array Edge} {guard : Option (Nat × Bool)} {T : Frm} {H H' : Heap} {v : Value}

theorem s_bin {op : BinOp} {t t' : TypeId} {x y : Operand} (h : oBin P op t x y T H = some (v, H')) : OpS P ⟨dst, .binOp op t x y t', type, pos, after, guard⟩ T H v H' := by
  unfold oBin at h
  split at h
  · rename_i u u2 hx hy
    obtain ⟨hv, rfl⟩ := keep_some h
    refine .still (fun b h => by simp [Wrs, fpOf] at h) fun σ a w hfr _ _ => ?_
    have hrx := evO_sound hfr hx
    have hry := evO_sound hfr hy
    unfold binV at hv
    split at hv
    · rename_i hf
      simp only [Bool.and_eq_true] at hf
      obtain ⟨hv, hfv⟩ := flatOnly_some hv
      have hr := pureRun_sound _ _ hv w
      exact ⟨v, by simp only [execOp]; rw [hrx.flat_eq hf.1, hry.flat_eq hf.2, Sem.run_bind, hr]; rfl, VR.of_flat hfv⟩
    · have key : ∀ b, nilCmp P t u u2 = some b → (do eqGuard .eql t x y (a.eval x) (a.eval y); binOp .eql t (a.eval x) (a.eval y)).run P w = .ok (.bool b) w ∧
          (do eqGuard .neq t x y (a.eval x) (a.eval y); binOp .neq t (a.eval x) (a.eval y)).run P w = .ok (.bool (!b)) w := by
        intro b hb
        have he := nilCmp_sound hrx hry hb w
        generalize a.eval x = x' at *
        generalize a.eval y = y' at *
        unfold nilCmp at hb
        split at hb <;> first | (cases hb; done) | skip
        all_goals
          cases hrx <;> cases hry <;> first | (simp [plain] at *; done) | simp [eqGuard, binOp, he]
      split at hv
      · cases hb : nilCmp P t u u2 with
        | none => simp [hb] at hv
        | some b =>
          simp only [hb, Option.map_some, Option.some.injEq] at hv
          subst hv
          refine ⟨_, ?_, .plain rfl⟩
          have := (key b hb).1
          simp only [execOp]
          rw [Sem.run_bind, this]; rfl
      · cases hb : nilCmp P t u u2 with
        | none => simp [hb] at hv
        | some b =>
          simp only [hb, Option.map_some, Option.some.injEq] at hv
          subst hv
          refine ⟨_, ?_, .plain rfl⟩
          have := (key b hb).2
          simp only [execOp]
          rw [Sem.run_bind, this]; rfl
      · cases hv
  · cases h

theorem s_load {t : TypeId} {x : Operand} (h : oLoad P t x T H = some (v, H')) : OpS P ⟨dst, .load t x, type, pos, after, guard⟩ T H v H' := by
  unfold oLoad at h
  split at h
  · rename_i ad hx
    obtain ⟨hv, rfl⟩ := keep_some h
    obtain ⟨hx, hsp⟩ := bind_addr hx
    refine .still (fun b h => by simp [Wrs, fpOf] at h) fun σ a w hfr _ hok => ?_
    obtain ⟨b, off, r, d, s, rfl, hs, e⟩ := (evO_sound hfr hx).ptr_inv
    obtain ⟨v', hr, hv'⟩ := loadV_sound hv hs (fun k hk => hok b _ k (by simp [Touch, fpOf, blkO, hx, blkOf]) hs hk)
    exact ⟨v', by simp [execOp, e, Instr.loadAt, Instr.sureAddr, hr], hv'⟩
  · cases h
end

/-! ### Writing -/
theorem run_storeCells_fr (g o : Nat) (t : TypeId) (fr : Nat × Nat) : ∀ (vs : List Value) (i : Nat) (cur : Array Value) (w : World), w.heap[g]? = some (.cells cur t fr) →
    (∀ j, o ≤ j → j < cur.size → ¬ (fr.1 ≤ j ∧ j < fr.2)) → o + i + vs.length ≤ cur.size → (∀ v ∈ vs, v.oneCell' = true) →
    (storeCells ⟨g, o, none⟩ vs i).run P w = .ok () (w.setRow g (cur.toList.take (o + i) ++ vs ++ cur.toList.drop (o + i + vs.length)).toArray)
  | [], i, cur, w, hg, _, _, _ => by
    simp only [storeCells, List.append_nil, List.length_nil, Nat.add_zero, List.take_append_drop, Array.toArray_toList]
    rw [setRow_self w g cur t fr hg]
    rfl
  | v :: rest, i, cur, w, hg, hfr, hl, h1 => by
    have hi : o + i < cur.size := by simp at hl; omega
    have hcell : w.cell? ⟨g, o + i, none⟩ = some cur[o + i] := by simp [World.cell?, hg, hi]
    have hfro : w.frozen? ⟨g, o + i, none⟩ = false := by
      have := hfr (o + i) (by omega) hi
      simp only [World.frozen?, hg]
      simpa using this
    have hst : (store ((⟨g, o, none⟩ : Addr).add i) v).run P w = .ok () (w.setRow g (cur.setIfInBounds (o + i) v)) := by
      rw [add_none, run_store P w _ v _ (h1 v (by simp)), hcell]
      simp [hfro, setCell_eq_setRow w g (o + i) cur t fr v hg]
    have ih := run_storeCells_fr g o t fr rest (i + 1) (cur.setIfInBounds (o + i) v) (w.setRow g (cur.setIfInBounds (o + i) v)) (setRow_heap w g cur _ t _ hg)
      (fun j h0 hj => hfr j h0 (by simpa using hj)) (by simp at hl ⊢; omega) (fun x hx => h1 x (by simp [hx]))
    simp only [storeCells, Sem.run_bind, hst, Result.andThen_ok, ih, setRow_setRow]
    congr 3
    have := List.take_append_drop (o + i) (cur.toList)
    apply List.ext_getElem?
    intro j
    simp only [Array.toList_setIfInBounds, List.getElem?_append, List.length_take, List.length_append, List.getElem?_take, List.getElem?_drop, List.getElem?_set, List.length_set, Array.length_toList, List.length_cons]
    have hm : min (o + (i + 1)) cur.size = o + i + 1 := by omega
    have hm2 : min (o + i) cur.size = o + i := by omega
    simp only [hm, hm2]
    by_cases ha : j < o + i
    · have h1 : j < o + i + 1 := by omega
      have h2 : j < o + (i + 1) := by omega
      have h3 : ¬ o + i = j := by omega
      have h4 : j < o + i + 1 + rest.length := by omega
      have h5 : j < o + i + (rest.length + 1) := by omega
      simp [ha, h1, h2, h3, h4, h5]
    · by_cases hb : j = o + i
      · subst hb
        have h4 : o + i < o + i + 1 + rest.length := by omega
        simp [hi, h4]
      · have h1 : ¬ j < o + i + 1 := by omega
        simp only [ha, h1, if_false]
        by_cases hc : j < o + i + 1 + rest.length
        · have h4 : j < o + i + (rest.length + 1) := by omega
          simp [h4, hc]
          rw [show j - (o + i) = (j - (o + i + 1)) + 1 by omega]
          simp
        · have h4 : ¬ j < o + i + (rest.length + 1) := by omega
          simp [h4, hc]
          have h5 : ¬ o + i = o + (i + 1) + rest.length + (j - (o + i + 1 + rest.length)) := by omega
          simp [h5]
          congr 1
          omega

end Go.Vm

namespace Go.Vm
variable {P : Program}

def upS (σ : Sg) (b : Nat) (x : Nat × Nat × Nat) : Sg := fun i => if i = b then some x else σ i
theorem upS_same (σ : Sg) (b : Nat) (x : Nat × Nat × Nat) : upS σ b x b = some x := by simp [upS]
theorem upS_ne (σ : Sg) {b i : Nat} (x : Nat × Nat × Nat) (h : i ≠ b) : upS σ b x i = σ i := by simp [upS, h]
theorem upS_mono {σ : Sg} {b : Nat} {x : Nat × Nat × Nat} (h : σ b = none) : ∀ i y, σ i = some y → upS σ b x i = some y := fun i y hi => by
  by_cases e : i = b
  · subst e; rw [h] at hi; cases hi
  · rw [upS_ne σ x e, hi]
theorem Lt.next {σ : Sg} {H : Heap} {w : World} (h : Lt σ H w) : σ H.next = none := by
  cases hb : σ H.next with
  | none => rfl
  | some x => have := (h _ x hb).1; omega

theorem Heap.get_new (H : Heap) (k : Blk) (b : Nat) : (H.new k).get b = if b = H.next then some k else H.get b := by simp [Heap.get, Heap.new, PT.get_set]
theorem Heap.get_put (H : Heap) (b : Nat) (k : Option Blk) (i : Nat) : (H.put b k).get i = if i = b then k else H.get i := by simp [Heap.get, Heap.put, PT.get_set]

theorem heap_push_old (w : World) (o : Obj) (k : Nat) (h : k < w.heap.size) : (w.heap.push o)[k]? = w.heap[k]? := by
  rw [Array.getElem?_push, if_neg (by omega)]
theorem heap_push_new (w : World) (o : Obj) : (w.heap.push o)[w.heap.size]? = some o := by simp

/-- A new block. -/
theorem LRes.newBlk {σ : Sg} {H : Heap} {w w' : World} {Wr : Nat → Prop} {k : Blk} {s : Nat} {o : Obj} (hlt : Lt σ H w) (hh : w'.heap = w.heap.push o)
    (hos : w'.os = w.os) (htape : w'.tape = w.tape) (hout : w'.output = w.output)
    (hWr : ∀ b x j, Wr b → σ b = some x → H.get b = some j → BlkOK σ w x j) (hk : BlkOK (upS σ H.next (w.heap.size, 0, s)) w' (w.heap.size, 0, s) k) :
    LRes σ H w (upS σ H.next (w.heap.size, 0, s)) (H.new k) w' Wr where
  next := by simp [Heap.new]
  next1 := by simp [Heap.new]
  floor := rfl
  sub b hb := upS_ne σ _ (by omega)
  lt b x hx := by
    by_cases e : b = H.next
    · subst e
      rw [upS_same] at hx
      simp only [Option.some.injEq] at hx; subst hx
      exact ⟨by simp [Heap.new], by simp [hh]⟩
    · rw [upS_ne σ _ e] at hx
      have := hlt b x hx
      exact ⟨by simp [Heap.new]; omega, by simp [hh]; omega⟩
  same b hb _ := by rw [Heap.get_new, if_neg (by omega)]
  wr b hb _ := .inl (by rw [Heap.get_new, if_neg (by omega)])
  ok b x j hb hx hj := by
    by_cases e : b = H.next
    · subst e
      rw [upS_same] at hx
      simp only [Option.some.injEq] at hx; subst hx
      rw [Heap.get_new, if_pos rfl] at hj
      simp only [Option.some.injEq] at hj; subst hj
      exact hk
    · rw [upS_ne σ _ e] at hx
      rw [Heap.get_new, if_neg e] at hj
      have hx2 := hlt b x hx
      refine (hWr b x j (hb.resolve_right (by omega)) hx hj).mono (upS_mono hlt.next) ?_
      rw [hh, heap_push_old _ _ _ hx2.2]
  newr b x hb hx := by
    by_cases e : b = H.next
    · subst e
      rw [upS_same] at hx
      simp only [Option.some.injEq] at hx; subst hx
      exact .inl (Nat.le_refl _)
    · rw [upS_ne σ _ e] at hx
      have := (hlt b x hx).1; omega
  os := hos
  tape := htape
  output := hout
  size := by simp [hh]
  frame r hr := .inl (by rw [hh, heap_push_old _ _ _ hr])

/-- The cells of a new block. -/
theorem BlkOK.newCells {σ : Sg} {w : World} {r : Nat} {s : Nat} {c : Array Value} {t : TypeId} {fr : Nat × Nat} {vs : List Value} {lo : Option Nat} {ro : Bool} (hh : w.heap[r]? = some (.cells c t fr))
    (hs : lo = none → s = 0) (hl : ∃ c' rest, c.toList = c' ++ rest ∧ LR σ vs c' ∧ (∀ z, lo = some z → s * z ≤ rest.length)) (hfr : fr.1 = fr.2 ∨ c.size ≤ fr.1) : BlkOK σ w (r, 0, s) (.cells vs lo ro) := by
  obtain ⟨c', rest, hc, hl, hz⟩ := hl
  have hsz : c.size = vs.length + rest.length := by rw [← Array.length_toList, hc, List.length_append, hl.len]
  refine ⟨hs, c, t, fr, hh, by simp only; omega, fun i v hv => ?_, fun _ => hfr, fun z hz' => by have := hz z hz'; simp only; omega⟩
  have hi : i < c'.length := by rw [← hl.len]; exact (List.getElem?_eq_some_iff.1 hv).1
  refine ⟨c'[i], ?_, hl.at_ i v _ hv (by simp [hi])⟩
  rw [← Array.getElem?_toList, hc, Nat.zero_add, List.getElem?_append_left hi]
  simp [hi]

theorem all_plain_cells {z : Value} (h : flat z = true) : z.cells.toList.all plain = true := by
  cases z <;> first | exact h | (simp [Value.cells]; exact h)

theorem plain_oneCell {v : Value} (h : plain v = true) : oneCell v = true := by cases v <;> first | rfl | (simp [plain] at h)

section
variable {dst : Option Tmp} {type : TypeId} {pos : String} {after : Array Edge} {guard : Option (Nat × Bool)} {T : Frm} {H H' : Heap} {v : Value}

theorem s_alloc {e : TypeId} (h : oAlloc P e H = some (v, H')) : OpS P ⟨dst, .alloc e, type, pos, after, guard⟩ T H v H' := by
  unfold oAlloc at h
  split at h
  · rename_i z hz
    rw [allocK_eq] at h
    simp only [Option.some.injEq, Prod.mk.injEq] at h
    obtain ⟨rfl, rfl⟩ := h
    intro σ a w hfr hlt hok
    obtain ⟨hr, hf⟩ := zeroT_run hz w
    refine ⟨_, .pointer (some ⟨w.heap.size, 0 + 0, none⟩), w.alloc (.cells z.cells e), upS σ H.next (w.heap.size, 0, 0), by simp [execOp, Instr.alloc, hr, newVar, newRow]; rfl, rfl, .ptr (upS_same _ _ _), ?_⟩
    refine .newBlk hlt rfl rfl rfl rfl (fun b x j hb => by simp [Wrs, fpOf] at hb) ?_
    exact .newCells (c := z.cells) (t := e) (fr := (0, 0)) (heap_push_new _ _) (fun _ => rfl) ⟨z.cells.toList, [], by simp, LR.of_plain (all_plain_cells hf), by simp⟩ (.inl rfl)
  · cases h

theorem s_box {e : TypeId} {x : Operand} (h : oBox x T H = some (v, H')) : OpS P ⟨dst, .box e x, type, pos, after, guard⟩ T H v H' := by
  unfold oBox at h
  split at h
  · rename_i u hx
    split at h
    · rw [allocK_eq] at h
      simp only [Option.some.injEq, Prod.mk.injEq] at h
      obtain ⟨rfl, rfl⟩ := h
      intro σ a w hfr hlt hok
      refine ⟨_, .pointer (some ⟨w.heap.size, 0 + 0, none⟩), w.alloc (.cells (a.eval x).cells e), upS σ H.next (w.heap.size, 0, 0), by simp [execOp, Instr.box, newVar, newRow]; rfl, rfl, .ptr (upS_same _ _ _), ?_⟩
      refine .newBlk hlt rfl rfl rfl rfl (fun b x j hb => by simp [Wrs, fpOf] at hb) ?_
      exact .newCells (c := (a.eval x).cells) (t := e) (fr := (0, 0)) (heap_push_new _ _) (fun _ => rfl) ⟨_, [], by simp, ((evO_sound hfr hx).cells.mono (upS_mono hlt.next)), by simp⟩ (.inl rfl)
    · cases h
  · cases h

theorem s_makeMap {t : TypeId} : OpS P ⟨dst, .makeMap t none, type, pos, after, guard⟩ T H (.map (some H.next)) (H.new (.map [])) := by
  intro σ a w hfr hlt hok
  refine ⟨_, .map (some w.heap.size), w.alloc (.map #[] 0), upS σ H.next (w.heap.size, 0, 0), by simp [execOp, Instr.makeMap]; rfl, rfl, .map (upS_same _ _ _), ?_⟩
  refine .newBlk hlt rfl rfl rfl rfl (fun b x j hb => by simp [Wrs, fpOf] at hb) ?_
  exact ⟨rfl, #[], 0, heap_push_new _ _, rfl, fun i e e' h _ => by simp at h⟩
end

theorem putCells_some {H H' : Heap} {a : Addr} {vs : List Value} (h : putCells H a vs = some H') :
    a.spot = none ∧ ∃ cs lo, H.get a.block = some (.cells cs lo false) ∧ a.off + vs.length ≤ cs.length ∧ H.floor ≤ a.block ∧ vs.all oneCell = true ∧
      H' = H.put a.block (some (.cells (splice cs a.off vs) lo false)) := by
  unfold putCells at h
  split at h
  · rename_i cs lo hs hg
    split at h
    · split at h
      · split at h
        · rename_i h1 h2 h3
          rw [forceL_eq] at h
          simp only [Option.some.injEq] at h
          exact ⟨hs, cs, lo, hg, h1, h2, h3, h.symm⟩
        · cases h
      · cases h
    · cases h
  · cases h

theorem splice_length {cs vs : List Value} {off : Nat} (h : off + vs.length ≤ cs.length) : (splice cs off vs).length = cs.length := by
  simp [splice]; omega
theorem splice_get {cs vs : List Value} {off i : Nat} (h : off + vs.length ≤ cs.length) :
    (splice cs off vs)[i]? = if off ≤ i ∧ i < off + vs.length then vs[i - off]? else cs[i]? := by
  have hm : min off cs.length = off := by omega
  by_cases h1 : i < off
  · rw [if_neg (by omega), splice, List.getElem?_append_left (by simp; omega), List.getElem?_append_left (by simp; omega), List.getElem?_take, if_pos h1]
  · by_cases h2 : i < off + vs.length
    · rw [if_pos (by omega), splice, List.getElem?_append_left (by simp; omega), List.getElem?_append_right (by simp; omega)]
      simp only [List.length_take, hm]
    · rw [if_neg (by omega), splice, List.getElem?_append_right (by simp; omega)]
      simp only [List.length_append, List.length_take, hm, List.getElem?_drop]
      congr 1
      omega

/-- Cells of a block are overwritten. -/
theorem putCells_sound {σ : Sg} {H H' : Heap} {w : World} {a : Addr} {vs vs' : List Value} {Wr : Nat → Prop} (h : putCells H a vs = some H') {r d s : Nat} (hs : σ a.block = some (r, d, s)) (hlt : Lt σ H w)
    (hok : ∀ b x k, Wr b → σ b = some x → H.get b = some k → BlkOK σ w x k) (hW : Wr a.block) (hW1 : ∀ b, Wr b → b = a.block) (hvs : LR σ vs vs') :
    ∃ w', (storeCells ⟨r, d + a.off, none⟩ vs').run P w = .ok () w' ∧ LRes σ H w σ H' w' Wr := by
  obtain ⟨_, cs, lo, hg, hle, hfl, hone, rfl⟩ := putCells_some h
  have hb := hok a.block _ _ hW hs hg
  obtain ⟨he, c, t, fr, hh, hc, hv, hf, hz⟩ := hb
  simp only at hh hc hv hz
  have hvl := hvs.len
  have hone' : ∀ v ∈ vs', v.oneCell' = true := by
    intro v hv'
    obtain ⟨i, hi⟩ := List.mem_iff_getElem?.1 hv'
    have hi2 : i < vs.length := by rw [hvl]; exact (List.getElem?_eq_some_iff.1 hi).1
    have := (hvs.at_ i vs[i] v (by simp [hi2]) hi).oneCell
    rw [this]
    exact List.all_eq_true.1 hone _ (List.getElem_mem hi2)
  have hrun := run_storeCells_fr (P := P) r (d + a.off) t fr vs' 0 c w hh (fun j h0 hj => by have := hf rfl; omega) (by omega) hone'
  refine ⟨_, hrun, ?_⟩
  have hnew := setRow_heap w r c (List.take (d + a.off + 0) c.toList ++ vs' ++ List.drop (d + a.off + 0 + vs'.length) c.toList).toArray t fr hh
  have hsp : (List.take (d + a.off + 0) c.toList ++ vs' ++ List.drop (d + a.off + 0 + vs'.length) c.toList) = splice c.toList (d + a.off) vs' := by simp [splice]
  rw [hsp] at hnew ⊢
  have hlt' := hlt _ _ hs
  exact {
    next := Nat.le_refl _
    next1 := Nat.le_succ _
    floor := rfl
    sub := fun _ _ => rfl
    lt := fun b x hx => by have := hlt b x hx; exact ⟨this.1, by simpa using this.2⟩
    same := fun b _ hn => by
      have e : b ≠ a.block := fun e => hn (e ▸ hW)
      rw [Heap.get_put, if_neg e]
    wr := fun b _ hb => by
      have e := hW1 b hb
      subst e
      refine .inr ⟨hfl, by simp [WR, hg], .inr ?_⟩
      simp [WR, Heap.get_put]
    ok := fun b x k hb hx hk => by
      rcases hb with hb | hb
      · have e := hW1 b hb
        subst e
        rw [hs] at hx
        simp only [Option.some.injEq] at hx; subst hx
        rw [Heap.get_put, if_pos rfl] at hk
        simp only [Option.some.injEq] at hk; subst hk
        refine ⟨he, _, t, fr, hnew, by simp only; rw [splice_length hle]; simp; rw [splice_length (by simp; omega)]; simpa using hc, fun i v hi => ?_, fun _ => by simp; rw [splice_length (by simp; omega)]; simpa using hf rfl, fun z hz' => ?_⟩
        · rw [splice_get hle] at hi
          simp only [List.getElem?_toArray]
          rw [splice_get (by simp; omega)]
          by_cases hin : a.off ≤ i ∧ i < a.off + vs.length
          · rw [if_pos hin] at hi
            rw [if_pos (by omega)]
            have hi2 : i - a.off < vs'.length := by omega
            refine ⟨vs'[i - a.off], ?_, hvs.at_ _ v _ hi (by simp [hi2])⟩
            rw [show d + i - (d + a.off) = i - a.off by omega]
            simp [hi2]
          · rw [if_neg hin] at hi
            rw [if_neg (by omega)]
            obtain ⟨v', h1, h2⟩ := hv i v hi
            exact ⟨v', by simpa using h1, h2⟩
        · have := hz z hz'
          simp only
          rw [splice_length hle]; simp; rw [splice_length (by simp; omega)]; simpa using this
      · have := (hlt b x hx).1; omega
    newr := fun b x hb hx => by have := (hlt b x hx).1; omega
    os := rfl
    tape := rfl
    output := rfl
    size := by simp
    frame := fun r' hr' => by
      by_cases e : r' = r
      · subst e
        exact .inr ⟨a.block, _, hW, hfl, by simp [WR, hg], hs, rfl⟩
      · exact .inl (setRow_other w r r' _ e) }

section
variable {dst : Option Tmp} {type : TypeId} {pos : String} {after : Array Edge} {guard : Option (Nat × Bool)} {T : Frm} {H H' : Heap} {v : Value}

theorem s_store {t : TypeId} {x y : Operand} (h : oStore P t x y T H = some (v, H')) : OpS P ⟨dst, .store t x y, type, pos, after, guard⟩ T H v H' := by
  unfold oStore at h
  split at h
  · rename_i ad u hx hy
    obtain ⟨hx, hsp⟩ := bind_addr hx
    cases hst : storeV P H t ad u with
    | none => simp [hst] at h
    | some H2 =>
      simp only [hst, Option.map_some, Option.some.injEq, Prod.mk.injEq] at h
      obtain ⟨rfl, rfl⟩ := h
      unfold storeV at hst
      split at hst
      · rename_i n hn
        split at hst
        · rename_i hsz
          intro σ a w hfr hlt hok
          obtain ⟨b, off, r, d, s, rfl, hs, e⟩ := (evO_sound hfr hx).ptr_inv
          have hv := evO_sound hfr hy
          have hW : Wrs T ⟨dst, .store t x y, type, pos, after, guard⟩ b := by simp [Wrs, fpOf, blkO, hx, blkOf]
          have hW1 : ∀ b', Wrs T ⟨dst, .store t x y, type, pos, after, guard⟩ b' → b' = b := fun b' h => by simpa [Wrs, fpOf, blkO, hx, blkOf] using h
          obtain ⟨w', hr, hL⟩ := putCells_sound (P := P) (Wr := Wrs T ⟨dst, .store t x y, type, pos, after, guard⟩) hst hs hlt
            (fun b' x' k hb' => hok b' x' k (by simp only [Touch, Wrs] at hb' ⊢; split at hb' <;> simp_all)) hW hW1 hv.cells
          have hsz' : (a.eval y).cells.size = n := by
            have := hv.cells.len
            simp at this; omega
          refine ⟨.skip, undef, w', σ, ?_, rfl, .undef, hL⟩
          simp [execOp, e, Instr.storeAt, Instr.sureAddr, storeVar, sizeT_run hn w, hsz', hr]
        · cases hst
      · cases hst
  · cases h

theorem fieldAt_some {t : TypeId} {i : Nat} {f : Field} (h : fieldAt P t i = some f) : ∃ fs, P.underlying t = some (.struct fs) ∧ fs[i]? = some f := by
  unfold fieldAt at h
  split at h
  · exact ⟨_, by assumption, h⟩
  · cases h

theorem s_fieldAddr {t : TypeId} {x : Operand} {i : Nat} (h : oFieldAddr P t x i T H = some (v, H')) : OpS P ⟨dst, .fieldAddr t x i, type, pos, after, guard⟩ T H v H' := by
  unfold oFieldAddr at h
  split at h
  · rename_i u hx
    obtain ⟨hv, rfl⟩ := keep_some h
    refine .still (fun b h => by simp [Wrs, fpOf] at h) fun σ a w hfr _ _ => ?_
    unfold fieldAddrV at hv
    split at hv
    · rename_i ad f had hf
      obtain ⟨rfl, hsp⟩ := addrOf_some had
      split at hv
      · rename_i m hm
        simp only [Option.some.injEq] at hv
        subst hv
        obtain ⟨b, off, r, d, s, rfl, hs, e⟩ := (evO_sound hfr hx).ptr_inv
        obtain ⟨fs, hu, hfs⟩ := fieldAt_some hf
        refine ⟨.pointer (some ⟨r, d + (off + f.offset), none⟩), ?_, .ptr hs⟩
        have hsz := sizeT_run hm w
        simp [execOp, e, Instr.fieldAt, run_underlying hu, hfs, Instr.sureAddr, fieldPlace, hsz, add_none, Nat.add_assoc]
      · cases hv
    · cases hv
  · cases h

theorem s_indexAddr {t : TypeId} {x y : Operand} (h : oIndexAddr P t x y T H = some (v, H')) : OpS P ⟨dst, .indexAddr t x y, type, pos, after, guard⟩ T H v H' := by
  unfold oIndexAddr at h
  split at h
  · rename_i u u2 hx hy
    obtain ⟨hv, rfl⟩ := keep_some h
    refine .still (fun b h => by simp [Wrs, fpOf] at h) fun σ a w hfr _ _ => ?_
    have hrx := evO_sound hfr hx
    have hry := evO_sound hfr hy
    unfold indexAddrV at hv
    split at hv
    · rename_i len e b off ki i hu
      split at hv
      · rename_i s hs
        split at hv
        · rename_i hi
          simp only [Option.some.injEq] at hv
          subst hv
          obtain ⟨b', off', r, d, sl, heq, hσ, ex⟩ := hrx.ptr_inv
          simp only [Addr.mk.injEq] at heq
          obtain ⟨rfl, rfl, -⟩ := heq
          refine ⟨.pointer (some ⟨r, d + (off + i.toNat * s), none⟩), ?_, .ptr hσ⟩
          simp [execOp, ex, hry.int_inv, Instr.indexAt, asIntOf, run_underlying hu, Instr.sureAddr, hi, sizeT_run hs w, add_none, Nat.add_assoc]
        · cases hv
      · cases hv
    · rename_i e b off len cap ki i hu
      split at hv
      · rename_i s hs
        split at hv
        · rename_i hi
          simp only [Option.some.injEq] at hv
          subst hv
          obtain ⟨b', off', r, d, sl, heq, hσ, ex⟩ := hrx.slice_inv
          simp only [Addr.mk.injEq] at heq
          obtain ⟨rfl, rfl, -⟩ := heq
          refine ⟨.pointer (some ⟨r, d + (off + i.toNat * s), none⟩), ?_, .ptr hσ⟩
          simp [execOp, ex, hry.int_inv, Instr.indexAt, asIntOf, run_underlying hu, hi, sizeT_run hs w, add_none, Nat.add_assoc]
        · cases hv
      · cases hv
    · cases hv
  · cases h

theorem partV_sound {σ : Sg} {t : TypeId} {cs cs' : Array Value} {off : Nat} (h : partV P t cs off = some v) (hl : LR σ cs.toList cs'.toList) (w : World) :
    ∃ v', (part t cs' off).run P w = .ok v' w ∧ VR σ v v' := by
  unfold partV at h
  split at h
  · rename_i n hagg hsz
    simp only [Option.some.injEq] at h
    subst h
    refine ⟨.agg (cs'.extract off (off + n)), by simp [part, isAggT_run hagg w, sizeT_run hsz w], ?_⟩
    have := (hl.drop off).take n
    have e1 : (cs.extract off (off + n)).toList = (cs.toList.drop off).take n := by simp [List.extract]
    have e2 : (cs'.extract off (off + n)).toList = (cs'.toList.drop off).take n := by simp [List.extract]
    rw [← e1, ← e2] at this
    exact .agg (by have := this.len; rwa [Array.length_toList, Array.length_toList] at this) fun i v v' a b => this.at_ i v v' (by rwa [Array.getElem?_toList]) (by rwa [Array.getElem?_toList])
  · rename_i hagg
    have hi : off < cs'.size := by
      have := hl.len
      have := (Array.getElem?_eq_some_iff.1 h).1
      simp at *; omega
    refine ⟨cs'[off], by simp [part, isAggT_run hagg w, hi], hl.at_ off v _ (by simpa using h) (by simp [hi])⟩
  · cases h

theorem s_field {t : TypeId} {x : Operand} {i : Nat} (h : oField P t x i T H = some (v, H')) : OpS P ⟨dst, .field t x i, type, pos, after, guard⟩ T H v H' := by
  unfold oField at h
  split at h
  · rename_i u hx
    obtain ⟨hv, rfl⟩ := keep_some h
    refine .still (fun b h => by simp [Wrs, fpOf] at h) fun σ a w hfr _ _ => ?_
    unfold fieldV at hv
    split at hv
    · rename_i cs f hf
      obtain ⟨cs', e, hl⟩ := (evO_sound hfr hx).agg_inv
      obtain ⟨fs, hu, hfs⟩ := fieldAt_some hf
      obtain ⟨v', hr, hv'⟩ := partV_sound hv hl w
      exact ⟨v', by simp [execOp, e, Instr.field, run_underlying hu, hfs, asAgg, hr], hv'⟩
    · cases hv
  · cases h

theorem s_index {t : TypeId} {x y : Operand} (h : oIndex P t x y T H = some (v, H')) : OpS P ⟨dst, .index t x y, type, pos, after, guard⟩ T H v H' := by
  unfold oIndex at h
  split at h
  · rename_i u u2 hx hy
    obtain ⟨hv, rfl⟩ := keep_some h
    refine .still (fun b h => by simp [Wrs, fpOf] at h) fun σ a w hfr _ _ => ?_
    have hrx := evO_sound hfr hx
    have hry := evO_sound hfr hy
    unfold indexV at hv
    split at hv
    · rename_i len e cs ki i hu
      split at hv
      · rename_i s hs
        split at hv
        · rename_i hi
          obtain ⟨cs', ex, hl⟩ := hrx.agg_inv
          obtain ⟨v', hr, hv'⟩ := partV_sound hv hl w
          exact ⟨v', by simp [execOp, ex, hry.int_inv, Instr.index, asIntOf, run_underlying hu, hi, sizeT_run hs w, hr], hv'⟩
        · cases hv
      · cases hv
    · rename_i s ki i hu
      split at hv
      · rename_i hi
        have ex := hrx.plain_eq rfl
        cases hb : s[i.toNat]? with
        | none => simp [hb] at hv
        | some c =>
          simp only [hb, Option.map_some, Option.some.injEq] at hv
          subst hv
          exact ⟨_, by simp [execOp, ex, hry.int_inv, Instr.index, asIntOf, run_underlying hu, hi, hb], .plain rfl⟩
      · cases hv
    · cases hv
  · cases h
end
end Go.Vm

