/- A verified interpreter: the definitions. -/
import Derived.Calls
namespace Go.Vm

/-! ### A trie over numbers -/
inductive PT (α : Type) where
  | leaf
  | node (l : PT α) (v : Option α) (r : PT α)

def PT.get {α : Type} : PT α → Nat → Option α
  | .leaf, _ => none
  | .node l v r, n =>
    match n with
    | 0 => v
    | m + 1 => bif (m % 2).beq 0 then l.get (m / 2) else r.get (m / 2)

def PT.setF {α : Type} : Nat → PT α → Nat → Option α → PT α
  | 0, t, _, _ => t
  | f + 1, .leaf, n, x =>
    match n with
    | 0 => .node .leaf x .leaf
    | m + 1 => bif (m % 2).beq 0 then .node (PT.setF f .leaf (m / 2) x) none .leaf else .node .leaf none (PT.setF f .leaf (m / 2) x)
  | f + 1, .node l v r, n, x =>
    match n with
    | 0 => .node l x r
    | m + 1 => bif (m % 2).beq 0 then .node (PT.setF f l (m / 2) x) v r else .node l v (PT.setF f r (m / 2) x)

def PT.set {α : Type} (t : PT α) (n : Nat) (x : Option α) : PT α := PT.setF (n + 1) t n x

theorem PT.get_leaf {α : Type} (n : Nat) : (PT.leaf : PT α).get n = none := rfl

theorem beq_dec (a b : Nat) : a.beq b = decide (a = b) := by
  by_cases h : a = b
  · subst h; simp [Nat.beq_refl]
  · have : a.beq b = false := by
      cases hb : a.beq b
      · rfl
      · exact absurd (Nat.eq_of_beq_eq_true hb) h
    simp [this, h]

theorem PT.get_setF {α : Type} : ∀ (f : Nat) (t : PT α) (n m : Nat) (x : Option α), n < f →
    (PT.setF f t n x).get m = if m = n then x else t.get m
  | 0, _, _, _, _, h => by omega
  | f + 1, .leaf, 0, m, x, _ => by
    cases m with
    | zero => simp [PT.setF, PT.get]
    | succ m => simp [PT.setF, PT.get]
  | f + 1, .leaf, k + 1, m, x, h => by
    have ih := PT.get_setF f .leaf (k / 2) ((m - 1) / 2) x (by omega)
    cases m with
    | zero => by_cases hk : k % 2 = 0 <;> simp [PT.setF, PT.get, beq_dec, hk]
    | succ m =>
      simp only [Nat.add_sub_cancel] at ih
      by_cases e : m = k
      · subst e
        by_cases hk : m % 2 = 0 <;> simp [PT.setF, PT.get, beq_dec, hk, ih]
      · by_cases hk : k % 2 = 0 <;> by_cases hm : m % 2 = 0 <;> simp [PT.setF, PT.get, beq_dec, hk, hm, ih, e] <;> (intro e'; omega)
  | f + 1, .node l v r, 0, m, x, _ => by
    cases m with
    | zero => simp [PT.setF, PT.get]
    | succ m => simp [PT.setF, PT.get]
  | f + 1, .node l v r, k + 1, m, x, h => by
    have ihl := PT.get_setF f l (k / 2) ((m - 1) / 2) x (by omega)
    have ihr := PT.get_setF f r (k / 2) ((m - 1) / 2) x (by omega)
    cases m with
    | zero => by_cases hk : k % 2 = 0 <;> simp [PT.setF, PT.get, beq_dec, hk]
    | succ m =>
      simp only [Nat.add_sub_cancel] at ihl ihr
      by_cases e : m = k
      · subst e
        by_cases hk : m % 2 = 0 <;> simp [PT.setF, PT.get, beq_dec, hk, ihl, ihr]
      · by_cases hk : k % 2 = 0 <;> by_cases hm : m % 2 = 0 <;> simp [PT.setF, PT.get, beq_dec, hk, hm, ihl, ihr, e] <;> (intro e'; omega)

theorem PT.get_set {α : Type} (t : PT α) (n m : Nat) (x : Option α) : (t.set n x).get m = if m = n then x else t.get m :=
  PT.get_setF (n + 1) t n m x (by omega)

/-! ### Blocks and the heap -/
/-- 'lo': none: the capacities of slices into it are known; some z: they are not (elements of z cells); 'ro': it is not to be written. -/
inductive Blk where
  | cells (cs : List Value) (lo : Option Nat) (ro : Bool)
  | map (es : List MapEntry)

/-- For the kernel's sake: a block, its cells brought to their own form. -/
structure Heap where
  blk : PT Blk
  next : Nat
  floor : Nat

def Heap.get (H : Heap) (b : Nat) : Option Blk := H.blk.get b
def Heap.put (H : Heap) (b : Nat) (x : Option Blk) : Heap := { H with blk := H.blk.set b x }
def Heap.new (H : Heap) (x : Blk) : Heap := { H with blk := H.blk.set H.next (some x), next := H.next + 1 }

/-! ### Values that hold no address -/
def plain : Value → Bool
  | .bool _ | .int .. | .float .. | .complex .. | .string _ | .pointer none | .slice none _ _ | .map none | .chan none | .nilFunc | .nilIface => true
  | _ => false
def flat : Value → Bool
  | .agg cs => cs.toList.all plain
  | v => plain v
def oneCell : Value → Bool
  | .agg _ | .tuple _ => false
  | _ => true

/-! ### Values brought to their own form (for the kernel's sake alone: each is 'k v') -/
def forceN {β : Type} (n : Nat) (k : Nat → β) : β := match n with | 0 => k 0 | m + 1 => k (Nat.succ m)
def forceI {β : Type} (n : Int) (k : Int → β) : β := match n with | .ofNat m => forceN m fun m => k (.ofNat m) | .negSucc m => forceN m fun m => k (.negSucc m)
def forceB {β : Type} (b : Bool) (k : Bool → β) : β := match b with | true => k true | false => k false
def forceA {β : Type} (a : Addr) (k : Addr → β) : β := match a with | ⟨b, o, s⟩ => forceN b fun b => forceN o fun o => match s with | none => k ⟨b, o, none⟩ | some s => k ⟨b, o, some s⟩
def force1 {β : Type} (v : Value) (k : Value → β) : β :=
  match v with
  | .int d n => forceI n fun n => k (.int d n)
  | .bool b => forceB b fun b => k (.bool b)
  | .pointer (some a) => forceA a fun a => k (.pointer (some a))
  | .slice (some a) n c => forceA a fun a => forceN n fun n => forceN c fun c => k (.slice (some a) n c)
  | v => k v
def forceL {β : Type} : List Value → (List Value → β) → β
  | [], k => k []
  | v :: r, k => force1 v fun v => forceL r fun r => k (v :: r)
def forceV {β : Type} (v : Value) (k : Value → β) : β :=
  match v with
  | .agg cs => forceL cs.toList fun l => k (.agg ⟨l⟩)
  | .tuple vs => forceL vs.toList fun l => k (.tuple ⟨l⟩)
  | v => force1 v k

theorem forceN_eq {β : Type} (n : Nat) (k : Nat → β) : forceN n k = k n := by cases n <;> rfl
theorem forceI_eq {β : Type} (n : Int) (k : Int → β) : forceI n k = k n := by cases n <;> simp [forceI, forceN_eq]
theorem forceB_eq {β : Type} (b : Bool) (k : Bool → β) : forceB b k = k b := by cases b <;> rfl
theorem forceA_eq {β : Type} (a : Addr) (k : Addr → β) : forceA a k = k a := by obtain ⟨b, o, s⟩ := a; cases s <;> simp [forceA, forceN_eq]
theorem force1_eq {β : Type} (v : Value) (k : Value → β) : force1 v k = k v := by
  cases v with
  | pointer a => cases a <;> simp [force1, forceA_eq]
  | slice a n c => cases a <;> simp [force1, forceA_eq, forceN_eq]
  | _ => simp [force1, forceB_eq, forceI_eq]
theorem forceL_eq {β : Type} : ∀ (l : List Value) (k : List Value → β), forceL l k = k l
  | [], k => rfl
  | v :: r, k => by simp [forceL, force1_eq, forceL_eq r]
theorem forceV_eq {β : Type} (v : Value) (k : Value → β) : forceV v k = k v := by
  cases v <;> simp [forceV, force1_eq, forceL_eq]

/-! ### What needs no memory -/
def pureRun {α : Type} (P : Program) : Sem α → Option α
  | .pure a => some a
  | .program k => pureRun P (k P)
  | .mark _ k => pureRun P k
  | _ => none

/-- A new block: its number and the heap with it. -/
def allocK {β : Type} (H : Heap) (cs : List Value) (lo : Option Nat) (k : Nat → Heap → β) : β :=
  forceL cs fun cs => forceN H.next fun b => k b { blk := H.blk.set b (some (.cells cs lo false)), next := Nat.succ b, floor := H.floor }
theorem allocK_eq {β : Type} (H : Heap) (cs : List Value) (lo : Option Nat) (k : Nat → Heap → β) : allocK H cs lo k = k H.next (H.new (.cells cs lo false)) := by
  simp [allocK, forceL_eq, forceN_eq, Heap.new]

/-! ### Memory -/
def cellsAt (H : Heap) (a : Addr) (n : Nat) : Option (List Value) :=
  match a.spot, H.get a.block with
  | none, some (.cells cs _ _) => if a.off + n ≤ cs.length then some ((cs.drop a.off).take n) else none
  | _, _ => none

def splice (cs : List Value) (off : Nat) (vs : List Value) : List Value := cs.take off ++ vs ++ cs.drop (off + vs.length)

def putCells (H : Heap) (a : Addr) (vs : List Value) : Option Heap :=
  match a.spot, H.get a.block with
  | none, some (.cells cs lo false) =>
    if a.off + vs.length ≤ cs.length then
      if H.floor ≤ a.block then
        if vs.all oneCell then forceL (splice cs a.off vs) fun cs' => some (H.put a.block (some (.cells cs' lo false))) else none
      else none
    else none
  | _, _ => none

def isAggT (P : Program) (t : TypeId) : Option Bool :=
  match P.underlying t with
  | some (.struct _) | some (.array _ _) => some true
  | some _ => some false
  | none => none
def sizeT (P : Program) (t : TypeId) : Option Nat := (P.info? t).map (·.size)
def zeroT (P : Program) (t : TypeId) : Option Value :=
  match P.info? t with
  | some i => match i.zero with
    | some v => if flat v then some v else none
    | none => none
  | none => none

def loadV (P : Program) (H : Heap) (t : TypeId) (a : Addr) : Option Value :=
  match isAggT P t, sizeT P t with
  | some true, some n => match cellsAt H a n with
    | some cs => some (.agg cs.toArray)
    | none => none
  | some false, some _ => match cellsAt H a 1 with
    | some [v] => some v
    | _ => none
  | _, _ => none

def storeV (P : Program) (H : Heap) (t : TypeId) (a : Addr) (v : Value) : Option Heap :=
  match sizeT P t with
  | some n => if v.cells.size = n then putCells H a v.cells.toList else none
  | none => none

def addrOf : Value → Option Addr
  | .pointer (some a) => match a.spot with | none => some a | some _ => none
  | _ => none

def intOf? : Value → Option Int
  | .int _ n => some n
  | _ => none

/-! ### Frames -/
structure Frm where
  t : PT Value
  n : Nat

def Frm.get (T : Frm) (i : Nat) : Value := (T.t.get i).getD undef
def Frm.put (T : Frm) (dst : Option Tmp) (v : Value) : Option Frm :=
  match dst with
  | none => some T
  | some d => if d < T.n then some { T with t := T.t.set d (some v) } else none

def evO (T : Frm) : Operand → Option Value
  | .tmp t => some (T.get t)
  | .const v => if flat v then some v else none
  | .global _ => none
  | .func f => some (.func (.func f) #[] #[])

def evL (T : Frm) : List Operand → Option (List Value)
  | [] => some []
  | x :: r => match evO T x, evL T r with
    | some v, some vs => some (v :: vs)
    | _, _ => none

def evParts (T : Frm) : List (Nat × Operand) → Option (List (Nat × Value))
  | [] => some []
  | (i, x) :: r => match evO T x, evParts T r with
    | some v, some vs => some ((i, v) :: vs)
    | _, _ => none

/-! ### The operations -/
abbrev R := Option (Value × Heap)

def keep (H : Heap) (v : Option Value) : R := match v with | some v => some (v, H) | none => none

def flatOnly (v : Option Value) : Option Value :=
  match v with
  | some v => if flat v then some v else none
  | none => none

def nilCmp (P : Program) (t : TypeId) (x y : Value) : Option Bool :=
  match P.underlying t, x, y with
  | some (.slice _), .slice none _ _, .slice b _ _ => some b.isNone
  | some (.slice _), .slice (some _) _ _, .slice none _ _ => some false
  | some (.pointer _), .pointer none, .pointer b => some b.isNone
  | some (.pointer _), .pointer (some _), .pointer none => some false
  | some (.map _ _), .map none, .map b => some b.isNone
  | some (.map _ _), .map (some _), .map none => some false
  | some (.func _ _ _), .nilFunc, .func _ _ _ => some false
  | some (.func _ _ _), .func _ _ _, .nilFunc => some false
  | _, _, _ => none

def binV (P : Program) (op : BinOp) (t : TypeId) (xo yo : Operand) (x y : Value) : Option Value :=
  if flat x && flat y then flatOnly (pureRun P (do eqGuard op t xo yo x y; binOp op t x y))
  else match op with
    | .eql => (nilCmp P t x y).map .bool
    | .neq => (nilCmp P t x y).map fun b => .bool (!b)
    | _ => none

def bytesCells (s : ByteArray) : List Value := s.data.toList.map fun b => .int .u8 b.toNat

def convV (P : Program) (H : Heap) (src dst : TypeId) (x : Value) : R :=
  match x, P.underlying dst with
  | .string s, some (.slice e) =>
    match P.underlying e, P.underlying src with
    | some (.int .u8), some _ => allocK H (bytesCells s) (some 1) fun b H' => some (.slice (some ⟨b, 0, none⟩) s.size s.size, H')
    | _, _ => none
  | .slice (some a) n c, some (.slice e) =>
    match P.underlying src, P.underlying e, H.get a.block with
    | some (.slice _), some (.int .u8), some (.cells _ _ false) => if src = dst ∧ H.floor ≤ a.block then some (.slice (some a) n c, H) else none
    | _, _, _ => none
  | _, _ => if flat x then keep H (flatOnly (pureRun P (convert src dst x))) else none

def fieldAt (P : Program) (t : TypeId) (i : Nat) : Option Field :=
  match P.underlying t with
  | some (.struct fs) => fs[i]?
  | _ => none

def fieldAddrV (P : Program) (t : TypeId) (x : Value) (i : Nat) : Option Value :=
  match addrOf x, fieldAt P t i with
  | some a, some f => match sizeT P f.type with
    | some (_ + 1) => some (.pointer (some ⟨a.block, a.off + f.offset, none⟩))
    | _ => none
  | _, _ => none

def indexAddrV (P : Program) (t : TypeId) (x i : Value) : Option Value :=
  match P.underlying t, x, i with
  | some (.array len e), .pointer (some ⟨b, off, none⟩), .int _ i =>
    match sizeT P e with
    | some s => if 0 ≤ i ∧ i < len then some (.pointer (some ⟨b, off + i.toNat * s, none⟩)) else none
    | none => none
  | some (.slice e), .slice (some ⟨b, off, none⟩) len _, .int _ i =>
    match sizeT P e with
    | some s => if 0 ≤ i ∧ i < len then some (.pointer (some ⟨b, off + i.toNat * s, none⟩)) else none
    | none => none
  | _, _, _ => none

def partV (P : Program) (t : TypeId) (cs : Array Value) (off : Nat) : Option Value :=
  match isAggT P t, sizeT P t with
  | some true, some n => some (.agg (cs.extract off (off + n)))
  | some false, _ => cs[off]?
  | _, _ => none

def fieldV (P : Program) (t : TypeId) (x : Value) (i : Nat) : Option Value :=
  match x, fieldAt P t i with
  | .agg cs, some f => partV P f.type cs f.offset
  | _, _ => none

def indexV (P : Program) (t : TypeId) (x i : Value) : Option Value :=
  match P.underlying t, x, i with
  | some (.array len e), .agg cs, .int _ i =>
    match sizeT P e with
    | some s => if 0 ≤ i ∧ i < len then partV P e cs (i.toNat * s) else none
    | none => none
  | some .string, .string s, .int _ i => if 0 ≤ i then (s[i.toNat]?).map fun b => .int .u8 b.toNat else none
  | _, _, _ => none

def boundV (v : Option Value) (d : Nat) (y : Nat) : Option Nat :=
  match v with
  | none => some d
  | some (.int _ i) => if 0 ≤ i ∧ i ≤ y then some i.toNat else none
  | some _ => none

def exAt (H : Heap) (b : Nat) : Bool :=
  match H.get b with
  | some (.cells _ none _) => true
  | _ => false

def sliceV (P : Program) (H : Heap) (t : TypeId) (x : Value) (lo hi mx : Option Value) : Option Value :=
  match mx, P.underlying t, x with
  | none, some .string, .string s =>
    match boundV hi s.size s.size with
    | some h => (boundV lo 0 h).map fun l => .string (s.extract l h)
    | none => none
  | none, some (.slice e), .slice (some ⟨b, off, none⟩) len cap =>
    match sizeT P e, boundV hi len cap with
    | some s, some h => match boundV lo 0 h with
      | some l => if l = 0 then some (.slice (some ⟨b, off, none⟩) h cap)
        else if (exAt H b && decide (l ≤ cap)) || decide (l < cap) then some (.slice (some (if cap = l then ⟨b, off, none⟩ else ⟨b, off + l * s, none⟩)) (h - l) (cap - l)) else none
      | none => none
    | _, _ => none
  | none, some (.slice e), .slice none 0 0 =>
    match sizeT P e, boundV hi 0 0, boundV lo 0 0 with
    | some _, some _, some _ => some (.slice none 0 0)
    | _, _, _ => none
  | none, some (.array n e), .pointer (some ⟨b, off, none⟩) =>
    match sizeT P e, boundV hi n n with
    | some s, some h => match boundV lo 0 h with
      | some l => if exAt H b then some (.slice (some (if n = l then ⟨b, off, none⟩ else ⟨b, off + l * s, none⟩)) (h - l) (n - l)) else none
      | none => none
    | _, _ => none
  | _, _, _ => none

def roomV : Nat := 2 ^ 36

def makeSliceV (P : Program) (H : Heap) (t : TypeId) (len cap : Value) : R :=
  match P.underlying t, len, cap with
  | some (.slice e), .int _ l, .int _ c =>
    match P.info? e, zeroT P e with
    | some i, some z =>
      if 0 ≤ l ∧ l ≤ c ∧ c ≤ roomV ∧ c * i.bytes ≤ roomV ∧ z.cells.size = i.size then
        allocK H (List.replicate c.toNat z.cells.toList).flatten none fun b H' => some (.slice (some ⟨b, 0, none⟩) l.toNat c.toNat, H')
      else none
    | _, _ => none
  | _, _, _ => none

def fillS (place : Nat → Option (Nat × Nat)) (cs : List Value) : List (Nat × Value) → Option (List Value)
  | [] => some cs
  | (i, v) :: r => match place i with
    | some (off, size) => if v.cells.size = size ∧ off + size ≤ cs.length then fillS place (splice cs off v.cells.toList) r else none
    | none => none

def buildV (P : Program) (t : TypeId) (parts : List (Nat × Value)) : Option Value :=
  match zeroT P t, P.underlying t with
  | some z, some (.struct fs) =>
    if fs.toList.all fun f => (sizeT P f.type).isSome then (fillS (fun i => match fs[i]? with | some f => (sizeT P f.type).map fun s => (f.offset, s) | none => none) z.cells.toList parts).map fun cs => .agg cs.toArray else none
  | some z, some (.array _ e) => match sizeT P e with
    | some s => (fillS (fun i => some (i * s, s)) z.cells.toList parts).map fun cs => .agg cs.toArray
    | none => none
  | _, _ => none

def buildSliceV (P : Program) (H : Heap) (t : TypeId) (len : Nat) (parts : List (Nat × Value)) : R :=
  match P.underlying t with
  | some (.slice e) => match sizeT P e, zeroT P e with
    | some s, some z =>
      if len * s ≤ 2 ^ 24 ∧ z.cells.size = s ∧ 0 < s then
        match fillS (fun i => some (i * s, s)) (List.replicate len z.cells.toList).flatten parts with
        | some cs => if cs.all oneCell then allocK H cs none fun b H' => some (.slice (some ⟨b, 0, none⟩) len len, H') else none
        | none => none
      else none
    | _, _ => none
  | _ => none

def srcCells (H : Heap) (size : Nat) : Value → Option (Nat × List Value)
  | .slice (some a) n _ => (cellsAt H a (n * size)).map fun cs => (n, cs)
  | .slice none 0 _ => some (0, [])
  | .string s => some (s.size, bytesCells s)
  | _ => none

def appendV (P : Program) (H : Heap) (argTypes : Array TypeId) (s x : Value) : R :=
  match (argTypes[0]?).bind P.underlying, (argTypes[1]?).bind P.underlying with
  | some (.slice e), some xt =>
    match xt with
    | .int _ => none
    | _ =>
    match P.info? e, s with
    | some i, .slice base n cap =>
      match srcCells H i.size x with
      | some (k, new) =>
        if n + k ≤ cap then
          match base with
          | some a => if k = 0 then some (s, H) else (putCells H ⟨a.block, a.off + n * i.size, a.spot⟩ new).map fun H' => (.slice base (n + k) cap, H')
          | none => if k = 0 then some (.slice none n cap, H) else none
        else if (n + k) * i.bytes ≤ roomV ∧ n + k ≤ roomV ∧ 0 < i.size ∧ ((zeroT P e).map (·.cells.size)) = some i.size then
          match base with
          | none => if n = 0 then allocK H new (some i.size) fun b H' => some (.slice (some ⟨b, 0, none⟩) k k, H') else none
          | some a =>
            match a.spot, H.get a.block with
            | none, some (.cells cs none _) =>
              if a.off + n * i.size ≤ cs.length then
                allocK H ((cs.drop a.off).take (n * i.size) ++ new) (some i.size) fun b H' => some (.slice (some ⟨b, 0, none⟩) (n + k) (n + k), H')
              else none
            | none, some (.cells cs (some z) false) =>
              if z = i.size ∧ a.off + n * i.size ≤ cs.length ∧ a.off + cap * i.size ≤ cs.length ∧ H.floor ≤ a.block ∧ new.all oneCell = true then
                allocK (H.put a.block none) ((cs.drop a.off).take (n * i.size) ++ new) (some i.size) fun b H' => some (.slice (some ⟨b, 0, none⟩) (n + k) (n + k), H')
              else none
            | _, _ => none
        else none
      | none => none
    | _, _ => none
  | _, _ => none

def copyV (P : Program) (H : Heap) (argTypes : Array TypeId) (d x : Value) : R :=
  match (argTypes[0]?).bind P.underlying with
  | some (.slice e) =>
    match sizeT P e, d with
    | some size, .slice base n cd =>
      if base.isNone && !(n.beq 0 && cd.beq 0) then none else
      match x with
      | .slice (some s) k c =>
        match srcCells H size (.slice (some s) k c), base with
        | some (_, new), some a => (putCells H a (new.take (Nat.min k n * size))).map fun H' => (.int .i64 (Nat.min k n : Nat), H')
        | some _, none => some (.int .i64 0, H)
        | _, _ => none
      | .slice none 0 _ => some (.int .i64 0, H)
      | _ => none
    | _, _ => none
  | _ => none

def lenV (P : Program) (H : Heap) (argTypes : Array TypeId) (x : Value) : Option Value :=
  match (argTypes[0]?).bind P.underlying, x with
  | some .string, .string s => some (.int .i64 s.size)
  | some (.array n _), _ => some (.int .i64 n)
  | some (.slice _), .slice _ n _ => some (.int .i64 n)
  | some (.map _ _), .map none => some (.int .i64 0)
  | some (.map _ _), .map (some r) => match H.get r with
    | some (.map es) => some (.int .i64 es.length)
    | _ => none
  | _, _ => none

def mapOf (H : Heap) : Value → Option (List MapEntry)
  | .map none => some []
  | .map (some r) => match H.get r with
    | some (.map es) => some es
    | _ => none
  | _ => none

def lookupV (P : Program) (H : Heap) (t : TypeId) (x k : Value) (ok : Bool) : Option Value :=
  match P.underlying t, mapOf H x with
  | some (.map kt et), some es =>
    if flat k && es.all fun e => flat e.key then
      match pureRun P (Instr.checkKey es.isEmpty 10000 kt k), pureRun P (Instr.findKey kt k es) with
      | some (), some (some (_, v)) => some (if ok then .tuple #[v, .bool true] else v)
      | some (), some none => (zeroT P et).map fun z => if ok then .tuple #[z, .bool false] else z
      | _, _ => none
    else none
  | _, _ => none

def mapUpdateV (P : Program) (H : Heap) (t : TypeId) (m k v : Value) : Option Heap :=
  match P.underlying t, m with
  | some (.map kt _), .map (some r) =>
    match H.get r with
    | some (.map es) =>
      if H.floor ≤ r && flat k && es.all fun e => flat e.key then
        match pureRun P (Instr.checkKey false 10000 kt k), pureRun P (Instr.findKey kt k es) with
        | some (), some (some (i, _)) =>
          match es[i]? with
          | some e => if Instr.sameBits 10000 e.key k then some (H.put r (some (.map (es.set i { e with key := k, val := v })))) else none
          | none => none
        | some (), some none => some (H.put r (some (.map (es ++ [{ key := k, val := v, born := 0 }]))))
        | _, _ => none
      else none
    | _ => none
  | _, _ => none

def nilCheckV (x : Value) : Option Value :=
  match x with
  | .pointer none | .nilIface | .nilFunc => none
  | .func (.func f) a b => some (.func (.func f) a b)
  | .pointer (some a) => some (.pointer (some a))
  | .slice a n c => some (.slice a n c)
  | _ => none

/-- A call of one of the program's functions: its number and its arguments. -/
def calleeOf (f : Value) (args : List Value) : Option (FuncId × List Value) :=
  match f with
  | .func (.func g) first captured => some (g, first.toList ++ args ++ captured.toList)
  | _ => none

def builtinV (P : Program) (H : Heap) (b : Builtin) (argTypes : Array TypeId) (type : TypeId) (args : List Value) : R :=
  match b, args with
  | .append, [s, x] => appendV P H argTypes s x
  | .copy, [d, x] => copyV P H argTypes d x
  | .len, [x] => keep H (lenV P H argTypes x)
  | .max, xs => if xs.all flat then keep H (flatOnly (pureRun P (Builtin.max_ argTypes type xs.toArray))) else none
  | .min, xs => if xs.all flat then keep H (flatOnly (pureRun P (Builtin.min_ argTypes type xs.toArray))) else none
  | _, _ => none

/-! The operations, each a small function of the frame and the heap: 'DenO' shuts what is closed away from what is not (the kernel keeps what a closed term comes to). -/
structure DenO where
  run : Frm → Heap → R

def oMove (x : Operand) (T : Frm) (H : Heap) : R := keep H (evO T x)
def oPick (c a b : Operand) (T : Frm) (H : Heap) : R :=
  match evO T c, evO T a, evO T b with
  | some (.bool c), some a, some b => some (if c then a else b, H)
  | _, _, _ => none
def oAlloc (P : Program) (e : TypeId) (H : Heap) : R :=
  match zeroT P e with
  | some z => allocK H z.cells.toList none fun b H' => some (.pointer (some ⟨b, 0, none⟩), H')
  | none => none
def oBox (x : Operand) (T : Frm) (H : Heap) : R :=
  match evO T x with
  | some v => if v.cells.toList.all oneCell then allocK H v.cells.toList none fun b H' => some (.pointer (some ⟨b, 0, none⟩), H') else none
  | none => none
def oBuild (P : Program) (t : TypeId) (parts : List (Nat × Operand)) (T : Frm) (H : Heap) : R :=
  match evParts T parts with
  | some ps => keep H (buildV P t ps)
  | none => none
def oBuildSlice (P : Program) (t : TypeId) (n : Nat) (parts : List (Nat × Operand)) (T : Frm) (H : Heap) : R :=
  match evParts T parts with
  | some ps => buildSliceV P H t n ps
  | none => none
def oLoad (P : Program) (t : TypeId) (a : Operand) (T : Frm) (H : Heap) : R :=
  match (evO T a).bind addrOf with
  | some a => keep H (loadV P H t a)
  | none => none
def oStore (P : Program) (t : TypeId) (a x : Operand) (T : Frm) (H : Heap) : R :=
  match (evO T a).bind addrOf, evO T x with
  | some a, some v => (storeV P H t a v).map fun H' => (undef, H')
  | _, _ => none
def oNil (x : Operand) (T : Frm) (H : Heap) : R := keep H ((evO T x).bind nilCheckV)
def oBin (P : Program) (op : BinOp) (t : TypeId) (x y : Operand) (T : Frm) (H : Heap) : R :=
  match evO T x, evO T y with
  | some a, some b => keep H (binV P op t x y a b)
  | _, _ => none
def oUn (P : Program) (op : UnOp) (x : Operand) (T : Frm) (H : Heap) : R :=
  match evO T x with
  | some a => if flat a then keep H (flatOnly (pureRun P (Op.unary op a))) else none
  | none => none
def oConv (P : Program) (src dst : TypeId) (x : Operand) (T : Frm) (H : Heap) : R :=
  match evO T x with
  | some a => convV P H src dst a
  | none => none
def oFunc (f : FuncId) (first captured : List Operand) (T : Frm) (H : Heap) : R :=
  match evL T first, evL T captured with
  | some a, some b => some (.func (.func f) a.toArray b.toArray, H)
  | _, _ => none
def oMakeSlice (P : Program) (t : TypeId) (l c : Operand) (T : Frm) (H : Heap) : R :=
  match evO T l, evO T c with
  | some l, some c => makeSliceV P H t l c
  | _, _ => none
def evM (T : Frm) : Option Operand → Option (Option Value)
  | none => some none
  | some x => match evO T x with
    | some v => some (some v)
    | none => none
def oSlice (P : Program) (t : TypeId) (x : Operand) (lo hi mx : Option Operand) (T : Frm) (H : Heap) : R :=
  match evO T x, evM T lo, evM T hi, evM T mx with
  | some x, some lo, some hi, some mx => keep H (sliceV P H t x lo hi mx)
  | _, _, _, _ => none
def oFieldAddr (P : Program) (t : TypeId) (x : Operand) (i : Nat) (T : Frm) (H : Heap) : R :=
  match evO T x with
  | some x => keep H (fieldAddrV P t x i)
  | none => none
def oField (P : Program) (t : TypeId) (x : Operand) (i : Nat) (T : Frm) (H : Heap) : R :=
  match evO T x with
  | some x => keep H (fieldV P t x i)
  | none => none
def oIndexAddr (P : Program) (t : TypeId) (x i : Operand) (T : Frm) (H : Heap) : R :=
  match evO T x, evO T i with
  | some x, some i => keep H (indexAddrV P t x i)
  | _, _ => none
def oIndex (P : Program) (t : TypeId) (x i : Operand) (T : Frm) (H : Heap) : R :=
  match evO T x, evO T i with
  | some x, some i => keep H (indexV P t x i)
  | _, _ => none
def oLookup (P : Program) (t : TypeId) (x k : Operand) (ok : Bool) (T : Frm) (H : Heap) : R :=
  match evO T x, evO T k with
  | some x, some k => keep H (lookupV P H t x k ok)
  | _, _ => none
def oUpdate (P : Program) (t : TypeId) (m k v : Operand) (T : Frm) (H : Heap) : R :=
  match evO T m, evO T k, evO T v with
  | some m, some k, some v => (mapUpdateV P H t m k v).map fun H' => (undef, H')
  | _, _, _ => none
def oExtract (x : Operand) (i : Nat) (T : Frm) (H : Heap) : R :=
  match evO T x with
  | some (.tuple vs) => keep H vs[i]?
  | _ => none
def oBuiltin (P : Program) (type : TypeId) (b : Builtin) (args : List Operand) (argTypes : Array TypeId) (T : Frm) (H : Heap) : R :=
  match evL T args with
  | some vs => builtinV P H b argTypes type vs
  | none => none

/-- The operations that enter no function. -/
def simpleV (P : Program) (type : TypeId) : Op → DenO
  | .move x | .assign x => ⟨oMove x⟩
  | .pick c a b => ⟨oPick c a b⟩
  | .alloc e => ⟨fun _ => oAlloc P e⟩
  | .box _ x => ⟨oBox x⟩
  | .build t parts => ⟨oBuild P t parts.toList⟩
  | .buildSlice t n parts => ⟨oBuildSlice P t n parts.toList⟩
  | .load t a => ⟨oLoad P t a⟩
  | .store t a x => ⟨oStore P t a x⟩
  | .nilCheck x => ⟨oNil x⟩
  | .binOp op t x y _ => ⟨oBin P op t x y⟩
  | .unOp op _ x => ⟨oUn P op x⟩
  | .convert src dst x => ⟨oConv P src dst x⟩
  | .makeFunc (.func f) first captured => ⟨oFunc f first.toList captured.toList⟩
  | .makeMap _ none => ⟨fun _ H => some (.map (some H.next), H.new (.map []))⟩
  | .makeSlice t l c => ⟨oMakeSlice P t l c⟩
  | .slice t x lo hi mx => ⟨oSlice P t x lo hi mx⟩
  | .fieldAddr t x i => ⟨oFieldAddr P t x i⟩
  | .field t x i => ⟨oField P t x i⟩
  | .indexAddr t x i => ⟨oIndexAddr P t x i⟩
  | .index t x i => ⟨oIndex P t x i⟩
  | .lookup t x k ok => ⟨oLookup P t x k ok⟩
  | .mapUpdate t m k v | .insert t m k v => ⟨oUpdate P t m k v⟩
  | .extract x i => ⟨oExtract x i⟩
  | .call ⟨.builtin b, args, argTypes⟩ => ⟨oBuiltin P type b args.toList argTypes⟩
  | _ => ⟨fun _ _ => none⟩

/-! ### Regions, code, calls -/
abbrev CallFn := FuncId → List Value → Heap → R

def yieldedV (ops : List Oper) (T : Frm) (j : Nat) : Option Bool :=
  match ((ops[j]?).bind (·.dst)) with
  | some t => match T.get t with
    | .bool b => some b
    | _ => none
  | none => none

def wantedV (ops : List Oper) (T : Frm) (o : Oper) : Bool :=
  match o.guard with
  | none => true
  | some (j, want) => match yieldedV ops T j with
    | some b => b == want
    | none => false

structure DenC where
  run : CallFn → Frm → Heap → R

def oCall (f : Operand) (args : List Operand) (call : CallFn) (T : Frm) (H : Heap) : R :=
  match evO T f, evL T args with
  | some f, some vs => match calleeOf f vs with
    | some (g, as) => call g as H
    | none => none
  | _, _ => none

def opV (P : Program) (o : Oper) : DenC :=
  match o.op with
  | .call ⟨.value f, args, _⟩ => ⟨oCall f args.toList⟩
  | op => ⟨fun _ => (simpleV P o.type op).run⟩

structure DenL where
  run : CallFn → Frm → Heap → Option (Frm × Heap)

def stepV (P : Program) (ops : List Oper) (o : Oper) (call : CallFn) (T : Frm) (H : Heap) (k : Frm → Heap → Option (Frm × Heap)) : Option (Frm × Heap) :=
  if wantedV ops T o then
    match (opV P o).run call T H with
    | some (v, H') => forceV v fun v => match T.put o.dst v with
      | some T' => k T' H'
      | none => none
    | none => none
  else match T.put o.dst undef with
    | some T' => k T' H
    | none => none

def opsV (P : Program) (ops : List Oper) : List Oper → DenL
  | [] => ⟨fun _ T H => some (T, H)⟩
  | o :: r => ⟨fun call T H => stepV P ops o call T H ((opsV P ops r).run call)⟩

/-! ### Regions that draw their order -/
inductive Fp where
  | mem (rd wr : List Nat)
  | call

def blkOf : Value → List Nat
  | .pointer (some a) => [a.block]
  | .slice (some a) _ _ => [a.block]
  | .map (some r) => [r]
  | _ => []

def blkO (T : Frm) (x : Operand) : List Nat :=
  match evO T x with
  | some v => blkOf v
  | none => []

def fpOf (T : Frm) (o : Oper) : Fp :=
  match o.op with
  | .load _ a => .mem (blkO T a) []
  | .store _ a _ => .mem [] (blkO T a)
  | .lookup _ x _ _ => .mem (blkO T x) []
  | .slice _ x _ _ _ => .mem (blkO T x) []
  | .convert _ _ x => .mem [] (blkO T x)
  | .mapUpdate _ m _ _ | .insert _ m _ _ => .mem [] (blkO T m)
  | .call ⟨.builtin .append, args, _⟩ => .mem ((args.toList.drop 1).flatMap (blkO T)) ((args.toList.take 1).flatMap (blkO T))
  | .call ⟨.builtin .copy, args, _⟩ => .mem ((args.toList.drop 1).flatMap (blkO T)) ((args.toList.take 1).flatMap (blkO T))
  | .call ⟨.builtin .len, args, _⟩ => .mem (args.toList.flatMap (blkO T)) []
  | .call ⟨.value _, _, _⟩ => .call
  | _ => .mem [] []

def meets (a b : List Nat) : Bool := a.any fun x => b.any fun y => x.beq y

def Fp.clash : Fp → Fp → Bool
  | .mem r w, .mem r' w' => meets w r' || meets w w' || meets r w'
  | .call, .mem _ w => !w.isEmpty
  | .mem _ w, .call => !w.isEmpty
  | .call, .call => false

/-- For each operation the set (a number's bits) of those that must come before it. -/
def befores (ops : List Oper) : List Nat :=
  ops.foldl (fun acc o => acc ++ [(o.after.toList.filter (Region.binds .any)).foldl (fun s e => s ||| 2 ^ e.on ||| acc.getD e.on 0) 0]) []

def cmpB (bs : List Nat) (i j : Nat) : Bool := (bs.getD i 0).testBit j || (bs.getD j 0).testBit i

def looksAt (ops : List Oper) (o : Oper) : List Tmp :=
  (o.op.operands.toList.filterMap fun | .tmp t => some t | _ => none) ++
  (match o.guard with
   | some (g, _) => ((ops[g]?).bind (·.dst)).toList
   | none => [])

def apartB (ops : List Oper) (x y : Oper) : Bool :=
  (match x.dst with
   | some d => !((looksAt ops y).any (·.beq d)) && (match y.dst with | some d' => !(d.beq d') | none => true)
   | none => true) &&
  (match y.dst with
   | some d => !((looksAt ops x).any (·.beq d))
   | none => true)

/-- The region's own text: whatever two operations are not ordered have different slots; every edge leads backward. -/
def regionOk (ops : List Oper) : Bool :=
  let bs := befores ops
  let is := List.range ops.length
  (ops.zipIdx.all fun (o, i) => o.after.toList.all fun e => !Region.binds .any e || decide (e.on < i)) &&
  is.all fun i => is.all fun j => !(decide (i < j)) || cmpB bs i j ||
    (match ops[i]?, ops[j]? with
     | some x, some y => apartB ops x y
     | _, _ => false)

/-- May the call at place i write? Only where all others are ordered beside it. -/
def freeCall (bs : List Nat) (n i : Nat) : Bool := (List.range n).all fun j => i.beq j || cmpB bs i j

structure DenD where
  run : CallFn → Frm → Heap → List Fp → Option (Frm × Heap × List Fp)

def quietB (bs : List Nat) (n i : Nat) : Fp → Bool
  | .call => !freeCall bs n i
  | .mem _ _ => false
def dropF (q : Bool) (H : Heap) : Heap :=
  match q with
  | true => { H with floor := H.next }
  | false => H
def liftF (q : Bool) (f : Nat) (H : Heap) : Heap :=
  match q with
  | true => { H with floor := f }
  | false => H

def stepD (P : Program) (ops : List Oper) (bs : List Nat) (i : Nat) (o : Oper) (call : CallFn) (T : Frm) (H : Heap) (fs : List Fp)
    (k : Frm → Heap → List Fp → Option (Frm × Heap × List Fp)) : Option (Frm × Heap × List Fp) :=
  if wantedV ops T o then
    match (opV P o).run call T (dropF (quietB bs ops.length i (fpOf T o)) H) with
    | some (v, H') => forceV v fun v => match T.put o.dst v with
      | some T' => k T' (liftF (quietB bs ops.length i (fpOf T o)) H.floor H') (fs ++ [fpOf T o])
      | none => none
    | none => none
  else match T.put o.dst undef with
    | some T' => k T' H (fs ++ [.mem [] []])
    | none => none

def opsD (P : Program) (ops : List Oper) (bs : List Nat) : List Oper → Nat → DenD
  | [], _ => ⟨fun _ T H fs => some (T, H, fs)⟩
  | o :: r, i => ⟨fun call T H fs => stepD P ops bs i o call T H fs ((opsD P ops bs r (i + 1)).run call)⟩

def clashFree (bs : List Nat) (fs : List Fp) : Bool :=
  let is := List.range fs.length
  is.all fun i => is.all fun j => !(decide (i < j)) || cmpB bs i j ||
    (match fs[i]?, fs[j]? with
     | some f, some g => !f.clash g
     | _, _ => false)

def regionD (P : Program) (ops : List Oper) (call : CallFn) (T : Frm) (H : Heap) : Option (Frm × Heap) :=
  if regionOk ops then
    match (opsD P ops (befores ops) ops 0).run call T H [] with
    | some (T', H', fs) => if clashFree (befores ops) fs then some (T', H') else none
    | none => none
  else none

inductive Ex where
  | normal
  | exit (id : Nat)
  | ret

abbrev CodeR := Option (Ex × Frm × Heap)

/-- A piece of code: calls go by 'call'; a loop has 'k' rounds. -/
structure DenK where
  run : CallFn → Nat → Frm → Heap → CodeR

def seqV (a b : Frm → Heap → CodeR) (T : Frm) (H : Heap) : CodeR :=
  match a T H with
  | some (.normal, T', H') => b T' H'
  | r => r

def loopV (b : Frm → Heap → CodeR) : Nat → Frm → Heap → CodeR
  | 0, _, _ => none
  | k + 1, T, H => match b T H with
    | some (.normal, T', H') => loopV b k T' H'
    | r => r

def condV (x : Operand) (a b : Frm → Heap → CodeR) (T : Frm) (H : Heap) : CodeR :=
  match evO T x with
  | some (.bool c) => match c with
    | true => a T H
    | false => b T H
  | _ => none

def blockV (id : Nat) (b : Frm → Heap → CodeR) (T : Frm) (H : Heap) : CodeR :=
  match b T H with
  | some (.exit i, T', H') => match i.beq id with
    | true => some (.normal, T', H')
    | false => some (.exit i, T', H')
  | r => r

def asCode (r : Option (Frm × Heap)) : CodeR :=
  match r with
  | some (T', H') => some (.normal, T', H')
  | none => none

def denC (P : Program) : Code → DenK
  | .skip => ⟨fun _ _ T H => some (.normal, T, H)⟩
  | .label _ => ⟨fun _ _ T H => some (.normal, T, H)⟩
  | .exit id => ⟨fun _ _ T H => some (.exit id, T, H)⟩
  | .ret => ⟨fun _ _ T H => some (.ret, T, H)⟩
  | .seq a b => ⟨fun call k => seqV ((denC P a).run call k) ((denC P b).run call k)⟩
  | .cond x a b => ⟨fun call k => condV x ((denC P a).run call k) ((denC P b).run call k)⟩
  | .block id b => ⟨fun call k => blockV id ((denC P b).run call k)⟩
  | .loop b => ⟨fun call k => loopV ((denC P b).run call k) k⟩
  | .scope b => ⟨fun call k => (denC P b).run call k⟩
  | .region _ ops true => ⟨fun call _ T H => asCode (regionD P ops.toList call T H)⟩
  | .region _ ops false => ⟨fun call _ T H => asCode ((opsV P ops.toList ops.toList).run call T H)⟩
  | _ => ⟨fun _ _ _ _ => none⟩

def argsT : PT Value → Nat → List Value → PT Value
  | t, _, [] => t
  | t, i, v :: r => argsT (t.set i (some v)) (i + 1) r

def resultV (P : Program) (T : Frm) (H : Heap) : ResultVar → Option Value
  | .tmp t => some (T.get t)
  | .cell a t => match addrOf (T.get a) with
    | some a => loadV P H t a
    | none => none

def resultsV (P : Program) (T : Frm) (H : Heap) : List ResultVar → Option (List Value)
  | [] => some []
  | r :: rs => match resultV P T H r, resultsV P T H rs with
    | some v, some vs => some (v :: vs)
    | _, _ => none

def retV (P : Program) (rs : List ResultVar) (r : CodeR) : R :=
  match r with
  | some (.exit _, _, _) => none
  | some (_, T, H') => match resultsV P T H' rs with
    | some [v] => some (v, H')
    | some vs => some (.tuple vs.toArray, H')
    | none => none
  | none => none

structure DenF where
  run : CallFn → Nat → List Value → Heap → R

def nth {α : Type} : List α → Nat → Option α
  | [], _ => none
  | x :: _, 0 => some x
  | _ :: r, i + 1 => nth r i

def denF (P : Program) (f : FuncId) : DenF :=
  match nth P.funcs.toList f with
  | some fn => match fn.body with
    | some c => ⟨fun call k args H =>
        if args.length ≤ fn.ntmps then retV P fn.results.toList ((denC P c).run call k ⟨argsT .leaf 0 args, fn.ntmps⟩ H) else none⟩
    | none => ⟨fun _ _ _ _ => none⟩
  | none => ⟨fun _ _ _ _ => none⟩

/-- A call: 'n' calls deep, 'k' rounds for each loop. -/
def callV (P : Program) (k : Nat) : Nat → CallFn
  | 0, _, _, _ => none
  | n + 1, f, args, H => (denF P f).run (callV P k n) k args H

def heap0 : Heap := ⟨.leaf, 0, 0⟩

end Go.Vm
