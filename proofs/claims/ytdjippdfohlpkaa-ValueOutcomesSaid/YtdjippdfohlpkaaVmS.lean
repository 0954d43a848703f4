/- A verified interpreter: the same over frames that are functions, in the manner of what comes next, nothing forced: for runs over symbols. -/
import Derived.Test.YtdjippdfohlpkaaVmR
namespace Go.Vm

abbrev Fn := Nat → Value
structure Fr where
  f : Fn
  n : Nat

def upd (f : Fn) (d : Nat) (v : Value) : Fn := fun i => match i.beq d with
  | true => v
  | false => f i

def evS (f : Fn) : Operand → Option Value
  | .tmp t => some (f t)
  | .const v => if flat v then some v else none
  | .global _ => none
  | .func g => some (.func (.func g) #[] #[])
def evLS (f : Fn) : List Operand → Option (List Value)
  | [] => some []
  | x :: r => match evS f x, evLS f r with
    | some v, some vs => some (v :: vs)
    | _, _ => none
def evPS (f : Fn) : List (Nat × Operand) → Option (List (Nat × Value))
  | [] => some []
  | (i, x) :: r => match evS f x, evPS f r with
    | some v, some vs => some ((i, v) :: vs)
    | _, _ => none
def allocS {β : Type} (H : Heap) (cs : List Value) (lo : Option Nat) (k : Nat → Heap → β) : β := k H.next (H.new (.cells cs lo false))

def putS (H : Heap) (a : Addr) (vs : List Value) : Option Heap :=
  match a.spot, H.get a.block with
  | none, some (.cells cs lo false) =>
    if a.off + vs.length ≤ cs.length then
      if H.floor ≤ a.block then
        if vs.all oneCell then some (H.put a.block (some (.cells (splice cs a.off vs) lo false))) else none
      else none
    else none
  | _, _ => none


def storeS (P : Program) (H : Heap) (t : TypeId) (a : Addr) (v : Value) : Option Heap :=
  match sizeT P t with
  | some n => if v.cells.size = n then putS H a v.cells.toList else none
  | none => none


def convS (P : Program) (H : Heap) (src dst : TypeId) (x : Value) : R :=
  match x, P.underlying dst with
  | .string s, some (.slice e) =>
    match P.underlying e, P.underlying src with
    | some (.int .u8), some _ => allocS H (bytesCells s) (some 1) fun b H' => some (.slice (some ⟨b, 0, none⟩) s.size s.size, H')
    | _, _ => none
  | .slice (some a) n c, some (.slice e) =>
    match P.underlying src, P.underlying e, H.get a.block with
    | some (.slice _), some (.int .u8), some (.cells _ _ false) => if src = dst ∧ H.floor ≤ a.block then some (.slice (some a) n c, H) else none
    | _, _, _ => none
  | _, _ => if flat x then keep H (flatOnly (pureRun P (convert src dst x))) else none


def makeSliceS (P : Program) (H : Heap) (t : TypeId) (len cap : Value) : R :=
  match P.underlying t, len, cap with
  | some (.slice e), .int _ l, .int _ c =>
    match P.info? e, zeroT P e with
    | some i, some z =>
      if 0 ≤ l ∧ l ≤ c ∧ c ≤ roomV ∧ c * i.bytes ≤ roomV ∧ z.cells.size = i.size then
        allocS H (List.replicate c.toNat z.cells.toList).flatten none fun b H' => some (.slice (some ⟨b, 0, none⟩) l.toNat c.toNat, H')
      else none
    | _, _ => none
  | _, _, _ => none


def buildSliceS (P : Program) (H : Heap) (t : TypeId) (len : Nat) (parts : List (Nat × Value)) : R :=
  match P.underlying t with
  | some (.slice e) => match sizeT P e, zeroT P e with
    | some s, some z =>
      if len * s ≤ 2 ^ 24 ∧ z.cells.size = s ∧ 0 < s then
        match fillS (fun i => some (i * s, s)) (List.replicate len z.cells.toList).flatten parts with
        | some cs => if cs.all oneCell then allocS H cs none fun b H' => some (.slice (some ⟨b, 0, none⟩) len len, H') else none
        | none => none
      else none
    | _, _ => none
  | _ => none


def appendS (P : Program) (H : Heap) (argTypes : Array TypeId) (s x : Value) : R :=
  match (argTypes[0]?).bind P.underlying, (argTypes[1]?).bind P.underlying with
  | some (.slice e), some xt =>
    match xt with
    | .int _ => none
    | _ =>
    match P.info? e, s with
    | some i, .slice base n cap =>
      match srcCells H i.size x with
      | some (k, new) =>
        if n + k ≤ cap then
          match base with
          | some a => if k = 0 then some (s, H) else (putS H ⟨a.block, a.off + n * i.size, a.spot⟩ new).map fun H' => (.slice base (n + k) cap, H')
          | none => if k = 0 then some (.slice none n cap, H) else none
        else if (n + k) * i.bytes ≤ roomV ∧ n + k ≤ roomV ∧ 0 < i.size ∧ ((zeroT P e).map (·.cells.size)) = some i.size then
          match base with
          | none => if n = 0 then allocS H new (some i.size) fun b H' => some (.slice (some ⟨b, 0, none⟩) k k, H') else none
          | some a =>
            match a.spot, H.get a.block with
            | none, some (.cells cs none _) =>
              if a.off + n * i.size ≤ cs.length then
                allocS H ((cs.drop a.off).take (n * i.size) ++ new) (some i.size) fun b H' => some (.slice (some ⟨b, 0, none⟩) (n + k) (n + k), H')
              else none
            | none, some (.cells cs (some z) false) =>
              if z = i.size ∧ a.off + n * i.size ≤ cs.length ∧ a.off + cap * i.size ≤ cs.length ∧ H.floor ≤ a.block ∧ new.all oneCell = true then
                allocS (H.put a.block none) ((cs.drop a.off).take (n * i.size) ++ new) (some i.size) fun b H' => some (.slice (some ⟨b, 0, none⟩) (n + k) (n + k), H')
              else none
            | _, _ => none
        else none
      | none => none
    | _, _ => none
  | _, _ => none

def copyS (P : Program) (H : Heap) (argTypes : Array TypeId) (d x : Value) : R :=
  match (argTypes[0]?).bind P.underlying with
  | some (.slice e) =>
    match sizeT P e, d with
    | some size, .slice base n cd =>
      if base.isNone && !(n.beq 0 && cd.beq 0) then none else
      match x with
      | .slice (some s) k c =>
        match srcCells H size (.slice (some s) k c), base with
        | some (_, new), some a => (putS H a (new.take (Nat.min k n * size))).map fun H' => (.int .i64 (Nat.min k n : Nat), H')
        | some _, none => some (.int .i64 0, H)
        | _, _ => none
      | .slice none 0 _ => some (.int .i64 0, H)
      | _ => none
    | _, _ => none
  | _ => none


def builtinS (P : Program) (H : Heap) (b : Builtin) (argTypes : Array TypeId) (type : TypeId) (args : List Value) : R :=
  match b, args with
  | .append, [s, x] => appendS P H argTypes s x
  | .copy, [d, x] => copyS P H argTypes d x
  | .len, [x] => keep H (lenV P H argTypes x)
  | .max, xs => if xs.all flat then keep H (flatOnly (pureRun P (Builtin.max_ argTypes type xs.toArray))) else none
  | .min, xs => if xs.all flat then keep H (flatOnly (pureRun P (Builtin.min_ argTypes type xs.toArray))) else none
  | _, _ => none


structure DenOS where
  run : Fr → Heap → R

def sMove (x : Operand) (T : Fr) (H : Heap) : R := keep H (evS T.f x)
def sPick (c a b : Operand) (T : Fr) (H : Heap) : R :=
  match evS T.f c, evS T.f a, evS T.f b with
  | some (.bool c), some a, some b => some (if c then a else b, H)
  | _, _, _ => none
def sAlloc (P : Program) (e : TypeId) (H : Heap) : R :=
  match zeroT P e with
  | some z => allocS H z.cells.toList none fun b H' => some (.pointer (some ⟨b, 0, none⟩), H')
  | none => none
def sBox (x : Operand) (T : Fr) (H : Heap) : R :=
  match evS T.f x with
  | some v => if v.cells.toList.all oneCell then allocS H v.cells.toList none fun b H' => some (.pointer (some ⟨b, 0, none⟩), H') else none
  | none => none
def sBuild (P : Program) (t : TypeId) (parts : List (Nat × Operand)) (T : Fr) (H : Heap) : R :=
  match evPS T.f parts with
  | some ps => keep H (buildV P t ps)
  | none => none
def sBuildSlice (P : Program) (t : TypeId) (n : Nat) (parts : List (Nat × Operand)) (T : Fr) (H : Heap) : R :=
  match evPS T.f parts with
  | some ps => buildSliceS P H t n ps
  | none => none
def sLoad (P : Program) (t : TypeId) (a : Operand) (T : Fr) (H : Heap) : R :=
  match (evS T.f a).bind addrOf with
  | some a => keep H (loadV P H t a)
  | none => none
def sStore (P : Program) (t : TypeId) (a x : Operand) (T : Fr) (H : Heap) : R :=
  match (evS T.f a).bind addrOf, evS T.f x with
  | some a, some v => (storeS P H t a v).map fun H' => (undef, H')
  | _, _ => none
def sNil (x : Operand) (T : Fr) (H : Heap) : R := keep H ((evS T.f x).bind nilCheckV)
def sBin (P : Program) (op : BinOp) (t : TypeId) (x y : Operand) (T : Fr) (H : Heap) : R :=
  match evS T.f x, evS T.f y with
  | some a, some b => keep H (binV P op t x y a b)
  | _, _ => none
def sUn (P : Program) (op : UnOp) (x : Operand) (T : Fr) (H : Heap) : R :=
  match evS T.f x with
  | some a => if flat a then keep H (flatOnly (pureRun P (Op.unary op a))) else none
  | none => none
def sConv (P : Program) (src dst : TypeId) (x : Operand) (T : Fr) (H : Heap) : R :=
  match evS T.f x with
  | some a => convS P H src dst a
  | none => none
def sFunc (f : FuncId) (first captured : List Operand) (T : Fr) (H : Heap) : R :=
  match evLS T.f first, evLS T.f captured with
  | some a, some b => some (.func (.func f) a.toArray b.toArray, H)
  | _, _ => none
def sMakeSlice (P : Program) (t : TypeId) (l c : Operand) (T : Fr) (H : Heap) : R :=
  match evS T.f l, evS T.f c with
  | some l, some c => makeSliceS P H t l c
  | _, _ => none
def evMS (f : Fn) : Option Operand → Option (Option Value)
  | none => some none
  | some x => match evS f x with
    | some v => some (some v)
    | none => none
def sSlice (P : Program) (t : TypeId) (x : Operand) (lo hi mx : Option Operand) (T : Fr) (H : Heap) : R :=
  match evS T.f x, evMS T.f lo, evMS T.f hi, evMS T.f mx with
  | some x, some lo, some hi, some mx => keep H (sliceV P H t x lo hi mx)
  | _, _, _, _ => none
def sFieldAddr (P : Program) (t : TypeId) (x : Operand) (i : Nat) (T : Fr) (H : Heap) : R :=
  match evS T.f x with
  | some x => keep H (fieldAddrV P t x i)
  | none => none
def sField (P : Program) (t : TypeId) (x : Operand) (i : Nat) (T : Fr) (H : Heap) : R :=
  match evS T.f x with
  | some x => keep H (fieldV P t x i)
  | none => none
def sIndexAddr (P : Program) (t : TypeId) (x i : Operand) (T : Fr) (H : Heap) : R :=
  match evS T.f x, evS T.f i with
  | some x, some i => keep H (indexAddrV P t x i)
  | _, _ => none
def sIndex (P : Program) (t : TypeId) (x i : Operand) (T : Fr) (H : Heap) : R :=
  match evS T.f x, evS T.f i with
  | some x, some i => keep H (indexV P t x i)
  | _, _ => none
def sLookup (P : Program) (t : TypeId) (x k : Operand) (ok : Bool) (T : Fr) (H : Heap) : R :=
  match evS T.f x, evS T.f k with
  | some x, some k => keep H (lookupV P H t x k ok)
  | _, _ => none
def sUpdate (P : Program) (t : TypeId) (m k v : Operand) (T : Fr) (H : Heap) : R :=
  match evS T.f m, evS T.f k, evS T.f v with
  | some m, some k, some v => (mapUpdateV P H t m k v).map fun H' => (undef, H')
  | _, _, _ => none
def sExtract (x : Operand) (i : Nat) (T : Fr) (H : Heap) : R :=
  match evS T.f x with
  | some (.tuple vs) => keep H vs[i]?
  | _ => none
def sBuiltin (P : Program) (type : TypeId) (b : Builtin) (args : List Operand) (argTypes : Array TypeId) (T : Fr) (H : Heap) : R :=
  match evLS T.f args with
  | some vs => builtinS P H b argTypes type vs
  | none => none

/-- The operations that enter no function. -/
def simpleS (P : Program) (type : TypeId) : Op → DenOS
  | .move x | .assign x => ⟨sMove x⟩
  | .pick c a b => ⟨sPick c a b⟩
  | .alloc e => ⟨fun _ => sAlloc P e⟩
  | .box _ x => ⟨sBox x⟩
  | .build t parts => ⟨sBuild P t parts.toList⟩
  | .buildSlice t n parts => ⟨sBuildSlice P t n parts.toList⟩
  | .load t a => ⟨sLoad P t a⟩
  | .store t a x => ⟨sStore P t a x⟩
  | .nilCheck x => ⟨sNil x⟩
  | .binOp op t x y _ => ⟨sBin P op t x y⟩
  | .unOp op _ x => ⟨sUn P op x⟩
  | .convert src dst x => ⟨sConv P src dst x⟩
  | .makeFunc (.func f) first captured => ⟨sFunc f first.toList captured.toList⟩
  | .makeMap _ none => ⟨fun _ H => some (.map (some H.next), H.new (.map []))⟩
  | .makeSlice t l c => ⟨sMakeSlice P t l c⟩
  | .slice t x lo hi mx => ⟨sSlice P t x lo hi mx⟩
  | .fieldAddr t x i => ⟨sFieldAddr P t x i⟩
  | .field t x i => ⟨sField P t x i⟩
  | .indexAddr t x i => ⟨sIndexAddr P t x i⟩
  | .index t x i => ⟨sIndex P t x i⟩
  | .lookup t x k ok => ⟨sLookup P t x k ok⟩
  | .mapUpdate t m k v | .insert t m k v => ⟨sUpdate P t m k v⟩
  | .extract x i => ⟨sExtract x i⟩
  | .call ⟨.builtin b, args, argTypes⟩ => ⟨sBuiltin P type b args.toList argTypes⟩
  | _ => ⟨fun _ _ => none⟩


variable {β : Type}
/-- What a run over symbols comes to: its branches. -/
inductive Tr (β : Type) where
  | fail
  | leaf (x : β)
  | node (b : Bool) (x y : Tr β)
def onB {γ : Type} (b : Bool) (x y : γ) : γ := match b with
  | true => x
  | false => y
def Tr.eval : Tr β → Option β
  | .fail => none
  | .leaf x => some x
  | .node b x y => onB b x.eval y.eval
/-- One path: its condition and its end. -/
def Tr.follow : List Bool → Tr β → Option (Bool × β)
  | [], .leaf x => some (true, x)
  | b :: r, .node c x y => match b with
    | true => match x.follow r with
      | some (d, v) => some (c && d, v)
      | none => none
    | false => match y.follow r with
      | some (d, v) => some (!c && d, v)
      | none => none
  | _, _ => none
def onR (r : R) (κ : Value → Heap → Tr β) : Tr β := match r with
  | some (v, H) => κ v H
  | none => .fail

/-- A branch: the slot that it looks at is known beyond it. -/
def onT (T : Fr) (t : Tmp) (b : Bool) (x y : Fr → Tr β) : Tr β := Tr.node b (x ⟨upd T.f t (.bool true), T.n⟩) (y ⟨upd T.f t (.bool false), T.n⟩)
def wantedS (ops : List Oper) (T : Fr) (o : Oper) (x y : Fr → Tr β) : Tr β :=
  match o.guard with
  | none => x T
  | some (j, want) => match ((ops[j]?).bind (·.dst)) with
    | some t => match T.f t with
      | .bool b => match want with
        | true => onT T t b x y
        | false => onT T t b y x
      | _ => y T
    | none => y T

/-! The operations in the manner of what comes next. -/
structure Hk where
  eq : TypeId → List Value → List Value → Option Bool

/-- Calls in the same manner. -/
abbrev KCall (β : Type) := FuncId → List Value → Heap → (Value → Heap → Tr β) → Tr β
def kCall (x : Operand) (args : List Operand) (call : KCall β) (T : Fr) (H : Heap) (κ : Value → Heap → Tr β) : Tr β :=
  match evS T.f x, evLS T.f args with
  | some v, some vs => match calleeOf v vs with
    | some (g, as) => call g as H κ
    | none => .fail
  | _, _ => .fail

/-- All cells are numbers of one kind. -/
def allK (k : IntKind) : List Value → Bool
  | [] => true
  | .int k' _ :: r => match decide (k' = k) with
    | true => allK k r
    | false => false
  | _ => false
def uni : List Value → Option IntKind
  | .int k _ :: r => match allK k r with
    | true => some k
    | false => none
  | _ => none
/-- The longest row of numbers of one kind in a block: at least two. -/
def cntK (k : IntKind) : List Value → Nat
  | .int k' _ :: r => match decide (k' = k) with
    | true => cntK k r + 1
    | false => 0
  | _ => 0
def winN : Nat → List Value → Option (IntKind × Nat × Nat)
  | _, [] => none
  | j, .int k _ :: r => match winN (j + 1) r with
    | some (k', lo, m) => match Nat.ble m (cntK k r + 1) with
      | true => some (k, j, cntK k r + 1)
      | false => some (k', lo, m)
    | none => match cntK k r with
      | 0 => none
      | m + 1 => some (k, j, m + 2)
  | j, _ :: r => winN (j + 1) r
def selInt (cs : List Value) (i : Nat) : Int := match nth cs i with
  | some (.int _ n) => n
  | _ => 0
def ints (k : IntKind) (cs : List Value) : Nat → Nat → List Value
  | _, 0 => []
  | off, n + 1 => .int k (selInt cs off) :: ints k cs (off + 1) n
def updInt (off : Nat) (vs : List Value) (j : Nat) (old : Int) : Int := match Nat.ble off j with
  | true => match nth vs (j - off) with
    | some (.int _ n) => n
    | _ => old
  | false => old
def updI (k : IntKind) (off : Nat) (vs : List Value) : Nat → List Value → List Value
  | _, [] => []
  | j, .int _ n :: r => .int k (updInt off vs j n) :: updI k off vs (j + 1) r
  | j, _ :: r => .int k (updInt off vs j 0) :: updI k off vs (j + 1) r
def shapeI (ag : Bool) (k : IntKind) (cs : List Value) (off n : Nat) : Value := match ag with
  | true => .agg (ints k cs off n).toArray
  | false => .int k (selInt cs off)

def kBin (P : Program) (hk : Hk) (op : BinOp) (t : TypeId) (x y : Operand) (T : Fr) (H : Heap) (κ : Value → Heap → Tr β) : Tr β :=
  match evS T.f x, evS T.f y with
  | some a, some b =>
    match op, a, b with
    | .quo, .int k a, .int k' b => match decide (k = k') with
      | true => Tr.node (decide (b = 0)) .fail (κ (.int k (k.wrap (a.tdiv b))) H)
      | false => .fail
    | .rem, .int k a, .int k' b => match decide (k = k') with
      | true => Tr.node (decide (b = 0)) .fail (κ (.int k (a.tmod b)) H)
      | false => .fail
    | .shl, .int k a, .int _ b => Tr.node (decide (b < 0)) .fail (κ (.int k (k.wrap (a * 2 ^ min b.toNat k.bits))) H)
    | .shr, .int k a, .int _ b => Tr.node (decide (b < 0)) .fail (κ (.int k (a.fdiv (2 ^ min b.toNat k.bits))) H)
    | .eql, .agg u, .agg v => match hk.eq t u.toList v.toList with
      | some b => κ (.bool b) H
      | none => onR (keep H (binV P .eql t x y (.agg u) (.agg v))) κ
    | .neq, .agg u, .agg v => match hk.eq t u.toList v.toList with
      | some b => κ (.bool (!b)) H
      | none => onR (keep H (binV P .neq t x y (.agg u) (.agg v))) κ
    | op, a, b => onR (keep H (binV P op t x y a b)) κ
  | _, _ => .fail
def kIndexAddr (P : Program) (t : TypeId) (x i : Operand) (T : Fr) (H : Heap) (κ : Value → Heap → Tr β) : Tr β :=
  match evS T.f x, evS T.f i with
  | some x, some i =>
    match P.underlying t, x, i with
    | some (.array len e), .pointer (some ⟨b, off, none⟩), .int _ i =>
      match sizeT P e with
      | some s => Tr.node (decide (0 ≤ i)) (Tr.node (decide (i < len)) (κ (.pointer (some ⟨b, off + i.toNat * s, none⟩)) H) .fail) .fail
      | none => .fail
    | some (.slice e), .slice (some ⟨b, off, none⟩) len _, .int _ i =>
      match sizeT P e with
      | some s => Tr.node (decide (0 ≤ i)) (Tr.node (decide (i < len)) (κ (.pointer (some ⟨b, off + i.toNat * s, none⟩)) H) .fail) .fail
      | none => .fail
    | _, _, _ => .fail
  | _, _ => .fail
def kIndex (P : Program) (t : TypeId) (x i : Operand) (T : Fr) (H : Heap) (κ : Value → Heap → Tr β) : Tr β :=
  match evS T.f x, evS T.f i with
  | some x, some i =>
    match P.underlying t, x, i with
    | some (.array len e), .agg cs, .int ki i =>
      match uni cs.toList, isAggT P e, sizeT P e with
      | some k, some ag, some s => match Nat.beq cs.toList.length (len * s) && Nat.ble 1 s with
        | true => Tr.node (decide (0 ≤ i)) (Tr.node (decide (i < len)) (κ (shapeI ag k cs.toList (i.toNat * s) s) H) .fail) .fail
        | false => onR (keep H (indexV P t (.agg cs) (.int ki i))) κ
      | _, _, _ => onR (keep H (indexV P t (.agg cs) (.int ki i))) κ
    | _, x, i => onR (keep H (indexV P t x i)) κ
  | _, _ => .fail
def kLoad (P : Program) (t : TypeId) (a : Operand) (T : Fr) (H : Heap) (κ : Value → Heap → Tr β) : Tr β :=
  match (evS T.f a).bind addrOf with
  | some a => match H.get a.block, isAggT P t, sizeT P t with
    | some (.cells cs _ _), some ag, some n => match uni cs with
      | some k => Tr.node (Nat.ble (a.off + (match ag with | true => n | false => 1)) cs.length) (κ (shapeI ag k cs a.off n) H) .fail
      | none => match winN 0 cs with
        | some (k, lo, m) => Tr.node (Nat.ble lo a.off && Nat.ble (a.off + (match ag with | true => n | false => 1)) (lo + m)) (κ (shapeI ag k cs a.off n) H) (onR (keep H (loadV P H t a)) κ)
        | none => onR (keep H (loadV P H t a)) κ
    | _, _, _ => .fail
  | none => .fail
def kStore (P : Program) (t : TypeId) (a x : Operand) (T : Fr) (H : Heap) (κ : Value → Heap → Tr β) : Tr β :=
  match (evS T.f a).bind addrOf, evS T.f x with
  | some a, some v => match H.get a.block, sizeT P t with
    | some (.cells cs lo false), some n =>
      match uni cs with
      | some k => match allK k v.cells.toList && (Nat.beq v.cells.toList.length n && Nat.ble H.floor a.block) with
        | true => Tr.node (Nat.ble (a.off + n) cs.length) (κ undef (H.put a.block (some (.cells (updI k a.off v.cells.toList 0 cs) lo false)))) .fail
        | false => onR ((storeS P H t a v).map fun H' => (undef, H')) κ
      | none => match winN 0 cs with
        | some (k, w, m) => match allK k v.cells.toList && (Nat.beq v.cells.toList.length n && Nat.ble H.floor a.block) with
          | true => Tr.node (Nat.ble w a.off && Nat.ble (a.off + n) (w + m)) (κ undef (H.put a.block (some (.cells (cs.take w ++ updI k a.off v.cells.toList w ((cs.drop w).take m) ++ cs.drop (w + m)) lo false)))) (onR ((storeS P H t a v).map fun H' => (undef, H')) κ)
          | false => onR ((storeS P H t a v).map fun H' => (undef, H')) κ
        | none => onR ((storeS P H t a v).map fun H' => (undef, H')) κ
    | _, _ => .fail
  | _, _ => .fail
def kPick (c a b : Operand) (T : Fr) (H : Heap) (κ : Value → Heap → Tr β) : Tr β :=
  match evS T.f c, evS T.f a, evS T.f b with
  | some (.bool c), some a, some b => κ (match c with | true => a | false => b) H
  | _, _, _ => .fail

structure DenCS (β : Type) where
  run : KCall β → Fr → Heap → (Value → Heap → Tr β) → Tr β
def opS (P : Program) (hk : Hk) (o : Oper) : DenCS β :=
  match o.op with
  | .call ⟨.value f, args, _⟩ => ⟨fun call T H κ => kCall f args.toList call T H κ⟩
  | .binOp op t x y _ => ⟨fun _ T H κ => kBin P hk op t x y T H κ⟩
  | .indexAddr t x i => ⟨fun _ T H κ => kIndexAddr P t x i T H κ⟩
  | .index t x i => ⟨fun _ T H κ => kIndex P t x i T H κ⟩
  | .load t a => ⟨fun _ T H κ => kLoad P t a T H κ⟩
  | .store t a x => ⟨fun _ T H κ => kStore P t a x T H κ⟩
  | .pick c a b => ⟨fun _ T H κ => kPick c a b T H κ⟩
  | op => ⟨fun _ T H κ => onR ((simpleS P o.type op).run T H) κ⟩

def putF (T : Fr) (dst : Option Tmp) (v : Value) (κ : Fr → Tr β) : Tr β :=
  match dst with
  | none => κ T
  | some d => match Nat.ble (d + 1) T.n with
    | true => κ ⟨upd T.f d v, T.n⟩
    | false => .fail

structure DenLS (β : Type) where
  run : KCall β → Fr → Heap → (Fr → Heap → Tr β) → Tr β
def stepS (P : Program) (hk : Hk) (ops : List Oper) (o : Oper) (call : KCall β) (T : Fr) (H : Heap) (κ : Fr → Heap → Tr β) : Tr β :=
  wantedS ops T o (fun T => (opS P hk o).run call T H fun v H' => putF T o.dst v fun T' => κ T' H') (fun T => putF T o.dst undef fun T' => κ T' H)
def opsS (P : Program) (hk : Hk) (ops : List Oper) : List Oper → DenLS β
  | [] => ⟨fun _ T H κ => κ T H⟩
  | o :: r => ⟨fun call T H κ => stepS P hk ops o call T H fun T' H' => (opsS P hk ops r).run call T' H' κ⟩

def blkS (f : Fn) (x : Operand) : List Nat :=
  match evS f x with
  | some v => blkOf v
  | none => []
def fpS (f : Fn) (o : Oper) : Fp :=
  match o.op with
  | .load _ a => .mem (blkS f a) []
  | .store _ a _ => .mem [] (blkS f a)
  | .lookup _ x _ _ => .mem (blkS f x) []
  | .slice _ x _ _ _ => .mem (blkS f x) []
  | .convert _ _ x => .mem [] (blkS f x)
  | .mapUpdate _ m _ _ | .insert _ m _ _ => .mem [] (blkS f m)
  | .call ⟨.builtin .append, args, _⟩ => .mem ((args.toList.drop 1).flatMap (blkS f)) ((args.toList.take 1).flatMap (blkS f))
  | .call ⟨.builtin .copy, args, _⟩ => .mem ((args.toList.drop 1).flatMap (blkS f)) ((args.toList.take 1).flatMap (blkS f))
  | .call ⟨.builtin .len, args, _⟩ => .mem (args.toList.flatMap (blkS f)) []
  | .call ⟨.value _, _, _⟩ => .call
  | _ => .mem [] []

structure DenDS (β : Type) where
  run : KCall β → Fr → Heap → List Fp → (Fr → Heap → List Fp → Tr β) → Tr β
def stepDS (P : Program) (hk : Hk) (ops : List Oper) (bs : List Nat) (i : Nat) (o : Oper) (call : KCall β) (T : Fr) (H : Heap) (fs : List Fp)
    (κ : Fr → Heap → List Fp → Tr β) : Tr β :=
  wantedS ops T o
    (fun T => (opS P hk o).run call T (dropF (quietB bs ops.length i (fpS T.f o)) H) fun v H' => putF T o.dst v fun T' =>
      κ T' (liftF (quietB bs ops.length i (fpS T.f o)) H.floor H') (fs ++ [fpS T.f o]))
    (fun T => putF T o.dst undef fun T' => κ T' H (fs ++ [.mem [] []]))
def opsDS (P : Program) (hk : Hk) (ops : List Oper) (bs : List Nat) : List Oper → Nat → DenDS β
  | [], _ => ⟨fun _ T H fs κ => κ T H fs⟩
  | o :: r, i => ⟨fun call T H fs κ => stepDS P hk ops bs i o call T H fs fun T' H' fs' => (opsDS P hk ops bs r (i + 1)).run call T' H' fs' κ⟩
def regionDS (P : Program) (hk : Hk) (ops : List Oper) (call : KCall β) (T : Fr) (H : Heap) (κ : Fr → Heap → Tr β) : Tr β :=
  match regionOk ops with
  | true => (opsDS P hk ops (befores ops) ops 0).run call T H [] fun T' H' fs => match clashFree (befores ops) fs with
    | true => κ T' H'
    | false => .fail
  | false => .fail

abbrev Kt (β : Type) := Ex → Fr → Heap → Tr β
structure DenKS (β : Type) where
  run : KCall β → Nat → Fr → Heap → Kt β → Tr β
def loopS (b : Fr → Heap → Kt β → Tr β) : Nat → Fr → Heap → Kt β → Tr β
  | 0, _, _, _ => .fail
  | k + 1, T, H, κ => b T H fun ex T' H' => match ex with
    | .normal => loopS b k T' H' κ
    | ex => κ ex T' H'
def denS (P : Program) (hk : Hk) : Code → DenKS β
  | .skip => ⟨fun _ _ T H κ => κ .normal T H⟩
  | .label _ => ⟨fun _ _ T H κ => κ .normal T H⟩
  | .exit id => ⟨fun _ _ T H κ => κ (.exit id) T H⟩
  | .ret => ⟨fun _ _ T H κ => κ .ret T H⟩
  | .seq a b => ⟨fun call k T H κ => (denS P hk a).run call k T H fun ex T' H' => match ex with
    | .normal => (denS P hk b).run call k T' H' κ
    | ex => κ ex T' H'⟩
  | .cond x a b => ⟨fun call k T H κ => match evS T.f x with
    | some (.bool c) => match x with
      | .tmp t => onT T t c (fun T => (denS P hk a).run call k T H κ) (fun T => (denS P hk b).run call k T H κ)
      | _ => Tr.node c ((denS P hk a).run call k T H κ) ((denS P hk b).run call k T H κ)
    | _ => .fail⟩
  | .block id b => ⟨fun call k T H κ => (denS P hk b).run call k T H fun ex T' H' => match ex with
    | .exit i => match i.beq id with
      | true => κ .normal T' H'
      | false => κ (.exit i) T' H'
    | ex => κ ex T' H'⟩
  | .loop b => ⟨fun call k T H κ => loopS (fun T H κ => (denS P hk b).run call k T H κ) k T H κ⟩
  | .scope b => ⟨fun call k => (denS P hk b).run call k⟩
  | .region _ ops true => ⟨fun call _ T H κ => regionDS P hk ops.toList call T H (κ .normal)⟩
  | .region _ ops false => ⟨fun call _ T H κ => (opsS P hk ops.toList ops.toList).run call T H (κ .normal)⟩
  | _ => ⟨fun _ _ _ _ _ => .fail⟩

def resS (P : Program) (T : Fr) (H : Heap) : ResultVar → Option Value
  | .tmp t => some (T.f t)
  | .cell a t => match addrOf (T.f a) with
    | some a => loadV P H t a
    | none => none
def ressS (P : Program) (T : Fr) (H : Heap) : List ResultVar → Option (List Value)
  | [] => some []
  | r :: rs => match resS P T H r, ressS P T H rs with
    | some v, some vs => some (v :: vs)
    | _, _ => none
def retS (P : Program) (rs : List ResultVar) (κ : Value → Heap → Tr β) : Kt β := fun ex T H => match ex with
  | .exit _ => .fail
  | _ => match ressS P T H rs with
    | some [v] => κ v H
    | some vs => κ (.tuple vs.toArray) H
    | none => .fail
def callS (P : Program) (hk : Hk) (call : KCall β) (k : Nat) (f : FuncId) (args : List Value) (H : Heap) (κ : Value → Heap → Tr β) : Tr β :=
  match nth P.funcs.toList f with
  | some fn => match fn.body with
    | some c => match Nat.ble args.length fn.ntmps with
      | true => (denS P hk c).run call k ⟨fun i => (nth args i).getD undef, fn.ntmps⟩ H (retS P fn.results.toList κ)
      | false => .fail
    | none => .fail
  | none => .fail
/-- What a run gives. -/
def runT (P : Program) (hk : Hk) (call : KCall Value) (k : Nat) (f : FuncId) (args : List Value) (H : Heap) : Tr Value := callS P hk call k f args H fun v _ => .leaf v
end Go.Vm
