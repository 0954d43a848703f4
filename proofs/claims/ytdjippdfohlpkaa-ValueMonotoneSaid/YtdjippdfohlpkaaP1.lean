/- isa.Encode in plain Lean. isa.Decode in plain Lean. value.join, isa.IsBranch, isa.Target, value.word in plain Lean. law28's concrete and inside in plain Lean. A job's state as a value; law28's inside. law28's ValueOutcomes: the plain law. interval.Apply in plain Lean. -/
import Derived.Test.YtdjippdfohlpkaaP0
import Derived.Test.YtdjippdfohlpkaaW4
namespace Go.Vm

def bitsI (k : IntKind) (f : BitVec k.bits → BitVec k.bits → BitVec k.bits) (x y : Int) : Int := k.wrap (f (BitVec.ofInt k.bits x) (BitVec.ofInt k.bits y)).toNat
def shlI (k : IntKind) (x : Int) (n : Nat) : Int := k.wrap (x * 2 ^ min n k.bits)
def u32 (x : Int) : Int := IntKind.u32.wrap x
def orU (x y : Int) : Int := bitsI .u32 (· ||| ·) x y
def andU (x y : Int) : Int := bitsI .u32 (· &&& ·) x y
/-- The encoding of an instruction: fields 'a', 'b', 'c', 'i' as its row names them. -/
def encF (i : Ins) (w : Int) : Nat → Int
  | 0 => orU w (shlI .u32 (u32 i.a) 22)
  | 1 => orU w (shlI .u32 (u32 i.b) 18)
  | 2 => orU w (shlI .u32 (u32 i.c) 14)
  | _ => orU w (shlI .u32 (andU (u32 i.imm) 262143) 0)
def encL (i : Ins) : List Nat → Int → Int
  | [], w => w
  | c :: r, w => encL i r (encF i w c)
def fmtL : List (List Nat) := [[], [], [0, 1, 2], [0, 1, 2], [0, 1, 2], [0, 1, 2], [0, 1, 2], [0, 1, 2], [0, 1, 2], [0, 1, 2], [0, 1, 2], [0, 1, 2], [0, 1, 2], [0, 1, 2],
  [0, 3], [0, 1, 3], [0, 1, 3], [0, 1, 3], [0, 1, 3], [0, 1, 3], [0, 1, 3], [0, 1, 3], [0, 3], [0, 3], [3], [0, 3], [0, 3], [0, 3], [3], [3]]
def encW (l : List Nat) (i : Ins) : Int := encL i l (shlI .u32 (u32 i.op) 26)
def Ins.enc (i : Ins) : Int × Int := onB (!i.valid) (0, 3) (encW ((nth fmtL i.op.toNat).getD []) i, 0)
def rsE : Rs (Int × Int) := Rs.pair (tInt .u32) (tInt .i64)
def encT (i : Ins) : Tr (Int × Int) := .node i.byte (.leaf i.enc) .fail
end Go.Vm

namespace Go.Vm

def shrI (k : IntKind) (x : Int) (n : Nat) : Int := x.fdiv (2 ^ min n k.bits)
def opW (w : Int) : Int := IntKind.u8.wrap (shrI .u32 w 26)
def decA (p : Nat) (w : Int) : Int := IntKind.i64.wrap (andU (shrI .u32 w p) 15)
def decM (w : Int) : Int := IntKind.i64.wrap (shrI .i32 (IntKind.i32.wrap (shlI .u32 w 14)) 14)
def decF (w : Int) (i : Ins) : Nat → Ins
  | 0 => { i with a := decA 22 w }
  | 1 => { i with b := decA 18 w }
  | 2 => { i with c := decA 14 w }
  | _ => { i with imm := decM w }
def decL (w : Int) : List Nat → Ins → Ins
  | [], i => i
  | c :: r, i => decL w r (decF w i c)
def decI (l : List Nat) (w : Int) : Ins := decL w l ⟨opW w, 0, 0, 0, 0⟩
def insZ : Ins := ⟨0, 0, 0, 0, 0⟩
def rsD : Rs (Ins × Int) := Rs.pair tIns (tInt .i64)
def decB {γ : Type} (e : Ins × Int → γ) (f : γ) (i : Ins) (w : Int) : γ :=
  onB i.byte (onB (!(i.enc.2 == 0)) (e (insZ, 3)) (onB (!(i.enc.1 == w)) (e (insZ, 3)) (e (i, 0)))) f
def decV {γ : Type} (e : Ins × Int → γ) (f : γ) (w : Int) : Nat → List (List Nat) → γ
  | _, [] => onB (decide (30 ≤ opW w) && decide (opW w < 256)) (e (insZ, 3)) f
  | n, l :: r => onB (decide (opW w = (n : Int))) (decB e f (decI l w) w) (decV e f w (n + 1) r)
/-- isa.Decode. -/
def dcd (w : Int) : Ins × Int := match nth fmtL (opW w).toNat with
  | some l => onB (!((decI l w).enc.2 == 0)) (insZ, 3) (onB (!((decI l w).enc.1 == w)) (insZ, 3) (decI l w, 0))
  | none => (insZ, 3)
theorem opW_byte (w : Int) : 0 ≤ opW w ∧ opW w < 256 := by
  have e : ∀ n : Int, IntKind.u8.wrap n = n % 256 := fun n => by simp [IntKind.wrap, IntKind.bits, IntKind.signed]
  unfold opW
  rw [e]; omega
theorem decL_op (w : Int) : ∀ (l : List Nat) (i : Ins), (decL w l i).op = i.op
  | [], _ => rfl
  | c :: r, i => by
    rw [decL, decL_op w r]
    match c with
    | 0 => rfl
    | 1 => rfl
    | 2 => rfl
    | _ + 3 => rfl
theorem decI_byte (l : List Nat) (w : Int) : (decI l w).byte = true := by
  unfold Ins.byte decI
  rw [decL_op]
  have := opW_byte w
  simp [this.1, this.2]
theorem decB_eq {γ : Type} (e : Ins × Int → γ) (f : γ) (l : List Nat) (w : Int) :
    decB e f (decI l w) w = e (onB (!((decI l w).enc.2 == 0)) (insZ, 3) (onB (!((decI l w).enc.1 == w)) (insZ, 3) (decI l w, 0))) := by
  unfold decB
  rw [decI_byte, onB_t, onB_map, onB_map]
theorem decV_eq {γ : Type} (e : Ins × Int → γ) (f : γ) (w : Int) : ∀ (l : List (List Nat)) (n : Nat), n + l.length = 30 → (∀ k, k < n → opW w ≠ (k : Int)) → (∀ k : Nat, n ≤ k → fmtL[k]? = l[k - n]?) →
    decV e f w n l = e (dcd w)
  | [], n, hl, hn, hk => by
    have hb := opW_byte w
    have h30 : 30 ≤ opW w := by
      apply Classical.byContradiction
      intro h
      exact hn (opW w).toNat (by simp at hl; omega) (by omega)
    simp only [decV, dcd, nth_eq]
    rw [List.getElem?_eq_none (by simp only [fmtL, List.length_cons, List.length_nil]; omega)]
    simp [h30, hb.2, onB]
  | l :: r, n, hl, hn, hk => by
    simp only [decV]
    by_cases h : opW w = (n : Int)
    · rw [show decide (opW w = (n : Int)) = true by simpa using h, onB_t, decB_eq]
      unfold dcd
      rw [nth_eq, show (opW w).toNat = n by omega, hk n (Nat.le_refl _)]
      simp
    · rw [show decide (opW w = (n : Int)) = false by simpa using h, onB_f]
      refine decV_eq e f w r (n + 1) (by simp at hl; omega) (fun k hk' => ?_) (fun k hk' => ?_)
      · by_cases e : k = n
        · subst e; exact h
        · exact hn k (by omega)
      · rw [hk k (by omega), show k - n = (k - (n + 1)) + 1 by omega]; rfl
end Go.Vm

namespace Go.Vm

def Rg.join (a b : Rg) : Rg := fun j => match Nat.beq (j % 2) 0 with
  | true => ((I.mk (a j) (a (j + 1))).join ⟨b j, b (j + 1)⟩).lo
  | false => ((I.mk (a (j - 1)) (a j)).join ⟨b (j - 1), b j⟩).hi
def isBr (op : Int) : Bool := onB (decide (op ≥ 22)) (decide (op ≤ 24)) false
def rsT : Rs (Int × Bool) := Rs.pair (tInt .i64) tBool
def target (i : Ins) (pc : Int) : Int × Bool := onB (isBr i.op) (IntKind.i64.wrap (IntKind.i64.wrap (pc + 1) + i.imm), true) (0, false)
end Go.Vm

namespace Go.Vm

def conj : List Bool → Bool
  | [] => true
  | b :: r => b && conj r
theorem conj_iff : ∀ {l : List Bool}, conj l = true ↔ ∀ b ∈ l, b = true
  | [] => by simp [conj]
  | b :: r => by simp [conj, conj_iff (l := r)]
/-- What the offset is taken modulo. -/
def spanI (r : Rg) (k : Nat) : Int := IntKind.i64.wrap (IntKind.i64.wrap (IntKind.i64.wrap (r (2 * k + 1)) - IntKind.i64.wrap (r (2 * k))) + 1)
def pickI (r : Rg) (k : Nat) (x : Int) : Int := IntKind.i32.wrap (IntKind.i64.wrap (IntKind.i64.wrap (r (2 * k)) + (IntKind.i64.wrap (IntKind.u32.wrap x)).tmod (spanI r k)))
def lowI (r : Rg) (k : Nat) : Int := IntKind.i32.wrap (IntKind.i64.wrap (r (2 * k)))
/-- A job's register: the first registers have offsets. -/
def valI (r : Rg) (xs : List Int) (k : Nat) : Int := match nth xs k with
  | some x => pickI r k x
  | none => lowI r k
def spans (r : Rg) : Nat → Nat → List Bool → List Bool
  | _, 0, z => z
  | k, n + 1, z => (!decide (spanI r k = 0)) :: spans r (k + 1) n z
/-- A state's registers at a symbolic place. -/
def stCells (d : Value) (V : Nat → Int) : List Value := .int .i64 0 :: (cellsI .i32 V 0 16 ++ [d, .bool false, .int .i64 (-1)])
def stSel (d : Value) (V : Nat → Int) (a : Int) : Int := selInt (stCells d V) (0 + 1 + a.toNat * 1)
def accS (a : Int) (z : List Bool) : List Bool := decide (0 ≤ a) :: decide (a < 16) :: (Nat.ble 1 (0 + 1 + a.toNat * 1) && Nat.ble (0 + 1 + a.toNat * 1 + 1) (1 + 16)) :: z
def insC (V : Nat → Int) (x : Rg) : Nat → Nat → List Bool
  | _, 0 => []
  | k, n + 1 => (!decide (V k < x (2 * k))) :: (!decide (V k > x (2 * k + 1))) :: insC V x (k + 1) n
/-- The registers as they come out of a value. -/
def Rg.dec (r : Rg) : Rg := selInt (cellsI .i32 r 0 32)
theorem Rg.dec_eq (r : Rg) {j : Nat} (h : j < 32) : r.dec j = r j := sel_cells h
/-- Is there an offset? (only where the slice's length is not known) -/
def spansL (r : Rg) (len : Nat) : Nat → Nat → List Bool → List Bool
  | _, 0, z => z
  | k, n + 1, z => decide ((k : Int) < (len : Int)) :: decide ((k : Int) < (len : Int)) :: (!decide (spanI r k = 0)) :: spansL r len (k + 1) n z
/-- What Refine is asked, and what comes of it. -/
def tkO (d : Value) (i : Ins) (r : Rg) (xs : List Int) : Bool := (stSel d (valI r xs) i.a == 0) == (i.op == 22)
def refO (d : Value) (i : Ins) (r : Rg) (xs : List Int) : Rg × Bool := r.dec.refine i (tkO d i r xs)
def endO (d : Value) (i : Ins) (r : Rg) (xs : List Int) : List Bool := accS i.a [(refO d i r xs).2]
def outC (d : Value) (i : Ins) (r : Rg) (xs : List Int) (n : Nat) : List Bool := (!r.bad) :: (!(!i.valid)) :: spans r 0 n (endO d i r xs)
def outL (d : Value) (i : Ins) (r : Rg) (xs : List Int) (len : Nat) : List Bool := (!r.bad) :: (!(!i.valid)) :: spansL r len 0 16 (endO d i r xs)
def dO (b : Nat) : Value := .slice (some ⟨b, 0, none⟩) 8 8
def bitsK (n : Nat) : Nat → Nat → List Nat
  | _, 0 => [1, 3, 3, 4, 2, 4, 1, 3]
  | k, m + 1 => 1 :: (match Nat.ble n k with
    | true => 8
    | false => 14) :: bitsK n (k + 1) m
def bitsH (n : Nat) : List Nat := (match n with
  | 0 => 7
  | _ => 13) :: bitsK n 1 15
end Go.Vm
namespace Go.Vm
/-- Bits by the lengths of their rows. -/
def rl : Bool → List Nat → List Bool
  | _, [] => []
  | b, n :: r => List.replicate n b ++ rl (!b) r
/-- A heap with one slice's cells. -/
def H1 (l : List Value) : Heap := ⟨(PT.leaf : PT Blk).set 0 (some (.cells l none true)), 1, 1⟩
def bits22 (n : Nat) : List Bool := rl true ([0, 1, 1, 12, 1, 3, 1, 1] ++ bitsH n)
def bits23 (n : Nat) : List Bool := rl true ([0, 1, 1, 5, 2, 1, 1, 4, 1, 3, 1, 1] ++ bitsH n)
end Go.Vm

namespace Go.Vm

/-- A job's state: its data are a slice that is handed on. -/
structure Jb where
  pc : Int
  reg : Nat → Int
  a : Option Addr
  n : Nat
  c : Nat
  halted : Bool
  held : Int
def Jb.enc (s : Jb) : Value := .agg (.int .i64 s.pc :: (cellsI .i32 s.reg 0 16 ++ [.slice s.a s.n s.c, .bool s.halted, .int .i64 s.held])).toArray
def plainA : Option Addr → Bool
  | none => true
  | some ⟨_, _, none⟩ => true
  | _ => false
def Jb.dec : Value → Option Jb
  | .agg ⟨.int .i64 pc :: r⟩ => (match allK .i32 (r.take 16) && Nat.beq (r.take 16).length 16 with
      | true => match r.drop 16 with
        | [.slice a n c, .bool h, .int .i64 l] => match plainA a with
          | true => some ⟨pc, selInt (r.take 16), a, n, c, h, l⟩
          | false => none
        | _ => none
      | false => none)
  | _ => none
theorem Jb.dec_inv {v : Value} {s : Jb} (h : Jb.dec v = some s) : v = s.enc ∧ plainA s.a = true := by
  unfold Jb.dec at h
  split at h
  · rename_i pc r
    split at h
    · rename_i hb
      simp only [Bool.and_eq_true] at hb
      have hl := Nat.eq_of_beq_eq_true hb.2
      split at h
      · rename_i a n c hh l hd
        split at h
        · rename_i hp
          cases h
          refine ⟨?_, hp⟩
          have key : r = cellsI .i32 (selInt (r.take 16)) 0 16 ++ [.slice a n c, .bool hh, .int .i64 l] := by
            rw [← hd]
            have : cellsI .i32 (selInt (r.take 16)) 0 16 = r.take 16 := by
              apply List.ext_getElem?
              intro i
              by_cases hi : i < 16
              · rw [cellsI_get _ _ _ _ _ hi, Nat.zero_add, sel_at (allK_spec hb.1) (by omega)]
              · rw [List.getElem?_eq_none (by rw [cellsI_len]; omega), List.getElem?_eq_none (by omega)]
            rw [this, List.take_append_drop]
          unfold Jb.enc
          simp only
          rw [← key]
        · cases h
      · cases h
    · cases h
  · cases h
def insV {γ : Type} (e : Bool → γ) (V : Nat → Int) (x : Rg) : Nat → Nat → γ
  | _, 0 => e true
  | k, n + 1 => onB (decide (V k < x (2 * k))) (e false) (onB (decide (V k > x (2 * k + 1))) (e false) (insV e V x (k + 1) n))
theorem insV_map {γ : Type} (e : Bool → γ) (V : Nat → Int) (x : Rg) : ∀ n k, insV e V x k n = e (insV (fun b => b) V x k n)
  | 0, _ => rfl
  | n + 1, k => by simp only [insV, insV_map e V x n, onB_map]
/-- law28's inside. -/
def inside (V : Nat → Int) (x : Rg) : Bool := insV (fun b => b) V x 0 16
theorem insV_iff (V : Nat → Int) (x : Rg) : ∀ n k, insV (fun b => b) V x k n = true ↔ ∀ j, j < n → x (2 * (k + j)) ≤ V (k + j) ∧ V (k + j) ≤ x (2 * (k + j) + 1)
  | 0, k => by simp [insV]
  | n + 1, k => by
    have ih := insV_iff V x n (k + 1)
    by_cases h0 : V k < x (2 * k)
    · simp only [insV, h0, decide_true, onB_t, Bool.false_eq_true, false_iff]
      intro h
      have := h 0 (by omega)
      simp only [Nat.add_zero] at this; omega
    · by_cases h1 : V k > x (2 * k + 1)
      · simp only [insV, h0, h1, decide_true, decide_false, onB_t, onB_f, Bool.false_eq_true, false_iff]
        intro h
        have := h 0 (by omega)
        simp only [Nat.add_zero] at this; omega
      · simp only [insV, h0, h1, decide_false, onB_f, ih]
        constructor
        · intro h j hj
          cases j with
          | zero => simp only [Nat.add_zero]; omega
          | succ j =>
            have := h j (by omega)
            rw [show k + (j + 1) = k + 1 + j by omega]; exact this
        · intro h j hj
          have := h (j + 1) (by omega)
          rw [show k + 1 + j = k + (j + 1) by omega]; exact this
theorem inside_iff {V : Nat → Int} {x : Rg} : inside V x = true ↔ ∀ k, k < 16 → x (2 * k) ≤ V k ∧ V k ≤ x (2 * k + 1) := by
  unfold inside
  rw [insV_iff]
  simp
def insE : CE
  | [sv, rv], H => match Jb.dec sv with
    | some s => match tR.dec rv with
      | some x => .leaf (.bool (inside s.reg x), H)
      | none => .fail
    | none => .fail
  | _, _ => .fail
/-- An empty heap in which one block is another's. -/
def Hd : Heap := ⟨.leaf, 1, 1⟩
theorem Jb.lr (s : Jb) (hp : plainA s.a = true) (rest : List Value) (hr : rest.all flat = true) : ∃ n ρ a0 H0, (H0 = heap0 ∧ n = 0 ∨ H0 = Hd ∧ n = 1) ∧ LR (sr n ρ) (Jb.enc { s with a := a0 } :: rest) (s.enc :: rest) ∧ ∀ H, Emb n ρ H0 H := by
  obtain ⟨pc, reg, a, m, c, h, l⟩ := s
  have mk : ∀ {σ : Sg} {a0 : Option Addr}, VR σ (.slice a0 m c) (.slice a m c) → LR σ (Jb.enc ⟨pc, reg, a0, m, c, h, l⟩ :: rest) (Jb.enc ⟨pc, reg, a, m, c, h, l⟩ :: rest) := fun hv =>
    .cons (VR.aggL (.cons (.plain rfl) (LR.append (LR.of_plain (cellsI_flat _ _ _ _)) (.cons hv (.cons (.plain rfl) (.cons (.plain rfl) .nil)))))) (LR.of_flat hr)
  match a, hp with
  | none, _ => exact ⟨0, fun _ => 0, none, heap0, .inl ⟨rfl, rfl⟩, mk (.plain rfl), fun H => ⟨rfl, rfl, fun b k hb => by omega⟩⟩
  | some ⟨b, off, none⟩, _ =>
    refine ⟨1, fun _ => b, some ⟨0, off, none⟩, Hd, .inr ⟨rfl, rfl⟩, mk ?_, fun H => ⟨rfl, rfl, fun b k _ hk => by cases hk⟩⟩
    have : VR (sr 1 fun _ => b) (.slice (some ⟨0, off, none⟩) m c) (.slice (some ⟨b, 0 + off, none⟩) m (c + 0)) := .slice rfl
    simpa using this
/-- What law28's ValueOutcomes hands over where it has come to its end. -/
def leafO (d : Value) (i : Ins) (r : Rg) (xs : List Int) : Value := .bool (inside (selInt (cellsI .i32 (valI r xs) 0 16)) (refO d i r xs).1.dec)
end Go.Vm

namespace Go.Vm

/-- Registers hold words. -/
def Rg.Rng (r : Rg) : Prop := ∀ j, j < 32 → -2147483648 ≤ r j ∧ r j < 2147483648
theorem wrapU {n : Int} : 0 ≤ IntKind.u32.wrap n ∧ IntKind.u32.wrap n < 4294967296 := by
  have e : IntKind.u32.wrap n = n % 4294967296 := by simp [IntKind.wrap, IntKind.bits, IntKind.signed]
  rw [e]; omega
theorem spanI_eq {r : Rg} (hr : r.Rng) {k : Nat} (hk : k < 16) : spanI r k = r (2 * k + 1) - r (2 * k) + 1 := by
  have h0 := hr (2 * k) (by omega)
  have h1 := hr (2 * k + 1) (by omega)
  unfold spanI
  rw [wrap64 (n := r (2 * k + 1)) (by omega) (by omega), wrap64 (n := r (2 * k)) (by omega) (by omega), wrap64 (n := r (2 * k + 1) - r (2 * k)) (by omega) (by omega), wrap64 (by omega) (by omega)]
theorem valI_in {r : Rg} (hr : r.Rng) (ho : r.Ok) (xs : List Int) {k : Nat} (hk : k < 16) : r (2 * k) ≤ valI r xs k ∧ valI r xs k ≤ r (2 * k + 1) := by
  have h0 := hr (2 * k) (by omega)
  have h1 := hr (2 * k + 1) (by omega)
  have hl := ho.le k hk
  unfold valI
  split
  · rename_i x _
    have hu := wrapU (n := x)
    unfold pickI
    rw [spanI_eq hr hk, wrap64 (n := r (2 * k)) (by omega) (by omega), wrap64 (n := IntKind.u32.wrap x) (by omega) (by omega), Int.tmod_eq_emod_of_nonneg hu.1]
    have hm0 := Int.emod_nonneg (IntKind.u32.wrap x) (show r (2 * k + 1) - r (2 * k) + 1 ≠ 0 by omega)
    have hm1 := Int.emod_lt_of_pos (IntKind.u32.wrap x) (show 0 < r (2 * k + 1) - r (2 * k) + 1 by omega)
    rw [wrap64 (by omega) (by omega), wrap32 (by omega) (by omega)]
    omega
  · unfold lowI
    rw [wrap64 (n := r (2 * k)) (by omega) (by omega), wrap32 (by omega) (by omega)]
    omega
theorem stSel_eq {d : Value} {V : Nat → Int} {a : Int} (h : a.toNat < 16) : stSel d V a = V a.toNat := by
  unfold stSel stCells selInt
  rw [nth_eq, show 0 + 1 + a.toNat * 1 = a.toNat + 1 by omega, List.getElem?_cons_succ, List.getElem?_append_left (by rw [cellsI_len]; exact h), cellsI_get _ _ _ _ _ h, Nat.zero_add]

theorem Rg.Ok.dec {r : Rg} (h : r.Ok) : r.dec.Ok :=
  ⟨fun k hk => by rw [r.dec_eq (by omega), r.dec_eq (by omega)]; exact h.le k hk, by rw [r.dec_eq (by omega)]; exact h.lo, by rw [r.dec_eq (by omega)]; exact h.hi⟩

/-- An interval that holds a number is not empty; what is left of it holds the number still. -/
theorem meet_in {x y : I} {v : Int} (h0 : x.lo ≤ v) (h1 : v ≤ x.hi) (h2 : y.lo ≤ v) (h3 : v ≤ y.hi) : (x.meet y).lo ≤ v ∧ v ≤ (x.meet y).hi := by
  obtain ⟨a, b⟩ := x
  obtain ⟨c, d⟩ := y
  simp only at h0 h1 h2 h3
  have hx : (I.mk a b).emp = false := by simp [I.emp]; omega
  have hy : (I.mk c d).emp = false := by simp [I.emp]; omega
  have h5 : ((I.mk a b).meet0 ⟨c, d⟩).lo ≤ v ∧ v ≤ ((I.mk a b).meet0 ⟨c, d⟩).hi := by
    simp only [I.meet0]
    constructor
    · by_cases h : c > a
      · rw [if_pos h]; omega
      · rw [if_neg h]; exact h0
    · by_cases h : d < b
      · rw [if_pos h]; omega
      · rw [if_neg h]; exact h1
  have h4 : ((I.mk a b).meet0 ⟨c, d⟩).emp = false := by simp only [I.emp, decide_eq_false_iff_not]; omega
  unfold I.meet
  rw [hx, hy, h4]
  exact h5
theorem meet_of {x : I} {v : Int} (h0 : x.lo ≤ v) (h1 : v ≤ x.hi) {w : Int} (e : v = w) : (x.meet (I.of w)).lo ≤ v ∧ v ≤ (x.meet (I.of w)).hi :=
  meet_in h0 h1 (by rw [e]; exact Int.le_refl _) (by rw [e]; exact Int.le_refl _)
theorem nz_of {x : I} {v : Int} (h0 : x.lo ≤ v) (h1 : v ≤ x.hi) (e : v ≠ 0) : x.nz.lo ≤ v ∧ v ≤ x.nz.hi := by
  unfold I.nz
  by_cases a : x.lo = 0
  · by_cases b : x.hi = 0
    · omega
    · have e1 : (x.lo == 0) = true := by simpa using a
      have e2 : (x.hi == 0) = false := by simpa using b
      rw [e1, e2, Bool.true_and, Bool.false_and, onB_f, onB_t]
      simp only; omega
  · have e1 : (x.lo == 0) = false := by simpa using a
    rw [e1, Bool.false_and, onB_f, onB_f]
    by_cases b : x.hi = 0
    · have e2 : (x.hi == 0) = true := by simpa using b
      rw [e2, onB_t]; simp only; omega
    · have e2 : (x.hi == 0) = false := by simpa using b
      rw [e2, onB_f]; exact ⟨h0, h1⟩

/-- Refine keeps the registers of a job. -/
theorem refine_in {i : Ins} {r : Rg} (ho : r.Ok) (hv : i.valid = true) (hop : i.op = 22 ∨ i.op = 23) {V : Nat → Int} (hV : ∀ k, k < 16 → r (2 * k) ≤ V k ∧ V k ≤ r (2 * k + 1)) {t : Bool} (ht : t = ((V i.a.toNat == 0) == (i.op == 22))) :
    (r.refine i t).2 = true ∧ ∀ k, k < 16 → (r.refine i t).1 (2 * k) ≤ V k ∧ V k ≤ (r.refine i t).1 (2 * k + 1) := by
  have hs := Ins.small hv
  have ha : i.a.toNat < 16 := by have := hs.a0; have := hs.a1; omega
  have hva := hV _ ha
  have key : ∀ x : I, x.lo ≤ V i.a.toNat → V i.a.toNat ≤ x.hi → (refC i r x).2 = true ∧ ∀ k, k < 16 → (refC i r x).1 (2 * k) ≤ V k ∧ V k ≤ (refC i r x).1 (2 * k + 1) := fun x h0 h1 => by
    have he : ((r.put i.a x).get i.a).emp = false := by
      rw [Rg.get_eq _ ha, Rg.put_eq, Rg.put_eq]
      simp [I.emp]; omega
    unfold refC
    rw [he, onB_f]
    refine ⟨rfl, fun k hk => ?_⟩
    simp only [Rg.put_eq]
    by_cases e : k = i.a.toNat
    · subst e
      simp [h0, h1]
    · have hk' := hV k hk
      rw [if_neg (by omega), if_neg (by omega), if_neg (by omega), if_neg (by omega)]
      exact hk'
  have hD : (refD i r t).2 = true ∧ ∀ k, k < 16 → (refD i r t).1 (2 * k) ≤ V k ∧ V k ≤ (refD i r t).1 (2 * k + 1) := by
    have hg : r.get i.a = ⟨r (2 * i.a.toNat), r (2 * i.a.toNat + 1)⟩ := Rg.get_eq _ ha
    have et : (t == (i.op == 22)) = (V i.a.toNat == 0) := by
      rw [ht]; cases (V i.a.toNat == 0) <;> cases (i.op == 22) <;> rfl
    unfold refD
    rw [et, hg]
    by_cases h0 : V i.a.toNat = 0
    · rw [h0, show ((0 : Int) == 0) = true from rfl, onB_t]
      have := meet_of (x := ⟨r (2 * i.a.toNat), r (2 * i.a.toNat + 1)⟩) hva.1 hva.2 h0
      exact key _ this.1 this.2
    · rw [beq_eq_false_iff_ne.2 h0, onB_f]
      have := nz_of (x := ⟨r (2 * i.a.toNat), r (2 * i.a.toNat + 1)⟩) hva.1 hva.2 h0
      exact key _ this.1 this.2
  unfold Rg.refine
  rw [ho.good, hv]
  rcases hop with h | h
  · rw [h]; exact hD
  · rw [h]; exact hD

theorem spans_all {r : Rg} (hr : r.Rng) (ho : r.Ok) {z : List Bool} (hz : ∀ b ∈ z, b = true) : ∀ n k, k + n ≤ 16 → ∀ b ∈ spans r k n z, b = true
  | 0, _, _ => hz
  | n + 1, k, hk => by
    intro b hb
    simp only [spans, List.mem_cons] at hb
    rcases hb with rfl | hb
    · rw [spanI_eq hr (by omega)]
      have := ho.le k (by omega)
      simp; omega
    · exact spans_all hr ho hz n (k + 1) (by omega) b hb
theorem spansL_all {r : Rg} (hr : r.Rng) (ho : r.Ok) {len : Nat} (hl : 16 ≤ len) {z : List Bool} (hz : ∀ b ∈ z, b = true) : ∀ n k, k + n ≤ 16 → ∀ b ∈ spansL r len k n z, b = true
  | 0, _, _ => hz
  | n + 1, k, hk => by
    intro b hb
    simp only [spansL, List.mem_cons] at hb
    rcases hb with rfl | rfl | rfl | hb
    · simp; omega
    · simp; omega
    · rw [spanI_eq hr (by omega)]
      have := ho.le k (by omega)
      simp; omega
    · exact spansL_all hr ho hl hz n (k + 1) (by omega) b hb
theorem endO_all {d : Value} {i : Ins} {r : Rg} {xs : List Int} (hr : r.Rng) (ho : r.Ok) (hv : i.valid = true) (hop : i.op = 22 ∨ i.op = 23) :
    (∀ b ∈ endO d i r xs, b = true) ∧ leafO d i r xs = .bool true := by
  have hs := Ins.small hv
  have h0 := hs.a0
  have h1 := hs.a1
  have ha : i.a.toNat < 16 := by omega
  have hV : ∀ k, k < 16 → r.dec (2 * k) ≤ valI r xs k ∧ valI r xs k ≤ r.dec (2 * k + 1) := fun k hk => by
    rw [r.dec_eq (by omega), r.dec_eq (by omega)]; exact valI_in hr ho xs hk
  obtain ⟨e1, e2⟩ := refine_in (i := i) (t := tkO d i r xs) ho.dec hv hop hV (by unfold tkO; rw [stSel_eq ha])
  constructor
  · intro b hb
    simp only [endO, accS, List.mem_cons, List.not_mem_nil, or_false] at hb
    rcases hb with rfl | rfl | rfl | rfl
    · simpa using h0
    · simp; omega
    · rw [ble_dec, ble_dec]; simp; omega
    · exact e1
  · unfold leafO
    congr 1
    rw [inside_iff]
    intro k hk
    rw [sel_cells hk, Rg.dec_eq _ (by omega), Rg.dec_eq _ (by omega)]
    exact e2 k hk
theorem outC_all {d : Value} {i : Ins} {r : Rg} {xs : List Int} {n : Nat} (hn : n ≤ 16) (hr : r.Rng) (ho : r.Ok) (hv : i.valid = true) (hop : i.op = 22 ∨ i.op = 23) : conj (outC d i r xs n) = true := by
  rw [conj_iff]
  intro b hb
  simp only [outC, List.mem_cons] at hb
  rcases hb with rfl | rfl | hb
  · simp [ho.bad]
  · simp [hv]
  · exact spans_all hr ho (endO_all hr ho hv hop).1 n 0 (by omega) b hb
theorem outL_all {d : Value} {i : Ins} {r : Rg} {xs : List Int} {len : Nat} (hn : 16 ≤ len) (hr : r.Rng) (ho : r.Ok) (hv : i.valid = true) (hop : i.op = 22 ∨ i.op = 23) : conj (outL d i r xs len) = true := by
  rw [conj_iff]
  intro b hb
  simp only [outL, List.mem_cons] at hb
  rcases hb with rfl | rfl | hb
  · simp [ho.bad]
  · simp [hv]
  · exact spansL_all hr ho hn (endO_all hr ho hv hop).1 16 0 (by omega) b hb
end Go.Vm

namespace Go.Vm

def mn (a n : Int) : Int := if n < a then n else a
def mx (a n : Int) : Int := if n > a then n else a
def w64 (n : Int) : Int := IntKind.i64.wrap n
def w32 (n : Int) : Int := IntKind.i32.wrap n
/-- interval.hull of numbers of which the first is given. -/
def hullV {γ : Type} (e : I → γ) (l0 : Int) (l : List Int) : γ :=
  onB (decide (l.foldl mn l0 < -2147483648)) (e I.full) (onB (decide (l.foldl mx l0 > 2147483647)) (e I.full) (e ⟨w32 (l.foldl mn l0), w32 (l.foldl mx l0)⟩))
def crn (f : Int → Int → Int) (x y : I) : List Int := [f (w64 x.lo) (w64 y.lo), f (w64 x.lo) (w64 y.hi), f (w64 x.hi) (w64 y.lo), f (w64 x.hi) (w64 y.hi)]
/-- interval.corners, for functions that never fail. -/
def cornV {γ : Type} (e : I → γ) (f : Int → Int → Int) (x y : I) : γ := hullV e (f (w64 x.lo) (w64 y.lo)) (crn f x y)

/-- interval.mask. -/
def mskT : Nat → Int → Int → Tr Int
  | 0, _, _ => .fail
  | k + 1, m, n => .node (decide (m < w64 n)) (mskT k (w64 (w64 (2 * m) + 1)) n) (.leaf (w32 m))
def mskE {γ : Type} (e : Int → γ) (f : γ) : Nat → Int → Int → γ
  | 0, _, _ => f
  | k + 1, m, n => onB (decide (m < w64 n)) (mskE e f k (w64 (w64 (2 * m) + 1)) n) (e (w32 m))

/-- interval.and. -/
def andV {γ : Type} (e : I → γ) (x y : I) : γ :=
  onB (decide (x.lo ≥ 0)) (onB (decide (y.lo ≥ 0)) (e ⟨0, mn x.hi y.hi⟩) (onB (decide (x.lo ≥ 0)) (e ⟨0, x.hi⟩) (onB (decide (y.lo ≥ 0)) (e ⟨0, y.hi⟩) (e I.full))))
    (onB (decide (x.lo ≥ 0)) (e ⟨0, x.hi⟩) (onB (decide (y.lo ≥ 0)) (e ⟨0, y.hi⟩) (e I.full)))
/-- interval.or. -/
def or2 {γ : Type} (e : I → γ) (x y : I) : γ := onB (decide (x.hi < 0)) (onB (decide (y.hi < 0)) (e ⟨mx x.lo y.lo, -1⟩) (e I.full)) (e I.full)
def orV {γ : Type} (e : I → γ) (f : γ) (x y : I) : γ :=
  onB (decide (x.lo ≥ 0)) (onB (decide (y.lo ≥ 0)) (mskE (fun m => e ⟨mx x.lo y.lo, m⟩) f 40 0 (mx x.hi y.hi)) (or2 e x y)) (or2 e x y)
/-- interval.xor. -/
def xorV {γ : Type} (e : I → γ) (f : γ) (x y : I) : γ :=
  onB (decide (x.lo ≥ 0)) (onB (decide (y.lo ≥ 0)) (mskE (fun m => e ⟨0, m⟩) f 40 0 (mx x.hi y.hi)) (e I.full)) (e I.full)

/-- The count of a shift. -/
def cntI (y : Int) : Int := (IntKind.u32.wrap y).tmod 32
/-- interval.left. -/
def leftV {γ : Type} (e : I → γ) (f : γ) (x y : I) : γ :=
  onB (y.lo != y.hi) (e I.full) (onB (decide (cntI y.lo < 0)) f (hullV e (w64 (w64 x.lo * shlI .i64 1 (cntI y.lo).toNat)) [w64 (w64 x.lo * shlI .i64 1 (cntI y.lo).toNat), w64 (w64 x.hi * shlI .i64 1 (cntI y.lo).toNat)]))
/-- interval.right. -/
def rightV {γ : Type} (e : I → γ) (f : γ) (x y : I) : γ :=
  onB (y.lo == y.hi) (onB (decide (cntI y.lo < 0)) f (onB (decide (cntI y.lo < 0)) f (e ⟨shrI .i32 x.lo (cntI y.lo).toNat, shrI .i32 x.hi (cntI y.lo).toNat⟩)))
    (onB (decide (x.lo ≥ 0)) (onB (decide (x.hi < 0)) (e ⟨0, -1⟩) (e ⟨0, x.hi⟩)) (onB (decide (x.hi < 0)) (e ⟨x.lo, -1⟩) (e x)))
def is0 (y : I) : Bool := y.lo == 0 && (y.hi == 0 && true)
/-- The greatest remainder's size. -/
def remM (y : I) : Int := w64 (mx (mx (mx (w64 (0 - w64 y.lo)) (w64 y.lo)) (w64 (0 - w64 y.hi))) (w64 y.hi) - 1)
/-- interval.remainder. -/
def remV {γ : Type} (e : I → γ) (x y : I) : γ :=
  onB (is0 y) (e I.none) (onB (decide (x.lo ≥ 0)) (onB (decide (x.hi ≤ 0)) (e ⟨w32 0, w32 0⟩) (e ⟨w32 0, w32 (mn (w64 x.hi) (remM y))⟩))
    (onB (decide (x.hi ≤ 0)) (e ⟨w32 (mx (w64 x.lo) (w64 (0 - remM y))), w32 0⟩) (e ⟨w32 (mx (w64 x.lo) (w64 (0 - remM y))), w32 (mn (w64 x.hi) (remM y))⟩)))
def quo (a b : Int) : Int := w64 (a.tdiv b)
def cornD {γ : Type} (e : I → γ) (f : γ) (x p : I) : γ :=
  onB (decide (w64 p.lo = 0)) f (onB (decide (w64 p.hi = 0)) f (onB (decide (w64 p.lo = 0)) f (onB (decide (w64 p.hi = 0)) f (cornV e quo x p))))
def div2 {γ : Type} (e : I → γ) (f : γ) (x p : I) (out : I) : γ := onB (!p.emp) (cornD (fun o => e (out.join o)) f x p) (e out)
/-- interval.divide. -/
def divV {γ : Type} (e : I → γ) (f : γ) (x y : I) : γ :=
  onB (is0 y) (e I.none) (onB (x.has (-2147483648)) (onB (y.has (-1)) (e I.full) (div2 (div2 e f x (y.meet ⟨1, 2147483647⟩)) f x (y.meet ⟨-2147483648, -1⟩) I.none))
    (div2 (div2 e f x (y.meet ⟨1, 2147483647⟩)) f x (y.meet ⟨-2147483648, -1⟩) I.none))
def eqIV {γ : Type} (e : I → γ) (x y : I) : γ := onB (x.meet y).emp (e (I.of 0)) (e ⟨0, 1⟩)
def ltIV {γ : Type} (e : I → γ) (x y : I) : γ := onB (decide (x.hi < y.lo)) (e (I.of 1)) (onB (decide (x.lo ≥ y.hi)) (e (I.of 0)) (e ⟨0, 1⟩))

/-! What comes of two single numbers. -/
def addI (a b : Int) : Int := w64 (a + b)
def subI (a b : Int) : Int := w64 (a - b)
def mulI (a b : Int) : Int := w64 (a * b)
/-- word.Apply: the word, or none where it is an error. -/
def wordV {γ : Type} (e : Int → γ) (n f : γ) (op : Nat) (a b : Int) : γ := match op with
  | 6 => e (w32 (a + b))
  | 7 => e (w32 (a - b))
  | 8 => e (w32 (a * b))
  | 9 => onB (b == 0) n (onB (decide (b = 0)) f (e (w32 (a.tdiv b))))
  | 10 => onB (b == 0) n (onB (decide (b = 0)) f (e (a.tmod b)))
  | 11 => e (bitsI .i32 (· &&& ·) a b)
  | 12 => e (bitsI .i32 (· ||| ·) a b)
  | 13 => e (bitsI .i32 (· ^^^ ·) a b)
  | 14 => onB (decide (cntI b < 0)) f (e (shlI .i32 a (cntI b).toNat))
  | 15 => onB (decide (cntI b < 0)) f (e (shrI .i32 a (cntI b).toNat))
  | 16 => onB (a == b) (e 1) (e 0)
  | _ => onB (decide (a < b)) (e 1) (e 0)
def wideV {γ : Type} (e : I → γ) (f : γ) (op : Nat) (x y : I) : γ := match op with
  | 6 => cornV e addI x y
  | 7 => cornV e subI x y
  | 8 => cornV e mulI x y
  | 9 => divV e f x y
  | 10 => remV e x y
  | 11 => andV e x y
  | 12 => orV e f x y
  | 13 => xorV e f x y
  | 14 => leftV e f x y
  | 15 => rightV e f x y
  | 16 => eqIV e x y
  | _ => ltIV e x y
/-- interval.Apply. -/
def applyV {γ : Type} (e : I → γ) (f : γ) (op : Nat) (x y : I) : γ :=
  onB x.emp (e I.none) (onB y.emp (e I.none) (onB (x.lo == x.hi) (onB (y.lo == y.hi) (wordV (fun n => e (I.of n)) (e I.none) f op x.lo y.lo) (wideV e f op x y)) (wideV e f op x y)))
end Go.Vm

