/- isa.Decode in plain Lean. -/
import Derived.Test.YtdjippdfohlpkaaSpH
namespace Go.Vm

def shrI (k : IntKind) (x : Int) (n : Nat) : Int := x.fdiv (2 ^ min n k.bits)
def opW (w : Int) : Int := IntKind.u8.wrap (shrI .u32 w 26)
def decA (p : Nat) (w : Int) : Int := IntKind.i64.wrap (andU (shrI .u32 w p) 15)
def decM (w : Int) : Int := IntKind.i64.wrap (shrI .i32 (IntKind.i32.wrap (shlI .u32 w 14)) 14)
def decF (w : Int) (i : Ins) : Nat → Ins
  | 0 => { i with a := decA 22 w }
  | 1 => { i with b := decA 18 w }
  | 2 => { i with c := decA 14 w }
  | _ => { i with imm := decM w }
def decL (w : Int) : List Nat → Ins → Ins
  | [], i => i
  | c :: r, i => decL w r (decF w i c)
def decI (l : List Nat) (w : Int) : Ins := decL w l ⟨opW w, 0, 0, 0, 0⟩
def insZ : Ins := ⟨0, 0, 0, 0, 0⟩
def rsD : Rs (Ins × Int) := Rs.pair tIns (tInt .i64)
def decB {γ : Type} (e : Ins × Int → γ) (f : γ) (i : Ins) (w : Int) : γ :=
  onB i.byte (onB (!(i.enc.2 == 0)) (e (insZ, 3)) (onB (!(i.enc.1 == w)) (e (insZ, 3)) (e (i, 0)))) f
def decV {γ : Type} (e : Ins × Int → γ) (f : γ) (w : Int) : Nat → List (List Nat) → γ
  | _, [] => onB (decide (30 ≤ opW w) && decide (opW w < 256)) (e (insZ, 3)) f
  | n, l :: r => onB (decide (opW w = (n : Int))) (decB e f (decI l w) w) (decV e f w (n + 1) r)
/-- isa.Decode. -/
def dcd (w : Int) : Ins × Int := match nth fmtL (opW w).toNat with
  | some l => onB (!((decI l w).enc.2 == 0)) (insZ, 3) (onB (!((decI l w).enc.1 == w)) (insZ, 3) (decI l w, 0))
  | none => (insZ, 3)
theorem opW_byte (w : Int) : 0 ≤ opW w ∧ opW w < 256 := by
  have e : ∀ n : Int, IntKind.u8.wrap n = n % 256 := fun n => by simp [IntKind.wrap, IntKind.bits, IntKind.signed]
  unfold opW
  rw [e]; omega
theorem decL_op (w : Int) : ∀ (l : List Nat) (i : Ins), (decL w l i).op = i.op
  | [], _ => rfl
  | c :: r, i => by
    rw [decL, decL_op w r]
    match c with
    | 0 => rfl
    | 1 => rfl
    | 2 => rfl
    | _ + 3 => rfl
theorem decI_byte (l : List Nat) (w : Int) : (decI l w).byte = true := by
  unfold Ins.byte decI
  rw [decL_op]
  have := opW_byte w
  simp [this.1, this.2]
theorem decB_eq {γ : Type} (e : Ins × Int → γ) (f : γ) (l : List Nat) (w : Int) :
    decB e f (decI l w) w = e (onB (!((decI l w).enc.2 == 0)) (insZ, 3) (onB (!((decI l w).enc.1 == w)) (insZ, 3) (decI l w, 0))) := by
  unfold decB
  rw [decI_byte, onB_t, onB_map, onB_map]
theorem decV_eq {γ : Type} (e : Ins × Int → γ) (f : γ) (w : Int) : ∀ (l : List (List Nat)) (n : Nat), n + l.length = 30 → (∀ k, k < n → opW w ≠ (k : Int)) → (∀ k : Nat, n ≤ k → fmtL[k]? = l[k - n]?) →
    decV e f w n l = e (dcd w)
  | [], n, hl, hn, hk => by
    have hb := opW_byte w
    have h30 : 30 ≤ opW w := by
      apply Classical.byContradiction
      intro h
      exact hn (opW w).toNat (by simp at hl; omega) (by omega)
    simp only [decV, dcd, nth_eq]
    rw [List.getElem?_eq_none (by simp only [fmtL, List.length_cons, List.length_nil]; omega)]
    simp [h30, hb.2, onB]
  | l :: r, n, hl, hn, hk => by
    simp only [decV]
    by_cases h : opW w = (n : Int)
    · rw [show decide (opW w = (n : Int)) = true by simpa using h, onB_t, decB_eq]
      unfold dcd
      rw [nth_eq, show (opW w).toNat = n by omega, hk n (Nat.le_refl _)]
      simp
    · rw [show decide (opW w = (n : Int)) = false by simpa using h, onB_f]
      refine decV_eq e f w r (n + 1) (by simp at hl; omega) (fun k hk' => ?_) (fun k hk' => ?_)
      · by_cases e : k = n
        · subst e; exact h
        · exact hn k (by omega)
      · rw [hk k (by omega), show k - n = (k - (n + 1)) + 1 by omega]; rfl
end Go.Vm
