/- Registers: 32 cells. -/
import Derived.Test.YtdjippdfohlpkaaSpE
namespace Go.Vm

abbrev Rg := Nat → Int
def tR : Ty Rg := tU .i32 32 (fun f => f) (fun f => f) (fun _ _ _ => rfl)
def Rg.zero : Rg := fun _ => 0
/-- What comes of the registers one after the other. -/
def scan {γ : Type} (y : γ) : Nat → Nat → Rg → γ → γ
  | 0, _, _, z => z
  | n + 1, i, r, z => onB (decide (r i > r (i + 1))) y (scan y n (i + 2) r z)
theorem scan_bool (y : Bool) (r : Rg) (z : Bool) : ∀ n i, scan (some (Value.bool y)) n i r (some (.bool z)) = some (.bool (scan y n i r z))
  | 0, _ => rfl
  | n + 1, i => by simp only [scan, scan_bool y r z n, onB_bool]
theorem scan_of {γ : Type} (y : γ) (r : Rg) (z : γ) : ∀ n i, (∀ k, k < n → r (i + 2 * k) ≤ r (i + 2 * k + 1)) → scan y n i r z = z
  | 0, _, _ => rfl
  | n + 1, i, h => by
    have h0 := h 0 (by omega)
    simp only [Nat.mul_zero, Nat.add_zero] at h0
    simp only [scan, show decide (r i > r (i + 1)) = false by simp; omega, onB]
    exact scan_of y r z n (i + 2) fun k hk => by
      have := h (k + 1) (by omega)
      rw [show i + 2 + 2 * k = i + 2 * (k + 1) by omega]; exact this
theorem scan_false {r : Rg} {z : Bool} : ∀ n i, scan true n i r z = false → (∀ k, k < n → r (i + 2 * k) ≤ r (i + 2 * k + 1)) ∧ z = false
  | 0, _, h => ⟨fun k hk => by omega, h⟩
  | n + 1, i, h => by
    simp only [scan, onB] at h
    split at h
    · cases h
    · rename_i hd
      obtain ⟨h1, h2⟩ := scan_false n (i + 2) h
      refine ⟨fun k hk => ?_, h2⟩
      cases k with
      | zero => simp at hd ⊢; omega
      | succ k =>
        have := h1 k (by omega)
        rw [show i + 2 * (k + 1) = i + 2 + 2 * k by omega]; exact this
def no0 (r : Rg) : Bool := !(r 0 == 0 && (r 1 == 0 && true))
/-- law28's bad. -/
def Rg.bad (r : Rg) : Bool := scan true 16 0 r (no0 r)
structure Rg.Ok (r : Rg) : Prop where
  le : ∀ k, k < 16 → r (2 * k) ≤ r (2 * k + 1)
  lo : r 0 = 0
  hi : r 1 = 0
theorem Rg.ok_of_bad {r : Rg} (h : r.bad = false) : r.Ok := by
  obtain ⟨h1, h2⟩ := scan_false _ _ h
  simp [no0] at h2
  exact ⟨fun k hk => by have := h1 k hk; simpa using this, h2.1, h2.2⟩
theorem Rg.Ok.bad {r : Rg} (h : r.Ok) : r.bad = false := by
  unfold Rg.bad
  rw [scan_of _ _ _ 16 0 fun k hk => by have := h.le k hk; simpa using this]
  simp [no0, h.lo, h.hi]
/-- value.good. -/
def goodV {γ : Type} (_ : Ins) (r : Rg) (f : γ) (z : γ) : γ := onB (decide (r 0 > r 1)) f (onB (no0 r) f (scan f 15 2 r z))
def Rg.good (i : Ins) (r : Rg) : Bool := goodV i r false i.valid
def goodT (i : Ins) (r : Rg) : Tr Bool := .node i.byte (.leaf (r.good i)) .fail
theorem Rg.Ok.good {r : Rg} (h : r.Ok) (i : Ins) : r.good i = i.valid := by
  have h0 := h.le 0 (by omega)
  simp only [Nat.mul_zero, Nat.zero_add] at h0
  unfold Rg.good goodV
  rw [show decide (r 0 > r 1) = false by simp; omega, show no0 r = false by simp [no0, h.lo, h.hi]]
  simp only [onB]
  exact scan_of _ _ _ 15 2 fun k hk => by
    have := h.le (k + 1) (by omega)
    rw [show 2 + 2 * k = 2 * (k + 1) by omega]; exact this
theorem Rg.ok_of_good {i : Ins} {r : Rg} (h : r.good i = true) : r.Ok ∧ i.valid = true := by
  unfold Rg.good goodV at h
  simp only [onB] at h
  split at h
  · cases h
  · rename_i h0
    split at h
    · cases h
    · rename_i h1
      have key : ∀ n i z, scan false n i r z = true → (∀ k, k < n → r (i + 2 * k) ≤ r (i + 2 * k + 1)) ∧ z = true := by
        intro n
        induction n with
        | zero => intro i z h; exact ⟨fun k hk => by omega, h⟩
        | succ n ih =>
          intro i z h
          simp only [scan, onB] at h
          split at h
          · cases h
          · rename_i hd
            obtain ⟨a, b⟩ := ih (i + 2) z h
            refine ⟨fun k hk => ?_, b⟩
            cases k with
            | zero => simp at hd ⊢; omega
            | succ k =>
              have := a k (by omega)
              rw [show i + 2 * (k + 1) = i + 2 + 2 * k by omega]; exact this
      obtain ⟨a, b⟩ := key _ _ _ h
      simp [no0] at h1
      refine ⟨⟨fun k hk => ?_, h1.1, h1.2⟩, b⟩
      cases k with
      | zero => simp at h0; simpa using h0
      | succ k =>
        have := a k (by omega)
        rw [show 2 * (k + 1) = 2 + 2 * k by omega]; exact this

/-! One register: in a value ('getO' at its place), in a block ('0 +' its place). -/
def Rg.getO (r : Rg) (o : Nat) : I := ⟨selInt (cellsI .i32 r 0 32) o, selInt (cellsI .i32 r 0 32) (o + 1)⟩
def Rg.putO (r : Rg) (o : Nat) (x : I) : Rg := fun j => updInt o [.int .i32 x.lo, .int .i32 x.hi] j (r j)
def Rg.get (r : Rg) (a : Int) : I := r.getO (0 + a.toNat * 2)
def Rg.put (r : Rg) (a : Int) (x : I) : Rg := r.putO (0 + a.toNat * 2) x
theorem Rg.getO_eq (r : Rg) {k : Nat} (h : k < 16) : r.getO (k * 2) = ⟨r (2 * k), r (2 * k + 1)⟩ := by
  unfold Rg.getO
  rw [sel_cells (by omega), sel_cells (by omega), Nat.mul_comm]
theorem Rg.get_eq (r : Rg) {a : Int} (h : a.toNat < 16) : r.get a = ⟨r (2 * a.toNat), r (2 * a.toNat + 1)⟩ := by
  unfold Rg.get
  rw [Nat.zero_add, Rg.getO_eq r h]
theorem ble_dec (a b : Nat) : Nat.ble a b = decide (a ≤ b) := by
  by_cases h : a ≤ b
  · rw [Nat.ble_eq_true_of_le h]; simp [h]
  · have : Nat.ble a b = false := by
      cases hb : Nat.ble a b
      · rfl
      · exact absurd (Nat.le_of_ble_eq_true hb) h
    simp [h, this]
theorem Rg.putO_eq (r : Rg) (k : Nat) (x : I) (j : Nat) : r.putO (k * 2) x j = if j = 2 * k then x.lo else if j = 2 * k + 1 then x.hi else r j := by
  unfold Rg.putO updInt
  rw [ble_dec]
  by_cases h0 : j = 2 * k
  · subst h0
    simp [show k * 2 ≤ 2 * k by omega, show 2 * k - k * 2 = 0 by omega, nth]
  · by_cases h1 : j = 2 * k + 1
    · subst h1
      simp [show k * 2 ≤ 2 * k + 1 by omega, show 2 * k + 1 - k * 2 = 1 by omega, nth]
    · by_cases h2 : k * 2 ≤ j
      · obtain ⟨m, rfl⟩ : ∃ m, j = k * 2 + 2 + m := ⟨j - k * 2 - 2, by omega⟩
        simp [h0, h1, h2, show k * 2 + 2 + m - k * 2 = m + 2 by omega, nth]
      · simp [h0, h1, h2]
theorem Rg.put_eq (r : Rg) (a : Int) (x : I) (j : Nat) : r.put a x j = if j = 2 * a.toNat then x.lo else if j = 2 * a.toNat + 1 then x.hi else r j := by
  unfold Rg.put
  rw [Nat.zero_add, Rg.putO_eq]
end Go.Vm
