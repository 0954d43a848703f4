/- interval.Apply: the plain law, fourth part: remainders, bits. interval.Apply: the plain law, fifth part: bits and shifts. interval.Apply: the plain law, sixth part: each operator. interval.Apply: the plain law, last part. law28's ValueMonotone: the plain law. law28's ValueMonotone: all conditions of its paths hold. -/
import Derived.Test.YtdjippdfohlpkaaP2
namespace Go.Vm

/-! Remainders. -/
theorem is0_iff {y : I} : is0 y = true ↔ y.lo = 0 ∧ y.hi = 0 := by simp [is0]
def remB (y : I) : Int := mx (mx (mx (0 - y.lo) y.lo) (0 - y.hi)) y.hi - 1
theorem mx_two {a n b : Int} (h : mx a n ≤ b) : a ≤ b ∧ n ≤ b := by have := mx_ge a n; omega
theorem remB_bnd {y : I} (hy : y.Rng) : remB y ≤ 2147483647 ∧ -1 ≤ remB y := by
  have h0 := hy.l0
  have h1 := hy.l1
  have h2 := hy.h0
  have h3 := hy.h1
  have a := mx_in (a := 0 - y.lo) (n := y.lo) (b := 2147483648) (by omega) (by omega)
  have b := mx_in (n := 0 - y.hi) a (by omega)
  have c := mx_in (n := y.hi) b (by omega)
  have d := mx_ge (mx (mx (0 - y.lo) y.lo) (0 - y.hi)) y.hi
  have e := mx_ge (mx (0 - y.lo) y.lo) (0 - y.hi)
  unfold remB
  omega
theorem remM_eq {y : I} (hy : y.Rng) : remM y = remB y := by
  have h0 := hy.l0
  have h1 := hy.l1
  have h2 := hy.h0
  have h3 := hy.h1
  have hb := remB_bnd hy
  unfold remM
  rw [w64_eq (n := y.lo) (by omega) (by omega), w64_eq (n := y.hi) (by omega) (by omega), w64_eq (n := 0 - y.lo) (by omega) (by omega), w64_eq (n := 0 - y.hi) (by omega) (by omega)]
  exact w64_eq (by unfold remB at hb; omega) (by unfold remB at hb; omega)
theorem remB_has {y : I} {b : Int} (hb : Has y b) : b ≤ remB y + 1 ∧ -b ≤ remB y + 1 := by
  obtain ⟨h1, h2⟩ := hb
  have d := mx_ge (mx (mx (0 - y.lo) y.lo) (0 - y.hi)) y.hi
  have e := mx_ge (mx (0 - y.lo) y.lo) (0 - y.hi)
  have f := mx_ge (0 - y.lo) y.lo
  unfold remB
  omega
theorem remB_mono {y y' : I} (hy : Ne y) (h : Le y y') : remB y ≤ remB y' := by
  have k1 := remB_has (y := y') (b := y.lo) ⟨h.1, Int.le_trans hy h.2⟩
  have k2 := remB_has (y := y') (b := y.hi) ⟨Int.le_trans h.1 hy, h.2⟩
  have : mx (mx (mx (0 - y.lo) y.lo) (0 - y.hi)) y.hi ≤ remB y' + 1 := mx_in (mx_in (mx_in (by omega) (by omega)) (by omega)) (by omega)
  unfold remB at this ⊢
  omega
def remI (x y : I) : I := remV (fun z => z) x y
def remL (x y : I) : Int := if x.lo ≥ 0 then 0 else mx x.lo (0 - remB y)
def remH (x y : I) : Int := if x.hi ≤ 0 then 0 else mn x.hi (remB y)
theorem remI_eq {x y : I} (hx : x.Rng) (hy : y.Rng) (h0 : is0 y = false) : remI x y = ⟨remL x y, remH x y⟩ := by
  have a0 := hx.l0
  have a1 := hx.l1
  have a2 := hx.h0
  have a3 := hx.h1
  have hb := remB_bnd hy
  unfold remI remV
  rw [h0, onB_f, remM_eq hy, w64_eq (n := x.lo) (by omega) (by omega), w64_eq (n := x.hi) (by omega) (by omega), w64_eq (n := 0 - remB y) (by omega) (by omega)]
  have k1 : x.lo < 0 → w32 (mx x.lo (0 - remB y)) = mx x.lo (0 - remB y) := fun h => by
    have := mx_ge x.lo (0 - remB y)
    have := mx_in (a := x.lo) (n := 0 - remB y) (b := 1) (by omega) (by omega)
    exact w32_eq (by omega) (by omega)
  have k2 : 0 < x.hi → w32 (mn x.hi (remB y)) = mn x.hi (remB y) := fun h => by
    have := mn_le x.hi (remB y)
    have := mn_in (a := x.hi) (n := remB y) (b := -1) (by omega) (by omega)
    exact w32_eq (by omega) (by omega)
  have k3 : w32 0 = 0 := rfl
  unfold remL remH
  by_cases h1 : x.lo ≥ 0
  · rw [show decide (x.lo ≥ 0) = true by simpa using h1, onB_t, if_pos h1]
    by_cases h2 : x.hi ≤ 0
    · rw [show decide (x.hi ≤ 0) = true by simpa using h2, onB_t, if_pos h2, k3]
    · rw [show decide (x.hi ≤ 0) = false by simpa using h2, onB_f, if_neg h2, k3, k2 (by omega)]
  · rw [show decide (x.lo ≥ 0) = false by simpa using h1, onB_f, if_neg h1, k1 (by omega)]
    by_cases h2 : x.hi ≤ 0
    · rw [show decide (x.hi ≤ 0) = true by simpa using h2, onB_t, if_pos h2, k3]
    · rw [show decide (x.hi ≤ 0) = false by simpa using h2, onB_f, if_neg h2, k2 (by omega)]
theorem remB_pos {y : I} (hy : Ne y) (h0 : is0 y = false) : 0 ≤ remB y := by
  have k1 := remB_has (y := y) (b := y.lo) ⟨Int.le_refl _, hy⟩
  have k2 := remB_has (y := y) (b := y.hi) ⟨hy, Int.le_refl _⟩
  have : ¬ (y.lo = 0 ∧ y.hi = 0) := fun h => by rw [is0_iff.2 h] at h0; cases h0
  unfold Ne at hy
  omega
theorem is0_sub {y y' : I} (hy : Ne y) (h : Le y y') (h0 : is0 y = false) : is0 y' = false := by
  cases h' : is0 y' with
  | false => rfl
  | true =>
    obtain ⟨a, b⟩ := is0_iff.1 h'
    have := h.1
    have := h.2
    unfold Ne at hy
    rw [is0_iff.2 (by omega)] at h0; cases h0
theorem rem_le {x x' y y' : I} (hx : x.Rng) (hx' : x'.Rng) (hy : y.Rng) (hy' : y'.Rng) (_ : Ne x) (ny : Ne y) (hxx : Le x x') (hyy : Le y y') (h0 : is0 y = false) :
    ((remI x y).Rng ∧ Ne (remI x y)) ∧ Le (remI x y) (remI x' y') := by
  have h0' := is0_sub ny hyy h0
  rw [remI_eq hx hy h0, remI_eq hx' hy' h0']
  have p := remB_pos ny h0
  have m := remB_mono ny hyy
  have b := remB_bnd hy
  have b' := remB_bnd hy'
  have q := hxx.1
  have q' := hxx.2
  have a0 := hx.l0
  have a3 := hx.h1
  have e1 := mx_ge x.lo (0 - remB y)
  have e2 := mx_ge x'.lo (0 - remB y')
  have e3 := mn_le x.hi (remB y)
  have e4 := mn_le x'.hi (remB y')
  have f1 : mx x'.lo (0 - remB y') ≤ mx x.lo (0 - remB y) := mx_in (by omega) (by omega)
  have f2 : mn x.hi (remB y) ≤ mn x'.hi (remB y') := mn_in (by omega) (by omega)
  have f3 : x.lo < 0 → mx x.lo (0 - remB y) ≤ 0 := fun h => mx_in (by omega) (by omega)
  have f4 : 0 < x.hi → 0 ≤ mn x.hi (remB y) := fun h => mn_in (by omega) (by omega)
  have f5 : x'.lo < 0 → mx x'.lo (0 - remB y') ≤ 0 := fun h => mx_in (by omega) (by omega)
  have f6 : 0 < x'.hi → 0 ≤ mn x'.hi (remB y') := fun h => mn_in (by omega) (by omega)
  have hL : remL x y ≤ 0 ∧ -2147483648 ≤ remL x y ∧ remL x' y' ≤ remL x y := by
    unfold remL
    by_cases h1 : x.lo ≥ 0 <;> by_cases h2 : x'.lo ≥ 0 <;> simp only [h1, h2, if_true, if_false] <;> omega
  have hH : 0 ≤ remH x y ∧ remH x y ≤ 2147483647 ∧ remH x y ≤ remH x' y' := by
    unfold remH
    by_cases h1 : x.hi ≤ 0 <;> by_cases h2 : x'.hi ≤ 0 <;> simp only [h1, h2, if_true, if_false] <;> omega
  exact ⟨⟨⟨by simp only; omega, by simp only; omega, by simp only; omega, by simp only; omega⟩, by unfold Ne; simp only; omega⟩, ⟨hL.2.2, hH.2.2⟩⟩
theorem rem_has {x y : I} (hx : x.Rng) (hy : y.Rng) {a b : Int} (ha : Has x a) (hb : Has y b) (h0 : b ≠ 0) : Has (remI x y) (a.tmod b) := by
  have hz : is0 y = false := by
    cases h : is0 y with
    | false => rfl
    | true =>
      obtain ⟨p, q⟩ := is0_iff.1 h
      obtain ⟨s, t⟩ := hb
      omega
  rw [remI_eq hx hy hz]
  have k := remB_has hb
  have h1 : (a.tmod b).natAbs < b.natAbs := by
    rw [Int.natAbs_tmod]; exact Nat.mod_lt _ (by omega)
  have h2 : (a.tmod b).natAbs ≤ a.natAbs := by
    rw [Int.natAbs_tmod]; exact Nat.mod_le _ _
  have h3 : 0 ≤ a → 0 ≤ a.tmod b := fun h => Int.tmod_nonneg b h
  have h4 : a ≤ 0 → a.tmod b ≤ 0 := fun h => by
    have e : a.tmod b = -((-a).tmod b) := by rw [Int.neg_tmod, Int.neg_neg]
    have := Int.tmod_nonneg b (show 0 ≤ -a by omega)
    omega
  obtain ⟨p, q⟩ := ha
  have e1 : x.lo < 0 → mx x.lo (0 - remB y) ≤ a.tmod b ∨ 0 < a.tmod b := fun h => by
    by_cases hh : 0 < a.tmod b
    · exact .inr hh
    · exact .inl (mx_in (by omega) (by omega))
  have e2 : 0 < x.hi → a.tmod b ≤ mn x.hi (remB y) ∨ a.tmod b < 0 := fun h => by
    by_cases hh : a.tmod b < 0
    · exact .inr hh
    · exact .inl (mn_in (by omega) (by omega))
  have f1 := remB_bnd hy
  have f3 : x.lo < 0 → mx x.lo (0 - remB y) ≤ 0 := fun h => mx_in (by omega) (by omega)
  have f4 : 0 < x.hi → 0 ≤ mn x.hi (remB y) := fun h => mn_in (by omega) (by omega)
  constructor
  · show remL x y ≤ _
    unfold remL
    by_cases h : x.lo ≥ 0
    · rw [if_pos h]; exact h3 (by omega)
    · rw [if_neg h]; have := e1 (by omega); have := f3 (by omega); omega
  · show _ ≤ remH x y
    unfold remH
    by_cases h : x.hi ≤ 0
    · rw [if_pos h]; exact h4 (by omega)
    · rw [if_neg h]; have := e2 (by omega); have := f4 (by omega); omega
end Go.Vm

namespace Go.Vm

theorem ofI {a : Int} (h0 : 0 ≤ a) (h1 : a ≤ 2147483647) : (BitVec.ofInt IntKind.i32.bits a).toNat = a.toNat := by
  rw [BitVec.toNat_ofInt]
  show (a % ((2 ^ 32 : Nat) : Int)).toNat = a.toNat
  rw [Int.emod_eq_of_lt h0 (by have : ((2 ^ 32 : Nat) : Int) = 4294967296 := rfl; omega)]
theorem w32_def (n : Int) : IntKind.i32.wrap n = if n % 4294967296 ≥ 2147483648 then n % 4294967296 - 4294967296 else n % 4294967296 := by
  simp [IntKind.wrap, IntKind.bits, IntKind.signed]
theorem w32_nat {n : Nat} (h : n < 2147483648) : w32 (n : Int) = n := w32_eq (by omega) (by omega)
def andB (a b : Int) : Int := bitsI .i32 (· &&& ·) a b
def orB (a b : Int) : Int := bitsI .i32 (· ||| ·) a b
def xorB (a b : Int) : Int := bitsI .i32 (· ^^^ ·) a b
theorem and_l {a b : Int} (h0 : 0 ≤ a) (h1 : a ≤ 2147483647) : 0 ≤ andB a b ∧ andB a b ≤ a := by
  have e := ofI h0 h1
  have h : (BitVec.ofInt IntKind.i32.bits a &&& BitVec.ofInt IntKind.i32.bits b).toNat ≤ a.toNat := by
    rw [BitVec.toNat_and, ← e]; exact Nat.and_le_left
  have e2 : andB a b = w32 ((BitVec.ofInt IntKind.i32.bits a &&& BitVec.ofInt IntKind.i32.bits b).toNat : Int) := rfl
  rw [e2, w32_nat (by omega)]
  omega
theorem and_r {a b : Int} (h0 : 0 ≤ b) (h1 : b ≤ 2147483647) : 0 ≤ andB a b ∧ andB a b ≤ b := by
  have e := ofI h0 h1
  have h : (BitVec.ofInt IntKind.i32.bits a &&& BitVec.ofInt IntKind.i32.bits b).toNat ≤ b.toNat := by
    rw [BitVec.toNat_and, ← e]; exact Nat.and_le_right
  have e2 : andB a b = w32 ((BitVec.ofInt IntKind.i32.bits a &&& BitVec.ofInt IntKind.i32.bits b).toNat : Int) := rfl
  rw [e2, w32_nat (by omega)]
  omega
theorem pow_lt31 {j : Nat} (h : j ≤ 31) : 2 ^ j ≤ 2147483648 := Nat.pow_le_pow_right (n := 2) (by omega) h
theorem or_nn {a b : Int} (h0 : 0 ≤ a) (h1 : a ≤ 2147483647) (h2 : 0 ≤ b) (h3 : b ≤ 2147483647) {j : Nat} (hj : j ≤ 31) (ha : a.toNat < 2 ^ j) (hb : b.toNat < 2 ^ j) : a ≤ orB a b ∧ b ≤ orB a b ∧ orB a b ≤ ((2 ^ j : Nat) : Int) - 1 := by
  have e1 := ofI h0 h1
  have e2 := ofI h2 h3
  have e : (BitVec.ofInt IntKind.i32.bits a ||| BitVec.ofInt IntKind.i32.bits b).toNat = a.toNat ||| b.toNat := by rw [BitVec.toNat_or, e1, e2]
  have k1 : a.toNat ≤ a.toNat ||| b.toNat := Nat.left_le_or
  have k2 : b.toNat ≤ a.toNat ||| b.toNat := Nat.right_le_or
  have k3 := Nat.or_lt_two_pow ha hb
  have k4 := pow_lt31 hj
  show a ≤ w32 _ ∧ b ≤ w32 _ ∧ w32 _ ≤ _
  rw [e, w32_nat (by omega)]
  omega
theorem xor_nn {a b : Int} (h0 : 0 ≤ a) (h1 : a ≤ 2147483647) (h2 : 0 ≤ b) (h3 : b ≤ 2147483647) {j : Nat} (hj : j ≤ 31) (ha : a.toNat < 2 ^ j) (hb : b.toNat < 2 ^ j) : 0 ≤ xorB a b ∧ xorB a b ≤ ((2 ^ j : Nat) : Int) - 1 := by
  have e1 := ofI h0 h1
  have e2 := ofI h2 h3
  have e : (BitVec.ofInt IntKind.i32.bits a ^^^ BitVec.ofInt IntKind.i32.bits b).toNat = a.toNat ^^^ b.toNat := by rw [BitVec.toNat_xor, e1, e2]
  have k3 := Nat.xor_lt_two_pow ha hb
  have k4 := pow_lt31 hj
  show 0 ≤ w32 _ ∧ w32 _ ≤ _
  rw [e, w32_nat (by omega)]
  omega
theorem ofN {a : Int} (h0 : a < 0) (h1 : -2147483648 ≤ a) : BitVec.ofInt IntKind.i32.bits a = ~~~ (BitVec.ofNat IntKind.i32.bits (-1 - a).toNat) := by
  apply BitVec.eq_of_toNat_eq
  rw [BitVec.toNat_ofInt, BitVec.toNat_not, BitVec.toNat_ofNat]
  show (a % ((2 ^ 32 : Nat) : Int)).toNat = 2 ^ 32 - 1 - (-1 - a).toNat % 2 ^ 32
  have : ((2 ^ 32 : Nat) : Int) = 4294967296 := rfl
  rw [this]
  have : (2 : Nat) ^ 32 = 4294967296 := rfl
  rw [this, Nat.mod_eq_of_lt (by omega)]
  omega
theorem or_neg {a b : Int} (h0 : a < 0) (h1 : -2147483648 ≤ a) (h2 : b < 0) (h3 : -2147483648 ≤ b) : a ≤ orB a b ∧ b ≤ orB a b ∧ orB a b ≤ -1 := by
  have e : (BitVec.ofInt IntKind.i32.bits a ||| BitVec.ofInt IntKind.i32.bits b) = ~~~ (BitVec.ofNat IntKind.i32.bits (-1 - a).toNat &&& BitVec.ofNat IntKind.i32.bits (-1 - b).toNat) := by
    rw [ofN h0 h1, ofN h2 h3, BitVec.not_and]
  have et : (BitVec.ofInt IntKind.i32.bits a ||| BitVec.ofInt IntKind.i32.bits b).toNat = 4294967295 - ((-1 - a).toNat &&& (-1 - b).toNat) := by
    rw [e, BitVec.toNat_not, BitVec.toNat_and, BitVec.toNat_ofNat, BitVec.toNat_ofNat]
    show 2 ^ 32 - 1 - ((-1 - a).toNat % 2 ^ 32 &&& (-1 - b).toNat % 2 ^ 32) = _
    have : (2 : Nat) ^ 32 = 4294967296 := rfl
    rw [this, Nat.mod_eq_of_lt (by omega), Nat.mod_eq_of_lt (by omega)]
  have k1 : (-1 - a).toNat &&& (-1 - b).toNat ≤ (-1 - a).toNat := Nat.and_le_left
  have k2 : (-1 - a).toNat &&& (-1 - b).toNat ≤ (-1 - b).toNat := Nat.and_le_right
  have hw : orB a b = IntKind.i32.wrap ((BitVec.ofInt IntKind.i32.bits a ||| BitVec.ofInt IntKind.i32.bits b).toNat : Int) := rfl
  rw [et] at hw
  generalize (-1 - a).toNat &&& (-1 - b).toNat = m at *
  have hw2 : orB a b = -1 - (m : Int) := by
    rw [hw, w32_def]
    have e0 : ((4294967295 - m : Nat) : Int) = 4294967295 - (m : Int) := by omega
    rw [e0]
    split <;> omega
  rw [hw2]
  omega

/-! The mask: all ones, the least such number that is not less. -/
theorem msk_spec {n : Int} (h0 : n ≤ 2147483647) (h1 : -2147483648 ≤ n) : ∀ (k j : Nat), j ≤ 31 → 32 ≤ k + j → (j = 0 ∨ (2 : Int) ^ (j - 1) - 1 < n) →
    ∃ j', j' ≤ 31 ∧ mskE (fun z => z) 0 k (2 ^ j - 1) n = 2 ^ j' - 1 ∧ n ≤ 2 ^ j' - 1 ∧ (j' = 0 ∨ (2 : Int) ^ (j' - 1) - 1 < n)
  | 0, j, h, h', _ => by omega
  | k + 1, j, h, h', hm => by
    have ec : (2 : Int) ^ j = ((2 ^ j : Nat) : Int) := by push_cast; rfl
    have hb : (2 : Int) ^ j ≤ 2147483648 := by
      have := pow_lt31 h
      omega
    have hp : (1 : Int) ≤ 2 ^ j := by
      have : 1 ≤ 2 ^ j := Nat.one_le_two_pow
      omega
    simp only [mskE]
    rw [w64_eq (n := n) (by omega) (by omega)]
    by_cases hc : (2 : Int) ^ j - 1 < n
    · have hj : j < 31 := by
        apply Classical.byContradiction
        intro hh
        have : j = 31 := by omega
        subst this
        simp at hc; omega
      rw [show decide ((2 : Int) ^ j - 1 < n) = true by simpa using hc, onB_t]
      have e1 : w64 (w64 (2 * ((2 : Int) ^ j - 1)) + 1) = 2 ^ (j + 1) - 1 := by
        rw [w64_eq (n := 2 * ((2 : Int) ^ j - 1)) (by omega) (by omega), w64_eq (by omega) (by omega), Int.pow_succ]
        omega
      rw [e1]
      exact msk_spec h0 h1 k (j + 1) (by omega) (by omega) (.inr (by simpa using hc))
    · rw [show decide ((2 : Int) ^ j - 1 < n) = false by simpa using hc, onB_f]
      exact ⟨j, h, w32_eq (by omega) (by omega), by omega, hm⟩
theorem mskI_spec {n : Int} (h0 : n ≤ 2147483647) (h1 : -2147483648 ≤ n) : ∃ j, j ≤ 31 ∧ mskI n = ((2 ^ j : Nat) : Int) - 1 ∧ n ≤ ((2 ^ j : Nat) : Int) - 1 ∧ (j = 0 ∨ ((2 ^ (j - 1) : Nat) : Int) - 1 < n) := by
  obtain ⟨j, a, b, c, d⟩ := msk_spec h0 h1 40 0 (by omega) (by omega) (.inl rfl)
  have e : ∀ m : Nat, (2 : Int) ^ m = ((2 ^ m : Nat) : Int) := fun m => by push_cast; rfl
  rw [e] at b c
  rw [e] at d
  exact ⟨j, a, b, c, d⟩
theorem mskI_mono {n n' : Int} (h0 : n' ≤ 2147483647) (h1 : -2147483648 ≤ n) (h : n ≤ n') : mskI n ≤ mskI n' := by
  obtain ⟨j, a, b, c, d⟩ := mskI_spec (n := n) (by omega) h1
  obtain ⟨j', a', b', c', d'⟩ := mskI_spec (n := n') h0 (by omega)
  rw [b, b']
  by_cases hj : j ≤ j'
  · have : 2 ^ j ≤ 2 ^ j' := Nat.pow_le_pow_right (n := 2) (by omega) hj
    omega
  · rcases d with rfl | d
    · omega
    · have : 2 ^ j' ≤ 2 ^ (j - 1) := Nat.pow_le_pow_right (n := 2) (by omega) (by omega)
      omega
theorem mskI_rng {n : Int} (h0 : n ≤ 2147483647) (h1 : -2147483648 ≤ n) : 0 ≤ mskI n ∧ mskI n ≤ 2147483647 ∧ n ≤ mskI n := by
  obtain ⟨j, a, b, c, d⟩ := mskI_spec h0 h1
  have := pow_lt31 a
  have : 1 ≤ 2 ^ j := Nat.one_le_two_pow
  rw [b]
  omega

/-! Shifts. -/
theorem two_pos (c : Nat) : (0 : Int) < 2 ^ c := Int.pow_pos (by decide)
theorem shr_eq (a : Int) {c : Nat} (h : c < 32) : shrI .i32 a c = a / 2 ^ c := by
  unfold shrI
  rw [Nat.min_eq_left (show c ≤ IntKind.i32.bits by show c ≤ 32; omega), Int.fdiv_eq_ediv_of_nonneg a (Int.le_of_lt (two_pos c))]
theorem ediv_bnd (a : Int) (c : Nat) : (0 ≤ a → 0 ≤ a / 2 ^ c ∧ a / 2 ^ c ≤ a) ∧ (a < 0 → a ≤ a / 2 ^ c ∧ a / 2 ^ c < 0) := by
  have hp := two_pos c
  refine ⟨fun h => ⟨Int.ediv_nonneg h (Int.le_of_lt hp), Int.ediv_le_self _ h⟩, fun h => ⟨?_, Int.ediv_neg_of_neg_of_pos h hp⟩⟩
  rw [Int.le_ediv_iff_mul_le hp]
  have h1 : (1 : Int) ≤ 2 ^ c := hp
  have := Int.mul_le_mul_of_nonpos_left (show a ≤ 0 by omega) h1
  omega
theorem pow_bnd {c : Nat} (h : c < 32) : (1 : Int) ≤ 2 ^ c ∧ (2 : Int) ^ c ≤ 2147483648 := by
  have h1 : 1 ≤ 2 ^ c := Nat.one_le_two_pow
  have h2 := pow_lt31 (show c ≤ 31 by omega)
  have e : (2 : Int) ^ c = ((2 ^ c : Nat) : Int) := by push_cast; rfl
  rw [e]
  omega
theorem fac_eq {c : Nat} (h : c < 32) : shlI .i64 1 c = 2 ^ c := by
  unfold shlI
  rw [Nat.min_eq_left (show c ≤ IntKind.i64.bits by show c ≤ 64; omega), Int.one_mul]
  have := pow_bnd h
  exact w64_eq (by omega) (by omega)
theorem mulp_bnd {a : Int} (h0 : -2147483648 ≤ a) (h1 : a ≤ 2147483647) {c : Nat} (h : c < 32) : -4611686018427387904 ≤ a * 2 ^ c ∧ a * 2 ^ c ≤ 4611686018427387904 := by
  have hc := pow_bnd h
  have h2 : a.natAbs ≤ 2147483648 := by omega
  have h4 : ((2 : Int) ^ c).natAbs ≤ 2147483648 := by omega
  have h3 : (a * 2 ^ c).natAbs ≤ 2147483648 * 2147483648 := by rw [Int.natAbs_mul]; exact Nat.mul_le_mul h2 h4
  omega
end Go.Vm

namespace Go.Vm

structure Two (x y : I) : Prop where
  rx : x.Rng
  ry : y.Rng
  nx : Ne x
  ny : Ne y
abbrev OkI (x : I) : Prop := x.Rng ∧ Ne x
theorem full_ok : OkI I.full := ⟨full_rng, by unfold Ne; decide⟩
def wideI (op : Nat) (x y : I) : I := wideV (fun z => z) I.none op x y

/-! and -/
theorem andI_eq (x y : I) : wideI 11 x y = if x.lo ≥ 0 then (if y.lo ≥ 0 then ⟨0, mn x.hi y.hi⟩ else ⟨0, x.hi⟩) else if y.lo ≥ 0 then ⟨0, y.hi⟩ else I.full := by
  show andV (fun z => z) x y = _
  unfold andV
  by_cases h : x.lo ≥ 0 <;> by_cases h' : y.lo ≥ 0 <;> simp [h, h', onB]
theorem and_le {x y x' y' : I} (t : Two x y) (_ : Two x' y') (hx : Le x x') (hy : Le y y') : OkI (wideI 11 x y) ∧ Le (wideI 11 x y) (wideI 11 x' y') := by
  have a := t.rx.h1
  have b := t.ry.h1
  have n1 := t.nx
  have n2 := t.ny
  unfold Ne at n1 n2
  have p := hx.1
  have q := hx.2
  have p' := hy.1
  have q' := hy.2
  have m1 := mn_le x.hi y.hi
  have m2 : mn x.hi y.hi ≤ mn x'.hi y'.hi := mn_in (by omega) (by omega)
  rw [andI_eq, andI_eq]
  have ok1 : ∀ z : Int, 0 ≤ z → z ≤ 2147483647 → OkI ⟨0, z⟩ := fun z h h' => ⟨⟨by simp, by simp, by simp only; omega, h'⟩, h⟩
  have key : ∀ z z' : Int, 0 ≤ z → z ≤ 2147483647 → z ≤ z' → OkI ⟨0, z⟩ ∧ Le ⟨0, z⟩ ⟨0, z'⟩ := fun z z' h h' hz => ⟨ok1 z h h', ⟨Int.le_refl _, hz⟩⟩
  have keyf : ∀ z : Int, 0 ≤ z → z ≤ 2147483647 → OkI ⟨0, z⟩ ∧ Le ⟨0, z⟩ I.full := fun z h h' => ⟨ok1 z h h', full_le (ok1 z h h').1⟩
  have m3 : 0 ≤ x.lo → 0 ≤ y.lo → 0 ≤ mn x.hi y.hi := fun h h' => mn_in (by omega) (by omega)
  by_cases h1 : x.lo ≥ 0 <;> by_cases h2 : y.lo ≥ 0 <;> by_cases h3 : x'.lo ≥ 0 <;> by_cases h4 : y'.lo ≥ 0 <;> simp only [h1, h2, h3, h4, if_true, if_false] <;>
    first
    | exact key _ _ (by first | omega | exact m3 (by omega) (by omega)) (by omega) (by omega)
    | exact keyf _ (by first | omega | exact m3 (by omega) (by omega)) (by omega)
    | exact ⟨full_ok, le_refl⟩
    | omega
theorem and_has {x y : I} (t : Two x y) {a b : Int} (ha : Has x a) (hb : Has y b) : Has (wideI 11 x y) (andB a b) := by
  have ra := ha.rng t.rx
  have rb := hb.rng t.ry
  obtain ⟨p, q⟩ := ha
  obtain ⟨s, u⟩ := hb
  rw [andI_eq]
  by_cases h1 : x.lo ≥ 0
  · have k := and_l (b := b) (show 0 ≤ a by omega) ra.2
    by_cases h2 : y.lo ≥ 0
    · have k' := and_r (a := a) (show 0 ≤ b by omega) rb.2
      rw [if_pos h1, if_pos h2]
      exact ⟨k.1, mn_in (by omega) (by omega)⟩
    · rw [if_pos h1, if_neg h2]
      exact ⟨k.1, by simp only; omega⟩
  · by_cases h2 : y.lo ≥ 0
    · have k' := and_r (a := a) (show 0 ≤ b by omega) rb.2
      rw [if_neg h1, if_pos h2]
      exact ⟨k'.1, by simp only; omega⟩
    · rw [if_neg h1, if_neg h2]
      have := w32_in ((BitVec.ofInt IntKind.i32.bits a &&& BitVec.ofInt IntKind.i32.bits b).toNat : Int)
      exact ⟨this.1, Int.le_of_lt_add_one this.2⟩

/-! or, xor -/
theorem mxhi {x y : I} (t : Two x y) : mx x.hi y.hi ≤ 2147483647 ∧ -2147483648 ≤ mx x.hi y.hi := ⟨mx_in t.rx.h1 t.ry.h1, Int.le_trans t.rx.h0 (mx_ge _ _).1⟩
theorem orI_eq {x y : I} (t : Two x y) : wideI 12 x y = if x.lo ≥ 0 ∧ y.lo ≥ 0 then ⟨mx x.lo y.lo, mskI (mx x.hi y.hi)⟩ else if x.hi < 0 ∧ y.hi < 0 then ⟨mx x.lo y.lo, -1⟩ else I.full := by
  obtain ⟨h0, h1⟩ := mxhi t
  show orV (fun z => z) I.none x y = _
  unfold orV or2
  rw [msk0 (fun m => I.mk (mx x.lo y.lo) m) I.none 0 h0 h1]
  by_cases a : x.lo ≥ 0 <;> by_cases b : y.lo ≥ 0 <;> by_cases c : x.hi < 0 <;> by_cases d : y.hi < 0 <;> simp [a, b, c, d, onB, mskI]
theorem xorI_eq {x y : I} (t : Two x y) : wideI 13 x y = if x.lo ≥ 0 ∧ y.lo ≥ 0 then ⟨0, mskI (mx x.hi y.hi)⟩ else I.full := by
  obtain ⟨h0, h1⟩ := mxhi t
  show xorV (fun z => z) I.none x y = _
  unfold xorV
  rw [msk0 (fun m => I.mk 0 m) I.none 0 h0 h1]
  by_cases a : x.lo ≥ 0 <;> by_cases b : y.lo ≥ 0 <;> simp [a, b, onB, mskI]
theorem or_le {x y x' y' : I} (t : Two x y) (t' : Two x' y') (hx : Le x x') (hy : Le y y') : OkI (wideI 12 x y) ∧ Le (wideI 12 x y) (wideI 12 x' y') := by
  have n1 := t.nx
  have n2 := t.ny
  unfold Ne at n1 n2
  have p := hx.1
  have q := hx.2
  have p' := hy.1
  have q' := hy.2
  have a1 := t.rx.l0
  have a2 := t.rx.l1
  have a3 := t.ry.l1
  obtain ⟨h0, h1⟩ := mxhi t
  obtain ⟨h0', h1'⟩ := mxhi t'
  have g := mx_ge x.lo y.lo
  have g2 := mx_ge x.hi y.hi
  have m1 : mx x'.lo y'.lo ≤ mx x.lo y.lo := mx_in (by omega) (by omega)
  have m2 : mx x.hi y.hi ≤ mx x'.hi y'.hi := by have := mx_ge x'.hi y'.hi; exact mx_in (by omega) (by omega)
  have m3 : mx x.lo y.lo ≤ mx x.hi y.hi := mx_in (by omega) (by omega)
  have k := mskI_rng h0 h1
  have k' := mskI_mono h0' h1 m2
  rw [orI_eq t, orI_eq t']
  have o1 : OkI ⟨mx x.lo y.lo, mskI (mx x.hi y.hi)⟩ := ⟨⟨by simp only; omega, by simp only; omega, by simp only; omega, by simp only; omega⟩, by unfold Ne; simp only; omega⟩
  have o2 : x.hi < 0 ∧ y.hi < 0 → OkI ⟨mx x.lo y.lo, -1⟩ := fun h => by
    have : mx x.lo y.lo ≤ -1 := mx_in (by omega) (by omega)
    exact ⟨⟨by simp only; omega, by simp only; omega, by simp, by simp⟩, by unfold Ne; simp only; omega⟩
  by_cases c1 : x'.lo ≥ 0 ∧ y'.lo ≥ 0
  · rw [if_pos c1, if_pos (show x.lo ≥ 0 ∧ y.lo ≥ 0 by omega)]
    exact ⟨o1, ⟨m1, k'⟩⟩
  · rw [if_neg c1]
    by_cases c2 : x'.hi < 0 ∧ y'.hi < 0
    · rw [if_pos c2, if_neg (show ¬ (x.lo ≥ 0 ∧ y.lo ≥ 0) by omega), if_pos (show x.hi < 0 ∧ y.hi < 0 by omega)]
      exact ⟨o2 (by omega), ⟨m1, Int.le_refl _⟩⟩
    · rw [if_neg c2]
      by_cases c3 : x.lo ≥ 0 ∧ y.lo ≥ 0
      · rw [if_pos c3]; exact ⟨o1, full_le o1.1⟩
      · rw [if_neg c3]
        by_cases c4 : x.hi < 0 ∧ y.hi < 0
        · rw [if_pos c4]; exact ⟨o2 c4, full_le (o2 c4).1⟩
        · rw [if_neg c4]; exact ⟨full_ok, le_refl⟩
theorem nat_lt_pow {a n : Int} {j : Nat} (h0 : 0 ≤ a) (h : a ≤ n) (hj : n ≤ ((2 ^ j : Nat) : Int) - 1) : a.toNat < 2 ^ j := by omega
theorem or_has {x y : I} (t : Two x y) {a b : Int} (ha : Has x a) (hb : Has y b) : Has (wideI 12 x y) (orB a b) := by
  have ra := ha.rng t.rx
  have rb := hb.rng t.ry
  obtain ⟨p, q⟩ := ha
  obtain ⟨s, u⟩ := hb
  obtain ⟨h0, h1⟩ := mxhi t
  have g2 := mx_ge x.hi y.hi
  rw [orI_eq t]
  by_cases c1 : x.lo ≥ 0 ∧ y.lo ≥ 0
  · rw [if_pos c1]
    obtain ⟨j, e1, e2, e3, _⟩ := mskI_spec h0 h1
    have k := or_nn (show 0 ≤ a by omega) ra.2 (show 0 ≤ b by omega) rb.2 e1 (nat_lt_pow (n := mx x.hi y.hi) (by omega) (by omega) e3) (nat_lt_pow (n := mx x.hi y.hi) (by omega) (by omega) e3)
    exact ⟨mx_in (by omega) (by omega), by rw [e2]; exact k.2.2⟩
  · rw [if_neg c1]
    by_cases c2 : x.hi < 0 ∧ y.hi < 0
    · rw [if_pos c2]
      have k := or_neg (a := a) (b := b) (by omega) ra.1 (by omega) rb.1
      exact ⟨mx_in (by omega) (by omega), k.2.2⟩
    · rw [if_neg c2]
      have := w32_in ((BitVec.ofInt IntKind.i32.bits a ||| BitVec.ofInt IntKind.i32.bits b).toNat : Int)
      exact ⟨this.1, Int.le_of_lt_add_one this.2⟩
theorem xor_le {x y x' y' : I} (t : Two x y) (t' : Two x' y') (hx : Le x x') (hy : Le y y') : OkI (wideI 13 x y) ∧ Le (wideI 13 x y) (wideI 13 x' y') := by
  have p := hx.1
  have q := hx.2
  have p' := hy.1
  have q' := hy.2
  obtain ⟨h0, h1⟩ := mxhi t
  obtain ⟨h0', h1'⟩ := mxhi t'
  have m2 : mx x.hi y.hi ≤ mx x'.hi y'.hi := by have := mx_ge x'.hi y'.hi; exact mx_in (by omega) (by omega)
  have k := mskI_rng h0 h1
  have k' := mskI_mono h0' h1 m2
  rw [xorI_eq t, xorI_eq t']
  have o1 : OkI ⟨0, mskI (mx x.hi y.hi)⟩ := ⟨⟨by simp, by simp, by simp only; omega, by simp only; omega⟩, k.1⟩
  by_cases c1 : x'.lo ≥ 0 ∧ y'.lo ≥ 0
  · rw [if_pos c1, if_pos (show x.lo ≥ 0 ∧ y.lo ≥ 0 by omega)]
    exact ⟨o1, ⟨Int.le_refl _, k'⟩⟩
  · rw [if_neg c1]
    by_cases c3 : x.lo ≥ 0 ∧ y.lo ≥ 0
    · rw [if_pos c3]; exact ⟨o1, full_le o1.1⟩
    · rw [if_neg c3]; exact ⟨full_ok, le_refl⟩
theorem xor_has {x y : I} (t : Two x y) {a b : Int} (ha : Has x a) (hb : Has y b) : Has (wideI 13 x y) (xorB a b) := by
  have ra := ha.rng t.rx
  have rb := hb.rng t.ry
  obtain ⟨p, q⟩ := ha
  obtain ⟨s, u⟩ := hb
  obtain ⟨h0, h1⟩ := mxhi t
  have g2 := mx_ge x.hi y.hi
  rw [xorI_eq t]
  by_cases c1 : x.lo ≥ 0 ∧ y.lo ≥ 0
  · rw [if_pos c1]
    obtain ⟨j, e1, e2, e3, _⟩ := mskI_spec h0 h1
    have k := xor_nn (show 0 ≤ a by omega) ra.2 (show 0 ≤ b by omega) rb.2 e1 (nat_lt_pow (n := mx x.hi y.hi) (by omega) (by omega) e3) (nat_lt_pow (n := mx x.hi y.hi) (by omega) (by omega) e3)
    exact ⟨k.1, by rw [e2]; exact k.2⟩
  · rw [if_neg c1]
    have := w32_in ((BitVec.ofInt IntKind.i32.bits a ^^^ BitVec.ofInt IntKind.i32.bits b).toNat : Int)
    exact ⟨this.1, Int.le_of_lt_add_one this.2⟩

/-! shifts -/
theorem shlI_eq {x y : I} (t : Two x y) : wideI 14 x y = if y.lo ≠ y.hi then I.full else hullI (x.lo * 2 ^ (cntI y.lo).toNat) [x.lo * 2 ^ (cntI y.lo).toNat, x.hi * 2 ^ (cntI y.lo).toNat] := by
  have hc : (cntI y.lo).toNat < 32 := by have := cntI_in y.lo; omega
  have a0 := t.rx.l0
  have a1 := t.rx.l1
  have a2 := t.rx.h0
  have a3 := t.rx.h1
  have b1 := mulp_bnd (a := x.lo) a0 a1 hc
  have b2 := mulp_bnd (a := x.hi) a2 a3 hc
  show leftV (fun z => z) I.none x y = _
  unfold leftV
  rw [cnt_false, fac_eq hc, w64_eq (n := x.lo) (by omega) (by omega), w64_eq (n := x.hi) (by omega) (by omega), w64_eq (n := x.lo * 2 ^ (cntI y.lo).toNat) (by omega) (by omega), w64_eq (n := x.hi * 2 ^ (cntI y.lo).toNat) (by omega) (by omega)]
  by_cases h : y.lo = y.hi
  · rw [if_neg (by simpa using h), show (y.lo != y.hi) = false by simpa using h]; rfl
  · rw [if_pos h, show (y.lo != y.hi) = true by simpa using h]; rfl
theorem hull2 {p q v : Int} (h0 : p ≤ v) (h1 : v ≤ q) : [p, q].foldl mn p ≤ v ∧ v ≤ [p, q].foldl mx p :=
  ⟨Int.le_trans ((fold_mn [p, q] p).2 p (by simp)) h0, Int.le_trans h1 ((fold_mx [p, q] p).2 q (by simp))⟩
theorem shl_le {x y x' y' : I} (t : Two x y) (t' : Two x' y') (hx : Le x x') (hy : Le y y') : OkI (wideI 14 x y) ∧ Le (wideI 14 x y) (wideI 14 x' y') := by
  rw [shlI_eq t, shlI_eq t']
  have n1 := t.nx
  have n2 := t.ny
  unfold Ne at n1 n2
  have p := hx.1
  have q := hx.2
  have p' := hy.1
  have q' := hy.2
  by_cases h : y.lo = y.hi
  · rw [if_neg (by simpa using h)]
    refine ⟨hullI_rng _ _, ?_⟩
    by_cases h' : y'.lo = y'.hi
    · rw [if_neg (by simpa using h')]
      have e : y'.lo = y.lo := by omega
      rw [e]
      have hp := two_pos (cntI y.lo).toNat
      have m : ∀ u v : Int, u ≤ v → u * 2 ^ (cntI y.lo).toNat ≤ v * 2 ^ (cntI y.lo).toNat := fun u v h => Int.mul_le_mul_of_nonneg_right h (Int.le_of_lt hp)
      refine hullI_le (hull2 (m _ _ p) (m _ _ (by omega))) fun v hv => ?_
      simp only [List.mem_cons, List.not_mem_nil, or_false] at hv
      rcases hv with rfl | rfl
      · exact hull2 (m _ _ p) (m _ _ (by omega))
      · exact hull2 (m _ _ (by omega)) (m _ _ q)
    · rw [if_pos h']; exact full_le (hullI_rng _ _).1
  · rw [if_pos h, if_pos (show y'.lo ≠ y'.hi by omega)]; exact ⟨full_ok, le_refl⟩
theorem shl_has {x y : I} (t : Two x y) {a b : Int} (ha : Has x a) (hb : Has y b) : Has (wideI 14 x y) (shlI .i32 a (cntI b).toNat) := by
  have hc : (cntI b).toNat < 32 := by have := cntI_in b; omega
  have e : shlI .i32 a (cntI b).toNat = w32 (a * 2 ^ (cntI b).toNat) := by
    unfold shlI
    rw [Nat.min_eq_left (show (cntI b).toNat ≤ IntKind.i32.bits by show (cntI b).toNat ≤ 32; omega)]
    rfl
  rw [e, shlI_eq t]
  obtain ⟨p, q⟩ := ha
  obtain ⟨s, u⟩ := hb
  by_cases h : y.lo = y.hi
  · rw [if_neg (by simpa using h)]
    have eb : y.lo = b := by omega
    rw [eb]
    have hp := two_pos (cntI b).toNat
    have m : ∀ u v : Int, u ≤ v → u * 2 ^ (cntI b).toNat ≤ v * 2 ^ (cntI b).toNat := fun u v h => Int.mul_le_mul_of_nonneg_right h (Int.le_of_lt hp)
    have k := hull2 (m _ _ p) (m _ _ q)
    exact hullI_has k.1 k.2
  · rw [if_pos h]
    have := w32_in (a * 2 ^ (cntI b).toNat)
    exact ⟨this.1, Int.le_of_lt_add_one this.2⟩
end Go.Vm

namespace Go.Vm

def shrL (x : I) : Int := if x.lo ≥ 0 then 0 else x.lo
def shrH (x : I) : Int := if x.hi < 0 then -1 else x.hi
theorem shrI_eq (x y : I) : wideI 15 x y = if y.lo = y.hi then ⟨x.lo / 2 ^ (cntI y.lo).toNat, x.hi / 2 ^ (cntI y.lo).toNat⟩ else ⟨shrL x, shrH x⟩ := by
  have hc : (cntI y.lo).toNat < 32 := by have := cntI_in y.lo; omega
  show rightV (fun z => z) I.none x y = _
  unfold rightV
  simp only [cnt_false, onB_f, shr_eq _ hc]
  by_cases h : y.lo = y.hi
  · rw [if_pos h, show (y.lo == y.hi) = true by simpa using h]; rfl
  · rw [if_neg h, show (y.lo == y.hi) = false by simpa using h, onB_f]
    unfold shrL shrH
    by_cases a : x.lo ≥ 0 <;> by_cases b : x.hi < 0 <;> simp [a, b, onB]
theorem shr_in {x : I} {a : Int} (h : Has x a) (c : Nat) : Has ⟨shrL x, shrH x⟩ (a / 2 ^ c) := by
  obtain ⟨p, q⟩ := h
  obtain ⟨k1, k2⟩ := ediv_bnd a c
  have : 0 ≤ a ∨ a < 0 := by omega
  constructor
  · show shrL x ≤ _
    unfold shrL
    by_cases h : x.lo ≥ 0
    · rw [if_pos h]; exact (k1 (by omega)).1
    · rw [if_neg h]
      rcases this with h' | h'
      · have := k1 h'; omega
      · have := k2 h'; omega
  · show _ ≤ shrH x
    unfold shrH
    by_cases h : x.hi < 0
    · rw [if_pos h]; have := k2 (by omega); omega
    · rw [if_neg h]
      rcases this with h' | h'
      · have := k1 h'; omega
      · have := k2 h'; omega
theorem shrW_ok {x : I} (rx : x.Rng) (nx : Ne x) : OkI ⟨shrL x, shrH x⟩ := by
  have a0 := rx.l0
  have a1 := rx.l1
  have a2 := rx.h0
  have a3 := rx.h1
  unfold Ne at nx
  unfold shrL shrH
  by_cases h : x.lo ≥ 0 <;> by_cases h' : x.hi < 0 <;> simp only [h, h', if_true, if_false] <;>
    exact ⟨⟨by simp only; omega, by simp only; omega, by simp only; omega, by simp only; omega⟩, by unfold Ne; simp only; omega⟩
theorem shr_le {x y x' y' : I} (t : Two x y) (_ : Two x' y') (hx : Le x x') (hy : Le y y') : OkI (wideI 15 x y) ∧ Le (wideI 15 x y) (wideI 15 x' y') := by
  rw [shrI_eq, shrI_eq]
  have n1 := t.nx
  have n2 := t.ny
  unfold Ne at n1 n2
  have p := hx.1
  have q := hx.2
  have p' := hy.1
  have q' := hy.2
  have s1 := shr_in (x := x) (a := x.lo) ⟨Int.le_refl _, n1⟩ (cntI y.lo).toNat
  have s2 := shr_in (x := x) (a := x.hi) ⟨n1, Int.le_refl _⟩ (cntI y.lo).toNat
  have ow := shrW_ok t.rx t.nx
  by_cases h : y.lo = y.hi
  · rw [if_pos h]
    have hp := two_pos (cntI y.lo).toNat
    refine ⟨⟨⟨Int.le_trans ow.1.l0 s1.1, Int.le_trans s1.2 ow.1.h1, Int.le_trans ow.1.l0 s2.1, Int.le_trans s2.2 ow.1.h1⟩, Int.ediv_le_ediv hp n1⟩, ?_⟩
    by_cases h' : y'.lo = y'.hi
    · rw [if_pos h']
      have e : y'.lo = y.lo := by omega
      rw [e]
      exact ⟨Int.ediv_le_ediv hp p, Int.ediv_le_ediv hp q⟩
    · rw [if_neg h']
      exact ⟨(shr_in (x := x') (a := x.lo) ⟨p, by omega⟩ (cntI y.lo).toNat).1, (shr_in (x := x') (a := x.hi) ⟨by omega, q⟩ (cntI y.lo).toNat).2⟩
  · rw [if_neg h, if_neg (show ¬ y'.lo = y'.hi by omega)]
    refine ⟨ow, ⟨?_, ?_⟩⟩
    · show shrL x' ≤ shrL x
      unfold shrL
      by_cases h1 : x.lo ≥ 0 <;> by_cases h2 : x'.lo ≥ 0 <;> simp only [h1, h2, if_true, if_false] <;> omega
    · show shrH x ≤ shrH x'
      unfold shrH
      by_cases h1 : x.hi < 0 <;> by_cases h2 : x'.hi < 0 <;> simp only [h1, h2, if_true, if_false] <;> omega
theorem shr_has {x y : I} {a b : Int} (ha : Has x a) (hb : Has y b) : Has (wideI 15 x y) (shrI .i32 a (cntI b).toNat) := by
  have hc : (cntI b).toNat < 32 := by have := cntI_in b; omega
  rw [shrI_eq, shr_eq _ hc]
  by_cases h : y.lo = y.hi
  · rw [if_pos h]
    have eb : y.lo = b := by have := hb.1; have := hb.2; omega
    rw [eb]
    have hp := two_pos (cntI b).toNat
    exact ⟨Int.ediv_le_ediv hp ha.1, Int.ediv_le_ediv hp ha.2⟩
  · rw [if_neg h]; exact shr_in ha _

/-! comparisons -/
theorem ok01 : OkI ⟨0, 1⟩ := ⟨⟨by decide, by decide, by decide, by decide⟩, by unfold Ne; decide⟩
theorem ok0 : OkI (I.of 0) := ⟨⟨by decide, by decide, by decide, by decide⟩, by unfold Ne; decide⟩
theorem ok1 : OkI (I.of 1) := ⟨⟨by decide, by decide, by decide, by decide⟩, by unfold Ne; decide⟩
theorem le0 : Le (I.of 0) ⟨0, 1⟩ := ⟨by decide, by decide⟩
theorem le1 : Le (I.of 1) ⟨0, 1⟩ := ⟨by decide, by decide⟩
theorem eqI_eq (x y : I) : wideI 16 x y = if (x.meet y).emp = true then I.of 0 else ⟨0, 1⟩ := by
  show eqIV (fun z => z) x y = _
  unfold eqIV
  cases (x.meet y).emp <;> rfl
theorem meet_ne {x y : I} (h : (x.meet y).emp = false) : ∃ v, Has x v ∧ Has y v := by
  obtain ⟨a, b⟩ := x
  obtain ⟨c, d⟩ := y
  unfold I.meet at h
  cases he : ((I.mk a b).emp || (I.mk c d).emp || ((I.mk a b).meet0 ⟨c, d⟩).emp) with
  | true => rw [he] at h; simp [I.none, I.emp] at h
  | false =>
    simp only [Bool.or_eq_false_iff, I.emp, I.meet0, decide_eq_false_iff_not] at he
    obtain ⟨⟨h1, h2⟩, h3⟩ := he
    refine ⟨if c > a then c else a, ?_⟩
    by_cases k : c > a <;> by_cases k' : d < b <;> simp only [k, k', if_true, if_false] at h3 ⊢ <;> exact ⟨⟨by simp only; omega, by simp only; omega⟩, ⟨by simp only; omega, by simp only; omega⟩⟩
theorem eq_le {x y x' y' : I} (hx : Le x x') (hy : Le y y') : OkI (wideI 16 x y) ∧ Le (wideI 16 x y) (wideI 16 x' y') := by
  rw [eqI_eq, eqI_eq]
  cases h : (x.meet y).emp with
  | true =>
    rw [if_pos rfl]
    refine ⟨ok0, ?_⟩
    cases (x'.meet y').emp with
    | true => rw [if_pos rfl]; exact le_refl
    | false => rw [if_neg (by simp)]; exact le0
  | false =>
    obtain ⟨v, h1, h2⟩ := meet_ne h
    have : Ne (x'.meet y') := Has.ne (a := v) (meet_in (h1.le hx).1 (h1.le hx).2 (h2.le hy).1 (h2.le hy).2)
    rw [this.emp, if_neg (by simp)]
    exact ⟨ok01, le_refl⟩
def eqW (a b : Int) : Int := onB (a == b) 1 0
def ltW (a b : Int) : Int := onB (decide (a < b)) 1 0
theorem eq_has {x y : I} {a b : Int} (ha : Has x a) (hb : Has y b) : Has (wideI 16 x y) (eqW a b) := by
  rw [eqI_eq]
  unfold eqW
  by_cases h : a = b
  · subst h
    have : Ne (x.meet y) := Has.ne (a := a) (meet_in ha.1 ha.2 hb.1 hb.2)
    rw [this.emp, if_neg (by simp), show (a == a) = true by simp, onB_t]
    exact ⟨by decide, by decide⟩
  · rw [show (a == b) = false by simpa using h, onB_f]
    cases (x.meet y).emp with
    | true => rw [if_pos rfl]; exact ⟨by decide, by decide⟩
    | false => rw [if_neg (by simp)]; exact ⟨by decide, by decide⟩
theorem ltI_eq (x y : I) : wideI 18 x y = if x.hi < y.lo then I.of 1 else if x.lo ≥ y.hi then I.of 0 else ⟨0, 1⟩ := by
  show ltIV (fun z => z) x y = _
  unfold ltIV
  by_cases a : x.hi < y.lo <;> by_cases b : x.lo ≥ y.hi <;> simp [a, b, onB]
theorem lt_le {x y x' y' : I} (t : Two x y) (hx : Le x x') (hy : Le y y') : OkI (wideI 18 x y) ∧ Le (wideI 18 x y) (wideI 18 x' y') := by
  rw [ltI_eq, ltI_eq]
  have n1 := t.nx
  have n2 := t.ny
  unfold Ne at n1 n2
  have p := hx.1
  have q := hx.2
  have p' := hy.1
  have q' := hy.2
  by_cases a : x.hi < y.lo <;> by_cases b : x.lo ≥ y.hi <;> by_cases c : x'.hi < y'.lo <;> by_cases d : x'.lo ≥ y'.hi <;> simp only [a, b, c, d, if_true, if_false] <;>
    first
    | exact ⟨ok1, le_refl⟩
    | exact ⟨ok1, le1⟩
    | exact ⟨ok0, le_refl⟩
    | exact ⟨ok0, le0⟩
    | exact ⟨ok01, le_refl⟩
    | (exfalso; omega)
theorem lt_has {x y : I} {a b : Int} (ha : Has x a) (hb : Has y b) : Has (wideI 18 x y) (ltW a b) := by
  rw [ltI_eq]
  obtain ⟨p, q⟩ := ha
  obtain ⟨s, t⟩ := hb
  unfold ltW
  by_cases h : a < b
  · rw [show decide (a < b) = true by simpa using h, onB_t]
    by_cases c : x.hi < y.lo
    · rw [if_pos c]; exact ⟨by decide, by decide⟩
    · rw [if_neg c, if_neg (show ¬ x.lo ≥ y.hi by omega)]; exact ⟨by decide, by decide⟩
  · rw [show decide (a < b) = false by simpa using h, onB_f, if_neg (show ¬ x.hi < y.lo by omega)]
    by_cases c : x.lo ≥ y.hi
    · rw [if_pos c]; exact ⟨by decide, by decide⟩
    · rw [if_neg c]; exact ⟨by decide, by decide⟩

/-! division -/
theorem divI_eq (x y : I) (h0 : is0 y = false) : wideI 9 x y = onB (x.has (-2147483648)) (onB (y.has (-1)) I.full (divR x y)) (divR x y) := by
  show divV (fun z => z) I.none x y = _
  unfold divV
  rw [h0, onB_f]
  rfl
theorem has_iff {x : I} {n : Int} : x.has n = true ↔ Has x n := by simp [I.has, Has]
theorem div_le {x y x' y' : I} (t : Two x y) (t' : Two x' y') (hx : Le x x') (hy : Le y y') (h0 : is0 y = false) : OkI (wideI 9 x y) ∧ Le (wideI 9 x y) (wideI 9 x' y') := by
  have hz : ∃ b, Has y b ∧ b ≠ 0 := by
    have n2 := t.ny
    by_cases h : y.lo = 0
    · refine ⟨y.hi, ⟨n2, Int.le_refl _⟩, fun h' => ?_⟩
      rw [is0_iff.2 ⟨h, h'⟩] at h0; cases h0
    · exact ⟨y.lo, ⟨Int.le_refl _, n2⟩, h⟩
  obtain ⟨k1, k2⟩ := divR_in t'.rx t.ry t'.ry t.nx hx hy hz
  have h0' := is0_sub t.ny hy h0
  rw [divI_eq x y h0, divI_eq x' y' h0']
  cases hb : x'.has (-2147483648) with
  | false =>
    have : x.has (-2147483648) = false := by
      cases h : x.has (-2147483648) with
      | false => rfl
      | true => rw [has_iff.2 ((has_iff.1 h).le hx)] at hb; cases hb
    rw [this]
    exact ⟨k1, k2⟩
  | true =>
    rw [onB_t]
    cases hc : y'.has (-1) with
    | false =>
      have : y.has (-1) = false := by
        cases h : y.has (-1) with
        | false => rfl
        | true => rw [has_iff.2 ((has_iff.1 h).le hy)] at hc; cases hc
      rw [this, onB_f, onB_f]
      cases x.has (-2147483648) <;> exact ⟨k1, k2⟩
    | true =>
      rw [onB_t]
      cases x.has (-2147483648) with
      | false => exact ⟨k1, full_le k1.1⟩
      | true =>
        rw [onB_t]
        cases y.has (-1) with
        | false => exact ⟨k1, full_le k1.1⟩
        | true => exact ⟨full_ok, le_refl⟩
theorem div_has {x y : I} (t : Two x y) {a b : Int} (ha : Has x a) (hb : Has y b) (h0 : b ≠ 0) : Has (wideI 9 x y) (w32 (a.tdiv b)) := by
  have hz : is0 y = false := by
    cases h : is0 y with
    | false => rfl
    | true =>
      obtain ⟨p, q⟩ := is0_iff.1 h
      obtain ⟨s, t⟩ := hb
      omega
  have k := divR_has t.rx t.ry ha hb h0
  have hf : Has I.full (w32 (a.tdiv b)) := by
    have := w32_in (a.tdiv b)
    exact ⟨this.1, Int.le_of_lt_add_one this.2⟩
  rw [divI_eq x y hz]
  cases x.has (-2147483648) with
  | false => exact k
  | true =>
    rw [onB_t]
    cases y.has (-1) with
    | false => exact k
    | true => exact hf

/-! ### All operators -/
def Nz (op : Nat) (y : I) : Prop := op = 9 ∨ op = 10 → is0 y = false
theorem wide_le {op : Nat} (ho : op ∈ applyOps) {x y x' y' : I} (t : Two x y) (t' : Two x' y') (hx : Le x x') (hy : Le y y') (hz : Nz op y) : OkI (wideI op x y) ∧ Le (wideI op x y) (wideI op x' y') := by
  simp only [applyOps, List.mem_cons, List.not_mem_nil, or_false] at ho
  rcases ho with rfl | rfl | rfl | rfl | rfl | rfl | rfl | rfl | rfl | rfl | rfl | rfl
  · exact ⟨cornI_ok addI x y, cornI_le t'.rx t'.ry t.nx t.ny hx hy (ex_add t'.rx t'.ry) (corner_add _ _)⟩
  · exact ⟨cornI_ok subI x y, cornI_le t'.rx t'.ry t.nx t.ny hx hy (ex_sub t'.rx t'.ry) (corner_sub _ _)⟩
  · exact ⟨cornI_ok mulI x y, cornI_le t'.rx t'.ry t.nx t.ny hx hy (ex_mul t'.rx t'.ry) (corner_mul _ _)⟩
  · exact div_le t t' hx hy (hz (.inl rfl))
  · exact rem_le t.rx t'.rx t.ry t'.ry t.nx t.ny hx hy (hz (.inr rfl))
  · exact and_le t t' hx hy
  · exact or_le t t' hx hy
  · exact xor_le t t' hx hy
  · exact shl_le t t' hx hy
  · exact shr_le t t' hx hy
  · exact eq_le hx hy
  · exact lt_le t hx hy
/-- The word that an operator gives. -/
def wordI (op : Nat) (a b : Int) : Int := wordV (fun n => n) 0 0 op a b
theorem wide_has {op : Nat} (ho : op ∈ applyOps) {x y : I} (t : Two x y) {a b : Int} (ha : Has x a) (hb : Has y b) (hz : op = 9 ∨ op = 10 → b ≠ 0) :
    wordV (fun n => I.of n) I.none I.none op a b = I.of (wordI op a b) ∧ Has (wideI op x y) (wordI op a b) := by
  simp only [applyOps, List.mem_cons, List.not_mem_nil, or_false] at ho
  rcases ho with rfl | rfl | rfl | rfl | rfl | rfl | rfl | rfl | rfl | rfl | rfl | rfl
  · exact ⟨rfl, cornI_has t.rx t.ry t.nx t.ny (ex_add t.rx t.ry) (corner_add _ _) ha hb⟩
  · exact ⟨rfl, cornI_has t.rx t.ry t.nx t.ny (ex_sub t.rx t.ry) (corner_sub _ _) ha hb⟩
  · exact ⟨rfl, cornI_has t.rx t.ry t.nx t.ny (ex_mul t.rx t.ry) (corner_mul _ _) ha hb⟩
  · have h := hz (.inl rfl)
    simp only [wordI, wordV, show (b == 0) = false by simpa using h, show decide (b = 0) = false by simpa using h, onB_f]
    exact ⟨trivial, div_has t ha hb h⟩
  · have h := hz (.inr rfl)
    simp only [wordI, wordV, show (b == 0) = false by simpa using h, show decide (b = 0) = false by simpa using h, onB_f]
    exact ⟨trivial, rem_has t.rx t.ry ha hb h⟩
  · exact ⟨rfl, and_has t ha hb⟩
  · exact ⟨rfl, or_has t ha hb⟩
  · exact ⟨rfl, xor_has t ha hb⟩
  · simp only [wordI, wordV, cnt_false, onB_f]
    exact ⟨trivial, shl_has t ha hb⟩
  · simp only [wordI, wordV, cnt_false, onB_f]
    exact ⟨trivial, shr_has ha hb⟩
  · refine ⟨?_, eq_has ha hb⟩
    simp only [wordI, wordV]
    cases (a == b) <;> rfl
  · refine ⟨?_, lt_has ha hb⟩
    simp only [wordI, wordV]
    cases decide (a < b) <;> rfl
def single (x : I) : Bool := x.lo == x.hi
theorem applyI_eq (op : Nat) {x y : I} (nx : Ne x) (ny : Ne y) : applyI op x y = if single x = true ∧ single y = true then wordV (fun n => I.of n) I.none I.none op x.lo y.lo else wideI op x y := by
  unfold applyI applyV single
  rw [nx.emp, ny.emp, onB_f, onB_f]
  cases (x.lo == x.hi) <;> cases (y.lo == y.hi) <;> rfl
theorem of_le {x : I} {n : Int} (h : Has x n) : Le (I.of n) x := ⟨h.1, h.2⟩
theorem single_iff {x : I} : single x = true ↔ x.lo = x.hi := by simp [single]
theorem wideI_ok {op : Nat} (ho : op ∈ applyOps) {x y : I} (t : Two x y) (hz : Nz op y) : OkI (wideI op x y) := (wide_le ho t t le_refl le_refl hz).1
theorem single_nz {op : Nat} {y : I} (hz : Nz op y) (h : y.lo = y.hi) : op = 9 ∨ op = 10 → y.lo ≠ 0 := fun ho h' => by
  have := hz ho
  rw [is0_iff.2 ⟨h', by omega⟩] at this; cases this
theorem apply_le {op : Nat} (ho : op ∈ applyOps) {x y x' y' : I} (t : Two x y) (t' : Two x' y') (hx : Le x x') (hy : Le y y') (hz : Nz op y) : OkI (applyI op x y) ∧ Le (applyI op x y) (applyI op x' y') := by
  have n1 := t.nx
  have n2 := t.ny
  have hz' : Nz op y' := fun h => is0_sub t.ny hy (hz h)
  have hok : OkI (applyI op x y) := by
    rw [applyI_eq op n1 n2]
    by_cases h : single x = true ∧ single y = true
    · rw [if_pos h]
      have h2 := wide_has ho t (a := x.lo) (b := y.lo) ⟨Int.le_refl _, n1⟩ ⟨Int.le_refl _, n2⟩ (single_nz hz (single_iff.1 h.2))
      have h3 := wideI_ok ho t hz
      rw [h2.1]
      have h4 := h2.2.1
      have h5 := h2.2.2
      have a0 := h3.1.l0
      have a3 := h3.1.h1
      exact ⟨⟨by simp only [I.of]; omega, by simp only [I.of]; omega, by simp only [I.of]; omega, by simp only [I.of]; omega⟩, by unfold Ne; simp only [I.of]; omega⟩
    · rw [if_neg h]; exact wideI_ok ho t hz
  refine ⟨hok, ?_⟩
  have p := hx.1
  have q := hx.2
  have p' := hy.1
  have q' := hy.2
  rw [applyI_eq op n1 n2, applyI_eq op t'.nx t'.ny]
  unfold Ne at n1 n2
  by_cases h' : single x' = true ∧ single y' = true
  · have e1 := single_iff.1 h'.1
    have e2 := single_iff.1 h'.2
    have h : single x = true ∧ single y = true := ⟨single_iff.2 (by omega), single_iff.2 (by omega)⟩
    rw [if_pos h, if_pos h', show x'.lo = x.lo by omega, show y'.lo = y.lo by omega]
    exact le_refl
  · rw [if_neg h']
    by_cases h : single x = true ∧ single y = true
    · rw [if_pos h]
      have h2 := wide_has ho t' (a := x.lo) (b := y.lo) ⟨p, by omega⟩ ⟨p', by omega⟩ (single_nz hz (single_iff.1 h.2))
      rw [h2.1]
      exact of_le h2.2
    · rw [if_neg h]
      exact (wide_le ho t t' hx hy hz).2
end Go.Vm

namespace Go.Vm

/-- Registers of a job within others. -/
structure Pr (r m : Rg) : Prop where
  ro : r.Ok
  mo : m.Ok
  rr : r.Rng
  mr : m.Rng
  sub : ∀ k, k < 16 → m (2 * k) ≤ r (2 * k) ∧ r (2 * k + 1) ≤ m (2 * k + 1)
def Rel (a b : Rg × Bool) : Prop := a.2 = true → b.2 = true ∧ ∀ k, k < 16 → a.1 (2 * k) ≤ a.1 (2 * k + 1) ∧ b.1 (2 * k) ≤ a.1 (2 * k) ∧ a.1 (2 * k + 1) ≤ b.1 (2 * k + 1)
theorem Rel.zero (b : Rg × Bool) : Rel (Rg.zero, false) b := fun h => by cases h
theorem Pr.rel {r m : Rg} (h : Pr r m) : Rel (r, true) (m, true) := fun _ => ⟨rfl, fun k hk => ⟨h.ro.le k hk, h.sub k hk⟩⟩
theorem Pr.put {r m : Rg} (h : Pr r m) {a : Int} {x x' : I} (hx : Ne x) (hl : Le x x') : Rel (r.put a x, true) (m.put a x', true) := fun _ => ⟨rfl, fun k hk => by
  have h1 := h.ro.le k hk
  have h2 := h.sub k hk
  simp only [Rg.put_eq]
  by_cases e : k = a.toNat
  · subst e
    have := hl.1
    have := hl.2
    simpa using ⟨hx, hl.1, hl.2⟩
  · have e1 : ¬ 2 * k = 2 * a.toNat := by omega
    have e2 : ¬ 2 * k = 2 * a.toNat + 1 := by omega
    have e3 : ¬ 2 * k + 1 = 2 * a.toNat := by omega
    have e4 : ¬ 2 * k + 1 = 2 * a.toNat + 1 := by omega
    simp only [e1, e2, e3, e4, if_false]
    exact ⟨h1, h2⟩⟩
theorem get_two {r m : Rg} (h : Pr r m) {a : Int} (h0 : 0 ≤ a) (h1 : a ≤ 15) : Ne (r.get a) ∧ Ne (m.get a) ∧ (r.get a).Rng ∧ (m.get a).Rng ∧ Le (r.get a) (m.get a) := by
  have ha : a.toNat < 16 := by omega
  refine ⟨?_, ?_, h.rr.get ha, h.mr.get ha, ?_⟩
  · rw [Rg.get_eq _ ha]; exact h.ro.le _ ha
  · rw [Rg.get_eq _ ha]; exact h.mo.le _ ha
  · rw [Rg.get_eq _ ha, Rg.get_eq _ ha]; exact h.sub _ ha
theorem immI_ne (i : Ins) : Ne (immI i) := Int.le_refl _

section
variable {i : Ins} {r m : Rg}
theorem end_rel (h : Pr r m) (hs : i.Small) {x x' : I} (hx : Ne x) (hl : Le x x') : Rel (trEnd (fun z => z) (Rg.zero, false) i r x) (trEnd (fun z => z) (Rg.zero, false) i m x') := by
  have a0 := hs.a0
  have a1 := hs.a1
  unfold trEnd
  rw [acc_eq a0 (by omega), acc_eq a0 (by omega)]
  cases (i.a != 0) with
  | true => exact h.put hx hl
  | false => exact h.rel
theorem app_rel (h : Pr r m) (hs : i.Small) {op : Nat} (ho : op ∈ applyOps) {x x' y y' : I} (t : Two x y) (t' : Two x' y') (hx : Le x x') (hy : Le y y') (hz : Nz op y) :
    Rel (trApp (fun z => z) (Rg.zero, false) i r op x y) (trApp (fun z => z) (Rg.zero, false) i m op x' y') := by
  unfold trApp
  rw [I.rng_iff.2 t.rx, I.rng_iff.2 t.ry, I.rng_iff.2 t'.rx, I.rng_iff.2 t'.ry]
  obtain ⟨k1, k2⟩ := apply_le ho t t' hx hy hz
  exact end_rel h hs k1.2 k2
theorem bc_rel (h : Pr r m) (hs : i.Small) {op : Nat} (ho : op ∈ applyOps) (hz : Nz op (r.get i.c)) : Rel (trBC (fun z => z) (Rg.zero, false) i r op) (trBC (fun z => z) (Rg.zero, false) i m op) := by
  obtain ⟨b1, b2, b3, b4, b5⟩ := get_two h hs.b0 hs.b1
  obtain ⟨c1, c2, c3, c4, c5⟩ := get_two h hs.c0 hs.c1
  have b0 := hs.b0
  have b9 := hs.b1
  have c0 := hs.c0
  have c9 := hs.c1
  unfold trBC
  rw [acc_eq b0 (by omega), acc_eq b0 (by omega), acc_eq c0 (by omega), acc_eq c0 (by omega)]
  exact app_rel h hs ho ⟨b3, c3, b1, c1⟩ ⟨b4, c4, b2, c2⟩ b5 c5 hz
theorem div_rel (h : Pr r m) (hs : i.Small) {op : Nat} (ho : op ∈ applyOps) : Rel (trDiv (fun z => z) (Rg.zero, false) i r op) (trDiv (fun z => z) (Rg.zero, false) i m op) := by
  obtain ⟨c1, c2, c3, c4, c5⟩ := get_two h hs.c0 hs.c1
  have c0 := hs.c0
  have c9 := hs.c1
  unfold trDiv
  rw [acc_eq c0 (by omega), acc_eq c0 (by omega)]
  cases hz : is0 (r.get i.c) with
  | true => exact Rel.zero _
  | false =>
    rw [is0_sub c1 c5 hz, onB_f, onB_f]
    exact bc_rel h hs ho fun _ => hz
theorem bi_rel (h : Pr r m) (hs : i.Small) {op : Nat} (ho : op ∈ applyOps) (hn : op ≠ 9 ∧ op ≠ 10) : Rel (trBI (fun z => z) (Rg.zero, false) i r op) (trBI (fun z => z) (Rg.zero, false) i m op) := by
  obtain ⟨b1, b2, b3, b4, b5⟩ := get_two h hs.b0 hs.b1
  have b0 := hs.b0
  have b9 := hs.b1
  unfold trBI
  rw [acc_eq b0 (by omega), acc_eq b0 (by omega)]
  exact app_rel h hs ho ⟨b3, immI_rng i, b1, immI_ne i⟩ ⟨b4, immI_rng i, b2, immI_ne i⟩ b5 le_refl fun h => by omega
theorem meet_le {x x' y : I} (hl : Le x x') (h : (x.meet y).emp = false) : Ne (x'.meet y) ∧ Le (x.meet y) (x'.meet y) := by
  have key : ∀ {u v : I}, (u.meet v).emp = false → u.meet v = u.meet0 v ∧ Ne u ∧ Ne v := fun {u v} h => by
    unfold I.meet at h ⊢
    cases he : (u.emp || v.emp || (u.meet0 v).emp) with
    | true => rw [he] at h; simp [I.none, I.emp] at h
    | false =>
      simp only [Bool.or_eq_false_iff] at he
      exact ⟨rfl, emp_ne he.1.1, emp_ne he.1.2⟩
  obtain ⟨v, h1, h2⟩ := meet_ne h
  have hn : Ne (x'.meet y) := Has.ne (a := v) (meet_in (h1.le hl).1 (h1.le hl).2 h2.1 h2.2)
  refine ⟨hn, ?_⟩
  rw [(key h).1, (key hn.emp).1]
  obtain ⟨a, b⟩ := x
  obtain ⟨a', b'⟩ := x'
  obtain ⟨c, d⟩ := y
  obtain ⟨p, q⟩ := hl
  simp only at p q
  simp only [I.meet0]
  constructor
  · by_cases k : c > a <;> by_cases k' : c > a' <;> simp only [k, k', if_true, if_false] <;> omega
  · by_cases k : d < b <;> by_cases k' : d < b' <;> simp only [k, k', if_true, if_false] <;> omega
theorem bound_rel (h : Pr r m) (hs : i.Small) : Rel (onB (trMt i r).emp (Rg.zero, false) (trEnd (fun z => z) (Rg.zero, false) i r (trMt i r))) (onB (trMt i m).emp (Rg.zero, false) (trEnd (fun z => z) (Rg.zero, false) i m (trMt i m))) := by
  obtain ⟨a1, a2, a3, a4, a5⟩ := get_two h hs.a0 hs.a1
  cases he : (trMt i r).emp with
  | true => exact Rel.zero _
  | false =>
    obtain ⟨k1, k2⟩ := meet_le a5 he
    rw [show (trMt i m).emp = false from k1.emp, onB_f, onB_f]
    exact end_rel h hs (emp_ne he) k2
theorem body_rel (h : Pr r m) (hs : i.Small) : ∀ k : Nat, k < 30 → Rel (trBody (fun z => z) (Rg.zero, false) i r k) (trBody (fun z => z) (Rg.zero, false) i m k)
  | 2, _ => bc_rel h hs (op := 6) (by decide) fun h => by omega
  | 3, _ => bc_rel h hs (op := 7) (by decide) fun h => by omega
  | 4, _ => bc_rel h hs (op := 8) (by decide) fun h => by omega
  | 5, _ => div_rel h hs (op := 9) (by decide)
  | 6, _ => div_rel h hs (op := 10) (by decide)
  | 7, _ => bc_rel h hs (op := 11) (by decide) fun h => by omega
  | 8, _ => bc_rel h hs (op := 12) (by decide) fun h => by omega
  | 9, _ => bc_rel h hs (op := 13) (by decide) fun h => by omega
  | 10, _ => bc_rel h hs (op := 14) (by decide) fun h => by omega
  | 11, _ => bc_rel h hs (op := 15) (by decide) fun h => by omega
  | 12, _ => bc_rel h hs (op := 16) (by decide) fun h => by omega
  | 13, _ => bc_rel h hs (op := 18) (by decide) fun h => by omega
  | 14, _ => end_rel h hs (immI_ne i) le_refl
  | 15, _ => bi_rel h hs (op := 6) (by decide) (by decide)
  | 16, _ => bi_rel h hs (op := 14) (by decide) (by decide)
  | 17, _ => bi_rel h hs (op := 12) (by decide) (by decide)
  | 18, _ => end_rel h hs full_ok.2 le_refl
  | 20, _ => end_rel h hs full_ok.2 le_refl
  | 26, _ => end_rel h hs full_ok.2 le_refl
  | 25, _ => bound_rel h hs
  | 0, _ | 1, _ | 19, _ | 21, _ | 22, _ | 23, _ | 24, _ | 27, _ | 28, _ | 29, _ => end_rel h hs (get_two h hs.a0 hs.a1).1 (get_two h hs.a0 hs.a1).2.2.2.2
  | k + 30, hk => by omega
theorem transfer_rel (h : Pr r m) (i : Ins) : Rel (r.transfer i) (m.transfer i) := by
  unfold Rg.transfer trV
  rw [h.ro.good, h.mo.good]
  cases hv : i.valid with
  | false => exact Rel.zero _
  | true =>
    have hs := Ins.small hv
    have a0 := hs.a0
    have a1 := hs.a1
    have ho := hs.op
    rw [acc_eq a0 (by omega), acc_eq a0 (by omega)]
    exact body_rel h hs _ (by omega)

/-! Refine. -/
theorem refC_rel (h : Pr r m) (hs : i.Small) {x x' : I} (hl : x.emp = false → Ne x' ∧ Le x x') : Rel (refC i r x) (refC i m x') := by
  have ha : i.a.toNat < 16 := by have := hs.a0; have := hs.a1; omega
  have hg : ∀ (r : Rg) (x : I), ((r.put i.a x).get i.a).emp = x.emp := fun r x => by
    rw [Rg.get_eq _ ha, Rg.put_eq, Rg.put_eq, if_pos rfl, if_neg (by omega), if_pos rfl]
  unfold refC
  rw [hg, hg]
  cases he : x.emp with
  | true => exact Rel.zero _
  | false =>
    obtain ⟨k1, k2⟩ := hl he
    rw [k1.emp, onB_f, onB_f]
    exact h.put (emp_ne he) k2
theorem nz_le {x x' : I} (_ : Ne x) (hl : Le x x') (he : x.nz.emp = false) : Ne x'.nz ∧ Le x.nz x'.nz := by
  obtain ⟨a, b⟩ := x
  obtain ⟨a', b'⟩ := x'
  obtain ⟨p, q⟩ := hl
  simp only at p q
  have hn := emp_ne he
  unfold Ne at hn
  have key : ∀ a b : Int, (I.mk a b).nz = if a = 0 ∧ b = 0 then I.none else if a = 0 then ⟨1, b⟩ else if b = 0 then ⟨a, -1⟩ else ⟨a, b⟩ := fun a b => by
    unfold I.nz
    have t : ∀ n : Int, n = 0 → (n == 0) = true := fun n h => by simpa using h
    have f : ∀ n : Int, ¬ n = 0 → (n == 0) = false := fun n h => by simpa using h
    by_cases h1 : a = 0
    · by_cases h2 : b = 0
      · rw [t a h1, t b h2, if_pos ⟨h1, h2⟩]; rfl
      · rw [t a h1, f b h2, if_neg (fun h => h2 h.2), if_pos h1]; rfl
    · by_cases h2 : b = 0
      · rw [f a h1, t b h2, if_neg (fun h => h1 h.1), if_neg h1, if_pos h2]; rfl
      · rw [f a h1, f b h2, if_neg (fun h => h1 h.1), if_neg h1, if_neg h2]; rfl
  rw [key] at hn
  unfold Ne Le
  rw [key, key]
  have n1 : I.none.lo = 1 := rfl
  have n2 : I.none.hi = 0 := rfl
  by_cases h1 : a = 0 <;> by_cases h2 : b = 0 <;> by_cases h3 : a' = 0 <;> by_cases h4 : b' = 0 <;> simp only [h1, h2, h3, h4, and_true, and_false, and_self, if_true, if_false] at hn ⊢ <;> omega
theorem refine_rel (h : Pr r m) (i : Ins) (t : Bool) : Rel (r.refine i t) (m.refine i t) := by
  unfold Rg.refine
  rw [h.ro.good, h.mo.good]
  cases hv : i.valid with
  | false => exact Rel.zero _
  | true =>
    have hs := Ins.small hv
    obtain ⟨a1, a2, a3, a4, a5⟩ := get_two h hs.a0 hs.a1
    have hD : Rel (refD i r t) (refD i m t) := by
      unfold refD
      cases (t == (i.op == 22)) with
      | true => exact refC_rel h hs fun he => meet_le a5 he
      | false => exact refC_rel h hs fun he => nz_le a1 a5 he
    simp only [Bool.not_true, onB_f]
    cases (i.op == 22) with
    | true => exact hD
    | false =>
      cases (i.op == 23) with
      | true => exact hD
      | false =>
        cases (!(t == (i.op == 24))) with
        | true => exact Rel.zero _
        | false => exact h.rel

/-! Address. -/
theorem near_eq {n : Int} : nearI n = mn (mx n (-2147483648)) 2147483647 := by
  have h1 := mx_ge n (-2147483648)
  have h2 := mn_le (mx n (-2147483648)) 2147483647
  have h3 := mn_in (a := mx n (-2147483648)) (n := 2147483647) (b := -2147483648) h1.2 (by omega)
  exact w32_eq h3 (by omega)
theorem near_mono {n n' : Int} (h : n ≤ n') : nearI n ≤ nearI n' := by
  rw [near_eq, near_eq]
  have h1 := mx_ge n' (-2147483648)
  have h2 : mx n (-2147483648) ≤ mx n' (-2147483648) := mx_in (by omega) h1.2
  have h3 := mn_le (mx n (-2147483648)) 2147483647
  exact mn_in (by omega) h3.2
theorem address_rel (h : Pr r m) (i : Ins) : (r.address i).within (m.address i) = true := by
  have hz : ∀ y : I, I.none.within y = true := fun y => rfl
  unfold Rg.address
  cases hv : i.valid with
  | false => exact hz _
  | true =>
    have hs := Ins.small hv
    obtain ⟨b1, b2, b3, b4, b5⟩ := get_two h hs.b0 hs.b1
    simp only [Bool.not_true, onB_f]
    cases decide (i.op < 18) with
    | true => exact hz _
    | false =>
      cases decide (i.op > 21) with
      | true => exact hz _
      | false =>
        rw [b1.emp, b2.emp]
        simp only [onB_f]
        have m0 := hs.m0
        have m1 := hs.m1
        have e : ∀ n : Int, -2147483648 ≤ n → n ≤ 2147483647 → w64 (w64 n + i.imm) = n + i.imm := fun n h0 h1 => by
          rw [w64_eq (n := n) (by omega) (by omega), w64_eq (by omega) (by omega)]
        have p := b5.1
        have q := b5.2
        unfold Ne at b1 b2
        unfold adR
        rw [e _ b3.l0 b3.l1, e _ b3.h0 b3.h1, e _ b4.l0 b4.l1, e _ b4.h0 b4.h1]
        exact within_le (near_mono (by omega)) ⟨near_mono (by omega), near_mono (by omega)⟩
end
end Go.Vm

namespace Go.Vm
theorem Rg.Rng.dec {r : Rg} (h : r.Rng) : r.dec.Rng := fun j hj => by rw [r.dec_eq hj]; exact h j hj
theorem join_cells {r m : Rg} (ho : r.Ok) (mo : m.Ok) {k : Nat} (hk : k < 16) : r.join m (2 * k) = mn (r (2 * k)) (m (2 * k)) ∧ r.join m (2 * k + 1) = mx (r (2 * k + 1)) (m (2 * k + 1)) := by
  have h1 := ho.le k hk
  have h2 := mo.le k hk
  have e : (I.mk (r (2 * k)) (r (2 * k + 1))).join ⟨m (2 * k), m (2 * k + 1)⟩ = ⟨mn (r (2 * k)) (m (2 * k)), mx (r (2 * k + 1)) (m (2 * k + 1))⟩ := join_ne (x := ⟨r (2 * k), r (2 * k + 1)⟩) (y := ⟨m (2 * k), m (2 * k + 1)⟩) h1 h2
  constructor
  · unfold Rg.join
    rw [show 2 * k % 2 = 0 by omega]
    show ((I.mk (r (2 * k)) (r (2 * k + 1))).join ⟨m (2 * k), m (2 * k + 1)⟩).lo = _
    rw [e]
  · unfold Rg.join
    rw [show (2 * k + 1) % 2 = 1 by omega, show 2 * k + 1 - 1 = 2 * k by omega]
    show ((I.mk (r (2 * k)) (r (2 * k + 1))).join ⟨m (2 * k), m (2 * k + 1)⟩).hi = _
    rw [e]
theorem pair_of {r m : Rg} (rr : r.Rng) (mr : m.Rng) (ro : r.Ok) (mo : m.Ok) : Pr r.dec (mJ r m) := by
  have J : ∀ k, k < 16 → (mJ r m) (2 * k) = mn (r (2 * k)) (m (2 * k)) ∧ (mJ r m) (2 * k + 1) = mx (r (2 * k + 1)) (m (2 * k + 1)) := fun k hk => by
    unfold mJ
    rw [Rg.dec_eq _ (by omega), Rg.dec_eq _ (by omega)]
    exact join_cells ro mo hk
  have j0 := J 0 (by omega)
  simp only [Nat.mul_zero, Nat.zero_add] at j0
  refine ⟨ro.dec, ⟨fun k hk => ?_, ?_, ?_⟩, rr.dec, fun j hj => ?_, fun k hk => ?_⟩
  · obtain ⟨e1, e2⟩ := J k hk
    rw [e1, e2]
    have := mn_le (r (2 * k)) (m (2 * k))
    have := mx_ge (r (2 * k + 1)) (m (2 * k + 1))
    have := ro.le k hk
    omega
  · rw [j0.1, ro.lo, mo.lo]; rfl
  · rw [j0.2, ro.hi, mo.hi]; rfl
  · rcases Nat.mod_two_eq_zero_or_one j with h | h
    · obtain ⟨k, rfl⟩ : ∃ k, j = 2 * k := ⟨j / 2, by omega⟩
      rw [(J k (by omega)).1]
      have a := rr (2 * k) hj
      have b := mr (2 * k) hj
      have c := mn_le (r (2 * k)) (m (2 * k))
      exact ⟨mn_in a.1 b.1, by omega⟩
    · obtain ⟨k, rfl⟩ : ∃ k, j = 2 * k + 1 := ⟨j / 2, by omega⟩
      rw [(J k (by omega)).2]
      have a := rr (2 * k + 1) hj
      have b := mr (2 * k + 1) hj
      have c := mx_ge (r (2 * k + 1)) (m (2 * k + 1))
      have d : mx (r (2 * k + 1)) (m (2 * k + 1)) ≤ 2147483647 := mx_in (by omega) (by omega)
      exact ⟨by omega, by omega⟩
  · obtain ⟨e1, e2⟩ := J k hk
    rw [e1, e2, Rg.dec_eq _ (by omega), Rg.dec_eq _ (by omega)]
    exact ⟨(mn_le _ _).1, (mx_ge _ _).1⟩
theorem rel_within {a b : Rg × Bool} (h : Rel a b) (ha : a.2 = true) {k : Nat} (hk : k < 16) : (ivl a.1 k).within (ivl b.1 k) = true := by
  obtain ⟨h1, h2, h3⟩ := (h ha).2 k hk
  exact within_le (show b.1 (2 * k) ≤ b.1 (2 * k + 1) by omega) ⟨h2, h3⟩
theorem rows_all {i : Ins} {r m : Rg} {t : Bool} (hb : i.byte = true) (hA : Rel (mA i r) (mB i r m)) (hC : Rel (mC i r t) (mD i r m t)) (ok fine : Bool) (e1 : (mA i r).2 = ok) (e2 : (mC i r t).2 = fine) :
    ∀ (n k : Nat), k + n ≤ 16 → ∀ b ∈ rows i r m t ok fine k n, b = true
  | 0, k, _ => fun b hm => by
    simp only [rows, List.mem_cons, List.not_mem_nil, or_false] at hm
    rcases hm with rfl | rfl <;> exact hb
  | n + 1, k, hk => fun b hm => by
    have ih := rows_all hb hA hC ok fine e1 e2 n (k + 1) (by omega)
    simp only [rows, List.mem_append] at hm
    rcases hm with hm | hm | hm
    · cases ok with
      | true =>
        simp only [List.mem_cons, List.not_mem_nil, or_false] at hm
        rcases hm with rfl | rfl
        · exact e1
        · unfold wA
          rw [rel_within hA e1 (by omega)]; rfl
      | false =>
        simp only [List.mem_cons, List.not_mem_nil, or_false] at hm
        rw [hm, e1]; rfl
    · cases fine with
      | true =>
        simp only [List.mem_cons, List.not_mem_nil, or_false] at hm
        rcases hm with rfl | rfl
        · exact e2
        · unfold wC
          rw [rel_within hC e2 (by omega)]; rfl
      | false =>
        simp only [List.mem_cons, List.not_mem_nil, or_false] at hm
        rw [hm, e2]; rfl
    · exact ih b hm
theorem mon_all {i : Ins} {r m : Rg} {t : Bool} (hb : i.byte = true) (rr : r.Rng) (mr : m.Rng) (ro : r.Ok) (mo : m.Ok) :
    conj (monC i r m t (mA i r).2 (mC i r t).2) = true ∧ monL i r m = .bool true := by
  have hp := pair_of rr mr ro mo
  have hA : Rel (mA i r) (mB i r m) := transfer_rel hp i
  have hC : Rel (mC i r t) (mD i r m t) := refine_rel hp i t
  constructor
  · rw [conj_iff]
    intro b hm
    unfold monC at hm
    simp only [List.mem_cons, List.mem_append] at hm
    rcases hm with rfl | rfl | rfl | rfl | rfl | rfl | hm | hm | hm
    · simp [ro.bad]
    · simp [mo.bad]
    · rw [hb, rngB_iff.2 hp.rr]; rfl
    · rw [hb, rngB_iff.2 hp.mr]; rfl
    · exact hb
    · exact hb
    · cases h : (mA i r).2 with
      | true =>
        rw [h] at hm
        simp only [List.mem_cons, List.not_mem_nil, or_false] at hm
        rcases hm with rfl | rfl
        · rfl
        · rw [(hA h).1]; rfl
      | false =>
        rw [h] at hm
        simp only [List.mem_cons, List.not_mem_nil, or_false] at hm
        rw [hm]; rfl
    · cases h : (mC i r t).2 with
      | true =>
        rw [h] at hm
        simp only [List.mem_cons, List.not_mem_nil, or_false] at hm
        rcases hm with rfl | rfl
        · rfl
        · rw [(hC h).1]; rfl
      | false =>
        rw [h] at hm
        simp only [List.mem_cons, List.not_mem_nil, or_false] at hm
        rw [hm]; rfl
    · exact rows_all hb hA hC _ _ rfl rfl 16 0 (by omega) b hm
  · unfold monL
    rw [address_rel hp i]
end Go.Vm

